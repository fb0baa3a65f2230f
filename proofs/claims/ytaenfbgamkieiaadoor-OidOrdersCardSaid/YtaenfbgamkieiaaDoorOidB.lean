/- Arcs and their numerals: plain Lean. No program. -/
import Derived.Test.YtaenfbgamkieiaaDoorOidA
import Derived.Lib.Join
namespace Go.Am
open Go.Lib (decDigits)
set_option linter.unusedSimpArgs false
set_option linter.unusedVariables false

def digB (c : UInt8) : Bool := decide (48 ≤ c.toNat ∧ c.toNat ≤ 57)
def dv (acc : Nat) : List UInt8 → Nat
  | [] => acc
  | c :: r => dv (acc * 10 + (c.toNat - 48)) r
theorem dv_ge : ∀ (l : List UInt8) (acc : Nat), acc ≤ dv acc l
  | [], acc => Nat.le_refl _
  | c :: r, acc => Nat.le_trans (by omega) (dv_ge r _)
theorem dv_app : ∀ (l : List UInt8) (acc : Nat) (c : UInt8), dv acc (l ++ [c]) = dv acc l * 10 + (c.toNat - 48)
  | [], acc, c => rfl
  | x :: r, acc, c => dv_app r _ c
theorem dec_small {n : Nat} (h : n < 10) : decDigits n = [UInt8.ofNat (48 + n)] := by rw [Lib.decDigits, dif_pos h]
theorem dec_big {n : Nat} (h : ¬ n < 10) : decDigits n = decDigits (n / 10) ++ [UInt8.ofNat (48 + n % 10)] := by rw [Lib.decDigits, dif_neg h]
theorem dig_nat {d : Nat} (h : d < 10) : (UInt8.ofNat (48 + d)).toNat = 48 + d := by
  simp [UInt8.toNat_ofNat']
  omega
theorem dec_dig (n : Nat) : ∀ c ∈ decDigits n, digB c = true := by
  induction n using Nat.strongRecOn with
  | _ n ih =>
    by_cases h : n < 10
    · rw [dec_small h]
      intro c hc
      simp only [List.mem_singleton] at hc
      subst hc
      simp only [digB, dig_nat h, decide_eq_true_eq]
      omega
    · rw [dec_big h]
      intro c hc
      rcases List.mem_append.1 hc with hc | hc
      · exact ih (n / 10) (by omega) c hc
      · simp only [List.mem_singleton] at hc
        subst hc
        simp only [digB, dig_nat (show n % 10 < 10 by omega), decide_eq_true_eq]
        omega
theorem dv_one (a : Nat) (c : UInt8) : dv a [c] = a * 10 + (c.toNat - 48) := rfl
theorem dv_single (n : Nat) (x : UInt8) (l : List UInt8) (hl : l = [x]) (h : x.toNat = 48 + n) : dv 0 l = n := by
  subst hl
  rw [dv_one, h]
  omega
theorem dv_snoc (k d : Nat) (l r : List UInt8) (x : UInt8) (hl : l = r ++ [x]) (hr : dv 0 r = k) (h : x.toNat = 48 + d) : dv 0 l = k * 10 + d := by
  subst hl
  rw [dv_app, hr, h]
  omega
theorem dec_dv (n : Nat) : dv 0 (decDigits n) = n := by
  induction n using Nat.strongRecOn with
  | _ n ih =>
    by_cases h : n < 10
    · exact dv_single n _ _ (dec_small h) (dig_nat h)
    · have := dv_snoc (n / 10) (n % 10) _ _ _ (dec_big h) (ih (n / 10) (by omega)) (dig_nat (show n % 10 < 10 by omega))
      omega
theorem dec_inj {m n : Nat} (h : decDigits m = decDigits n) : m = n := by rw [← dec_dv m, h, dec_dv]
theorem dec_ne (n : Nat) : decDigits n ≠ [] := by
  by_cases h : n < 10
  · rw [dec_small h]; simp
  · rw [dec_big h]; simp
theorem dec_len (k : Nat) : ∀ n, n < 10 ^ (k + 1) → (decDigits n).length ≤ k + 1 := by
  induction k with
  | zero =>
    intro n h
    rw [dec_small (by simpa using h)]
    exact Nat.le_refl _
  | succ k ih =>
    intro n h
    by_cases h1 : n < 10
    · rw [dec_small h1]
      exact Nat.succ_le_succ (Nat.zero_le _)
    · rw [dec_big h1]
      have h2 : n / 10 < 10 ^ (k + 1) := by
        rw [Nat.div_lt_iff_lt_mul (Nat.succ_pos 9), ← Nat.pow_succ]
        exact h
      have := ih (n / 10) h2
      rw [List.length_append, List.length_singleton]
      omega
theorem dec_len32 (n : Nat) (h : n ≤ 4294967295) : (decDigits n).length ≤ 10 := dec_len 9 n (Nat.lt_of_le_of_lt h (by decide))
theorem dec_len64 (n : Nat) (h : n < 18446744073709551616) : (decDigits n).length ≤ 20 := dec_len 19 n (Nat.lt_of_lt_of_le h (by decide))

/-- The value that is read from digits, as far as it fits. -/
def valD (acc : Nat) : List UInt8 → Option Nat
  | [] => some acc
  | c :: r => match digB c && decide (acc ≤ 4294967295) with
    | true => valD (acc * 10 + (c.toNat - 48)) r
    | false => none
theorem valD_dv : ∀ (l : List UInt8) (acc : Nat), (∀ c ∈ l, digB c = true) → dv acc l ≤ 4294967295 → valD acc l = some (dv acc l)
  | [], acc, _, _ => rfl
  | c :: r, acc, h, hM => by
    have h1 := h c (List.mem_cons_self ..)
    have h2 := dv_ge r (acc * 10 + (c.toNat - 48))
    have h3 : dv acc (c :: r) = dv (acc * 10 + (c.toNat - 48)) r := rfl
    have h4 : decide (acc ≤ 4294967295) = true := decide_eq_true (by omega)
    simp only [valD, h1, h4, Bool.and_self]
    exact valD_dv r _ (fun c hc => h c (List.mem_cons_of_mem _ hc)) (by omega)
theorem parse_dv : ∀ (l : List UInt8) (acc : Nat), (∀ c ∈ l, digB c = true) → dv acc l ≤ 4294967295 → Lib.parseUintM 4294967295 acc l = .ok (dv acc l)
  | [], acc, _, _ => rfl
  | c :: r, acc, h, hM => by
    have h1 := h c (List.mem_cons_self ..)
    have h2 := dv_ge r (acc * 10 + (c.toNat - 48))
    have h3 : dv acc (c :: r) = dv (acc * 10 + (c.toNat - 48)) r := rfl
    simp only [digB, decide_eq_true_eq] at h1
    unfold Lib.parseUintM
    rw [if_pos h1, if_neg (by omega), if_neg (by omega)]
    exact parse_dv r _ (fun c hc => h c (List.mem_cons_of_mem _ hc)) (by omega)
theorem parse_le : ∀ (l : List UInt8) (acc u : Nat), acc ≤ 4294967295 → Lib.parseUintM 4294967295 acc l = .ok u → u ≤ 4294967295
  | [], acc, u, h, hp => by
    simp only [Lib.parseUintM, Lib.NumEnd.ok.injEq] at hp
    omega
  | c :: r, acc, u, h, hp => by
    unfold Lib.parseUintM at hp
    split at hp
    · split at hp
      · cases hp
      · split at hp
        · cases hp
        · exact parse_le r _ u (by omega) hp
    · cases hp
theorem parse32_le {l : List UInt8} {u : Nat} (h : Lib.parseUintB 32 l = .ok u) : u ≤ 4294967295 := by
  unfold Lib.parseUintB at h
  split at h
  · cases h
  · exact parse_le l 0 u (by omega) h

/-- The arc whose numeral it is. -/
def arcF (p : List UInt8) : Option Nat := match valD 0 p with
  | some n => match decide (p ≠ []) && decide (n ≤ 4294967295) && decide (decDigits n = p) with
    | true => some n
    | false => none
  | none => none
theorem arcF_some {p : List UInt8} {n : Nat} : arcF p = some n ↔ n ≤ 4294967295 ∧ decDigits n = p := by
  constructor
  · intro h
    unfold arcF at h
    split at h
    · split at h
      · rename_i hb
        cases h
        simp only [Bool.and_eq_true, decide_eq_true_eq] at hb
        exact ⟨hb.1.2, hb.2⟩
      · cases h
    · cases h
  · rintro ⟨h1, rfl⟩
    unfold arcF
    rw [valD_dv _ 0 (dec_dig n) (by rw [dec_dv]; exact h1), dec_dv]
    have e1 : decide (decDigits n ≠ []) = true := decide_eq_true (dec_ne n)
    have e2 : decide (n ≤ 4294967295) = true := decide_eq_true h1
    simp only [e1, e2, decide_true, Bool.and_self]
theorem arcF_dec {n : Nat} (h : n ≤ 4294967295) : arcF (decDigits n) = some n := arcF_some.2 ⟨h, rfl⟩
theorem parse_dec {n : Nat} (h : n ≤ 4294967295) : Lib.parseUintB 32 (decDigits n) = .ok n := by
  unfold Lib.parseUintB
  rw [if_neg (dec_ne n)]
  have := parse_dv (decDigits n) 0 (dec_dig n) (by rw [dec_dv]; exact h)
  rwa [dec_dv] at this
theorem arcF_parse (p : List UInt8) : arcF p = match Lib.parseUintB 32 p with
    | .ok u => (match decide (decDigits u = p) with
      | true => some u
      | false => none)
    | _ => none := by
  cases h : arcF p with
  | some n =>
    obtain ⟨h1, h2⟩ := arcF_some.1 h
    rw [← h2, parse_dec h1]
    simp
  | none =>
    cases hp : Lib.parseUintB 32 p with
    | ok u =>
      simp only
      split
      · rename_i hd
        have := arcF_some.2 ⟨parse32_le hp, of_decide_eq_true hd⟩
        rw [h] at this
        cases this
      · rfl
    | _ => rfl

def rightF : List Nat → Bool
  | x :: y :: _ => (decide (x < 2) && decide (y < 40)) || (decide (x = 2) && decide (y ≤ 4294967215))
  | _ => false
/-- The arcs of a string. -/
def okF (s : List UInt8) : Option (List Nat) := match (splitL s).mapM arcF with
  | some a => match rightF a with
    | true => some a
    | false => none
  | none => none

theorem mapM_snoc {α β : Type} {f : α → Option β} : ∀ (l : List α) (x : α), (l ++ [x]).mapM f = match l.mapM f, f x with
    | some a, some b => some (a ++ [b])
    | _, _ => none
  | [], x => by
    simp only [List.nil_append, List.mapM_cons, List.mapM_nil]
    cases f x <;> rfl
  | y :: l, x => by
    simp only [List.cons_append, List.mapM_cons, mapM_snoc l x]
    cases f y with
    | none => rfl
    | some b =>
      cases l.mapM f with
      | none => rfl
      | some a => cases f x <;> rfl
theorem mapM_none_of {α β : Type} {f : α → Option β} : ∀ {l : List α} {x : α}, x ∈ l → f x = none → l.mapM f = none
  | y :: l, x, h, hf => by
    rw [List.mapM_cons]
    rcases List.mem_cons.1 h with rfl | h
    · rw [hf]; rfl
    · cases f y with
      | none => rfl
      | some b => rw [mapM_none_of h hf]; rfl
theorem mapM_arcs : ∀ {l : List (List UInt8)} {a : List Nat}, l.mapM arcF = some a → l = a.map decDigits ∧ ∀ n ∈ a, n ≤ 4294967295
  | [], a, h => by cases h; simp
  | p :: l, a, h => by
    rw [List.mapM_cons] at h
    cases hp : arcF p with
    | none => rw [hp] at h; cases h
    | some n =>
      cases hl : l.mapM arcF with
      | none => rw [hp, hl] at h; cases h
      | some b =>
        rw [hp, hl] at h
        cases h
        obtain ⟨h1, h2⟩ := mapM_arcs hl
        obtain ⟨h3, h4⟩ := arcF_some.1 hp
        refine ⟨by rw [h1, ← h4]; rfl, fun m hm => ?_⟩
        rcases List.mem_cons.1 hm with rfl | hm
        · exact h3
        · exact h2 m hm
theorem arcs_mapM : ∀ {a : List Nat}, (∀ n ∈ a, n ≤ 4294967295) → (a.map decDigits).mapM arcF = some a
  | [], _ => rfl
  | n :: a, h => by
    rw [List.map_cons, List.mapM_cons, arcF_dec (h n (List.mem_cons_self ..)), arcs_mapM (fun m hm => h m (List.mem_cons_of_mem _ hm))]
    rfl
theorem splitL_app {p : List UInt8} (h : ∀ c ∈ p, c ≠ 46) (r : List UInt8) : splitL (p ++ 46 :: r) = p :: splitL r := by
  induction p with
  | nil => simp [splitL]
  | cons c p ih =>
    have h1 : ¬ c = 46 := h c (List.mem_cons_self ..)
    simp only [List.cons_append, splitL, if_neg h1, ih (fun c hc => h c (List.mem_cons_of_mem _ hc))]
theorem splitL_one {p : List UInt8} (h : ∀ c ∈ p, c ≠ 46) : splitL p = [p] := by
  induction p with
  | nil => rfl
  | cons c p ih =>
    have h1 : ¬ c = 46 := h c (List.mem_cons_self ..)
    simp only [splitL, if_neg h1, ih (fun c hc => h c (List.mem_cons_of_mem _ hc))]
/-- Pieces with dots between them. -/
def joinD : List (List UInt8) → List UInt8
  | [] => []
  | [p] => p
  | p :: q :: r => p ++ 46 :: joinD (q :: r)
theorem splitL_joinD : ∀ {ps : List (List UInt8)}, ps ≠ [] → (∀ p ∈ ps, ∀ c ∈ p, c ≠ 46) → splitL (joinD ps) = ps
  | [], h, _ => absurd rfl h
  | [p], _, h => splitL_one (h p (List.mem_cons_self ..))
  | p :: q :: r, _, h => by
    rw [joinD, splitL_app (h p (List.mem_cons_self ..)), splitL_joinD (by simp) (fun x hx => h x (List.mem_cons_of_mem _ hx))]
theorem joinD_splitL (s : List UInt8) : joinD (splitL s) = s := by
  induction s with
  | nil => rfl
  | cons c r ih =>
    simp only [splitL]
    by_cases h : c = 46
    · subst h
      rw [if_pos rfl]
      cases hs : splitL r with
      | nil => exact absurd hs (splitL_ne r)
      | cons p ps =>
        rw [hs] at ih
        rw [joinD, ih]
        rfl
    · rw [if_neg h]
      cases hs : splitL r with
      | nil => exact absurd hs (splitL_ne r)
      | cons p ps =>
        rw [hs] at ih
        cases ps with
        | nil => simp only [joinD] at ih ⊢; rw [ih]
        | cons q qs => simp only [joinD] at ih ⊢; rw [← ih]; rfl
def textF (a : List Nat) : List UInt8 := joinD (a.map decDigits)
theorem dec_nodot (n : Nat) : ∀ c ∈ decDigits n, c ≠ 46 := by
  intro c hc h
  subst h
  have := dec_dig n 46 hc
  revert this
  decide
theorem okF_text {s : List UInt8} {a : List Nat} (h : okF s = some a) : textF a = s ∧ rightF a = true ∧ ∀ n ∈ a, n ≤ 4294967295 := by
  unfold okF at h
  split at h
  · rename_i b hb
    split at h
    · rename_i hr
      cases h
      obtain ⟨h1, h2⟩ := mapM_arcs hb
      exact ⟨by rw [textF, ← h1, joinD_splitL], hr, h2⟩
    · cases h
  · cases h
theorem text_okF {a : List Nat} (h : rightF a = true) (hn : ∀ n ∈ a, n ≤ 4294967295) : okF (textF a) = some a := by
  unfold okF textF
  rw [splitL_joinD (by
    intro he
    cases a with
    | nil => simp [rightF] at h
    | cons x r => simp at he) (fun p hp => by
    obtain ⟨n, _, rfl⟩ := List.mem_map.1 hp
    exact dec_nodot n), arcs_mapM hn]
  simp only [h]
theorem joinD_lib : ∀ (ps : List (List UInt8)), Lib.join ps [46] = joinD ps
  | [] => rfl
  | [p] => by simp [joinD, Lib.join]
  | p :: q :: r => by
    rw [joinD, ← joinD_lib (q :: r)]
    simp [Lib.join]
theorem joinD_len : ∀ (ps : List (List UInt8)) (b : Nat), (∀ p ∈ ps, p.length ≤ b) → (joinD ps).length ≤ ps.length * (b + 1)
  | [], b, _ => by simp [joinD]
  | [p], b, h => by have := h p (List.mem_cons_self ..); simp [joinD]; omega
  | p :: q :: r, b, h => by
    have h1 := h p (List.mem_cons_self ..)
    have h2 := joinD_len (q :: r) b (fun x hx => h x (List.mem_cons_of_mem _ hx))
    rw [joinD]
    simp only [List.length_append, List.length_cons] at h2 ⊢
    rw [Nat.add_mul]
    omega
theorem textF_len (a : List Nat) (h : ∀ n ∈ a, n ≤ 4294967295) : (textF a).length ≤ a.length * 11 := by
  have := joinD_len (a.map decDigits) 10 (fun p hp => by
    obtain ⟨n, hn, rfl⟩ := List.mem_map.1 hp
    exact dec_len32 n (h n hn))
  simpa [textF] using this
end Go.Am
