/- Part 4 of the texts of this proof: an abstract machine for walks, the walks of the functions, plain laws. Each part says in its own first lines what is proved there. -/
import Derived.Test.YtbbakpmedpcigaaGreatDoorK3

/- Text of package oid and of its reference; same. Walked by the abstract machine. -/
namespace Go.Proofs.YtbbakpmedpcigaaGreatDoor
open Go.Am
open Go.Lib (decDigits)
set_option linter.unusedSimpArgs false
set_option linter.unusedVariables false

def textD (a : List Nat) : Dat := match rightF a with
  | true => .tup [sD (textF a), .int .i64 0]
  | false => .tup [sD [], .int .i64 8]
theorem u32_at {a : List Nat} {k : Nat} (h : k < a.length) : ((u32s a).getD (k : Int).toNat default).num = (a[k] : Int) := by
  rw [num_u32s, Int.toNat_natCast, List.getD_eq_getElem?_getD, List.getElem?_eq_getElem h]
  rfl
theorem textF_len' {a : List Nat} (h : ∀ n ∈ a, n ≤ 4294967295) : (joinL (a.map decDigits)).length ≤ a.length * 11 := by
  rw [joinL, joinD_lib]
  exact textF_len a h
theorem isText : IsFn Tryz.prog 49 Tryz.f49 := ⟨Tryz.func49, by decide, rfl⟩
set_option maxHeartbeats 1000000 in
theorem c_text (a : List Nat) (hl : a.length ≤ 100000000) (ha : ∀ n ∈ a, n ≤ 4294967295) : ACalls Tryz.prog envL 49 [.sl none (u32s a)] (fun r => r = .d (textD a)) := by
  refine acalls_of ty_ok isText rfl rfl ?_
  cases hr : rightF a with
  | false =>
    have hc1 := c_right (envL.at 0) a
    rw [hr] at hc1
    repeat' (first | ((with_reducible show AWp _ _ _ _ _); (first | refine awp_seq ?_ | refine awp_block ?_ | refine awp_skip ?_ | refine awp_exit ?_ | refine awp_scope ?_ | refine awp_label ?_ | refine awp_run ty_ok rfl sd ?_ | refine awp_ret ⟨_, _, rfl, rfl, ?_⟩ | refine awp_ret ⟨_, rfl, ?_⟩ | ((refine awp_cond (ty := ty) rfl (fun hc => ?_) (fun hc => ?_)) <;> (try simp only [nms, reduceCtorEq] at hc) <;> (try (exfalso; omega))))) | ((with_reducible show AOps _ _ _ _ _ _); (first | refine aops_nil ?_ | refine aops_go ty_ok rfl rfl sd ?_ | refine aops_gate ty_ok rfl rfl rfl sd ?_ | refine aops_callE (ty := ty) rfl rfl rfl rfl rfl rfl rfl (hc1) rfl ?_ | refine aops_litE ty_ok rfl rfl rfl rfl rfl rfl rfl rfl rfl rfl rfl rfl ?_ | refine aops_cutE ty_ok rfl rfl rfl rfl rfl rfl rfl rfl rfl sd rfl ?_ | ((fail_if_success (refine aops_known rfl ?_)); (refine aops_split ty_ok rfl rfl rfl rfl rfl rfl (fun hc => ⟨?_, ?_⟩) (fun hc => ⟨?_, ?_⟩)) <;> (try simp only [nms, reduceCtorEq] at hc) <;> (try (exfalso; omega)) <;> (try exact sd)))) | ((fail_if_success (with_reducible show AWp _ _ _ _ _)); (fail_if_success (with_reducible show AOps _ _ _ _ _ _)); (first | (show AWp _ _ _ _ _) | (show AOps _ _ _ _ _ _))))
    rw [textD, hr]
    rfl
  | true =>
    have hc1 := c_right (envL.at 0) a
    rw [hr] at hc1
    have hjl := textF_len' ha
    repeat' (first | ((with_reducible show AWp _ _ _ _ _); (first | refine awp_seq ?_ | refine awp_block ?_ | refine awp_skip ?_ | refine awp_exit ?_ | refine awp_scope ?_ | refine awp_label ?_ | refine awp_run ty_ok rfl sd ?_ | refine awp_ret ⟨_, _, rfl, rfl, ?_⟩ | refine awp_ret ⟨_, rfl, ?_⟩ | ((refine awp_cond (ty := ty) rfl (fun hc => ?_) (fun hc => ?_)) <;> (try simp only [nms, reduceCtorEq] at hc) <;> (try (exfalso; omega))))) | ((with_reducible show AOps _ _ _ _ _ _); (first | refine aops_nil ?_ | refine aops_go ty_ok rfl rfl sd ?_ | refine aops_gate ty_ok rfl rfl rfl sd ?_ | refine aops_callE (ty := ty) rfl rfl rfl rfl rfl rfl rfl (hc1) rfl ?_ | refine aops_litE ty_ok rfl rfl rfl rfl rfl rfl rfl rfl rfl rfl rfl rfl ?_ | refine aops_cutE ty_ok rfl rfl rfl rfl rfl rfl rfl rfl rfl sd rfl ?_ | ((fail_if_success (refine aops_known rfl ?_)); (refine aops_split ty_ok rfl rfl rfl rfl rfl rfl (fun hc => ⟨?_, ?_⟩) (fun hc => ⟨?_, ?_⟩)) <;> (try simp only [nms, reduceCtorEq] at hc) <;> (try (exfalso; omega)) <;> (try exact sd)))) | ((fail_if_success (with_reducible show AWp _ _ _ _ _)); (fail_if_success (with_reducible show AOps _ _ _ _ _ _)); (first | (show AWp _ _ _ _ _) | (show AOps _ _ _ _ _ _))))
    refine awp_nilrow 4 9 rfl ?_
    refine awp_loopR (G := { k : Nat // k ≤ a.length }) (fun k => ⟨Tryz.f49.ntmps, [(4, .ref 0), (10, .d (.sl none (u32s a))), (11, .d (.int .i64 a.length)), (12, .d (.int .i64 k.1))], [(0, .row none 9 (strs ((a.take k.1).map decDigits)))], 1⟩) (fun k => a.length - k.1) ⟨0, Nat.zero_le _⟩ [(0, 0)]
      (SubR.mk' rfl rfl ⟨⟨_, rfl, rfl⟩, ⟨_, rfl, rfl⟩, ⟨_, rfl, congrArg (fun z : Nat => AV.d (Dat.int IntKind.i64 z)) (u32s_len _)⟩, ⟨_, rfl, rfl⟩, trivial⟩ ⟨⟨_, _, rfl, rfl, rfl⟩, trivial⟩) ?_
    rintro ⟨k, hk⟩
    dsimp only
    rcases Nat.lt_or_ge k a.length with hkl | hkl
    · have hn := ha a[k] (List.getElem_mem _)
      have hnum := u32_at hkl
      have hc2 := c_format a[k] (by omega)
      have hw : IntKind.u64.wrap ((u32s a).getD (k : Int).toNat default).num = (a[k] : Int) := by rw [hnum]; exact wrap_u64 _ (by omega)
      rw [← hw] at hc2
      repeat' (first | ((with_reducible show AWp _ _ _ _ _); (first | refine awp_seq ?_ | refine awp_block ?_ | refine awp_skip ?_ | refine awp_exit ?_ | refine awp_scope ?_ | refine awp_label ?_ | refine awp_run ty_ok rfl sd ?_ | refine awp_ret ⟨_, _, rfl, rfl, ?_⟩ | refine awp_ret ⟨_, rfl, ?_⟩ | ((refine awp_cond (ty := ty) rfl (fun hc => ?_) (fun hc => ?_)) <;> (try simp only [nms, reduceCtorEq] at hc) <;> (try (exfalso; omega))))) | ((with_reducible show AOps _ _ _ _ _ _); (first | refine aops_nil ?_ | refine aops_go ty_ok rfl rfl sd ?_ | refine aops_gate ty_ok rfl rfl rfl sd ?_ | refine aops_callE (ty := ty) rfl rfl rfl rfl rfl rfl rfl (hc2) rfl ?_ | refine aops_litE ty_ok rfl rfl rfl rfl rfl rfl rfl rfl rfl rfl rfl rfl ?_ | refine aops_cutE ty_ok rfl rfl rfl rfl rfl rfl rfl rfl rfl sd rfl ?_ | ((fail_if_success (refine aops_known rfl ?_)); (refine aops_split ty_ok rfl rfl rfl rfl rfl rfl (fun hc => ⟨?_, ?_⟩) (fun hc => ⟨?_, ?_⟩)) <;> (try simp only [nms, reduceCtorEq] at hc) <;> (try (exfalso; omega)) <;> (try exact sd)))) | ((fail_if_success (with_reducible show AWp _ _ _ _ _)); (fail_if_success (with_reducible show AOps _ _ _ _ _ _)); (first | (show AWp _ _ _ _ _) | (show AOps _ _ _ _ _ _))))
      refine ⟨⟨k + 1, hkl⟩, [(2, 0)], SubR.mk' rfl rfl ⟨⟨_, rfl, rfl⟩, ⟨_, rfl, rfl⟩, ⟨_, rfl, rfl⟩, ⟨_, rfl, rfl⟩, trivial⟩ ⟨⟨_, _, rfl, rfl, congrArg (AO.row none 9) ?_⟩, trivial⟩, by simp only; omega⟩
      rw [List.take_succ_eq_append_getElem hkl, List.map_append, strs_app]
      rfl
    · have hke : k = a.length := by omega
      subst hke
      rw [List.take_length]
      repeat' (first | ((with_reducible show AWp _ _ _ _ _); (first | refine awp_seq ?_ | refine awp_block ?_ | refine awp_skip ?_ | refine awp_exit ?_ | refine awp_scope ?_ | refine awp_label ?_ | refine awp_run ty_ok rfl sd ?_ | refine awp_ret ⟨_, _, rfl, rfl, ?_⟩ | refine awp_ret ⟨_, rfl, ?_⟩ | ((refine awp_cond (ty := ty) rfl (fun hc => ?_) (fun hc => ?_)) <;> (try simp only [nms, reduceCtorEq] at hc) <;> (try (exfalso; omega))))) | ((with_reducible show AOps _ _ _ _ _ _); (first | refine aops_nil ?_ | refine aops_go ty_ok rfl rfl sd ?_ | refine aops_gate ty_ok rfl rfl rfl sd ?_ | refine aops_callE (ty := ty) rfl rfl rfl rfl rfl rfl rfl (c_join _ (a.map decDigits) (by simp; omega) (by omega)) rfl ?_ | refine aops_litE ty_ok rfl rfl rfl rfl rfl rfl rfl rfl rfl rfl rfl rfl ?_ | refine aops_cutE ty_ok rfl rfl rfl rfl rfl rfl rfl rfl rfl sd rfl ?_ | ((fail_if_success (refine aops_known rfl ?_)); (refine aops_split ty_ok rfl rfl rfl rfl rfl rfl (fun hc => ⟨?_, ?_⟩) (fun hc => ⟨?_, ?_⟩)) <;> (try simp only [nms, reduceCtorEq] at hc) <;> (try (exfalso; omega)) <;> (try exact sd)))) | ((fail_if_success (with_reducible show AWp _ _ _ _ _)); (fail_if_success (with_reducible show AOps _ _ _ _ _ _)); (first | (show AWp _ _ _ _ _) | (show AOps _ _ _ _ _ _))))
      rw [textD, hr, joinL, joinD_lib]
      rfl

theorem joinD_snoc : ∀ (ps : List (List UInt8)) (p : List UInt8), ps ≠ [] → joinD (ps ++ [p]) = joinD ps ++ 46 :: p
  | [], p, h => absurd rfl h
  | [q], p, _ => by simp [joinD]
  | q :: q2 :: r, p, _ => by
    have := joinD_snoc (q2 :: r) p (by simp)
    simp only [List.cons_append, joinD] at this ⊢
    rw [this]
    simp
theorem isRText : IsFn Tryz.prog 71 Tryz.f71 := ⟨Tryz.func71, by decide, rfl⟩
set_option maxHeartbeats 1000000 in
theorem c_rtext (Γ : Env) (a : List Nat) (hl : a.length ≤ 100000000) (ha : ∀ n ∈ a, n ≤ 4294967295) : ACalls Tryz.prog Γ 71 [.sl none (u32s a)] (fun r => r = .d (textD a)) := by
  refine acalls_of ty_ok isRText rfl rfl ?_
  have hc1 := c_rright (Γ.at 0) a
  cases hr : rightF a with
  | false =>
    rw [hr] at hc1
    repeat' (first | ((with_reducible show AWp _ _ _ _ _); (first | refine awp_seq ?_ | refine awp_block ?_ | refine awp_skip ?_ | refine awp_exit ?_ | refine awp_scope ?_ | refine awp_label ?_ | refine awp_run ty_ok rfl sd ?_ | refine awp_ret ⟨_, _, rfl, rfl, ?_⟩ | refine awp_ret ⟨_, rfl, ?_⟩ | ((refine awp_cond (ty := ty) rfl (fun hc => ?_) (fun hc => ?_)) <;> (try simp only [nms, reduceCtorEq] at hc) <;> (try (exfalso; omega))))) | ((with_reducible show AOps _ _ _ _ _ _); (first | refine aops_nil ?_ | refine aops_go ty_ok rfl rfl sd ?_ | refine aops_gate ty_ok rfl rfl rfl sd ?_ | refine aops_callE (ty := ty) rfl rfl rfl rfl rfl rfl rfl (hc1) rfl ?_ | refine aops_litE ty_ok rfl rfl rfl rfl rfl rfl rfl rfl rfl rfl rfl rfl ?_ | refine aops_cutE ty_ok rfl rfl rfl rfl rfl rfl rfl rfl rfl sd rfl ?_ | ((fail_if_success (refine aops_known rfl ?_)); (refine aops_split ty_ok rfl rfl rfl rfl rfl rfl (fun hc => ⟨?_, ?_⟩) (fun hc => ⟨?_, ?_⟩)) <;> (try simp only [nms, reduceCtorEq] at hc) <;> (try (exfalso; omega)) <;> (try exact sd)))) | ((fail_if_success (with_reducible show AWp _ _ _ _ _)); (fail_if_success (with_reducible show AOps _ _ _ _ _ _)); (first | (show AWp _ _ _ _ _) | (show AOps _ _ _ _ _ _))))
    rw [textD, hr]
    rfl
  | true =>
    rw [hr] at hc1
    have h0 : 0 < a.length := by
      cases a with
      | nil => simp [rightF] at hr
      | cons x t => simp
    have hw : ∀ k (h : k < a.length), IntKind.u64.wrap ((u32s a).getD (k : Int).toNat default).num = (a[k] : Int) := fun k h => by
      rw [u32_at h]
      exact wrap_u64 _ (by have := ha a[k] (List.getElem_mem _); omega)
    have hc0 := c_digits (Γ.at 0) a[0] (by have := ha a[0] (List.getElem_mem _); omega)
    rw [← hw 0 h0] at hc0
    repeat' (first | ((with_reducible show AWp _ _ _ _ _); (first | refine awp_seq ?_ | refine awp_block ?_ | refine awp_skip ?_ | refine awp_exit ?_ | refine awp_scope ?_ | refine awp_label ?_ | refine awp_run ty_ok rfl sd ?_ | refine awp_ret ⟨_, _, rfl, rfl, ?_⟩ | refine awp_ret ⟨_, rfl, ?_⟩ | ((refine awp_cond (ty := ty) rfl (fun hc => ?_) (fun hc => ?_)) <;> (try simp only [nms, reduceCtorEq] at hc) <;> (try (exfalso; omega))))) | ((with_reducible show AOps _ _ _ _ _ _); (first | refine aops_nil ?_ | refine aops_go ty_ok rfl rfl sd ?_ | refine aops_gate ty_ok rfl rfl rfl sd ?_ | refine aops_callE (ty := ty) rfl rfl rfl rfl rfl rfl rfl (hc1) rfl ?_ | refine aops_callE (ty := ty) rfl rfl rfl rfl rfl rfl rfl (hc0) rfl ?_ | refine aops_litE ty_ok rfl rfl rfl rfl rfl rfl rfl rfl rfl rfl rfl rfl ?_ | refine aops_cutE ty_ok rfl rfl rfl rfl rfl rfl rfl rfl rfl sd rfl ?_ | ((fail_if_success (refine aops_known rfl ?_)); (refine aops_split ty_ok rfl rfl rfl rfl rfl rfl (fun hc => ⟨?_, ?_⟩) (fun hc => ⟨?_, ?_⟩)) <;> (try simp only [nms, reduceCtorEq] at hc) <;> (try (exfalso; omega)) <;> (try exact sd)))) | ((fail_if_success (with_reducible show AWp _ _ _ _ _)); (fail_if_success (with_reducible show AOps _ _ _ _ _ _)); (first | (show AWp _ _ _ _ _) | (show AOps _ _ _ _ _ _))))
    refine awp_loopR (G := { k : Nat // 1 ≤ k ∧ k ≤ a.length }) (fun k => ⟨Tryz.f71.ntmps, [(0, .d (.sl none (u32s a))), (4, .d (sD (textF (a.take k.1)))), (5, .d (.int .i64 k.1))], [], 0⟩) (fun k => a.length - k.1) ⟨1, Nat.le_refl _, h0⟩ []
      (SubR.mk' rfl rfl ⟨⟨_, rfl, rfl⟩, ⟨_, rfl, congrArg AV.d ?_⟩, ⟨_, rfl, rfl⟩, trivial⟩ trivial) ?_
    · congr 2
      cases a with
      | nil => simp at h0
      | cons x t => simp [textF, joinD]
    rintro ⟨k, hk1, hk⟩
    dsimp only
    rcases Nat.lt_or_ge k a.length with hkl | hkl
    · have hn := ha a[k] (List.getElem_mem _)
      have hc2 := c_digits (Γ.at 0) a[k] (by omega)
      rw [← hw k hkl] at hc2
      have hl1 := textF_len (a.take k) (fun n hn => ha n (List.mem_of_mem_take hn))
      have hl2 := dec_len32 a[k] hn
      have hl3 : (a.take k).length ≤ a.length := by rw [List.length_take]; omega
      repeat' (first | ((with_reducible show AWp _ _ _ _ _); (first | refine awp_seq ?_ | refine awp_block ?_ | refine awp_skip ?_ | refine awp_exit ?_ | refine awp_scope ?_ | refine awp_label ?_ | refine awp_run ty_ok rfl sd ?_ | refine awp_ret ⟨_, _, rfl, rfl, ?_⟩ | refine awp_ret ⟨_, rfl, ?_⟩ | ((refine awp_cond (ty := ty) rfl (fun hc => ?_) (fun hc => ?_)) <;> (try simp only [nms, reduceCtorEq] at hc) <;> (try (exfalso; omega))))) | ((with_reducible show AOps _ _ _ _ _ _); (first | refine aops_nil ?_ | refine aops_go ty_ok rfl rfl sd ?_ | refine aops_gate ty_ok rfl rfl rfl sd ?_ | refine aops_callE (ty := ty) rfl rfl rfl rfl rfl rfl rfl (hc2) rfl ?_ | refine aops_litE ty_ok rfl rfl rfl rfl rfl rfl rfl rfl rfl rfl rfl rfl ?_ | refine aops_cutE ty_ok rfl rfl rfl rfl rfl rfl rfl rfl rfl sd rfl ?_ | ((fail_if_success (refine aops_known rfl ?_)); (refine aops_split ty_ok rfl rfl rfl rfl rfl rfl (fun hc => ⟨?_, ?_⟩) (fun hc => ⟨?_, ?_⟩)) <;> (try simp only [nms, reduceCtorEq] at hc) <;> (try (exfalso; omega)) <;> (try exact sd)))) | ((fail_if_success (with_reducible show AWp _ _ _ _ _)); (fail_if_success (with_reducible show AOps _ _ _ _ _ _)); (first | (show AWp _ _ _ _ _) | (show AOps _ _ _ _ _ _))))
      refine ⟨⟨k + 1, by omega, hkl⟩, [], SubR.mk' rfl rfl ⟨⟨_, rfl, rfl⟩, ⟨_, rfl, congrArg AV.d ?_⟩, ⟨_, rfl, rfl⟩, trivial⟩ trivial, by simp only; omega⟩
      have : textF (a.take (k + 1)) = textF (a.take k) ++ 46 :: decDigits a[k] := by
        rw [List.take_succ_eq_append_getElem hkl, textF, List.map_append, List.map_cons, List.map_nil, joinD_snoc _ _ (by
          intro h
          have := congrArg List.length h
          rw [List.length_map, List.length_take, List.length_nil] at this
          omega)]
        rfl
      simp only [this, sD]
      rw [show textF (a.take k) ++ 46 :: decDigits a[k] = (textF (a.take k) ++ [46]) ++ decDigits a[k] by simp, ← bA_app, ← bA_app]
      rfl
    · have hke : k = a.length := by omega
      subst hke
      repeat' (first | ((with_reducible show AWp _ _ _ _ _); (first | refine awp_seq ?_ | refine awp_block ?_ | refine awp_skip ?_ | refine awp_exit ?_ | refine awp_scope ?_ | refine awp_label ?_ | refine awp_run ty_ok rfl sd ?_ | refine awp_ret ⟨_, _, rfl, rfl, ?_⟩ | refine awp_ret ⟨_, rfl, ?_⟩ | ((refine awp_cond (ty := ty) rfl (fun hc => ?_) (fun hc => ?_)) <;> (try simp only [nms, reduceCtorEq] at hc) <;> (try (exfalso; omega))))) | ((with_reducible show AOps _ _ _ _ _ _); (first | refine aops_nil ?_ | refine aops_go ty_ok rfl rfl sd ?_ | refine aops_gate ty_ok rfl rfl rfl sd ?_ | refine aops_callE (ty := ty) rfl rfl rfl rfl rfl rfl rfl (hc1) rfl ?_ | refine aops_litE ty_ok rfl rfl rfl rfl rfl rfl rfl rfl rfl rfl rfl rfl ?_ | refine aops_cutE ty_ok rfl rfl rfl rfl rfl rfl rfl rfl rfl sd rfl ?_ | ((fail_if_success (refine aops_known rfl ?_)); (refine aops_split ty_ok rfl rfl rfl rfl rfl rfl (fun hc => ⟨?_, ?_⟩) (fun hc => ⟨?_, ?_⟩)) <;> (try simp only [nms, reduceCtorEq] at hc) <;> (try (exfalso; omega)) <;> (try exact sd)))) | ((fail_if_success (with_reducible show AWp _ _ _ _ _)); (fail_if_success (with_reducible show AOps _ _ _ _ _ _)); (first | (show AWp _ _ _ _ _) | (show AOps _ _ _ _ _ _))))
      rw [textD, hr, List.take_length]

end Go.Proofs.YtbbakpmedpcigaaGreatDoor

/- Contents octets of object identifiers: Encode of both. Walked by the abstract machine. -/
namespace Go.Proofs.YtbbakpmedpcigaaGreatDoor
open Go.Am
open Go.Lib (decDigits)
set_option linter.unusedSimpArgs false
set_option linter.unusedVariables false

/-- The octets of a subidentifier. -/
def low7 (last : Bool) (n : Nat) : UInt8 := UInt8.ofNat (n % 128 + (match last with
  | true => 0
  | false => 128))
def b128 (last : Bool) (n : Nat) : List UInt8 := if n < 128 then [low7 last n] else b128 false (n / 128) ++ [low7 last n]
  termination_by n
  decreasing_by omega
theorem b128_small {last : Bool} {n : Nat} (h : n < 128) : b128 last n = [low7 last n] := by rw [b128, if_pos h]
theorem b128_big {last : Bool} {n : Nat} (h : ¬ n < 128) : b128 last n = b128 false (n / 128) ++ [low7 last n] := by rw [b128, if_neg h]
theorem b128_len (k : Nat) : ∀ last n, n < 128 ^ (k + 1) → (b128 last n).length ≤ k + 1 := by
  induction k with
  | zero =>
    intro last n h
    rw [b128_small (by simpa using h)]
    exact Nat.le_refl _
  | succ k ih =>
    intro last n h
    by_cases h1 : n < 128
    · rw [b128_small h1]
      exact Nat.succ_le_succ (Nat.zero_le _)
    · rw [b128_big h1]
      have h2 : n / 128 < 128 ^ (k + 1) := by
        rw [Nat.div_lt_iff_lt_mul (Nat.succ_pos 127), ← Nat.pow_succ]
        exact h
      have := ih false (n / 128) h2
      rw [List.length_append, List.length_singleton]
      omega
theorem b128_len32 (last : Bool) (n : Nat) (h : n ≤ 4294967295) : (b128 last n).length ≤ 5 := b128_len 4 last n (Nat.lt_of_le_of_lt h (by decide))
/-- The octets after the last one, lowest first. -/
def rest7 (n : Nat) : List UInt8 := if n = 0 then [] else low7 false n :: rest7 (n / 128)
  termination_by n
  decreasing_by omega
theorem rest7_zero : rest7 0 = [] := by rw [rest7, if_pos rfl]
theorem rest7_pos {n : Nat} (h : n ≠ 0) : rest7 n = low7 false n :: rest7 (n / 128) := by rw [rest7, if_neg h]
theorem rest7_b128 (n : Nat) (h : n ≠ 0) : (rest7 n).reverse = b128 false n := by
  induction n using Nat.strongRecOn with
  | _ n ih =>
    rw [rest7_pos h, List.reverse_cons]
    by_cases h1 : n < 128
    · rw [b128_small h1, show n / 128 = 0 by omega, rest7_zero]
      rfl
    · rw [b128_big h1, ih (n / 128) (by omega) (by omega)]
theorem b128_rest (n : Nat) : b128 true n = (low7 true n :: rest7 (n / 128)).reverse := by
  rw [List.reverse_cons]
  by_cases h1 : n < 128
  · rw [b128_small h1, show n / 128 = 0 by omega, rest7_zero]
    rfl
  · rw [b128_big h1, rest7_b128 _ (by omega)]
theorem low7_nat (n : Nat) : (low7 true n).toNat = n % 128 ∧ (low7 false n).toNat = n % 128 + 128 := by
  constructor <;> simp [low7, UInt8.toNat_ofNat'] <;> omega
theorem bys_one (b : UInt8) : bys [b] = [Dat.int .u8 b.toNat] := rfl

theorem isBase : IsFn Tryz.prog 65 Tryz.f65 := ⟨Tryz.func65, by decide, rfl⟩
theorem c_base (Γ : Env) (n : Nat) : ∀ (last : Bool), n ≤ 1099511627775 → ACalls Tryz.prog Γ 65 [.int .u64 n, .bool last] (fun r => r = .own none 5 (bys (b128 last n))) := by
  induction n using Nat.strongRecOn with
  | _ n ih =>
    intro last hn
    have htm : (n : Int).tmod 128 = ((n % 128 : Nat) : Int) := by rw [Int.tmod_eq_emod_of_nonneg (by omega)]; omega
    have hq : IntKind.u64.wrap ((n : Int).tdiv 128) = ((n / 128 : Nat) : Int) := by rw [Int.tdiv_eq_ediv_of_nonneg (by omega), IntKind.wrap_u64]; omega
    have hx : IntKind.u8.wrap (((n : Int).tmod 128)) = ((n % 128 : Nat) : Int) := by rw [htm, IntKind.wrap_u8]; omega
    have hy : IntKind.u8.wrap (((n % 128 : Nat) : Int) + 128) = ((n % 128 + 128 : Nat) : Int) := by rw [IntKind.wrap_u8]; omega
    obtain ⟨l1, l2⟩ := low7_nat n
    refine acalls_of ty_ok isBase rfl rfl ?_
    by_cases h : n < 128
    · cases last with
      | true =>
        repeat' (first | ((with_reducible show AWp _ _ _ _ _); (first | refine awp_seq ?_ | refine awp_block ?_ | refine awp_skip ?_ | refine awp_exit ?_ | refine awp_scope ?_ | refine awp_label ?_ | refine awp_run ty_ok rfl sd ?_ | refine awp_ret ⟨_, _, rfl, rfl, ?_⟩ | refine awp_ret ⟨_, rfl, ?_⟩ | ((refine awp_cond (ty := ty) rfl (fun hc => ?_) (fun hc => ?_)) <;> (try simp only [nms, reduceCtorEq] at hc) <;> (try (exfalso; omega))))) | ((with_reducible show AOps _ _ _ _ _ _); (first | refine aops_nil ?_ | refine aops_go ty_ok rfl rfl sd ?_ | refine aops_gate ty_ok rfl rfl rfl sd ?_ | refine aops_litE ty_ok rfl rfl rfl rfl rfl rfl rfl rfl rfl rfl rfl rfl ?_ | refine aops_cutE ty_ok rfl rfl rfl rfl rfl rfl rfl rfl rfl sd rfl ?_ | ((fail_if_success (refine aops_known rfl ?_)); (refine aops_split ty_ok rfl rfl rfl rfl rfl rfl (fun hc => ⟨?_, ?_⟩) (fun hc => ⟨?_, ?_⟩)) <;> (try simp only [nms, reduceCtorEq] at hc) <;> (try (exfalso; omega)) <;> (try exact sd)))) | ((fail_if_success (with_reducible show AWp _ _ _ _ _)); (fail_if_success (with_reducible show AOps _ _ _ _ _ _)); (first | (show AWp _ _ _ _ _) | (show AOps _ _ _ _ _ _))))
        all_goals simp only [hx, b128_small h, bys_one, l1]
      | false =>
        repeat' (first | ((with_reducible show AWp _ _ _ _ _); (first | refine awp_seq ?_ | refine awp_block ?_ | refine awp_skip ?_ | refine awp_exit ?_ | refine awp_scope ?_ | refine awp_label ?_ | refine awp_run ty_ok rfl sd ?_ | refine awp_ret ⟨_, _, rfl, rfl, ?_⟩ | refine awp_ret ⟨_, rfl, ?_⟩ | ((refine awp_cond (ty := ty) rfl (fun hc => ?_) (fun hc => ?_)) <;> (try simp only [nms, reduceCtorEq] at hc) <;> (try (exfalso; omega))))) | ((with_reducible show AOps _ _ _ _ _ _); (first | refine aops_nil ?_ | refine aops_go ty_ok rfl rfl sd ?_ | refine aops_gate ty_ok rfl rfl rfl sd ?_ | refine aops_litE ty_ok rfl rfl rfl rfl rfl rfl rfl rfl rfl rfl rfl rfl ?_ | refine aops_cutE ty_ok rfl rfl rfl rfl rfl rfl rfl rfl rfl sd rfl ?_ | ((fail_if_success (refine aops_known rfl ?_)); (refine aops_split ty_ok rfl rfl rfl rfl rfl rfl (fun hc => ⟨?_, ?_⟩) (fun hc => ⟨?_, ?_⟩)) <;> (try simp only [nms, reduceCtorEq] at hc) <;> (try (exfalso; omega)) <;> (try exact sd)))) | ((fail_if_success (with_reducible show AWp _ _ _ _ _)); (fail_if_success (with_reducible show AOps _ _ _ _ _ _)); (first | (show AWp _ _ _ _ _) | (show AOps _ _ _ _ _ _))))
        all_goals simp only [hx, hy, b128_small h, bys_one, l2]
    · have hih := ih (n / 128) (by omega) false (by omega)
      rw [← hq] at hih
      have hbl := b128_len 5 false (n / 128) (by omega)
      cases last with
      | true =>
        repeat' (first | ((with_reducible show AWp _ _ _ _ _); (first | refine awp_seq ?_ | refine awp_block ?_ | refine awp_skip ?_ | refine awp_exit ?_ | refine awp_scope ?_ | refine awp_label ?_ | refine awp_run ty_ok rfl sd ?_ | refine awp_ret ⟨_, _, rfl, rfl, ?_⟩ | refine awp_ret ⟨_, rfl, ?_⟩ | ((refine awp_cond (ty := ty) rfl (fun hc => ?_) (fun hc => ?_)) <;> (try simp only [nms, reduceCtorEq] at hc) <;> (try (exfalso; omega))))) | ((with_reducible show AOps _ _ _ _ _ _); (first | refine aops_nil ?_ | refine aops_go ty_ok rfl rfl sd ?_ | refine aops_gate ty_ok rfl rfl rfl sd ?_ | refine aops_callE (ty := ty) rfl rfl rfl rfl rfl rfl rfl (hih) rfl ?_ | refine aops_litE ty_ok rfl rfl rfl rfl rfl rfl rfl rfl rfl rfl rfl rfl ?_ | refine aops_cutE ty_ok rfl rfl rfl rfl rfl rfl rfl rfl rfl sd rfl ?_ | ((fail_if_success (refine aops_known rfl ?_)); (refine aops_split ty_ok rfl rfl rfl rfl rfl rfl (fun hc => ⟨?_, ?_⟩) (fun hc => ⟨?_, ?_⟩)) <;> (try simp only [nms, reduceCtorEq] at hc) <;> (try (exfalso; omega)) <;> (try exact sd)))) | ((fail_if_success (with_reducible show AWp _ _ _ _ _)); (fail_if_success (with_reducible show AOps _ _ _ _ _ _)); (first | (show AWp _ _ _ _ _) | (show AOps _ _ _ _ _ _))))
        all_goals simp only [hx, b128_big h, bys_app, bys_one, l1]
      | false =>
        repeat' (first | ((with_reducible show AWp _ _ _ _ _); (first | refine awp_seq ?_ | refine awp_block ?_ | refine awp_skip ?_ | refine awp_exit ?_ | refine awp_scope ?_ | refine awp_label ?_ | refine awp_run ty_ok rfl sd ?_ | refine awp_ret ⟨_, _, rfl, rfl, ?_⟩ | refine awp_ret ⟨_, rfl, ?_⟩ | ((refine awp_cond (ty := ty) rfl (fun hc => ?_) (fun hc => ?_)) <;> (try simp only [nms, reduceCtorEq] at hc) <;> (try (exfalso; omega))))) | ((with_reducible show AOps _ _ _ _ _ _); (first | refine aops_nil ?_ | refine aops_go ty_ok rfl rfl sd ?_ | refine aops_gate ty_ok rfl rfl rfl sd ?_ | refine aops_callE (ty := ty) rfl rfl rfl rfl rfl rfl rfl (hih) rfl ?_ | refine aops_litE ty_ok rfl rfl rfl rfl rfl rfl rfl rfl rfl rfl rfl rfl ?_ | refine aops_cutE ty_ok rfl rfl rfl rfl rfl rfl rfl rfl rfl sd rfl ?_ | ((fail_if_success (refine aops_known rfl ?_)); (refine aops_split ty_ok rfl rfl rfl rfl rfl rfl (fun hc => ⟨?_, ?_⟩) (fun hc => ⟨?_, ?_⟩)) <;> (try simp only [nms, reduceCtorEq] at hc) <;> (try (exfalso; omega)) <;> (try exact sd)))) | ((fail_if_success (with_reducible show AWp _ _ _ _ _)); (fail_if_success (with_reducible show AOps _ _ _ _ _ _)); (first | (show AWp _ _ _ _ _) | (show AOps _ _ _ _ _ _))))
        all_goals simp only [hx, hy, b128_big h, bys_app, bys_one, l2]
end Go.Proofs.YtbbakpmedpcigaaGreatDoor

/- Encode of package oid, walked by the abstract machine. -/
namespace Go.Proofs.YtbbakpmedpcigaaGreatDoor
open Go.Am
open Go.Lib (decDigits)
set_option linter.unusedSimpArgs false
set_option linter.unusedVariables false

theorem and_u32 (n : Nat) (h : n ≤ 4294967295) : bits .and .u32 (n : Int) 127 = ((n % 128 : Nat) : Int) := by
  have h1 := (bits_nat .u32 32 (by decide) (fun n h0 h1 => by rw [IntKind.wrap_u32]; omega) n 127 (by omega) (by omega)).1
  have h2 : n &&& 127 = n % 128 := Nat.and_two_pow_sub_one_eq_mod n 7
  rw [h2] at h1
  exact h1
theorem or_u32 (d : Nat) (h : d < 128) : bits .or .u32 (d : Int) 128 = ((d + 128 : Nat) : Int) := by
  have h1 := (bits_nat .u32 32 (by decide) (fun n h0 h1 => by rw [IntKind.wrap_u32]; omega) d 128 (by omega) (by omega)).2
  have h2 : d ||| 128 = d + 128 := by
    have : ∀ d : Fin 128, d.1 ||| 128 = d.1 + 128 := by decide
    exact this ⟨d, h⟩
  rw [h2] at h1
  exact h1
theorem shr_u32 (n : Nat) : shft .shr .u32 (n : Int) 7 = ((n / 128 : Nat) : Int) := by
  simp [shft, IntKind.bits, Int.fdiv_eq_ediv_of_nonneg]
theorem isPut : IsFn Tryz.prog 40 Tryz.f40 := ⟨Tryz.func40, by decide, rfl⟩
set_option maxHeartbeats 1000000 in
theorem put_in (Γ : Env) (o : List UInt8) (n : Nat) (hn : n ≤ 4294967295) (ho : o.length ≤ 1000000000) (K : List (Nat × AO) → Nat → AV → Prop)
    (hK : ∀ ob, Am.look 0 ob = some (.box 25 [.ref 3]) → Am.look 3 ob = some (.row none 5 (bys (o ++ b128 true n))) → K ob 4 (.tup [])) :
    AWp Tryz.prog (Γ.at 2) Tryz.f40.body.get! (BackOk ty Tryz.f40 K) (entry Tryz.f40.ntmps [.d (.int .u32 n), .ptr 0 0] [(0, .box 25 [.ref 1]), (1, .row none 5 (bys o))] 2) := by
  have e1 := and_u32 n hn
  have e2 := shr_u32 n
  have hl := b128_len32 true n hn
  obtain ⟨l1, l2⟩ := low7_nat n
  repeat' (first | ((with_reducible show AWp _ _ _ _ _); (first | refine awp_seq ?_ | refine awp_block ?_ | refine awp_skip ?_ | refine awp_exit ?_ | refine awp_scope ?_ | refine awp_label ?_ | refine awp_run ty_ok rfl sd ?_ | refine awp_ret ⟨_, _, rfl, rfl, ?_⟩ | refine awp_ret ⟨_, rfl, ?_⟩ | ((refine awp_cond (ty := ty) rfl (fun hc => ?_) (fun hc => ?_)) <;> (try simp only [nms, reduceCtorEq] at hc) <;> (try (exfalso; omega))))) | ((with_reducible show AOps _ _ _ _ _ _); (first | refine aops_nil ?_ | refine aops_go ty_ok rfl rfl sd ?_ | refine aops_gate ty_ok rfl rfl rfl sd ?_ | refine aops_around (ty := ty) rfl rfl rfl rfl rfl rfl rfl (turns) sd rfl ?_ | refine aops_litE ty_ok rfl rfl rfl rfl rfl rfl rfl rfl rfl rfl rfl rfl ?_ | refine aops_cutE ty_ok rfl rfl rfl rfl rfl rfl rfl rfl rfl sd rfl ?_ | ((fail_if_success (refine aops_known rfl ?_)); (refine aops_split ty_ok rfl rfl rfl rfl rfl rfl (fun hc => ⟨?_, ?_⟩) (fun hc => ⟨?_, ?_⟩)) <;> (try simp only [nms, reduceCtorEq] at hc) <;> (try (exfalso; omega)) <;> (try exact sd)))) | ((fail_if_success (with_reducible show AWp _ _ _ _ _)); (fail_if_success (with_reducible show AOps _ _ _ _ _ _)); (first | (show AWp _ _ _ _ _) | (show AOps _ _ _ _ _ _))))
  have hrl : (rest7 (n / 128)).length + 1 ≤ 5 := by
    have := congrArg List.length (b128_rest n)
    simp at this
    omega
  refine awp_loopR (G := { p : Nat × List UInt8 // p.2 ++ rest7 p.1 = rest7 (n / 128) ∧ p.1 ≤ n / 128 }) (fun p => ⟨Tryz.f40.ntmps, [(0, .d (.int .u32 p.1.1)), (1, .ptr 0 0), (3, .ref 2)], [(0, .box 25 [.ref 1]), (1, .row none 5 (bys o)), (2, .row none 5 (bys (low7 true n :: p.1.2)))], 3⟩) (fun p => p.1.1) ⟨(n / 128, []), rfl, Nat.le_refl _⟩ [(2, 2)]
    (SubR.mk' rfl rfl ⟨⟨_, rfl, congrArg (fun z : Int => AV.d (Dat.int IntKind.u32 z)) e2⟩, ⟨_, rfl, rfl⟩, ⟨_, rfl, rfl⟩, trivial⟩ ⟨⟨_, _, rfl, rfl, rfl⟩, ⟨_, _, rfl, rfl, rfl⟩, ⟨_, _, rfl, rfl, congrArg (AO.row none 5) (by rw [e1, IntKind.wrap_u8, bys_one, l1]; congr 2; omega)⟩, trivial⟩) ?_
  rintro ⟨⟨m, pre⟩, hp, hm⟩
  simp only at hp hm
  dsimp only
  have hpl : pre.length + (rest7 m).length = (rest7 (n / 128)).length := by rw [← hp, List.length_append]
  have f1 := and_u32 m (by omega)
  have f2 := shr_u32 m
  have f3 := or_u32 (m % 128) (by omega)
  obtain ⟨l3, l4⟩ := low7_nat m
  by_cases h0 : m = 0
  · subst h0
    rw [rest7_zero, List.append_nil] at hp
    repeat' (first | ((with_reducible show AWp _ _ _ _ _); (first | refine awp_seq ?_ | refine awp_block ?_ | refine awp_skip ?_ | refine awp_exit ?_ | refine awp_scope ?_ | refine awp_label ?_ | refine awp_run ty_ok rfl sd ?_ | refine awp_ret ⟨_, _, rfl, rfl, ?_⟩ | refine awp_ret ⟨_, rfl, ?_⟩ | ((refine awp_cond (ty := ty) rfl (fun hc => ?_) (fun hc => ?_)) <;> (try simp only [nms, reduceCtorEq] at hc) <;> (try (exfalso; omega))))) | ((with_reducible show AOps _ _ _ _ _ _); (first | refine aops_nil ?_ | refine aops_go ty_ok rfl rfl sd ?_ | refine aops_gate ty_ok rfl rfl rfl sd ?_ | refine aops_around (ty := ty) rfl rfl rfl rfl rfl rfl rfl (turns) sd rfl ?_ | refine aops_litE ty_ok rfl rfl rfl rfl rfl rfl rfl rfl rfl rfl rfl rfl ?_ | refine aops_cutE ty_ok rfl rfl rfl rfl rfl rfl rfl rfl rfl sd rfl ?_ | ((fail_if_success (refine aops_known rfl ?_)); (refine aops_split ty_ok rfl rfl rfl rfl rfl rfl (fun hc => ⟨?_, ?_⟩) (fun hc => ⟨?_, ?_⟩)) <;> (try simp only [nms, reduceCtorEq] at hc) <;> (try (exfalso; omega)) <;> (try exact sd)))) | ((fail_if_success (with_reducible show AWp _ _ _ _ _)); (fail_if_success (with_reducible show AOps _ _ _ _ _ _)); (first | (show AWp _ _ _ _ _) | (show AOps _ _ _ _ _ _))))
    refine ⟨[], rfl, hK _ rfl (congrArg (fun z => some (AO.row none 5 z)) ?_)⟩
    rw [bys_app, b128_rest, hp]
  · repeat' (first | ((with_reducible show AWp _ _ _ _ _); (first | refine awp_seq ?_ | refine awp_block ?_ | refine awp_skip ?_ | refine awp_exit ?_ | refine awp_scope ?_ | refine awp_label ?_ | refine awp_run ty_ok rfl sd ?_ | refine awp_ret ⟨_, _, rfl, rfl, ?_⟩ | refine awp_ret ⟨_, rfl, ?_⟩ | ((refine awp_cond (ty := ty) rfl (fun hc => ?_) (fun hc => ?_)) <;> (try simp only [nms, reduceCtorEq] at hc) <;> (try (exfalso; omega))))) | ((with_reducible show AOps _ _ _ _ _ _); (first | refine aops_nil ?_ | refine aops_go ty_ok rfl rfl sd ?_ | refine aops_gate ty_ok rfl rfl rfl sd ?_ | refine aops_around (ty := ty) rfl rfl rfl rfl rfl rfl rfl (turns) sd rfl ?_ | refine aops_litE ty_ok rfl rfl rfl rfl rfl rfl rfl rfl rfl rfl rfl rfl ?_ | refine aops_cutE ty_ok rfl rfl rfl rfl rfl rfl rfl rfl rfl sd rfl ?_ | ((fail_if_success (refine aops_known rfl ?_)); (refine aops_split ty_ok rfl rfl rfl rfl rfl rfl (fun hc => ⟨?_, ?_⟩) (fun hc => ⟨?_, ?_⟩)) <;> (try simp only [nms, reduceCtorEq] at hc) <;> (try (exfalso; omega)) <;> (try exact sd)))) | ((fail_if_success (with_reducible show AWp _ _ _ _ _)); (fail_if_success (with_reducible show AOps _ _ _ _ _ _)); (first | (show AWp _ _ _ _ _) | (show AOps _ _ _ _ _ _))))
    refine ⟨⟨(m / 128, pre ++ [low7 false m]), by rw [← hp, rest7_pos h0]; simp, by simp only; omega⟩, [(4, 2)], SubR.mk' rfl rfl ⟨⟨_, rfl, congrArg (fun z : Int => AV.d (Dat.int IntKind.u32 z)) f2⟩, ⟨_, rfl, rfl⟩, ⟨_, rfl, rfl⟩, trivial⟩ ⟨⟨_, _, rfl, rfl, rfl⟩, ⟨_, _, rfl, rfl, rfl⟩, ⟨_, _, rfl, rfl, congrArg (AO.row none 5) ?_⟩, trivial⟩, by simp only; omega⟩
    rw [f1, f3, IntKind.wrap_u8]
    simp only [bys_cons, bys_app, bys_one, l4, List.cons_append]
    congr 4

/-- The contents octets of arcs. -/
def encL : List Nat → List UInt8
  | x :: y :: t => b128 true (40 * x + y) ++ (t.map (b128 true)).flatten
  | _ => []
theorem flat_take (f : Nat → List UInt8) (t : List Nat) (k : Nat) (h : k < t.length) : ((t.take (k + 1)).map f).flatten = ((t.take k).map f).flatten ++ f t[k] := by
  rw [List.take_succ_eq_append_getElem h, List.map_append, List.flatten_append, List.map_cons, List.map_nil, List.flatten_cons, List.flatten_nil, List.append_nil]
theorem flat_len (t : List Nat) (h : ∀ n ∈ t, n ≤ 4294967295) : ((t.map (b128 true)).flatten).length ≤ 5 * t.length := by
  induction t with
  | nil => simp
  | cons n t ih =>
    have h1 := b128_len32 true n (h n (List.mem_cons_self ..))
    have h2 := ih (fun m hm => h m (List.mem_cons_of_mem _ hm))
    simp only [List.map_cons, List.flatten_cons, List.length_append, List.length_cons]
    omega
theorem okF_len {l : List UInt8} {a : List Nat} (h : okF l = some a) : a.length ≤ l.length + 1 := by
  unfold okF at h
  split at h
  · rename_i b hb
    split at h
    · cases h
      have h1 := (mapM_arcs hb).1
      have h2 := congrArg List.length h1
      rw [List.length_map, splitL_len] at h2
      have := count_le l
      omega
    · cases h
  · cases h
theorem isOEncode : IsFn Tryz.prog 21 Tryz.f21 := ⟨Tryz.func21, by decide, rfl⟩
theorem c_oenc_bad (l : List UInt8) (hl : l.length ≤ 100000000) (h : okF l = none) : ACalls Tryz.prog envL 21 [sD l] (fun r => r = .d (.tup [.sl none [], .int .i64 8])) := by
  refine acalls_of ty_ok isOEncode rfl rfl ?_
  have hA := c_arcs l hl
  rw [arcsD, h] at hA
  repeat' (first | ((with_reducible show AWp _ _ _ _ _); (first | refine awp_seq ?_ | refine awp_block ?_ | refine awp_skip ?_ | refine awp_exit ?_ | refine awp_scope ?_ | refine awp_label ?_ | refine awp_run ty_ok rfl sd ?_ | refine awp_ret ⟨_, _, rfl, rfl, ?_⟩ | refine awp_ret ⟨_, rfl, ?_⟩ | ((refine awp_cond (ty := ty) rfl (fun hc => ?_) (fun hc => ?_)) <;> (try simp only [nms, reduceCtorEq] at hc) <;> (try (exfalso; omega))))) | ((with_reducible show AOps _ _ _ _ _ _); (first | refine aops_nil ?_ | refine aops_go ty_ok rfl rfl sd ?_ | refine aops_gate ty_ok rfl rfl rfl sd ?_ | refine aops_callE (ty := ty) rfl rfl rfl rfl rfl rfl rfl (hA) rfl ?_ | refine aops_litE ty_ok rfl rfl rfl rfl rfl rfl rfl rfl rfl rfl rfl rfl ?_ | refine aops_cutE ty_ok rfl rfl rfl rfl rfl rfl rfl rfl rfl sd rfl ?_ | ((fail_if_success (refine aops_known rfl ?_)); (refine aops_split ty_ok rfl rfl rfl rfl rfl rfl (fun hc => ⟨?_, ?_⟩) (fun hc => ⟨?_, ?_⟩)) <;> (try simp only [nms, reduceCtorEq] at hc) <;> (try (exfalso; omega)) <;> (try exact sd)))) | ((fail_if_success (with_reducible show AWp _ _ _ _ _)); (fail_if_success (with_reducible show AOps _ _ _ _ _ _)); (first | (show AWp _ _ _ _ _) | (show AOps _ _ _ _ _ _))))
  all_goals rfl
set_option maxHeartbeats 1000000 in
theorem c_oenc_ok (l : List UInt8) (a : List Nat) (hl : l.length ≤ 100000000) (h : okF l = some a) : ACalls Tryz.prog envL 21 [sD l] (fun r => r = .ownT none 5 (bys (encL a)) [.int .i64 0]) := by
  refine acalls_of ty_ok isOEncode rfl rfl ?_
  have hA := c_arcs l hl
  rw [arcsD, h] at hA
  have hal := okF_len h
  obtain ⟨_, hr, hn⟩ := okF_text h
  match a, hr, hn, hal, hA with
  | x :: y :: t, hr, hn, hal, hA =>
  have hx : ((u32s (x :: y :: t)).getD (Int.toNat 0) default).num = x := rfl
  have hy : ((u32s (x :: y :: t)).getD (Int.toNat 1) default).num = y := rfl
  have hlen : (u32s (x :: y :: t)).length = t.length + 2 := by simp [u32s]
  have hxy : 40 * x + y ≤ 4294967295 := by
    simp only [rightF, Bool.or_eq_true, Bool.and_eq_true, decide_eq_true_eq] at hr
    omega
  have htn : ∀ n ∈ t, n ≤ 4294967295 := fun n hm => hn n (by simp [hm])
  simp only [List.length_cons] at hal
  have hcut : cutL (u32s (x :: y :: t)) (Int.toNat 2) (u32s (x :: y :: t)).length = u32s t := by
    unfold cutL
    rw [List.take_length]
    rfl
  repeat' (first | ((with_reducible show AWp _ _ _ _ _); (first | refine awp_seq ?_ | refine awp_block ?_ | refine awp_skip ?_ | refine awp_exit ?_ | refine awp_scope ?_ | refine awp_label ?_ | refine awp_run ty_ok rfl sd ?_ | refine awp_ret ⟨_, _, rfl, rfl, ?_⟩ | refine awp_ret ⟨_, rfl, ?_⟩ | ((refine awp_cond (ty := ty) rfl (fun hc => ?_) (fun hc => ?_)) <;> (try simp only [nms, reduceCtorEq] at hc) <;> (try (exfalso; omega))) | refine awp_anyL 9 mixed rfl (by kernel_rfl) ?_)) | ((with_reducible show AOps _ _ _ _ _ _); (first | refine aops_nil ?_ | refine aops_go ty_ok rfl rfl sd ?_ | refine aops_gate ty_ok rfl rfl rfl sd ?_ | refine aops_callE (ty := ty) rfl rfl rfl rfl rfl rfl rfl (hA) rfl ?_ | refine aops_litE ty_ok rfl rfl rfl rfl rfl rfl rfl rfl rfl rfl rfl rfl ?_ | refine aops_cutE ty_ok rfl rfl rfl rfl rfl rfl rfl rfl rfl sd rfl ?_ | ((fail_if_success (refine aops_known rfl ?_)); (refine aops_split ty_ok rfl rfl rfl rfl rfl rfl (fun hc => ⟨?_, ?_⟩) (fun hc => ⟨?_, ?_⟩)) <;> (try simp only [nms, reduceCtorEq] at hc) <;> (try (exfalso; omega)) <;> (try exact sd)))) | ((with_reducible show HeadT _ _ _ _ _ _ _ _ _ _); (first | refine head_end ?_ | refine head_goP ty_ok rfl rfl sd ?_ | refine head_gate ty_ok rfl rfl rfl sd ?_ | refine head_callE (ty := ty) rfl rfl rfl rfl rfl rfl rfl (hA) rfl ?_ | ((fail_if_success (refine head_known rfl ?_)); (refine head_split ty_ok rfl rfl rfl rfl (fun hc => ⟨?_, ?_⟩) (fun hc => ⟨?_, ?_⟩)) <;> (try simp only [nms, reduceCtorEq] at hc) <;> (try (exfalso; omega)) <;> (try exact sd)))) | ((fail_if_success (with_reducible show AWp _ _ _ _ _)); (fail_if_success (with_reducible show AOps _ _ _ _ _ _)); (fail_if_success (with_reducible show HeadT _ _ _ _ _ _ _ _ _ _)); (first | (show AWp _ _ _ _ _) | (show AOps _ _ _ _ _ _))))
  refine aops_nilcell 0 0 5 rfl rfl rfl rfl ?_
  refine aops_ren (σ' := ⟨Tryz.f21.ntmps, [(4, .d (.sl none (u32s (x :: y :: t)))), (6, .ptr 0 0), (7, .fn 40 [.ptr 0 0]), (18, .fn 40 [.ptr 0 0]), (26, .d (.int .u32 ((40 * x + y : Nat) : Int)))], [(0, .box 25 [.ref 1]), (1, .row none 5 (bys []))], 2⟩) [(0, 0), (10, 1)]
    (SubR.mk' rfl rfl ⟨⟨_, rfl, rfl⟩, ⟨_, rfl, rfl⟩, ⟨_, rfl, rfl⟩, ⟨_, rfl, rfl⟩, ⟨_, rfl, congrArg (fun z : Int => AV.d (Dat.int IntKind.u32 z)) (by rw [hx, hy, IntKind.wrap_u32, IntKind.wrap_u32]; omega)⟩, trivial⟩ ⟨⟨_, _, rfl, rfl, rfl⟩, ⟨_, _, rfl, rfl, rfl⟩, trivial⟩) ?_
  refine aops_inline ty_ok rfl rfl rfl rfl rfl rfl isPut rfl rfl ?_
  refine put_in _ [] (40 * x + y) hxy (by simp) _ (fun ob h0 h3 => ?_)
  refine aops_ren (σ' := ⟨Tryz.f21.ntmps, [(4, .d (.sl none (u32s (x :: y :: t)))), (6, .ptr 0 0), (7, .fn 40 [.ptr 0 0])], [(0, .box 25 [.ref 1]), (1, .row none 5 (bys (b128 true (40 * x + y))))], 2⟩) [(0, 0), (3, 1)]
    (SubR.mk' rfl rfl ⟨⟨_, rfl, rfl⟩, ⟨_, rfl, rfl⟩, ⟨_, rfl, rfl⟩, trivial⟩ ⟨⟨_, _, rfl, h0, rfl⟩, ⟨_, _, rfl, h3, rfl⟩, trivial⟩) ?_
  refine aops_nil ?_
  have hb5 := b128_len32 true (40 * x + y) hxy
  repeat' (first | ((with_reducible show AWp _ _ _ _ _); (first | refine awp_seq ?_ | refine awp_block ?_ | refine awp_skip ?_ | refine awp_exit ?_ | refine awp_scope ?_ | refine awp_label ?_ | refine awp_run ty_ok rfl sd ?_ | refine awp_ret ⟨_, _, rfl, rfl, ?_⟩ | refine awp_ret ⟨_, rfl, ?_⟩ | ((refine awp_cond (ty := ty) rfl (fun hc => ?_) (fun hc => ?_)) <;> (try simp only [nms, reduceCtorEq] at hc) <;> (try (exfalso; omega))))) | ((with_reducible show AOps _ _ _ _ _ _); (first | refine aops_nil ?_ | refine aops_go ty_ok rfl rfl sd ?_ | refine aops_gate ty_ok rfl rfl rfl sd ?_ | refine aops_callE (ty := ty) rfl rfl rfl rfl rfl rfl rfl (hA) rfl ?_ | refine aops_litE ty_ok rfl rfl rfl rfl rfl rfl rfl rfl rfl rfl rfl rfl ?_ | refine aops_cutE ty_ok rfl rfl rfl rfl rfl rfl rfl rfl rfl sd rfl ?_ | ((fail_if_success (refine aops_known rfl ?_)); (refine aops_split ty_ok rfl rfl rfl rfl rfl rfl (fun hc => ⟨?_, ?_⟩) (fun hc => ⟨?_, ?_⟩)) <;> (try simp only [nms, reduceCtorEq] at hc) <;> (try (exfalso; omega)) <;> (try exact sd)))) | ((fail_if_success (with_reducible show AWp _ _ _ _ _)); (fail_if_success (with_reducible show AOps _ _ _ _ _ _)); (first | (show AWp _ _ _ _ _) | (show AOps _ _ _ _ _ _))))
  refine awp_loopR (G := { k : Nat // k ≤ t.length }) (fun k => ⟨Tryz.f21.ntmps, [(6, .ptr 0 0), (7, .fn 40 [.ptr 0 0]), (29, .d (.sl none (u32s t))), (30, .d (.int .i64 t.length)), (31, .d (.int .i64 k.1))], [(0, .box 25 [.ref 1]), (1, .row none 5 (bys (b128 true (40 * x + y) ++ ((t.take k.1).map (b128 true)).flatten)))], 2⟩) (fun k => t.length - k.1) ⟨0, Nat.zero_le _⟩ [(0, 0), (1, 1)]
    (SubR.mk' rfl rfl ⟨⟨_, rfl, rfl⟩, ⟨_, rfl, rfl⟩, ⟨_, rfl, congrArg (fun z => AV.d (Dat.sl none z)) hcut⟩, ⟨_, rfl, congrArg (fun z : Nat => AV.d (Dat.int IntKind.i64 z)) (by rw [hcut, u32s_len])⟩, ⟨_, rfl, rfl⟩, trivial⟩ ⟨⟨_, _, rfl, rfl, rfl⟩, ⟨_, _, rfl, rfl, congrArg (fun z => AO.row none 5 (bys z)) (by simp)⟩, trivial⟩) ?_
  rintro ⟨k, hk⟩
  dsimp only
  have hfl := flat_len (t.take k) (fun m hm => htn m (List.mem_of_mem_take hm))
  have htk : (t.take k).length ≤ t.length := by rw [List.length_take]; omega
  rcases Nat.lt_or_ge k t.length with hkl | hkl
  · have hnum := u32_at hkl
    have hnk := htn t[k] (List.getElem_mem _)
    repeat' (first | ((with_reducible show AWp _ _ _ _ _); (first | refine awp_seq ?_ | refine awp_block ?_ | refine awp_skip ?_ | refine awp_exit ?_ | refine awp_scope ?_ | refine awp_label ?_ | refine awp_run ty_ok rfl sd ?_ | refine awp_ret ⟨_, _, rfl, rfl, ?_⟩ | refine awp_ret ⟨_, rfl, ?_⟩ | ((refine awp_cond (ty := ty) rfl (fun hc => ?_) (fun hc => ?_)) <;> (try simp only [nms, reduceCtorEq] at hc) <;> (try (exfalso; omega))))) | ((with_reducible show AOps _ _ _ _ _ _); (first | refine aops_nil ?_ | refine aops_go ty_ok rfl rfl sd ?_ | refine aops_gate ty_ok rfl rfl rfl sd ?_ | refine aops_litE ty_ok rfl rfl rfl rfl rfl rfl rfl rfl rfl rfl rfl rfl ?_ | refine aops_cutE ty_ok rfl rfl rfl rfl rfl rfl rfl rfl rfl sd rfl ?_ | ((fail_if_success (refine aops_known rfl ?_)); (refine aops_split ty_ok rfl rfl rfl rfl rfl rfl (fun hc => ⟨?_, ?_⟩) (fun hc => ⟨?_, ?_⟩)) <;> (try simp only [nms, reduceCtorEq] at hc) <;> (try (exfalso; omega)) <;> (try exact sd)))) | ((fail_if_success (with_reducible show AWp _ _ _ _ _)); (fail_if_success (with_reducible show AOps _ _ _ _ _ _)); (first | (show AWp _ _ _ _ _) | (show AOps _ _ _ _ _ _))))
    refine aops_ren (σ' := ⟨Tryz.f21.ntmps, [(6, .ptr 0 0), (7, .fn 40 [.ptr 0 0]), (29, .d (.sl none (u32s t))), (30, .d (.int .i64 t.length)), (31, .d (.int .i64 k)), (35, .fn 40 [.ptr 0 0]), (36, .d (.int .u32 (t[k] : Nat)))], [(0, .box 25 [.ref 1]), (1, .row none 5 (bys (b128 true (40 * x + y) ++ ((t.take k).map (b128 true)).flatten)))], 2⟩) [(0, 0), (1, 1)]
      (SubR.mk' rfl rfl ⟨⟨_, rfl, rfl⟩, ⟨_, rfl, rfl⟩, ⟨_, rfl, rfl⟩, ⟨_, rfl, rfl⟩, ⟨_, rfl, rfl⟩, ⟨_, rfl, rfl⟩, ⟨_, rfl, congrArg (fun z : Int => AV.d (Dat.int IntKind.u32 z)) hnum⟩, trivial⟩ ⟨⟨_, _, rfl, rfl, rfl⟩, ⟨_, _, rfl, rfl, rfl⟩, trivial⟩) ?_
    refine aops_inline ty_ok rfl rfl rfl rfl rfl rfl isPut rfl rfl ?_
    refine put_in _ _ t[k] hnk (by rw [List.length_append]; omega) _ (fun ob h0 h3 => ?_)
    refine aops_ren (σ' := ⟨Tryz.f21.ntmps, [(6, .ptr 0 0), (7, .fn 40 [.ptr 0 0]), (29, .d (.sl none (u32s t))), (30, .d (.int .i64 t.length)), (31, .d (.int .i64 k))], [(0, .box 25 [.ref 1]), (1, .row none 5 (bys ((b128 true (40 * x + y) ++ ((t.take k).map (b128 true)).flatten) ++ b128 true t[k])))], 2⟩) [(0, 0), (3, 1)]
      (SubR.mk' rfl rfl ⟨⟨_, rfl, rfl⟩, ⟨_, rfl, rfl⟩, ⟨_, rfl, rfl⟩, ⟨_, rfl, rfl⟩, ⟨_, rfl, rfl⟩, trivial⟩ ⟨⟨_, _, rfl, h0, rfl⟩, ⟨_, _, rfl, h3, rfl⟩, trivial⟩) ?_
    refine aops_nil ?_
    repeat' (first | ((with_reducible show AWp _ _ _ _ _); (first | refine awp_seq ?_ | refine awp_block ?_ | refine awp_skip ?_ | refine awp_exit ?_ | refine awp_scope ?_ | refine awp_label ?_ | refine awp_run ty_ok rfl sd ?_ | refine awp_ret ⟨_, _, rfl, rfl, ?_⟩ | refine awp_ret ⟨_, rfl, ?_⟩ | ((refine awp_cond (ty := ty) rfl (fun hc => ?_) (fun hc => ?_)) <;> (try simp only [nms, reduceCtorEq] at hc) <;> (try (exfalso; omega))))) | ((with_reducible show AOps _ _ _ _ _ _); (first | refine aops_nil ?_ | refine aops_go ty_ok rfl rfl sd ?_ | refine aops_gate ty_ok rfl rfl rfl sd ?_ | refine aops_litE ty_ok rfl rfl rfl rfl rfl rfl rfl rfl rfl rfl rfl rfl ?_ | refine aops_cutE ty_ok rfl rfl rfl rfl rfl rfl rfl rfl rfl sd rfl ?_ | ((fail_if_success (refine aops_known rfl ?_)); (refine aops_split ty_ok rfl rfl rfl rfl rfl rfl (fun hc => ⟨?_, ?_⟩) (fun hc => ⟨?_, ?_⟩)) <;> (try simp only [nms, reduceCtorEq] at hc) <;> (try (exfalso; omega)) <;> (try exact sd)))) | ((fail_if_success (with_reducible show AWp _ _ _ _ _)); (fail_if_success (with_reducible show AOps _ _ _ _ _ _)); (first | (show AWp _ _ _ _ _) | (show AOps _ _ _ _ _ _))))
    refine ⟨⟨k + 1, hkl⟩, [(0, 0), (1, 1)], SubR.mk' rfl rfl ⟨⟨_, rfl, rfl⟩, ⟨_, rfl, rfl⟩, ⟨_, rfl, rfl⟩, ⟨_, rfl, rfl⟩, ⟨_, rfl, rfl⟩, trivial⟩ ⟨⟨_, _, rfl, rfl, rfl⟩, ⟨_, _, rfl, rfl, congrArg (fun z => AO.row none 5 (bys z)) ?_⟩, trivial⟩, by simp only; omega⟩
    rw [flat_take (b128 true) t k hkl, List.append_assoc]
  · have hke : k = t.length := by omega
    subst hke
    repeat' (first | ((with_reducible show AWp _ _ _ _ _); (first | refine awp_seq ?_ | refine awp_block ?_ | refine awp_skip ?_ | refine awp_exit ?_ | refine awp_scope ?_ | refine awp_label ?_ | refine awp_run ty_ok rfl sd ?_ | refine awp_ret ⟨_, _, rfl, rfl, ?_⟩ | refine awp_ret ⟨_, rfl, ?_⟩ | ((refine awp_cond (ty := ty) rfl (fun hc => ?_) (fun hc => ?_)) <;> (try simp only [nms, reduceCtorEq] at hc) <;> (try (exfalso; omega))))) | ((with_reducible show AOps _ _ _ _ _ _); (first | refine aops_nil ?_ | refine aops_go ty_ok rfl rfl sd ?_ | refine aops_gate ty_ok rfl rfl rfl sd ?_ | refine aops_litE ty_ok rfl rfl rfl rfl rfl rfl rfl rfl rfl rfl rfl rfl ?_ | refine aops_cutE ty_ok rfl rfl rfl rfl rfl rfl rfl rfl rfl sd rfl ?_ | ((fail_if_success (refine aops_known rfl ?_)); (refine aops_split ty_ok rfl rfl rfl rfl rfl rfl (fun hc => ⟨?_, ?_⟩) (fun hc => ⟨?_, ?_⟩)) <;> (try simp only [nms, reduceCtorEq] at hc) <;> (try (exfalso; omega)) <;> (try exact sd)))) | ((fail_if_success (with_reducible show AWp _ _ _ _ _)); (fail_if_success (with_reducible show AOps _ _ _ _ _ _)); (first | (show AWp _ _ _ _ _) | (show AOps _ _ _ _ _ _))))
    simp only [encL, List.take_length]
end Go.Proofs.YtbbakpmedpcigaaGreatDoor

/- Lists of purposes: Valid and Marshal. Walked by the abstract machine. -/
namespace Go.Proofs.YtbbakpmedpcigaaGreatDoor
open Go.Am
set_option linter.unusedSimpArgs false
set_option linter.unusedVariables false

/-- The encoding of an object identifier. -/
def encO (s : List UInt8) : List UInt8 := match okF s with
  | some a => encL a
  | none => []
theorem encL_len {a : List Nat} (h : ∀ n ∈ a, n ≤ 4294967295) (hr : rightF a = true) : (encL a).length ≤ 5 * a.length := by
  match a, hr with
  | x :: y :: t, hr =>
    have h1 : 40 * x + y ≤ 4294967295 := by
      simp only [rightF, Bool.or_eq_true, Bool.and_eq_true, decide_eq_true_eq] at hr
      omega
    have h2 := b128_len32 true _ h1
    have h3 := flat_len t (fun n hn => h n (by simp [hn]))
    simp only [encL, List.length_append, List.length_cons]
    omega
theorem encO_len (s : List UInt8) : (encO s).length ≤ 5 * (s.length + 1) := by
  unfold encO
  cases h : okF s with
  | none => simp
  | some a =>
    obtain ⟨_, hr, hn⟩ := okF_text h
    have h1 := encL_len hn hr
    have h2 := okF_len h
    simp only
    omega
def objF (s : List UInt8) : List UInt8 := putF 6 (encO s)
theorem objF_len (s : List UInt8) : (objF s).length ≤ 5 * s.length + 15 := by
  have h1 := encO_len s
  have h2 := hsz_le (encO s)
  rw [objF, putF_len]
  omega
def usV (l : List (List UInt8)) : Bool := !l.isEmpty && l.all oidV
/-- The encoding of a list of purposes. -/
def usF (l : List (List UInt8)) : List UInt8 := putF 48 (l.map objF).flatten
theorem objs_len (l : List (List UInt8)) (B : Nat) (h : ∀ s ∈ l, s.length ≤ B) : (l.map objF).flatten.length ≤ l.length * (5 * B + 15) := by
  induction l with
  | nil => simp
  | cons s r ih =>
    have h1 := objF_len s
    have h2 := h s (List.mem_cons_self ..)
    have h3 := ih fun t ht => h t (List.mem_cons_of_mem _ ht)
    rw [List.map_cons, List.flatten_cons, List.length_append, List.length_cons, Nat.add_mul, Nat.one_mul]
    have h4 : 5 * s.length ≤ 5 * B := Nat.mul_le_mul_left 5 h2
    omega
theorem objs_cat (l : List (List UInt8)) : (l.map objF).flatten = catF (l.map fun s => (6, encO s)) := by
  induction l with
  | nil => rfl
  | cons s r ih => simp [catF, ih, objF]
theorem goodO (l : List (List UInt8)) (h : (l.map objF).flatten.length ≤ 2147483647) : ∀ t ∈ l.map (fun s => ((6 : UInt8), encO s)), goodT t := by
  intro t ht
  obtain ⟨s, hs, rfl⟩ := List.mem_map.1 ht
  refine ⟨by show (6 : UInt8).toNat % 32 ≠ 31; decide, ?_⟩
  have h1 : (objF s).length ≤ (l.map objF).flatten.length := (List.sublist_flatten_of_mem (List.mem_map.2 ⟨s, hs, rfl⟩)).length_le
  have h2 : (objF s).length = _ := putF_len 6 (encO s)
  simp only
  omega
theorem c_oenc_okO (s : List UInt8) (hl : s.length ≤ 100000000) (h : oidV s = true) : ACalls Tryz.prog envL 21 [sD s] (fun r => r = .ownT none 5 (bys (encO s)) [.int .i64 0]) := by
  unfold oidV at h
  unfold encO
  cases ho : okF s with
  | none => rw [ho] at h; cases h
  | some a => exact c_oenc_ok s a hl ho
theorem isContainsFunc : IsFn Tryz.prog 26 Tryz.f26 := ⟨Tryz.func26, by decide, rfl⟩
theorem isIndexFunc : IsFn Tryz.prog 46 Tryz.f46 := ⟨Tryz.func46, by decide, rfl⟩
theorem isUValid1 : IsFn Tryz.prog 27 Tryz.f27 := ⟨Tryz.func27, by decide, rfl⟩
theorem c_uvalid1 (s : List UInt8) (hl : s.length ≤ 100000000) : ACalls Tryz.prog envL 27 [sD s] (fun r => r = .d (.bool (!oidV s))) := by
  refine acalls_of ty_ok isUValid1 rfl rfl ?_
  repeat' (first | ((with_reducible show AWp _ _ _ _ _); (first | refine awp_seq ?_ | refine awp_block ?_ | refine awp_skip ?_ | refine awp_exit ?_ | refine awp_scope ?_ | refine awp_label ?_ | refine awp_run ty_ok rfl sd ?_ | refine awp_ret ⟨_, _, rfl, rfl, ?_⟩ | refine awp_ret ⟨_, rfl, ?_⟩ | ((refine awp_cond (ty := ty) rfl (fun hc => ?_) (fun hc => ?_)) <;> (try simp only [nms, reduceCtorEq] at hc) <;> (try (exfalso; omega))))) | ((with_reducible show AOps _ _ _ _ _ _); (first | refine aops_nil ?_ | refine aops_go ty_ok rfl rfl sd ?_ | refine aops_gate ty_ok rfl rfl rfl sd ?_ | refine aops_callE (ty := ty) rfl rfl rfl rfl rfl rfl rfl (c_ovalid s hl) rfl ?_ | refine aops_litE ty_ok rfl rfl rfl rfl rfl rfl rfl rfl rfl rfl rfl rfl ?_ | refine aops_cutE ty_ok rfl rfl rfl rfl rfl rfl rfl rfl rfl sd rfl ?_ | ((fail_if_success (refine aops_known rfl ?_)); (refine aops_split ty_ok rfl rfl rfl rfl rfl rfl (fun hc => ⟨?_, ?_⟩) (fun hc => ⟨?_, ?_⟩)) <;> (try simp only [nms, reduceCtorEq] at hc) <;> (try (exfalso; omega)) <;> (try exact sd)))) | ((fail_if_success (with_reducible show AWp _ _ _ _ _)); (fail_if_success (with_reducible show AOps _ _ _ _ _ _)); (first | (show AWp _ _ _ _ _) | (show AOps _ _ _ _ _ _))))
  rfl
theorem isUValid : IsFn Tryz.prog 13 Tryz.f13 := ⟨Tryz.func13, by decide, rfl⟩
set_option maxHeartbeats 1000000 in
theorem c_uvalid (l : List (List UInt8)) (hn : l.length ≤ 10000) (hl : ∀ s ∈ l, s.length ≤ 100000000) : ACalls Tryz.prog envL 13 [.sl none (strs l)] (fun r => r = .d (.bool (usV l))) := by
  refine acalls_of ty_ok isUValid rfl rfl ?_
  match l, hn, hl with
  | [], _, _ =>
    repeat' (first | ((with_reducible show AWp _ _ _ _ _); (first | refine awp_seq ?_ | refine awp_block ?_ | refine awp_skip ?_ | refine awp_exit ?_ | refine awp_scope ?_ | refine awp_label ?_ | refine awp_run ty_ok rfl sd ?_ | refine awp_ret ⟨_, _, rfl, rfl, ?_⟩ | refine awp_ret ⟨_, rfl, ?_⟩ | ((refine awp_cond (ty := ty) rfl (fun hc => ?_) (fun hc => ?_)) <;> (try simp only [nms, reduceCtorEq] at hc) <;> (try (exfalso; omega))))) | ((with_reducible show AOps _ _ _ _ _ _); (first | refine aops_nil ?_ | refine aops_go ty_ok rfl rfl sd ?_ | refine aops_gate ty_ok rfl rfl rfl sd ?_ | refine aops_litE ty_ok rfl rfl rfl rfl rfl rfl rfl rfl rfl rfl rfl rfl ?_ | refine aops_cutE ty_ok rfl rfl rfl rfl rfl rfl rfl rfl rfl sd rfl ?_ | ((fail_if_success (refine aops_known rfl ?_)); (refine aops_split ty_ok rfl rfl rfl rfl rfl rfl (fun hc => ⟨?_, ?_⟩) (fun hc => ⟨?_, ?_⟩)) <;> (try simp only [nms, reduceCtorEq] at hc) <;> (try (exfalso; omega)) <;> (try exact sd)))) | ((fail_if_success (with_reducible show AWp _ _ _ _ _)); (fail_if_success (with_reducible show AOps _ _ _ _ _ _)); (first | (show AWp _ _ _ _ _) | (show AOps _ _ _ _ _ _))))
    all_goals rfl
  | p :: r, hn, hl =>
    have hlen : (strs (p :: r)).length = r.length + 1 := by simp [strs_len]
    obtain ⟨l, hle⟩ : ∃ l, l = p :: r := ⟨_, rfl⟩
    have hv : usV (p :: r) = l.all oidV := by rw [hle]; rfl
    rw [hv]
    have hl0 : 0 < l.length := by rw [hle]; simp
    rw [← hle] at hlen hn hl ⊢
    repeat' (first | ((with_reducible show AWp _ _ _ _ _); (first | refine awp_seq ?_ | refine awp_block ?_ | refine awp_skip ?_ | refine awp_exit ?_ | refine awp_scope ?_ | refine awp_label ?_ | refine awp_run ty_ok rfl sd ?_ | refine awp_ret ⟨_, _, rfl, rfl, ?_⟩ | refine awp_ret ⟨_, rfl, ?_⟩ | ((refine awp_cond (ty := ty) rfl (fun hc => ?_) (fun hc => ?_)) <;> (try simp only [nms, reduceCtorEq] at hc) <;> (try (exfalso; omega))))) | ((with_reducible show AOps _ _ _ _ _ _); (first | refine aops_nil ?_ | refine aops_go ty_ok rfl rfl sd ?_ | refine aops_gate ty_ok rfl rfl rfl sd ?_ | refine aops_inline ty_ok rfl rfl rfl rfl rfl rfl isContainsFunc rfl rfl ?_ | refine aops_inline ty_ok rfl rfl rfl rfl rfl rfl isIndexFunc rfl rfl ?_ | refine aops_litE ty_ok rfl rfl rfl rfl rfl rfl rfl rfl rfl rfl rfl rfl ?_ | refine aops_cutE ty_ok rfl rfl rfl rfl rfl rfl rfl rfl rfl sd rfl ?_ | ((fail_if_success (refine aops_known rfl ?_)); (refine aops_split ty_ok rfl rfl rfl rfl rfl rfl (fun hc => ⟨?_, ?_⟩) (fun hc => ⟨?_, ?_⟩)) <;> (try simp only [nms, reduceCtorEq] at hc) <;> (try (exfalso; omega)) <;> (try exact sd)))) | ((fail_if_success (with_reducible show AWp _ _ _ _ _)); (fail_if_success (with_reducible show AOps _ _ _ _ _ _)); (first | (show AWp _ _ _ _ _) | (show AOps _ _ _ _ _ _))))
    refine awp_loopR (G := { k : Nat // k ≤ l.length ∧ (l.take k).all oidV = true }) (fun k => ⟨Tryz.f46.ntmps, [(0, .d (.sl none (strs l))), (1, .fn 27 []), (7, .d (.int .i64 l.length)), (8, .d (.int .i64 k.1))], [], 0⟩) (fun k => l.length - k.1) ⟨0, Nat.zero_le _, rfl⟩ []
      (SubR.mk' rfl rfl ⟨⟨_, rfl, rfl⟩, ⟨_, rfl, rfl⟩, ⟨_, rfl, congrArg (fun z : Nat => AV.d (Dat.int IntKind.i64 z)) (strs_len _)⟩, ⟨_, rfl, rfl⟩, trivial⟩ trivial) ?_
    rintro ⟨k, hk, ha⟩
    dsimp only
    rcases Nat.lt_or_ge k l.length with hkl | hkl
    · have hc1 := c_uvalid1 l[k] (hl _ (List.getElem_mem _))
      unfold sD at hc1
      rw [← str_at hkl] at hc1
      have ht : l.take (k + 1) = l.take k ++ [l[k]] := List.take_succ_eq_append_getElem hkl
      cases ho : oidV l[k] with
      | true =>
        rw [ho] at hc1
        repeat' (first | ((with_reducible show AWp _ _ _ _ _); (first | refine awp_seq ?_ | refine awp_block ?_ | refine awp_skip ?_ | refine awp_exit ?_ | refine awp_scope ?_ | refine awp_label ?_ | refine awp_run ty_ok rfl sd ?_ | refine awp_ret ⟨_, _, rfl, rfl, ?_⟩ | refine awp_ret ⟨_, rfl, ?_⟩ | ((refine awp_cond (ty := ty) rfl (fun hc => ?_) (fun hc => ?_)) <;> (try simp only [nms, reduceCtorEq] at hc) <;> (try (exfalso; omega))))) | ((with_reducible show AOps _ _ _ _ _ _); (first | refine aops_nil ?_ | refine aops_go ty_ok rfl rfl sd ?_ | refine aops_gate ty_ok rfl rfl rfl sd ?_ | refine aops_callE (ty := ty) rfl rfl rfl rfl rfl rfl rfl (hc1) rfl ?_ | refine aops_litE ty_ok rfl rfl rfl rfl rfl rfl rfl rfl rfl rfl rfl rfl ?_ | refine aops_cutE ty_ok rfl rfl rfl rfl rfl rfl rfl rfl rfl sd rfl ?_ | ((fail_if_success (refine aops_known rfl ?_)); (refine aops_split ty_ok rfl rfl rfl rfl rfl rfl (fun hc => ⟨?_, ?_⟩) (fun hc => ⟨?_, ?_⟩)) <;> (try simp only [nms, reduceCtorEq] at hc) <;> (try (exfalso; omega)) <;> (try exact sd)))) | ((fail_if_success (with_reducible show AWp _ _ _ _ _)); (fail_if_success (with_reducible show AOps _ _ _ _ _ _)); (first | (show AWp _ _ _ _ _) | (show AOps _ _ _ _ _ _))))
        refine ⟨⟨k + 1, hkl, ?_⟩, [], SubR.mk' rfl rfl ⟨⟨_, rfl, rfl⟩, ⟨_, rfl, rfl⟩, ⟨_, rfl, rfl⟩, ⟨_, rfl, rfl⟩, trivial⟩ trivial, by simp only; omega⟩
        rw [ht, List.all_append, ha]
        simp [ho]
      | false =>
        rw [ho] at hc1
        have hf : l.all oidV = false := by
          rw [List.all_eq_false]
          exact ⟨l[k], List.getElem_mem _, by simp [ho]⟩
        rw [hf]
        repeat' (first | ((with_reducible show AWp _ _ _ _ _); (first | refine awp_seq ?_ | refine awp_block ?_ | refine awp_skip ?_ | refine awp_exit ?_ | refine awp_scope ?_ | refine awp_label ?_ | refine awp_run ty_ok rfl sd ?_ | refine awp_ret ⟨_, _, rfl, rfl, ?_⟩ | refine awp_ret ⟨_, rfl, ?_⟩ | ((refine awp_cond (ty := ty) rfl (fun hc => ?_) (fun hc => ?_)) <;> (try simp only [nms, reduceCtorEq] at hc) <;> (try (exfalso; omega))))) | ((with_reducible show AOps _ _ _ _ _ _); (first | refine aops_nil ?_ | refine aops_go ty_ok rfl rfl sd ?_ | refine aops_gate ty_ok rfl rfl rfl sd ?_ | refine aops_callE (ty := ty) rfl rfl rfl rfl rfl rfl rfl (hc1) rfl ?_ | refine aops_litE ty_ok rfl rfl rfl rfl rfl rfl rfl rfl rfl rfl rfl rfl ?_ | refine aops_cutE ty_ok rfl rfl rfl rfl rfl rfl rfl rfl rfl sd rfl ?_ | ((fail_if_success (refine aops_known rfl ?_)); (refine aops_split ty_ok rfl rfl rfl rfl rfl rfl (fun hc => ⟨?_, ?_⟩) (fun hc => ⟨?_, ?_⟩)) <;> (try simp only [nms, reduceCtorEq] at hc) <;> (try (exfalso; omega)) <;> (try exact sd)))) | ((fail_if_success (with_reducible show AWp _ _ _ _ _)); (fail_if_success (with_reducible show AOps _ _ _ _ _ _)); (first | (show AWp _ _ _ _ _) | (show AOps _ _ _ _ _ _))))
        have hk0 : (k : Int) ≥ 0 := Int.natCast_nonneg k
        rw [decide_eq_true hk0]
        rfl
    · have hke : k = l.length := by omega
      subst hke
      rw [List.take_length] at ha
      rw [ha]
      repeat' (first | ((with_reducible show AWp _ _ _ _ _); (first | refine awp_seq ?_ | refine awp_block ?_ | refine awp_skip ?_ | refine awp_exit ?_ | refine awp_scope ?_ | refine awp_label ?_ | refine awp_run ty_ok rfl sd ?_ | refine awp_ret ⟨_, _, rfl, rfl, ?_⟩ | refine awp_ret ⟨_, rfl, ?_⟩ | ((refine awp_cond (ty := ty) rfl (fun hc => ?_) (fun hc => ?_)) <;> (try simp only [nms, reduceCtorEq] at hc) <;> (try (exfalso; omega))))) | ((with_reducible show AOps _ _ _ _ _ _); (first | refine aops_nil ?_ | refine aops_go ty_ok rfl rfl sd ?_ | refine aops_gate ty_ok rfl rfl rfl sd ?_ | refine aops_litE ty_ok rfl rfl rfl rfl rfl rfl rfl rfl rfl rfl rfl rfl ?_ | refine aops_cutE ty_ok rfl rfl rfl rfl rfl rfl rfl rfl rfl sd rfl ?_ | ((fail_if_success (refine aops_known rfl ?_)); (refine aops_split ty_ok rfl rfl rfl rfl rfl rfl (fun hc => ⟨?_, ?_⟩) (fun hc => ⟨?_, ?_⟩)) <;> (try simp only [nms, reduceCtorEq] at hc) <;> (try (exfalso; omega)) <;> (try exact sd)))) | ((fail_if_success (with_reducible show AWp _ _ _ _ _)); (fail_if_success (with_reducible show AOps _ _ _ _ _ _)); (first | (show AWp _ _ _ _ _) | (show AOps _ _ _ _ _ _))))
      all_goals rfl

theorem byss_take (l : List (List UInt8)) (k : Nat) (h : k < l.length) : byss ((l.take (k + 1)).map objF) = byss ((l.take k).map objF) ++ [.sl none (bys (objF l[k]))] := by
  rw [List.take_succ_eq_append_getElem h, List.map_append, byss, byss, List.map_append]
  rfl
theorem usV_all {l : List (List UInt8)} (h : usV l = true) : ∀ s ∈ l, oidV s = true := by
  unfold usV at h
  rw [Bool.and_eq_true] at h
  exact List.all_eq_true.1 h.2
def usR (l : List (List UInt8)) : Res := match usV l with
  | true => .ownT none 5 (bys (usF l)) [.int .i64 0]
  | false => .d (.tup [.sl none [], .int .i64 8])
theorem isUMarshal : IsFn Tryz.prog 10 Tryz.f10 := ⟨Tryz.func10, by decide, rfl⟩
set_option maxHeartbeats 1000000 in
theorem c_umarshal (l : List (List UInt8)) (hn : l.length ≤ 10000) (hl : ∀ s ∈ l, s.length ≤ 200000) (hF : (l.map objF).flatten.length ≤ 2000000000) : ACalls Tryz.prog envL 10 [.sl none (strs l)] (fun r => r = usR l) := by
  refine acalls_of ty_ok isUMarshal rfl rfl ?_
  have hc1 := c_uvalid l hn (fun s hs => Nat.le_trans (hl s hs) (by omega))
  unfold usR
  cases hv : usV l with
  | false =>
    rw [hv] at hc1
    repeat' (first | ((with_reducible show AWp _ _ _ _ _); (first | refine awp_seq ?_ | refine awp_block ?_ | refine awp_skip ?_ | refine awp_exit ?_ | refine awp_scope ?_ | refine awp_label ?_ | refine awp_run ty_ok rfl sd ?_ | refine awp_ret ⟨_, _, rfl, rfl, ?_⟩ | refine awp_ret ⟨_, rfl, ?_⟩ | ((refine awp_cond (ty := ty) rfl (fun hc => ?_) (fun hc => ?_)) <;> (try simp only [nms, reduceCtorEq] at hc) <;> (try (exfalso; omega))))) | ((with_reducible show AOps _ _ _ _ _ _); (first | refine aops_nil ?_ | refine aops_go ty_ok rfl rfl sd ?_ | refine aops_gate ty_ok rfl rfl rfl sd ?_ | refine aops_callE (ty := ty) rfl rfl rfl rfl rfl rfl rfl (hc1) rfl ?_ | refine aops_litE ty_ok rfl rfl rfl rfl rfl rfl rfl rfl rfl rfl rfl rfl ?_ | refine aops_cutE ty_ok rfl rfl rfl rfl rfl rfl rfl rfl rfl sd rfl ?_ | ((fail_if_success (refine aops_known rfl ?_)); (refine aops_split ty_ok rfl rfl rfl rfl rfl rfl (fun hc => ⟨?_, ?_⟩) (fun hc => ⟨?_, ?_⟩)) <;> (try simp only [nms, reduceCtorEq] at hc) <;> (try (exfalso; omega)) <;> (try exact sd)))) | ((fail_if_success (with_reducible show AWp _ _ _ _ _)); (fail_if_success (with_reducible show AOps _ _ _ _ _ _)); (first | (show AWp _ _ _ _ _) | (show AOps _ _ _ _ _ _))))
    rfl
  | true =>
    rw [hv] at hc1
    have hall := usV_all hv
    repeat' (first | ((with_reducible show AWp _ _ _ _ _); (first | refine awp_seq ?_ | refine awp_block ?_ | refine awp_skip ?_ | refine awp_exit ?_ | refine awp_scope ?_ | refine awp_label ?_ | refine awp_run ty_ok rfl sd ?_ | refine awp_ret ⟨_, _, rfl, rfl, ?_⟩ | refine awp_ret ⟨_, rfl, ?_⟩ | ((refine awp_cond (ty := ty) rfl (fun hc => ?_) (fun hc => ?_)) <;> (try simp only [nms, reduceCtorEq] at hc) <;> (try (exfalso; omega))))) | ((with_reducible show AOps _ _ _ _ _ _); (first | refine aops_nil ?_ | refine aops_go ty_ok rfl rfl sd ?_ | refine aops_gate ty_ok rfl rfl rfl sd ?_ | refine aops_callE (ty := ty) rfl rfl rfl rfl rfl rfl rfl (hc1) rfl ?_ | refine aops_litE ty_ok rfl rfl rfl rfl rfl rfl rfl rfl rfl rfl rfl rfl ?_ | refine aops_cutE ty_ok rfl rfl rfl rfl rfl rfl rfl rfl rfl sd rfl ?_ | ((fail_if_success (refine aops_known rfl ?_)); (refine aops_split ty_ok rfl rfl rfl rfl rfl rfl (fun hc => ⟨?_, ?_⟩) (fun hc => ⟨?_, ?_⟩)) <;> (try simp only [nms, reduceCtorEq] at hc) <;> (try (exfalso; omega)) <;> (try exact sd)))) | ((fail_if_success (with_reducible show AWp _ _ _ _ _)); (fail_if_success (with_reducible show AOps _ _ _ _ _ _)); (first | (show AWp _ _ _ _ _) | (show AOps _ _ _ _ _ _))))
    refine awp_nilrow 4 25 rfl ?_
    refine awp_loopR (G := { k : Nat // k ≤ l.length }) (fun k => ⟨Tryz.f10.ntmps, [(4, .ref 0), (13, .d (.sl none (strs l))), (14, .d (.int .i64 l.length)), (15, .d (.int .i64 k.1))], [(0, .row none 25 (byss ((l.take k.1).map objF)))], 1⟩) (fun k => l.length - k.1) ⟨0, Nat.zero_le _⟩ [(0, 0)]
      (SubR.mk' rfl rfl ⟨⟨_, rfl, rfl⟩, ⟨_, rfl, rfl⟩, ⟨_, rfl, congrArg (fun z : Nat => AV.d (Dat.int IntKind.i64 z)) (strs_len _)⟩, ⟨_, rfl, rfl⟩, trivial⟩ ⟨⟨_, _, rfl, rfl, rfl⟩, trivial⟩) ?_
    rintro ⟨k, hk⟩
    dsimp only
    rcases Nat.lt_or_ge k l.length with hkl | hkl
    · have hm : l[k] ∈ l := List.getElem_mem _
      have hc2 := c_oenc_okO l[k] (Nat.le_trans (hl _ hm) (by omega)) (hall _ hm)
      unfold sD at hc2
      rw [← str_at hkl] at hc2
      have he := encO_len l[k]
      have hlk := hl _ hm
      have hc3 := c_wrap (envL.at 0) 0 6 false [encO l[k]] (by omega) (by omega) (by simp) (by simp; omega)
      repeat' (first | ((with_reducible show AWp _ _ _ _ _); (first | refine awp_seq ?_ | refine awp_block ?_ | refine awp_skip ?_ | refine awp_exit ?_ | refine awp_scope ?_ | refine awp_label ?_ | refine awp_run ty_ok rfl sd ?_ | refine awp_ret ⟨_, _, rfl, rfl, ?_⟩ | refine awp_ret ⟨_, rfl, ?_⟩ | ((refine awp_cond (ty := ty) rfl (fun hc => ?_) (fun hc => ?_)) <;> (try simp only [nms, reduceCtorEq] at hc) <;> (try (exfalso; omega))))) | ((with_reducible show AOps _ _ _ _ _ _); (first | refine aops_nil ?_ | refine aops_go ty_ok rfl rfl sd ?_ | refine aops_gate ty_ok rfl rfl rfl sd ?_ | refine aops_callE (ty := ty) rfl rfl rfl rfl rfl rfl rfl (hc2) rfl ?_ | refine aops_callE (ty := ty) rfl rfl rfl rfl rfl rfl rfl (hc3) rfl ?_ | refine aops_litE ty_ok rfl rfl rfl rfl rfl rfl rfl rfl rfl rfl rfl rfl ?_ | refine aops_cutE ty_ok rfl rfl rfl rfl rfl rfl rfl rfl rfl sd rfl ?_ | ((fail_if_success (refine aops_known rfl ?_)); (refine aops_split ty_ok rfl rfl rfl rfl rfl rfl (fun hc => ⟨?_, ?_⟩) (fun hc => ⟨?_, ?_⟩)) <;> (try simp only [nms, reduceCtorEq] at hc) <;> (try (exfalso; omega)) <;> (try exact sd)))) | ((fail_if_success (with_reducible show AWp _ _ _ _ _)); (fail_if_success (with_reducible show AOps _ _ _ _ _ _)); (first | (show AWp _ _ _ _ _) | (show AOps _ _ _ _ _ _))))
      refine ⟨⟨k + 1, hkl⟩, [(5, 0)], SubR.mk' rfl rfl ⟨⟨_, rfl, rfl⟩, ⟨_, rfl, rfl⟩, ⟨_, rfl, rfl⟩, ⟨_, rfl, rfl⟩, trivial⟩ ⟨⟨_, _, rfl, rfl, congrArg (AO.row none 25) ?_⟩, trivial⟩, by simp only; omega⟩
      rw [byss_take l k hkl]
      simp [objF, idB]
    · have hke : k = l.length := by omega
      subst hke
      rw [List.take_length]
      repeat' (first | ((with_reducible show AWp _ _ _ _ _); (first | refine awp_seq ?_ | refine awp_block ?_ | refine awp_skip ?_ | refine awp_exit ?_ | refine awp_scope ?_ | refine awp_label ?_ | refine awp_run ty_ok rfl sd ?_ | refine awp_ret ⟨_, _, rfl, rfl, ?_⟩ | refine awp_ret ⟨_, rfl, ?_⟩ | ((refine awp_cond (ty := ty) rfl (fun hc => ?_) (fun hc => ?_)) <;> (try simp only [nms, reduceCtorEq] at hc) <;> (try (exfalso; omega))))) | ((with_reducible show AOps _ _ _ _ _ _); (first | refine aops_nil ?_ | refine aops_go ty_ok rfl rfl sd ?_ | refine aops_gate ty_ok rfl rfl rfl sd ?_ | refine aops_callE (ty := ty) rfl rfl rfl rfl rfl rfl rfl (c_sequence _ (l.map objF) (by simp; omega) (by omega)) rfl ?_ | refine aops_litE ty_ok rfl rfl rfl rfl rfl rfl rfl rfl rfl rfl rfl rfl ?_ | refine aops_cutE ty_ok rfl rfl rfl rfl rfl rfl rfl rfl rfl sd rfl ?_ | ((fail_if_success (refine aops_known rfl ?_)); (refine aops_split ty_ok rfl rfl rfl rfl rfl rfl (fun hc => ⟨?_, ?_⟩) (fun hc => ⟨?_, ?_⟩)) <;> (try simp only [nms, reduceCtorEq] at hc) <;> (try (exfalso; omega)) <;> (try exact sd)))) | ((fail_if_success (with_reducible show AWp _ _ _ _ _)); (fail_if_success (with_reducible show AOps _ _ _ _ _ _)); (first | (show AWp _ _ _ _ _) | (show AOps _ _ _ _ _ _))))
      rfl
end Go.Proofs.YtbbakpmedpcigaaGreatDoor

/- What the laws of key usages ask first; the laws UsageKeyMarshals and UsageKeyParses. Walked by the abstract machine. -/
namespace Go.Proofs.YtbbakpmedpcigaaGreatDoor
open Go.Am
set_option linter.unusedSimpArgs false
set_option linter.unusedVariables false

theorem fields_of {P : Program} {t : TypeId} {fs : Array Field} (h : P.underlying t = some (.struct fs)) : P.fieldsOf t = fs := by
  unfold Program.fieldsOf
  rw [h]
theorem errEq : EqInts Tryz.prog 31 where
  guard := by kernel_rfl
  eq w a b c d := by
    have hu := Tryz.underlying31
    have hf := fields_of hu
    unfold Op.equal
    rw [show Op.maxDepth = 9999 + 1 from rfl, run_equalIn_struct w 9999 31 _ _ (by rw [hf]; exact hu) (by kernel_rfl), hf]
    simp [Op.eqFields, go_sem, part, Tryz.isAgg26, Tryz.isAgg3, Tryz.underlying26, Tryz.underlying3]
    by_cases h1 : a = c
    · subst h1
      simp [Op.eqFields, go_sem, part, Tryz.isAgg26, Tryz.isAgg3, Tryz.underlying26, Tryz.underlying3]
      by_cases h2 : b = d <;> simp [h2]
    · simp [h1]
theorem key5 : keyF 5 = [3, 2, 5, 160] := by decide +kernel
theorem key256 : keyF 256 = [3, 3, 7, 0, 128] := by decide +kernel
def srvS : List UInt8 := [49, 46, 51, 46, 54, 46, 49, 46, 53, 46, 53, 46, 55, 46, 51, 46, 49]
theorem srv_v : usV [srvS] = true := by decide +kernel
theorem srv_f : usF [srvS] = [48, 10, 6, 8, 43, 6, 1, 5, 5, 7, 3, 1] := by decide +kernel
theorem key_bad : pkF [3, 1, 0] = .bad 6 2 := by rfl
theorem c_mkey_ok (Γ : Env) (S : Nat) (h1 : 1 ≤ S) (h2 : S ≤ 511) : ACalls Tryz.prog Γ 19 [.int .i64 S] (fun r => r = .ownT none 5 (bys (keyF S)) [.int .i64 0]) := (c_mkey Γ S (by omega)).mono fun r hr => by
  rw [hr, keyR, show keyV (S : Int) = true by rw [keyV, decide_eq_true_eq]; omega]
  simp only [Int.toNat_natCast]
theorem c_pkey_at (Γ : Env) (b : List UInt8) (hb : b.length ≤ 1000000000) {v : Ex Nat} (h : pkF b = v) : ACalls Tryz.prog Γ 20 [.sl none (bys b)] (fun r => r = .d (pkD v)) := by
  subst h
  exact c_pkey Γ b hb
theorem isAwake : IsFn Tryz.prog 8 Tryz.f8 := ⟨Tryz.func8, by decide, rfl⟩
set_option maxHeartbeats 1000000 in
theorem c_awake : ACalls Tryz.prog envL 8 [] (fun r => r = .d (.bool true)) := by
  refine acalls_of ty_ok isAwake rfl rfl ?_
  have h1 := c_mkey_ok (envL.at 0) 5 (by omega) (by omega)
  have h2 := c_mkey_ok (envL.at 0) 256 (by omega) (by omega)
  rw [key5] at h1
  rw [key256] at h2
  have h3 : ACalls Tryz.prog (envL.at 0) 10 [.sl none (strs [srvS])] (fun r => r = .ownT none 5 (bys [48, 10, 6, 8, 43, 6, 1, 5, 5, 7, 3, 1]) [.int .i64 0]) := (c_umarshal [srvS] (by decide) (by decide) (by have := objs_len [srvS] 17 (by decide); simp only [List.length_cons, List.length_nil] at this; omega)).mono fun r hr => by
    rw [hr, usR, srv_v]
    simp only
    rw [srv_f]
  have h4 := c_pkey_at (envL.at 0) [3, 1, 0] (by decide) key_bad
  repeat' (first | ((with_reducible show AWp _ _ _ _ _); (first | refine awp_seq ?_ | refine awp_block ?_ | refine awp_skip ?_ | refine awp_exit ?_ | refine awp_scope ?_ | refine awp_label ?_ | refine awp_run ty_ok rfl sd ?_ | refine awp_ret ⟨_, _, rfl, rfl, ?_⟩ | refine awp_ret ⟨_, rfl, ?_⟩ | ((refine awp_cond (ty := ty) rfl (fun hc => ?_) (fun hc => ?_)) <;> (try simp only [nms, reduceCtorEq] at hc) <;> (try (exfalso; omega))))) | ((with_reducible show AOps _ _ _ _ _ _); (first | refine aops_nil ?_ | refine aops_go ty_ok rfl rfl sd ?_ | refine aops_gate ty_ok rfl rfl rfl sd ?_ | refine aops_callE (ty := ty) rfl rfl rfl rfl rfl rfl rfl (h1) rfl ?_ | refine aops_callE (ty := ty) rfl rfl rfl rfl rfl rfl rfl (h2) rfl ?_ | refine aops_callE (ty := ty) rfl rfl rfl rfl rfl rfl rfl (h3) rfl ?_ | refine aops_callE (ty := ty) rfl rfl rfl rfl rfl rfl rfl (h4) rfl ?_ | refine aops_callE (ty := ty) rfl rfl rfl rfl rfl rfl rfl (c_bytes_eq _ [3, 2, 5, 160] [3, 2, 5, 160] rfl) rfl ?_ | refine aops_callE (ty := ty) rfl rfl rfl rfl rfl rfl rfl (c_bytes_eq _ [3, 3, 7, 0, 128] [3, 3, 7, 0, 128] rfl) rfl ?_ | refine aops_callE (ty := ty) rfl rfl rfl rfl rfl rfl rfl (c_bytes_eq _ [48, 10, 6, 8, 43, 6, 1, 5, 5, 7, 3, 1] [48, 10, 6, 8, 43, 6, 1, 5, 5, 7, 3, 1] rfl) rfl ?_ | refine aops_litE ty_ok rfl rfl rfl rfl rfl rfl rfl rfl rfl rfl rfl rfl ?_ | refine aops_cutE ty_ok rfl rfl rfl rfl rfl rfl rfl rfl rfl sd rfl ?_ | ((fail_if_success (refine aops_known rfl ?_)); (refine aops_split ty_ok rfl rfl rfl rfl rfl rfl (fun hc => ⟨?_, ?_⟩) (fun hc => ⟨?_, ?_⟩)) <;> (try simp only [nms, reduceCtorEq] at hc) <;> (try (exfalso; omega)) <;> (try exact sd)))) | ((fail_if_success (with_reducible show AWp _ _ _ _ _)); (fail_if_success (with_reducible show AOps _ _ _ _ _ _)); (first | (show AWp _ _ _ _ _) | (show AOps _ _ _ _ _ _))))
  all_goals first | rfl | skip

theorem c_mkey_bad (Γ : Env) (n : Int) (hn : n ≤ 9223372036854775807) (h : keyV n = false) : ACalls Tryz.prog Γ 19 [.int .i64 n] (fun r => r = .d (.tup [.sl none [], .int .i64 8])) := (c_mkey Γ n hn).mono fun r hr => by
  rw [hr, keyR, h]
theorem c_validkey_at (Γ : Env) (n : Int) (hn : n ≤ 9223372036854775807) {v : Bool} (h : keyV n = v) : ACalls Tryz.prog Γ 35 [.int .i64 n] (fun r => r = .d (.bool v)) := by
  subst h
  exact c_validkey Γ n hn
theorem keyF_len (S : Nat) (h : S ≤ 511) : (keyF S).length ≤ 21 ∧ 0 < (keyF S).length := by
  have h1 := namF_len S (by omega)
  have h2 := hsz_le (namF S)
  have h3 := hsz_ge (namF S)
  rw [keyF, putF_len]
  omega
theorem c_within_ok (Γ : Env) (n : Int) : ACalls Tryz.prog Γ 18 [errD 0 0, .int .i64 n] (fun r => r = .d (.bool true)) := c_within Γ 0 0 n
theorem c_within_bad (Γ : Env) (c o n : Nat) (h : 0 < c) (ho : o ≤ n) : ACalls Tryz.prog Γ 18 [errD c o, .int .i64 n] (fun r => r = .d (.bool true)) := (c_within Γ c o n).mono fun r hr => by
  rw [hr, witF, decide_eq_true (by omega)]
end Go.Proofs.YtbbakpmedpcigaaGreatDoor

/- The abstract machine, twenty-sixth part: a slice of one struct; arrays. No program. -/
namespace Go.Am
open Go.RowKit
set_option linter.unusedSimpArgs false
set_option linter.unusedVariables false
section
variable {P : Program} {Γ : Env} {Q : Exit → St → Prop} {σ : St} {ty : TypeId → Option TI}
theorem run_lit1 {t e : TypeId} {v z : Value} {j : TypeInfo} (hu : P.underlying t = some (.slice e)) (hie : P.info? e = some j) (hz : j.zero = some z) (hs : v.cells.size = j.size) (h0 : 0 < j.size) (hm : j.size ≤ 16777216) (w : World) :
    (Instr.buildSlice t 1 #[(0, v)]).run P w = .ok (.slice (some ⟨w.heap.size, 0, none⟩) 1 1) (w.alloc (.cells (v.cells.zipIdx.foldl (fun (cs : Array Value) (x : Value × Nat) => cs.setIfInBounds (0 + x.2) x.1) ((Array.range (1 * j.size)).map (z.cells[· % z.cells.size]!))) e)) := by
  have h1 : ¬ 1 * j.size > 2 ^ 24 := by omega
  have h2 : ¬ 1 * j.size = 0 := by omega
  have hf : Instr.fill (fun i => some (i * j.size, j.size)) ((Array.range (1 * j.size)).map (z.cells[· % z.cells.size]!)) [(0, v)] = some (v.cells.zipIdx.foldl (fun (cs : Array Value) (x : Value × Nat) => cs.setIfInBounds (0 + x.2) x.1) ((Array.range (1 * j.size)).map (z.cells[· % z.cells.size]!))) := by
    have h3 : ((Array.range (1 * j.size)).map (z.cells[· % z.cells.size]!)).size = j.size := by simp
    simp only [Instr.fill, Nat.zero_mul, hs, Nat.zero_add, h3]
    rw [if_neg (by simp)]
  have h4 : ¬ 16777216 < j.size := by omega
  have h5 : ¬ j.size = 0 := by omega
  simp [Instr.buildSlice, run_underlying hu, sizeOf, typeInfo, zeroValue, hie, hz, h4, h5, newRow] at hf ⊢
  simp [hf]
theorem aops_litA (hT : TyOk P ty) {ops rest : List Oper} {o : Oper} {t e : TypeId} {x : Operand} {ti ei : TI} {y : AV} {ds : List Dat} {sz nx : Nat} {tm : List (Nat × AV)} {ob : List (Nat × AO)} {sz' nx' : Nat} {tm' : List (Nat × AV)} {ob' : List (Nat × AO)} (ho : o.op = .buildSlice t 1 #[(0, x)]) (ht : ty t = some ti) (hde : ti.desc = .slice e) (he : ty e = some ei) (hek : ei.agg = true)
    (hx0 : σ.ev ty e x = some y) (hf : frzAN σ y = ⟨sz, tm, ob, nx⟩) (hw : wantedA ops ⟨sz, tm, ob, nx⟩ o = some true) (hd : dstOk ⟨sz, tm, ob, nx⟩ o.dst = true) (hx : (⟨sz, tm, ob, nx⟩ : St).ev ty e x = some y) (hp : datOf ⟨sz, tm, ob, nx⟩ y = some (.agg ds)) (hl : Nat.beq ds.length ei.size = true) (h1 : ds.all (·.one) = true) (h0 : Nat.ble 1 ei.size = true) (hN : Nat.ble ei.size 16777216 = true)
    (hr : addPut ⟨sz, tm, ob, nx⟩ none (.row (some ei.size) e [.agg ds]) o.dst .ref = ⟨sz', tm', ob', nx'⟩) (k : AOps P Γ ops Q rest ⟨sz', tm', ob', nx'⟩) : AOps P Γ ops Q (o :: rest) σ := by
  refine aops_freeze [y] ?_
  have hfe : frzAll σ [y] = ⟨sz, tm, ob, nx⟩ := by
    rw [frzAll, frzAll, ← frzAN_eq]
    exact hf
  rw [hfe]
  have hl' := Nat.eq_of_beq_eq_true hl
  have h0' := Nat.le_of_ble_eq_true h0
  have hN' := Nat.le_of_ble_eq_true hN
  have h1' : ∀ z ∈ ds, z.one = true := List.all_eq_true.1 h1
  refine aops_step hw fun C0 a C K R b ev m hk => ?_
  have hB := (b.evo ev).B
  obtain ⟨j, hj, hjs, _, hjz⟩ := hT.info _ _ he
  obtain ⟨hz1, hz2⟩ := hT.zsize _ _ he
  have hu := hT.und _ _ ht
  rw [hde] at hu
  have hrd := datOf_sound m hp (ev_sound m hx)
  obtain ⟨v, hv⟩ : ∃ v, v = a.eval x := ⟨_, rfl⟩
  rw [← hv] at hrd
  cases hrd with
  | agg _ vs hvl _ hvr =>
    have hvs : (Value.agg vs).cells.size = j.size := by
      show vs.size = _
      rw [hvl, hl', hjs]
    have hzr := hT.zrep _ _ he
    have hzo := hT.zone _ _ he
    have hinit : CsRep C (ei.zd.map .d) ((Array.range (1 * j.size)).map (ei.zero.cells[· % ei.zero.cells.size]!)) := by
      refine ⟨by simp [hjs, hz2], ?_, ?_⟩
      · intro y hy
        obtain ⟨q, hq, rfl⟩ := List.mem_map.1 hy
        exact hzo q hq
      · intro i y hy
        rw [List.getElem?_map] at hy
        obtain ⟨q, hq, rfl⟩ := Option.map_eq_some_iff.1 hy
        have hil : i < ei.size := by rw [← hz2]; exact (List.getElem?_eq_some_iff.1 hq).1
        have e1 : ((Array.range (1 * j.size)).map (ei.zero.cells[· % ei.zero.cells.size]!)).getD i undef = ei.zero.cells.getD i undef := by
          have h2 : i < ei.zero.cells.size := by rw [hz1]; exact hil
          simp [hjs, hil, Nat.mod_eq_of_lt h2, h2]
        rw [e1]
        exact .d (hzr C.w C.pr i q hq)
    have hset := setAll_sound (c := C) 0 (ds.map .d) vs.toList 0 _ _ hinit (by simp [hvl]) (by
      intro y hy
      obtain ⟨q, hq, rfl⟩ := List.mem_map.1 hy
      exact h1' q hq) (by
      intro i y hy
      rw [List.getElem?_map] at hy
      obtain ⟨q, hq, rfl⟩ := Option.map_eq_some_iff.1 hy
      have := hvr i q hq
      simpa using Rep.d (c := C) this)
    obtain ⟨cs, hcs⟩ : ∃ cs, cs = (Value.agg vs).cells.zipIdx.foldl (fun (cs : Array Value) (x : Value × Nat) => cs.setIfInBounds (0 + x.2) x.1) ((Array.range (1 * j.size)).map (ei.zero.cells[· % ei.zero.cells.size]!)) := ⟨_, rfl⟩
    have hset' : CsRep C (setAll (ei.zd.map .d) 0 (ds.map .d)) cs := by
      rw [hcs, ← Array.foldl_toList, Array.toList_zipIdx]
      exact hset
    have hrun : (execOp a.eval o).run P C.w = .ok (.value (.slice (some ⟨C.w.heap.size, 0, none⟩) 1 1)) (C.w.alloc (.cells cs e)) := by
      unfold execOp
      simp only [ho]
      refine run_value ?_
      have := run_lit1 (v := .agg vs) hu hj hjz hvs (by rw [hjs]; omega) (by rw [hjs]; omega) C.w
      rw [← hcs] at this
      have e2 : (#[(0, x)] : Array (Nat × Operand)).map (fun (i, x) => (i, a.eval x)) = #[(0, Value.agg vs)] := by simp [← hv]
      rw [e2]
      exact this
    have hcsz : cs.size = ei.size := by
      rw [hset'.1, setAll_length, List.length_map, hz2]
    have m' := m.new hB (.cells cs e) (.slice (some ⟨C.w.heap.size, 0, none⟩) 1 1) rfl (.row (some ei.size) e [.agg ds]) (by
      have := new_row (C := C) m.fresh hB (ek := some ei.size) (e := e) (xs := [.agg ds]) (vs := cs) 1 (by simp) (by simp [maxLen]) (by simp [hcsz, esz]) (by
        intro k d hk
        match k, hk with
        | 0, hk =>
          simp only [List.getElem?_cons_zero, Option.some.injEq] at hk
          subst hk
          refine ⟨⟨ds, rfl, hl', h1'⟩, fun i y hy => ?_⟩
          have hil : i < ds.length := (List.getElem?_eq_some_iff.1 hy).1
          have hlt : i < (setAll (ei.zd.map AV.d) 0 (ds.map .d)).length := by rw [setAll_length, List.length_map, hz2, ← hl']; exact hil
          have hget := List.getElem?_eq_getElem hlt
          rcases setAll_get (by simp [hz2, hl']) hget with ⟨h, _⟩ | ⟨_, _, h⟩ | ⟨h, _⟩
          · omega
          · rw [Nat.sub_zero, List.getElem?_map] at h
            have hy' : ds[i]? = some y := hy
            rw [hy'] at h
            simp only [Option.map_some, Option.some.injEq] at h
            have hrep := hset'.2.2 i _ hget
            rw [← h] at hrep
            refine ⟨cs.getD i undef, ?_, ?_⟩
            · have : i < cs.size := by rw [hcsz, ← hl']; exact hil
              simp [this]
            · cases hrep with
              | d hh => exact hh
          · simp at h
            omega)
      exact this)
    rw [addPut_eq] at hr
    rw [← hr] at k
    refine upon_value hrun (hk _ (C.new _ _ _) _ (m'.put (v := .slice (some ⟨C.w.heap.size, 0, none⟩) 1 1) ?_ (dstOk_spec hd)) (ev.trans (Ct.new_evo m.fresh hB _ _)) k)
    exact .ref _ (by simp [Ct.new]) _ (by simp [Ct.new]) rfl

/-! ### Arrays -/
def partsA (σ : St) (ty : TypeId → Option TI) (e : TypeId) : Nat → List (Nat × Operand) → Option (List AV)
  | _, [] => some []
  | k, (i, x) :: r => match Nat.beq i k with
    | true => match σ.ev ty e x with
      | some y => match y.one, partsA σ ty e (k + 1) r with
        | true, some l => some (y :: l)
        | _, _ => none
      | none => none
    | false => none
theorem partsA_sound {a : Act} {C : Ct} (m : Models σ a C) {e : TypeId} : ∀ {l : List (Nat × Operand)} {k : Nat} {ys : List AV}, partsA σ ty e k l = some ys → ys.length = l.length ∧ (∀ y ∈ ys, y.one = true) ∧
    (∀ (j : Nat) (p : Nat × Operand), l[j]? = some p → p.1 = k + j) ∧ ∀ (j : Nat) (p : Nat × Operand) (y : AV), l[j]? = some p → ys[j]? = some y → Rep C y (a.eval p.2)
  | [], k, ys, h => by
    cases h
    simp
  | (i, x) :: r, k, ys, h => by
    rw [partsA] at h
    split at h
    · rename_i hik
      split at h
      · rename_i y hy
        split at h
        · rename_i l hone hl
          cases h
          obtain ⟨h1, h2, h3, h4⟩ := partsA_sound m hl
          refine ⟨by simp [h1], ?_, ?_, ?_⟩
          · intro z hz
            rcases List.mem_cons.1 hz with rfl | hz
            · exact hone
            · exact h2 z hz
          · intro j p hj
            cases j with
            | zero =>
              simp only [List.getElem?_cons_zero, Option.some.injEq] at hj
              subst hj
              exact Nat.eq_of_beq_eq_true hik
            | succ j =>
              have := h3 j p (by simpa using hj)
              omega
          · intro j p z hj hz
            cases j with
            | zero =>
              simp only [List.getElem?_cons_zero, Option.some.injEq] at hj hz
              subst hj; subst hz
              exact ev_sound m hy
            | succ j => exact h4 j p z (by simpa using hj) (by simpa using hz)
        · cases h
      · cases h
    · cases h
/-- An array literal, each element of it given, each one cell. -/
theorem aops_buildArr (hT : TyOk P ty) {ops rest : List Oper} {o : Oper} {t e : TypeId} {n : Nat} {parts : Array (Nat × Operand)} {ti ei : TI} {ys : List AV} {sz nx : Nat} {tm : List (Nat × AV)} {ob : List (Nat × AO)} (hw : wantedA ops σ o = some true) (hd : dstOk σ o.dst = true) (ho : o.op = .build t parts) (ht : ty t = some ti) (hde : ti.desc = .array n e) (he : ty e = some ei) (hek : ei.agg = false)
    (hp : partsA σ ty e 0 parts.toList = some ys) (hn : Nat.beq ys.length ti.size = true) (hr : put' σ o.dst (.agg ys) = ⟨sz, tm, ob, nx⟩) (k : AOps P Γ ops Q rest ⟨sz, tm, ob, nx⟩) : AOps P Γ ops Q (o :: rest) σ := by
  refine aops_step hw fun C0 a C K R b ev m hk => ?_
  obtain ⟨j, hj, hjs, _, hjz⟩ := hT.info _ _ ht
  obtain ⟨je, hje, hjes, _, _⟩ := hT.info _ _ he
  obtain ⟨hz1, hz2⟩ := hT.zsize _ _ ht
  have h1s := hT.one _ _ he hek
  have hu := hT.und _ _ ht
  rw [hde] at hu
  have hn' := Nat.eq_of_beq_eq_true hn
  obtain ⟨i1, i2, i3, i4⟩ := partsA_sound m hp
  obtain ⟨L, hL⟩ : ∃ L, L = parts.toList.map fun (i, x) => (i, a.eval x) := ⟨_, rfl⟩
  have hget : ∀ (j : Nat) (q : Nat × Value), L[j]? = some q → ∃ p, parts.toList[j]? = some p ∧ q = (p.1, a.eval p.2) := by
    intro j q hq
    rw [hL, List.getElem?_map] at hq
    obtain ⟨p, hp, rfl⟩ := Option.map_eq_some_iff.1 hq
    exact ⟨p, hp, rfl⟩
  have hone : ∀ (j : Nat) (q : Nat × Value), L[j]? = some q → q.1 = 0 + j ∧ q.2.cells = #[q.2] := by
    intro j q hq
    obtain ⟨p, hp1, rfl⟩ := hget j q hq
    refine ⟨i3 j p hp1, ?_⟩
    have hjl : j < ys.length := by rw [i1]; exact (List.getElem?_eq_some_iff.1 hp1).1
    have hr := i4 j p ys[j] hp1 (List.getElem?_eq_getElem hjl)
    exact one_cells (hr.oneCell (i2 _ (List.getElem_mem hjl)))
  have hLl : L.length = ys.length := by rw [hL, List.length_map, i1]
  obtain ⟨cs, f1, f2, _, f4⟩ := fill_lit L 0 ti.zero.cells hone (by rw [hLl, hz1, hn']; omega)
  have hpl : (parts.map fun (i, x) => (i, a.eval x)).toList = L := by rw [hL]; simp
  have hrun : (execOp a.eval o).run P C.w = .ok (.value (.agg cs)) C.w := by
    unfold execOp
    simp only [ho]
    refine run_value ?_
    unfold Instr.build
    simp only [Nat.mul_one] at f1
    have hz0 : (zeroValue t).run P C.w = .ok ti.zero C.w := by simp [zeroValue, typeInfo, hj, hjz]
    have hse : (sizeOf e).run P C.w = .ok 1 C.w := by simp [sizeOf, typeInfo, hje, hjes, h1s]
    simp only [Sem.run_bind, hz0, Result.andThen_ok, run_underlying hu, hse, Nat.mul_one]
    have hpl' : (Array.map (fun x => (x.fst, a.eval x.snd)) parts).toList = L := hpl
    rw [hpl', f1]
    rfl
  refine upon_value hrun (hk _ C _ (m.put (x := .agg ys) ?_ (dstOk_spec hd)) ev (by rw [← put'_eq, hr]; exact k))
  refine .agg ys cs (by rw [f2, hz1, hn']) i2 (fun j y hj => ?_)
  have hjl : j < parts.toList.length := by rw [← i1]; exact (List.getElem?_eq_some_iff.1 hj).1
  have hpj := List.getElem?_eq_getElem hjl
  have h5 := f4 j (parts.toList[j].1, a.eval parts.toList[j].2) (by rw [hL, List.getElem?_map, hpj]; rfl)
  have h6 := i4 j _ y hpj hj
  rw [Nat.zero_add] at h5
  have : cs.getD j undef = a.eval parts.toList[j].2 := by simp [h5]
  rw [this]
  exact h6
/-- The address of an element of an array that lies in a box. -/
theorem aops_indexArr (hT : TyOk P ty) {ops rest : List Oper} {o : Oper} {t e : TypeId} {n : Nat} {x z : Operand} {ti ei : TI} {i off : Nat} {kq : IntKind} {q : Int} {sz nx : Nat} {tm : List (Nat × AV)} {ob : List (Nat × AO)} (hw : wantedA ops σ o = some true) (hd : dstOk σ o.dst = true) (ho : o.op = .indexAddr t x z) (ht : ty t = some ti) (hde : ti.desc = .array n e) (he : ty e = some ei) (h1 : Nat.beq ei.size 1 = true)
    (hx : σ.ev ty t x = some (.ptr i off)) (hz : σ.ev ty 0 z = some (.d (.int kq q))) (hr : put' σ o.dst (.ptr i (off + q.toNat)) = ⟨sz, tm, ob, nx⟩) (hq : 0 ≤ q ∧ q < n) (k : AOps P Γ ops Q rest ⟨sz, tm, ob, nx⟩) : AOps P Γ ops Q (o :: rest) σ := by
  refine aops_step hw fun C0 a C K R b ev m hk => ?_
  have hu := hT.und _ _ ht
  rw [hde] at hu
  have h1' := Nat.eq_of_beq_eq_true h1
  have hxr := ev_sound m hx
  have hzr := Rep.int_inv (ev_sound m hz)
  obtain ⟨v, hv⟩ : ∃ v, v = a.eval x := ⟨_, rfl⟩
  rw [← hv] at hxr
  cases hxr with
  | ptr _ _ g hi hg =>
    have hrun : (execOp a.eval o).run P C.w = .ok (.value (.pointer (some ⟨g, off + q.toNat, none⟩))) C.w := by
      unfold execOp
      simp only [ho]
      refine run_value ?_
      rw [← hv, hzr]
      have hs := hT.run_size he C.w
      simp [Instr.indexAt, run_underlying hu, asIntOf, Instr.sureAddr, hq.1, hq.2, hs, h1', Addr.add_lit]
    exact upon_value hrun (hk _ C _ (m.put (x := .ptr i (off + q.toNat)) (.ptr i _ g hi hg) (dstOk_spec hd)) ev (by rw [← put'_eq, hr]; exact k))
end
end Go.Am

/- Elements in a row, and in a constructed element: List and Parts of package element. Walked by the abstract machine. -/
namespace Go.Proofs.YtbbakpmedpcigaaGreatDoor
open Go.Am
set_option linter.unusedSimpArgs false
set_option linter.unusedVariables false
-- withAmZ

def els (l : List El) : List Dat := l.map elD
theorem els_len (l : List El) : (els l).length = l.length := by simp [els]
theorem els_app (a b : List El) : els (a ++ b) = els a ++ els b := by simp [els]
def preX (acc : List El) : Ex (List El) → Ex (List El)
  | .bad c o => .bad c o
  | .ok l => .ok (acc ++ l)
def elsR : Ex (List El) → Res
  | .bad c o => .d (.tup [.sl (some 6) [], errD c o])
  | .ok l => .ownT (some 6) 57 (els l) [errD 0 0]
theorem isEList : IsFn Tryz.prog 48 Tryz.f48 := ⟨Tryz.func48, by decide, rfl⟩
set_option maxHeartbeats 4000000 in
set_option maxRecDepth 100000 in
theorem c_elist (Γ : Env) (b : List UInt8) (i j : Nat) (hb : b.length ≤ 1099511627) (hij : i ≤ j) (hj : j ≤ b.length) : ACalls Tryz.prog Γ 48 [.sl none (bys b), .int .i64 i, .int .i64 j] (fun r => r = elsR (lsF b i j)) := by
  refine acalls_of ty_ok isEList rfl rfl ?_
  repeat' (first | ((with_reducible show AWp _ _ _ _ _); (first | refine awp_seq ?_ | refine awp_block ?_ | refine awp_skip ?_ | refine awp_exit ?_ | refine awp_scope ?_ | refine awp_label ?_ | refine awp_run ty_ok rfl sd ?_ | refine awp_ret ⟨_, _, rfl, rfl, ?_⟩ | refine awp_ret ⟨_, rfl, ?_⟩ | ((refine awp_cond (ty := ty) rfl (fun hc => ?_) (fun hc => ?_)) <;> (try simp only [nms, reduceCtorEq] at hc) <;> (try (exfalso; omega))))) | ((with_reducible show AOps _ _ _ _ _ _); (first | refine aops_nil ?_ | refine aops_go ty_ok rfl rfl sd ?_ | refine aops_gate ty_ok rfl rfl rfl sd ?_ | refine aops_litE ty_ok rfl rfl rfl rfl rfl rfl rfl rfl rfl rfl rfl rfl ?_ | refine aops_litA ty_ok rfl rfl rfl rfl rfl rfl rfl rfl rfl rfl rfl rfl rfl rfl rfl rfl ?_ | refine aops_buildArr ty_ok rfl rfl rfl rfl rfl rfl rfl rfl rfl rfl ?_ | refine aops_indexArr ty_ok rfl rfl rfl rfl rfl rfl rfl rfl rfl rfl sd ?_ | refine aops_cutE ty_ok rfl rfl rfl rfl rfl rfl rfl rfl rfl sd rfl ?_ | ((fail_if_success (refine aops_known rfl ?_)); (refine aops_split ty_ok rfl rfl rfl rfl rfl rfl (fun hc => ⟨?_, ?_⟩) (fun hc => ⟨?_, ?_⟩)) <;> (try simp only [nms, reduceCtorEq] at hc) <;> (try (exfalso; omega)) <;> (try exact sd)))) | ((fail_if_success (with_reducible show AWp _ _ _ _ _)); (fail_if_success (with_reducible show AOps _ _ _ _ _ _)); (first | (show AWp _ _ _ _ _) | (show AOps _ _ _ _ _ _))))
  refine awp_nilrow 8 57 rfl ?_
  refine awp_loopR (G := { p : List El × Nat // p.2 ≤ j ∧ p.1.length ≤ p.2 ∧ ∃ k, j - p.2 ≤ k ∧ lsF b i j = preX p.1 (lsT b j k p.2) }) (fun p => ⟨Tryz.f48.ntmps, [(0, .d (.sl none (bys b))), (2, .d (.int .i64 j)), (7, .ptr 0 0), (8, .ref 1), (9, .d (.int .i64 p.1.2))], [(0, .box 31 [.d (.int .i64 0), .d (.int .i64 0)]), (1, .row (some 6) 57 (els p.1.1))], 2⟩) (fun p => j - p.1.2) ⟨([], i), hij, Nat.zero_le _, j - i, Nat.le_refl _, by
      unfold lsF
      cases lsT b j (j - i) i <;> rfl⟩ [(0, 0), (1, 1)]
    (SubR.mk' rfl rfl ⟨⟨_, rfl, rfl⟩, ⟨_, rfl, rfl⟩, ⟨_, rfl, rfl⟩, ⟨_, rfl, rfl⟩, ⟨_, rfl, rfl⟩, trivial⟩ ⟨⟨_, _, rfl, rfl, rfl⟩, ⟨_, _, rfl, rfl, rfl⟩, trivial⟩) ?_
  rintro ⟨⟨acc, q⟩, hq, hacc, k, hk, hl⟩
  dsimp only at hq hacc hk hl ⊢
  by_cases h : q < j
  · obtain ⟨k, rfl⟩ : ∃ k', k = k' + 1 := ⟨k - 1, by omega⟩
    rw [lsT, if_pos h] at hl
    have hel : (els acc).length ≤ 1099511627 := by rw [els_len]; omega
    cases hn : nxF b q j with
    | bad c o =>
      rw [hn] at hl
      have hc1 := c_next_at (Γ.at 0) b q j (by omega) hq hj hn
      have := nx_bad hq hj hn
      repeat' (first | ((with_reducible show AWp _ _ _ _ _); (first | refine awp_seq ?_ | refine awp_block ?_ | refine awp_skip ?_ | refine awp_exit ?_ | refine awp_scope ?_ | refine awp_label ?_ | refine awp_run ty_ok rfl sd ?_ | refine awp_ret ⟨_, _, rfl, rfl, ?_⟩ | refine awp_ret ⟨_, rfl, ?_⟩ | ((refine awp_cond (ty := ty) rfl (fun hc => ?_) (fun hc => ?_)) <;> (try simp only [nms, reduceCtorEq] at hc) <;> (try (exfalso; omega))) | refine awp_anyL 2 mixed rfl (by kernel_rfl) ?_)) | ((with_reducible show AOps _ _ _ _ _ _); (first | refine aops_nil ?_ | refine aops_go ty_ok rfl rfl sd ?_ | refine aops_gate ty_ok rfl rfl rfl sd ?_ | refine aops_callE (ty := ty) rfl rfl rfl rfl rfl rfl rfl (hc1) rfl ?_ | refine aops_litE ty_ok rfl rfl rfl rfl rfl rfl rfl rfl rfl rfl rfl rfl ?_ | refine aops_litA ty_ok rfl rfl rfl rfl rfl rfl rfl rfl rfl rfl rfl rfl rfl rfl rfl rfl ?_ | refine aops_buildArr ty_ok rfl rfl rfl rfl rfl rfl rfl rfl rfl rfl ?_ | refine aops_indexArr ty_ok rfl rfl rfl rfl rfl rfl rfl rfl rfl rfl sd ?_ | refine aops_cutE ty_ok rfl rfl rfl rfl rfl rfl rfl rfl rfl sd rfl ?_ | ((fail_if_success (refine aops_known rfl ?_)); (refine aops_split ty_ok rfl rfl rfl rfl rfl rfl (fun hc => ⟨?_, ?_⟩) (fun hc => ⟨?_, ?_⟩)) <;> (try simp only [nms, reduceCtorEq] at hc) <;> (try (exfalso; omega)) <;> (try exact sd)))) | ((with_reducible show HeadT _ _ _ _ _ _ _ _ _ _); (first | refine head_end ?_ | refine head_goP ty_ok rfl rfl sd ?_ | refine head_gate ty_ok rfl rfl rfl sd ?_ | refine head_callE (ty := ty) rfl rfl rfl rfl rfl rfl rfl (hc1) rfl ?_ | ((fail_if_success (refine head_known rfl ?_)); (refine head_split ty_ok rfl rfl rfl rfl (fun hc => ⟨?_, ?_⟩) (fun hc => ⟨?_, ?_⟩)) <;> (try simp only [nms, reduceCtorEq] at hc) <;> (try (exfalso; omega)) <;> (try exact sd)))) | ((fail_if_success (with_reducible show AWp _ _ _ _ _)); (fail_if_success (with_reducible show AOps _ _ _ _ _ _)); (fail_if_success (with_reducible show HeadT _ _ _ _ _ _ _ _ _ _)); (first | (show AWp _ _ _ _ _) | (show AOps _ _ _ _ _ _))))
      rw [hl]
      rfl
    | ok e =>
      rw [hn] at hl
      simp only at hl
      have hc1 := c_next_at (Γ.at 0) b q j (by omega) hq hj hn
      obtain ⟨c, g1, g2, g3, g4, g5, g6, g7⟩ := nx_ok hq hj hn
      have hz := hsz_ge c
      have hen : e.en = q + hsz c + c.length := by rw [g4]
      repeat' (first | ((with_reducible show AWp _ _ _ _ _); (first | refine awp_seq ?_ | refine awp_block ?_ | refine awp_skip ?_ | refine awp_exit ?_ | refine awp_scope ?_ | refine awp_label ?_ | refine awp_run ty_ok rfl sd ?_ | refine awp_ret ⟨_, _, rfl, rfl, ?_⟩ | refine awp_ret ⟨_, rfl, ?_⟩ | ((refine awp_cond (ty := ty) rfl (fun hc => ?_) (fun hc => ?_)) <;> (try simp only [nms, reduceCtorEq] at hc) <;> (try (exfalso; omega))) | refine awp_anyL 2 mixed rfl (by kernel_rfl) ?_)) | ((with_reducible show AOps _ _ _ _ _ _); (first | refine aops_nil ?_ | refine aops_go ty_ok rfl rfl sd ?_ | refine aops_gate ty_ok rfl rfl rfl sd ?_ | refine aops_callE (ty := ty) rfl rfl rfl rfl rfl rfl rfl (hc1) rfl ?_ | refine aops_litE ty_ok rfl rfl rfl rfl rfl rfl rfl rfl rfl rfl rfl rfl ?_ | refine aops_litA ty_ok rfl rfl rfl rfl rfl rfl rfl rfl rfl rfl rfl rfl rfl rfl rfl rfl ?_ | refine aops_buildArr ty_ok rfl rfl rfl rfl rfl rfl rfl rfl rfl rfl ?_ | refine aops_indexArr ty_ok rfl rfl rfl rfl rfl rfl rfl rfl rfl rfl sd ?_ | refine aops_cutE ty_ok rfl rfl rfl rfl rfl rfl rfl rfl rfl sd rfl ?_ | ((fail_if_success (refine aops_known rfl ?_)); (refine aops_split ty_ok rfl rfl rfl rfl rfl rfl (fun hc => ⟨?_, ?_⟩) (fun hc => ⟨?_, ?_⟩)) <;> (try simp only [nms, reduceCtorEq] at hc) <;> (try (exfalso; omega)) <;> (try exact sd)))) | ((with_reducible show HeadT _ _ _ _ _ _ _ _ _ _); (first | refine head_end ?_ | refine head_goP ty_ok rfl rfl sd ?_ | refine head_gate ty_ok rfl rfl rfl sd ?_ | refine head_callE (ty := ty) rfl rfl rfl rfl rfl rfl rfl (hc1) rfl ?_ | ((fail_if_success (refine head_known rfl ?_)); (refine head_split ty_ok rfl rfl rfl rfl (fun hc => ⟨?_, ?_⟩) (fun hc => ⟨?_, ?_⟩)) <;> (try simp only [nms, reduceCtorEq] at hc) <;> (try (exfalso; omega)) <;> (try exact sd)))) | ((fail_if_success (with_reducible show AWp _ _ _ _ _)); (fail_if_success (with_reducible show AOps _ _ _ _ _ _)); (fail_if_success (with_reducible show HeadT _ _ _ _ _ _ _ _ _ _)); (first | (show AWp _ _ _ _ _) | (show AOps _ _ _ _ _ _))))
      refine ⟨⟨(acc ++ [e], e.en), by simp only; omega, by simp; omega, k, by simp only; omega, ?_⟩, [(0, 0), (5, 1)], SubR.mk' rfl rfl ⟨⟨_, rfl, rfl⟩, ⟨_, rfl, rfl⟩, ⟨_, rfl, rfl⟩, ⟨_, rfl, rfl⟩, ⟨_, rfl, rfl⟩, trivial⟩ ⟨⟨_, _, rfl, rfl, rfl⟩, ⟨_, _, rfl, rfl, congrArg (AO.row (some 6) 57) ?_⟩, trivial⟩, by simp only; omega⟩
      · rw [hl]
        simp only
        cases lsT b j k e.en with
        | bad c o => rfl
        | ok l => simp [preX]
      · rw [els_app]
        rfl
  · repeat' (first | ((with_reducible show AWp _ _ _ _ _); (first | refine awp_seq ?_ | refine awp_block ?_ | refine awp_skip ?_ | refine awp_exit ?_ | refine awp_scope ?_ | refine awp_label ?_ | refine awp_run ty_ok rfl sd ?_ | refine awp_ret ⟨_, _, rfl, rfl, ?_⟩ | refine awp_ret ⟨_, rfl, ?_⟩ | ((refine awp_cond (ty := ty) rfl (fun hc => ?_) (fun hc => ?_)) <;> (try simp only [nms, reduceCtorEq] at hc) <;> (try (exfalso; omega))))) | ((with_reducible show AOps _ _ _ _ _ _); (first | refine aops_nil ?_ | refine aops_go ty_ok rfl rfl sd ?_ | refine aops_gate ty_ok rfl rfl rfl sd ?_ | refine aops_litE ty_ok rfl rfl rfl rfl rfl rfl rfl rfl rfl rfl rfl rfl ?_ | refine aops_litA ty_ok rfl rfl rfl rfl rfl rfl rfl rfl rfl rfl rfl rfl rfl rfl rfl rfl ?_ | refine aops_buildArr ty_ok rfl rfl rfl rfl rfl rfl rfl rfl rfl rfl ?_ | refine aops_indexArr ty_ok rfl rfl rfl rfl rfl rfl rfl rfl rfl rfl sd ?_ | refine aops_cutE ty_ok rfl rfl rfl rfl rfl rfl rfl rfl rfl sd rfl ?_ | ((fail_if_success (refine aops_known rfl ?_)); (refine aops_split ty_ok rfl rfl rfl rfl rfl rfl (fun hc => ⟨?_, ?_⟩) (fun hc => ⟨?_, ?_⟩)) <;> (try simp only [nms, reduceCtorEq] at hc) <;> (try (exfalso; omega)) <;> (try exact sd)))) | ((fail_if_success (with_reducible show AWp _ _ _ _ _)); (fail_if_success (with_reducible show AOps _ _ _ _ _ _)); (first | (show AWp _ _ _ _ _) | (show AOps _ _ _ _ _ _))))
    have hz : lsT b j k q = .ok [] := by
      cases k with
      | zero => rfl
      | succ k => rw [lsT, if_neg h]
    rw [hl, hz]
    simp [preX, elsR]
    rfl
theorem c_elist_at (Γ : Env) (b : List UInt8) (i j : Nat) (hb : b.length ≤ 1099511627) (hij : i ≤ j) (hj : j ≤ b.length) {v : Ex (List El)} (h : lsF b i j = v) : ACalls Tryz.prog Γ 48 [.sl none (bys b), .int .i64 i, .int .i64 j] (fun r => r = elsR v) := by
  subst h
  exact c_elist Γ b i j hb hij hj
theorem isParts : IsFn Tryz.prog 30 Tryz.f30 := ⟨Tryz.func30, by decide, rfl⟩
set_option maxHeartbeats 4000000 in
theorem c_parts (Γ : Env) (b : List UInt8) (cls num : Nat) (hb : b.length ≤ 1099511627) : ACalls Tryz.prog Γ 30 [.sl none (bys b), .int .i64 cls, .int .i64 num] (fun r => r = elsR (ptF b cls num)) := by
  refine acalls_of ty_ok isParts rfl rfl ?_
  rw [ptF]
  cases ho : onF b with
  | bad c o =>
    have hc1 := c_one_at (Γ.at 0) b (by omega) ho
    have := on_bad ho
    repeat' (first | ((with_reducible show AWp _ _ _ _ _); (first | refine awp_seq ?_ | refine awp_block ?_ | refine awp_skip ?_ | refine awp_exit ?_ | refine awp_scope ?_ | refine awp_label ?_ | refine awp_run ty_ok rfl sd ?_ | refine awp_ret ⟨_, _, rfl, rfl, ?_⟩ | refine awp_ret ⟨_, rfl, ?_⟩ | ((refine awp_cond (ty := ty) rfl (fun hc => ?_) (fun hc => ?_)) <;> (try simp only [nms, reduceCtorEq] at hc) <;> (try (exfalso; omega))) | refine awp_anyL 2 mixed rfl (by kernel_rfl) ?_)) | ((with_reducible show AOps _ _ _ _ _ _); (first | refine aops_nil ?_ | refine aops_go ty_ok rfl rfl sd ?_ | refine aops_gate ty_ok rfl rfl rfl sd ?_ | refine aops_callE (ty := ty) rfl rfl rfl rfl rfl rfl rfl (hc1) rfl ?_ | refine aops_litE ty_ok rfl rfl rfl rfl rfl rfl rfl rfl rfl rfl rfl rfl ?_ | refine aops_litA ty_ok rfl rfl rfl rfl rfl rfl rfl rfl rfl rfl rfl rfl rfl rfl rfl rfl ?_ | refine aops_buildArr ty_ok rfl rfl rfl rfl rfl rfl rfl rfl rfl rfl ?_ | refine aops_indexArr ty_ok rfl rfl rfl rfl rfl rfl rfl rfl rfl rfl sd ?_ | refine aops_cutE ty_ok rfl rfl rfl rfl rfl rfl rfl rfl rfl sd rfl ?_ | ((fail_if_success (refine aops_known rfl ?_)); (refine aops_split ty_ok rfl rfl rfl rfl rfl rfl (fun hc => ⟨?_, ?_⟩) (fun hc => ⟨?_, ?_⟩)) <;> (try simp only [nms, reduceCtorEq] at hc) <;> (try (exfalso; omega)) <;> (try exact sd)))) | ((with_reducible show HeadT _ _ _ _ _ _ _ _ _ _); (first | refine head_end ?_ | refine head_goP ty_ok rfl rfl sd ?_ | refine head_gate ty_ok rfl rfl rfl sd ?_ | refine head_callE (ty := ty) rfl rfl rfl rfl rfl rfl rfl (hc1) rfl ?_ | ((fail_if_success (refine head_known rfl ?_)); (refine head_split ty_ok rfl rfl rfl rfl (fun hc => ⟨?_, ?_⟩) (fun hc => ⟨?_, ?_⟩)) <;> (try simp only [nms, reduceCtorEq] at hc) <;> (try (exfalso; omega)) <;> (try exact sd)))) | ((fail_if_success (with_reducible show AWp _ _ _ _ _)); (fail_if_success (with_reducible show AOps _ _ _ _ _ _)); (fail_if_success (with_reducible show HeadT _ _ _ _ _ _ _ _ _ _)); (first | (show AWp _ _ _ _ _) | (show AOps _ _ _ _ _ _))))
    rfl
  | ok e =>
    have hc1 := c_one_at (Γ.at 0) b (by omega) ho
    obtain ⟨c, _, _, _, _, _, h6, h7⟩ := on_ok ho
    simp only
    cases hi : isB e.x cls true num with
    | false =>
      rw [if_neg (by simp)]
      repeat' (first | ((with_reducible show AWp _ _ _ _ _); (first | refine awp_seq ?_ | refine awp_block ?_ | refine awp_skip ?_ | refine awp_exit ?_ | refine awp_scope ?_ | refine awp_label ?_ | refine awp_run ty_ok rfl sd ?_ | refine awp_ret ⟨_, _, rfl, rfl, ?_⟩ | refine awp_ret ⟨_, rfl, ?_⟩ | ((refine awp_cond (ty := ty) rfl (fun hc => ?_) (fun hc => ?_)) <;> (try simp only [nms, reduceCtorEq] at hc) <;> (try (exfalso; omega))) | refine awp_anyL 2 mixed rfl (by kernel_rfl) ?_)) | ((with_reducible show AOps _ _ _ _ _ _); (first | refine aops_nil ?_ | refine aops_go ty_ok rfl rfl sd ?_ | refine aops_gate ty_ok rfl rfl rfl sd ?_ | refine aops_callE (ty := ty) rfl rfl rfl rfl rfl rfl rfl (hc1) rfl ?_ | refine aops_callE (ty := ty) rfl rfl rfl rfl rfl rfl rfl (c_is_at _ e cls num true hi) rfl ?_ | refine aops_litE ty_ok rfl rfl rfl rfl rfl rfl rfl rfl rfl rfl rfl rfl ?_ | refine aops_litA ty_ok rfl rfl rfl rfl rfl rfl rfl rfl rfl rfl rfl rfl rfl rfl rfl rfl ?_ | refine aops_buildArr ty_ok rfl rfl rfl rfl rfl rfl rfl rfl rfl rfl ?_ | refine aops_indexArr ty_ok rfl rfl rfl rfl rfl rfl rfl rfl rfl rfl sd ?_ | refine aops_cutE ty_ok rfl rfl rfl rfl rfl rfl rfl rfl rfl sd rfl ?_ | ((fail_if_success (refine aops_known rfl ?_)); (refine aops_split ty_ok rfl rfl rfl rfl rfl rfl (fun hc => ⟨?_, ?_⟩) (fun hc => ⟨?_, ?_⟩)) <;> (try simp only [nms, reduceCtorEq] at hc) <;> (try (exfalso; omega)) <;> (try exact sd)))) | ((with_reducible show HeadT _ _ _ _ _ _ _ _ _ _); (first | refine head_end ?_ | refine head_goP ty_ok rfl rfl sd ?_ | refine head_gate ty_ok rfl rfl rfl sd ?_ | refine head_callE (ty := ty) rfl rfl rfl rfl rfl rfl rfl (hc1) rfl ?_ | refine head_callE (ty := ty) rfl rfl rfl rfl rfl rfl rfl (c_is_at _ e cls num true hi) rfl ?_ | ((fail_if_success (refine head_known rfl ?_)); (refine head_split ty_ok rfl rfl rfl rfl (fun hc => ⟨?_, ?_⟩) (fun hc => ⟨?_, ?_⟩)) <;> (try simp only [nms, reduceCtorEq] at hc) <;> (try (exfalso; omega)) <;> (try exact sd)))) | ((fail_if_success (with_reducible show AWp _ _ _ _ _)); (fail_if_success (with_reducible show AOps _ _ _ _ _ _)); (fail_if_success (with_reducible show HeadT _ _ _ _ _ _ _ _ _ _)); (first | (show AWp _ _ _ _ _) | (show AOps _ _ _ _ _ _))))
      rfl
    | true =>
      rw [if_pos rfl]
      cases hl : lsF b e.bd e.en with
      | bad c o =>
        have hc2 := c_elist_at (Γ.at 0) b e.bd e.en hb h6 (by omega) hl
        repeat' (first | ((with_reducible show AWp _ _ _ _ _); (first | refine awp_seq ?_ | refine awp_block ?_ | refine awp_skip ?_ | refine awp_exit ?_ | refine awp_scope ?_ | refine awp_label ?_ | refine awp_run ty_ok rfl sd ?_ | refine awp_ret ⟨_, _, rfl, rfl, ?_⟩ | refine awp_ret ⟨_, rfl, ?_⟩ | ((refine awp_cond (ty := ty) rfl (fun hc => ?_) (fun hc => ?_)) <;> (try simp only [nms, reduceCtorEq] at hc) <;> (try (exfalso; omega))) | refine awp_anyL 2 mixed rfl (by kernel_rfl) ?_)) | ((with_reducible show AOps _ _ _ _ _ _); (first | refine aops_nil ?_ | refine aops_go ty_ok rfl rfl sd ?_ | refine aops_gate ty_ok rfl rfl rfl sd ?_ | refine aops_callE (ty := ty) rfl rfl rfl rfl rfl rfl rfl (hc1) rfl ?_ | refine aops_callE (ty := ty) rfl rfl rfl rfl rfl rfl rfl (c_is_at _ e cls num true hi) rfl ?_ | refine aops_callE (ty := ty) rfl rfl rfl rfl rfl rfl rfl (hc2) rfl ?_ | refine aops_litE ty_ok rfl rfl rfl rfl rfl rfl rfl rfl rfl rfl rfl rfl ?_ | refine aops_litA ty_ok rfl rfl rfl rfl rfl rfl rfl rfl rfl rfl rfl rfl rfl rfl rfl rfl ?_ | refine aops_buildArr ty_ok rfl rfl rfl rfl rfl rfl rfl rfl rfl rfl ?_ | refine aops_indexArr ty_ok rfl rfl rfl rfl rfl rfl rfl rfl rfl rfl sd ?_ | refine aops_cutE ty_ok rfl rfl rfl rfl rfl rfl rfl rfl rfl sd rfl ?_ | ((fail_if_success (refine aops_known rfl ?_)); (refine aops_split ty_ok rfl rfl rfl rfl rfl rfl (fun hc => ⟨?_, ?_⟩) (fun hc => ⟨?_, ?_⟩)) <;> (try simp only [nms, reduceCtorEq] at hc) <;> (try (exfalso; omega)) <;> (try exact sd)))) | ((with_reducible show HeadT _ _ _ _ _ _ _ _ _ _); (first | refine head_end ?_ | refine head_goP ty_ok rfl rfl sd ?_ | refine head_gate ty_ok rfl rfl rfl sd ?_ | refine head_callE (ty := ty) rfl rfl rfl rfl rfl rfl rfl (hc1) rfl ?_ | refine head_callE (ty := ty) rfl rfl rfl rfl rfl rfl rfl (c_is_at _ e cls num true hi) rfl ?_ | refine head_callE (ty := ty) rfl rfl rfl rfl rfl rfl rfl (hc2) rfl ?_ | ((fail_if_success (refine head_known rfl ?_)); (refine head_split ty_ok rfl rfl rfl rfl (fun hc => ⟨?_, ?_⟩) (fun hc => ⟨?_, ?_⟩)) <;> (try simp only [nms, reduceCtorEq] at hc) <;> (try (exfalso; omega)) <;> (try exact sd)))) | ((fail_if_success (with_reducible show AWp _ _ _ _ _)); (fail_if_success (with_reducible show AOps _ _ _ _ _ _)); (fail_if_success (with_reducible show HeadT _ _ _ _ _ _ _ _ _ _)); (first | (show AWp _ _ _ _ _) | (show AOps _ _ _ _ _ _))))
        rfl
      | ok l =>
        have hc2 := c_elist_at (Γ.at 0) b e.bd e.en hb h6 (by omega) hl
        repeat' (first | ((with_reducible show AWp _ _ _ _ _); (first | refine awp_seq ?_ | refine awp_block ?_ | refine awp_skip ?_ | refine awp_exit ?_ | refine awp_scope ?_ | refine awp_label ?_ | refine awp_run ty_ok rfl sd ?_ | refine awp_ret ⟨_, _, rfl, rfl, ?_⟩ | refine awp_ret ⟨_, rfl, ?_⟩ | ((refine awp_cond (ty := ty) rfl (fun hc => ?_) (fun hc => ?_)) <;> (try simp only [nms, reduceCtorEq] at hc) <;> (try (exfalso; omega))) | refine awp_anyL 2 mixed rfl (by kernel_rfl) ?_)) | ((with_reducible show AOps _ _ _ _ _ _); (first | refine aops_nil ?_ | refine aops_go ty_ok rfl rfl sd ?_ | refine aops_gate ty_ok rfl rfl rfl sd ?_ | refine aops_callE (ty := ty) rfl rfl rfl rfl rfl rfl rfl (hc1) rfl ?_ | refine aops_callE (ty := ty) rfl rfl rfl rfl rfl rfl rfl (c_is_at _ e cls num true hi) rfl ?_ | refine aops_callE (ty := ty) rfl rfl rfl rfl rfl rfl rfl (hc2) rfl ?_ | refine aops_litE ty_ok rfl rfl rfl rfl rfl rfl rfl rfl rfl rfl rfl rfl ?_ | refine aops_litA ty_ok rfl rfl rfl rfl rfl rfl rfl rfl rfl rfl rfl rfl rfl rfl rfl rfl ?_ | refine aops_buildArr ty_ok rfl rfl rfl rfl rfl rfl rfl rfl rfl rfl ?_ | refine aops_indexArr ty_ok rfl rfl rfl rfl rfl rfl rfl rfl rfl rfl sd ?_ | refine aops_cutE ty_ok rfl rfl rfl rfl rfl rfl rfl rfl rfl sd rfl ?_ | ((fail_if_success (refine aops_known rfl ?_)); (refine aops_split ty_ok rfl rfl rfl rfl rfl rfl (fun hc => ⟨?_, ?_⟩) (fun hc => ⟨?_, ?_⟩)) <;> (try simp only [nms, reduceCtorEq] at hc) <;> (try (exfalso; omega)) <;> (try exact sd)))) | ((with_reducible show HeadT _ _ _ _ _ _ _ _ _ _); (first | refine head_end ?_ | refine head_goP ty_ok rfl rfl sd ?_ | refine head_gate ty_ok rfl rfl rfl sd ?_ | refine head_callE (ty := ty) rfl rfl rfl rfl rfl rfl rfl (hc1) rfl ?_ | refine head_callE (ty := ty) rfl rfl rfl rfl rfl rfl rfl (c_is_at _ e cls num true hi) rfl ?_ | refine head_callE (ty := ty) rfl rfl rfl rfl rfl rfl rfl (hc2) rfl ?_ | ((fail_if_success (refine head_known rfl ?_)); (refine head_split ty_ok rfl rfl rfl rfl (fun hc => ⟨?_, ?_⟩) (fun hc => ⟨?_, ?_⟩)) <;> (try simp only [nms, reduceCtorEq] at hc) <;> (try (exfalso; omega)) <;> (try exact sd)))) | ((fail_if_success (with_reducible show AWp _ _ _ _ _)); (fail_if_success (with_reducible show AOps _ _ _ _ _ _)); (fail_if_success (with_reducible show HeadT _ _ _ _ _ _ _ _ _ _)); (first | (show AWp _ _ _ _ _) | (show AOps _ _ _ _ _ _))))
        rfl
theorem c_parts_at (Γ : Env) (b : List UInt8) (cls num : Nat) (hb : b.length ≤ 1099511627) {v : Ex (List El)} (h : ptF b cls num = v) : ACalls Tryz.prog Γ 30 [.sl none (bys b), .int .i64 cls, .int .i64 num] (fun r => r = elsR v) := by
  subst h
  exact c_parts Γ b cls num hb
end Go.Proofs.YtbbakpmedpcigaaGreatDoor

/- Contents octets and the numbers that they hold: one to one. Plain Lean; Encode of the reference, walked. -/
namespace Go.Proofs.YtbbakpmedpcigaaGreatDoor
open Go.Am
open Go.Lib (decDigits)
set_option linter.unusedSimpArgs false
set_option linter.unusedVariables false

/-- The numbers in contents octets; 'begun': within a number, of which n was read. -/
def dec7 (begun : Bool) (n : Nat) : List UInt8 → Option (List Nat)
  | [] => match begun with
    | true => none
    | false => some []
  | x :: r => match !begun && decide (x = 128), decide (n * 128 + x.toNat % 128 ≤ 4294967295), decide (128 ≤ x.toNat) with
    | false, true, true => dec7 true (n * 128 + x.toNat % 128) r
    | false, true, false => (dec7 false 0 r).map fun l => (n * 128 + x.toNat % 128) :: l
    | _, _, _ => none
def dec7r (n : Nat) : List UInt8 → Option (List Nat)
  | [] => some []
  | x :: r => match decide (n * 128 + x.toNat % 128 ≤ 4294967295), decide (x.toNat < 128) with
    | true, true => (dec7r 0 r).map fun l => (n * 128 + x.toNat % 128) :: l
    | true, false => dec7r (n * 128 + x.toNat % 128) r
    | _, _ => none
def flat7 (ns : List Nat) : List UInt8 := (ns.map (b128 true)).flatten
theorem flat7_cons (n : Nat) (ns : List Nat) : flat7 (n :: ns) = b128 true n ++ flat7 ns := by simp [flat7]
theorem dec7_r : ∀ (c : List UInt8) (b : Bool) (n : Nat) (ns : List Nat), dec7 b n c = some ns → dec7r n c = some ns
  | [], b, n, ns, h => by
    cases b with
    | true => cases h
    | false => exact h
  | x :: r, b, n, ns, h => by
    unfold dec7 at h
    unfold dec7r
    split at h
    · rename_i h1 h2 h3
      have h4 : decide (x.toNat < 128) = false := by
        simp only [decide_eq_true_eq, decide_eq_false_iff_not] at h3 ⊢
        omega
      simp only [h2, h4]
      exact dec7_r r _ _ _ h
    · rename_i h1 h2 h3
      have h4 : decide (x.toNat < 128) = true := by
        simp only [decide_eq_false_iff_not, decide_eq_true_eq] at h3 ⊢
        omega
      simp only [h2, h4]
      obtain ⟨l, hl, rfl⟩ := Option.map_eq_some_iff.1 h
      rw [dec7_r r _ _ _ hl]
      rfl
    · cases h
theorem dec7r_le : ∀ (c : List UInt8) (n : Nat) (ns : List Nat), dec7r n c = some ns → ∀ m ∈ ns, m ≤ 4294967295
  | [], n, ns, h, m, hm => by
    cases h
    cases hm
  | x :: r, n, ns, h, m, hm => by
    unfold dec7r at h
    split at h
    · rename_i h1 h2
      obtain ⟨l, hl, rfl⟩ := Option.map_eq_some_iff.1 h
      rcases List.mem_cons.1 hm with rfl | hm
      · exact of_decide_eq_true h1
      · exact dec7r_le r _ _ hl m hm
    · exact dec7r_le r _ _ h m hm
    · cases h
theorem low7_ne (q : Nat) (h0 : 0 < q) (h : q < 128) : low7 false q ≠ 128 := by
  intro e
  have h1 := (low7_nat q).2
  rw [e] at h1
  have : (128 : UInt8).toNat = 128 := rfl
  omega
theorem dec7_hi (q : Nat) : 0 < q → q ≤ 4294967295 → ∀ r, dec7 false 0 (b128 false q ++ r) = dec7 true q r := by
  induction q using Nat.strongRecOn with
  | _ q ih =>
    intro h0 hM r
    have hlow := (low7_nat q).2
    by_cases h : q < 128
    · rw [b128_small h]
      have e1 : decide (low7 false q = 128) = false := decide_eq_false (low7_ne q h0 h)
      have e2 : 0 * 128 + (low7 false q).toNat % 128 = q := by omega
      have e3 : decide (q ≤ 4294967295) = true := decide_eq_true hM
      have e4 : decide (128 ≤ (low7 false q).toNat) = true := decide_eq_true (by omega)
      simp only [List.cons_append, List.nil_append, dec7, e1, e2, e3, e4, Bool.and_false]
    · rw [b128_big h, List.append_assoc, ih (q / 128) (by omega) (by omega) (by omega)]
      have e2 : q / 128 * 128 + (low7 false q).toNat % 128 = q := by omega
      have e3 : decide (q ≤ 4294967295) = true := decide_eq_true hM
      have e4 : decide (128 ≤ (low7 false q).toNat) = true := decide_eq_true (by omega)
      simp only [List.cons_append, List.nil_append, dec7, e2, e3, e4, Bool.not_true, Bool.false_and]
theorem dec7_lo (n : Nat) (hM : n ≤ 4294967295) (r : List UInt8) : dec7 false 0 (b128 true n ++ r) = (dec7 false 0 r).map fun l => n :: l := by
  have hlow := (low7_nat n).1
  by_cases h : n < 128
  · rw [b128_small h]
    have e1 : decide (low7 true n = 128) = false := decide_eq_false (by
      intro e
      have : (128 : UInt8).toNat = 128 := rfl
      rw [e] at hlow
      omega)
    have e2 : 0 * 128 + (low7 true n).toNat % 128 = n := by omega
    have e3 : decide (n ≤ 4294967295) = true := decide_eq_true hM
    have e4 : decide (128 ≤ (low7 true n).toNat) = false := decide_eq_false (by omega)
    simp only [List.cons_append, List.nil_append, dec7, e1, e2, e3, e4, Bool.and_false]
  · rw [b128_big h, List.append_assoc, dec7_hi (n / 128) (by omega) (by omega)]
    have e2 : n / 128 * 128 + (low7 true n).toNat % 128 = n := by omega
    have e3 : decide (n ≤ 4294967295) = true := decide_eq_true hM
    have e4 : decide (128 ≤ (low7 true n).toNat) = false := decide_eq_false (by omega)
    simp only [List.cons_append, List.nil_append, dec7, e2, e3, e4, Bool.not_true, Bool.false_and]
theorem dec7_flat : ∀ (ns : List Nat), (∀ n ∈ ns, n ≤ 4294967295) → dec7 false 0 (flat7 ns) = some ns
  | [], _ => rfl
  | n :: ns, h => by
    rw [flat7_cons, dec7_lo n (h n (List.mem_cons_self ..)), dec7_flat ns (fun m hm => h m (List.mem_cons_of_mem _ hm))]
    rfl
theorem u8_of {x : UInt8} {y : UInt8} (h : x.toNat = y.toNat) : x = y := UInt8.toNat_inj.1 h
theorem flat_dec7 : ∀ (c : List UInt8), (∀ ns, dec7 false 0 c = some ns → flat7 ns = c) ∧ (∀ q, 0 < q → ∀ ns, dec7 true q c = some ns → flat7 ns = b128 false q ++ c)
  | [] => ⟨fun ns h => by cases h; rfl, fun q _ ns h => by cases h⟩
  | x :: r => by
    obtain ⟨ih1, ih2⟩ := flat_dec7 r
    have hx : x.toNat < 256 := x.toNat_lt
    constructor
    · intro ns h
      unfold dec7 at h
      split at h
      · rename_i h1 h2 h3
        have h3' : 128 ≤ x.toNat := of_decide_eq_true h3
        have hne : x ≠ 128 := by
          intro e
          rw [e] at h1
          cases h1
        have hpos : 0 < 0 * 128 + x.toNat % 128 := by
          have : x.toNat ≠ 128 := fun e => hne (u8_of e)
          omega
        rw [ih2 _ hpos ns h, b128_small (by omega)]
        have : low7 false (0 * 128 + x.toNat % 128) = x := u8_of (by rw [(low7_nat _).2]; omega)
        rw [this]
        rfl
      · rename_i h1 h2 h3
        have h3' : ¬ 128 ≤ x.toNat := of_decide_eq_false h3
        obtain ⟨l, hl, rfl⟩ := Option.map_eq_some_iff.1 h
        rw [flat7_cons, ih1 l hl, b128_small (by omega)]
        have : low7 true (0 * 128 + x.toNat % 128) = x := u8_of (by rw [(low7_nat _).1]; omega)
        rw [this]
        rfl
      · cases h
    · intro q hq ns h
      unfold dec7 at h
      split at h
      · rename_i h1 h2 h3
        have h3' : 128 ≤ x.toNat := of_decide_eq_true h3
        rw [ih2 _ (by omega) ns h, b128_big (by omega)]
        have e1 : low7 false (q * 128 + x.toNat % 128) = x := u8_of (by rw [(low7_nat _).2]; omega)
        have e2 : (q * 128 + x.toNat % 128) / 128 = q := by omega
        rw [e1, e2, List.append_assoc]
        rfl
      · rename_i h1 h2 h3
        have h3' : ¬ 128 ≤ x.toNat := of_decide_eq_false h3
        obtain ⟨l, hl, rfl⟩ := Option.map_eq_some_iff.1 h
        rw [flat7_cons, ih1 l hl, b128_big (by omega)]
        have e1 : low7 true (q * 128 + x.toNat % 128) = x := u8_of (by rw [(low7_nat _).1]; omega)
        have e2 : (q * 128 + x.toNat % 128) / 128 = q := by omega
        rw [e1, e2, List.append_assoc]
        rfl
      · cases h
/-- The arcs of numbers. -/
def arcsOf (m : Nat) (r : List Nat) : List Nat := min (m / 40) 2 :: (m - 40 * min (m / 40) 2) :: r
theorem arcsOf_right (m : Nat) (r : List Nat) (h : m ≤ 4294967295) : rightF (arcsOf m r) = true := by
  simp only [arcsOf, rightF, Bool.or_eq_true, Bool.and_eq_true, decide_eq_true_eq]
  omega
theorem arcsOf_le (m : Nat) (r : List Nat) (h : ∀ n ∈ m :: r, n ≤ 4294967295) : ∀ n ∈ arcsOf m r, n ≤ 4294967295 := by
  have hm := h m (List.mem_cons_self ..)
  intro n hn
  simp only [arcsOf, List.mem_cons] at hn
  rcases hn with rfl | rfl | hn
  · omega
  · omega
  · exact h n (List.mem_cons_of_mem _ hn)
theorem arcsOf_enc (m : Nat) (r : List Nat) : encL (arcsOf m r) = flat7 (m :: r) := by
  rw [flat7_cons, arcsOf, encL]
  rw [show 40 * min (m / 40) 2 + (m - 40 * min (m / 40) 2) = m by omega]
  rfl
theorem enc_arcs {a : List Nat} (h : rightF a = true) : ∃ m r, arcsOf m r = a ∧ (∀ n ∈ a, n ≤ 4294967295) → ∀ n ∈ m :: r, n ≤ 4294967295 := ⟨0, [], fun _ n hn => by simp at hn; omega⟩
def decS (c : List UInt8) : List UInt8 × Int := match dec7 false 0 c with
  | some (m :: r) => (textF (arcsOf m r), 0)
  | _ => ([], 6)
def decOD (c : List UInt8) : Dat := .tup [sD (decS c).1, .int .i64 (decS c).2]

theorem isREncode : IsFn Tryz.prog 44 Tryz.f44 := ⟨Tryz.func44, by decide, rfl⟩
theorem c_renc_bad (Γ : Env) (l : List UInt8) (hl : l.length ≤ 100000000) (h : okF l = none) : ACalls Tryz.prog Γ 44 [sD l] (fun r => r = .d (.tup [.sl none [], .int .i64 8])) := by
  refine acalls_of ty_ok isREncode rfl rfl ?_
  have hA := c_rarcs Γ l hl
  rw [arcsD, h] at hA
  repeat' (first | ((with_reducible show AWp _ _ _ _ _); (first | refine awp_seq ?_ | refine awp_block ?_ | refine awp_skip ?_ | refine awp_exit ?_ | refine awp_scope ?_ | refine awp_label ?_ | refine awp_run ty_ok rfl sd ?_ | refine awp_ret ⟨_, _, rfl, rfl, ?_⟩ | refine awp_ret ⟨_, rfl, ?_⟩ | ((refine awp_cond (ty := ty) rfl (fun hc => ?_) (fun hc => ?_)) <;> (try simp only [nms, reduceCtorEq] at hc) <;> (try (exfalso; omega))))) | ((with_reducible show AOps _ _ _ _ _ _); (first | refine aops_nil ?_ | refine aops_go ty_ok rfl rfl sd ?_ | refine aops_gate ty_ok rfl rfl rfl sd ?_ | refine aops_callE (ty := ty) rfl rfl rfl rfl rfl rfl rfl (hA) rfl ?_ | refine aops_litE ty_ok rfl rfl rfl rfl rfl rfl rfl rfl rfl rfl rfl rfl ?_ | refine aops_cutE ty_ok rfl rfl rfl rfl rfl rfl rfl rfl rfl sd rfl ?_ | ((fail_if_success (refine aops_known rfl ?_)); (refine aops_split ty_ok rfl rfl rfl rfl rfl rfl (fun hc => ⟨?_, ?_⟩) (fun hc => ⟨?_, ?_⟩)) <;> (try simp only [nms, reduceCtorEq] at hc) <;> (try (exfalso; omega)) <;> (try exact sd)))) | ((fail_if_success (with_reducible show AWp _ _ _ _ _)); (fail_if_success (with_reducible show AOps _ _ _ _ _ _)); (first | (show AWp _ _ _ _ _) | (show AOps _ _ _ _ _ _))))
  all_goals rfl
set_option maxHeartbeats 1000000 in
theorem c_renc_ok (Γ : Env) (l : List UInt8) (a : List Nat) (hl : l.length ≤ 100000000) (h : okF l = some a) : ACalls Tryz.prog Γ 44 [sD l] (fun r => r = .ownT none 5 (bys (encL a)) [.int .i64 0]) := by
  refine acalls_of ty_ok isREncode rfl rfl ?_
  have hA := c_rarcs Γ l hl
  rw [arcsD, h] at hA
  have hal := okF_len h
  obtain ⟨_, hr, hn⟩ := okF_text h
  match a, hr, hn, hal, hA with
  | x :: y :: t, hr, hn, hal, hA =>
  have hx : ((u32s (x :: y :: t)).getD (Int.toNat 0) default).num = x := rfl
  have hy : ((u32s (x :: y :: t)).getD (Int.toNat 1) default).num = y := rfl
  have hlen : (u32s (x :: y :: t)).length = t.length + 2 := by simp [u32s]
  have hxy : 40 * x + y ≤ 4294967295 := by
    simp only [rightF, Bool.or_eq_true, Bool.and_eq_true, decide_eq_true_eq] at hr
    omega
  have htn : ∀ n ∈ t, n ≤ 4294967295 := fun n hm => hn n (by simp [hm])
  simp only [List.length_cons] at hal
  have hb1 := c_base (Γ.at 0) (40 * x + y) true (by omega)
  have hw1 : IntKind.u64.wrap (IntKind.u64.wrap (40 * IntKind.u64.wrap ((u32s (x :: y :: t)).getD (Int.toNat 0) default).num) + IntKind.u64.wrap ((u32s (x :: y :: t)).getD (Int.toNat 1) default).num) = ((40 * x + y : Nat) : Int) := by
    rw [hx, hy, IntKind.wrap_u64, IntKind.wrap_u64, IntKind.wrap_u64, IntKind.wrap_u64]
    omega
  rw [← hw1] at hb1
  have hb5 := b128_len32 true (40 * x + y) hxy
  repeat' (first | ((with_reducible show AWp _ _ _ _ _); (first | refine awp_seq ?_ | refine awp_block ?_ | refine awp_skip ?_ | refine awp_exit ?_ | refine awp_scope ?_ | refine awp_label ?_ | refine awp_run ty_ok rfl sd ?_ | refine awp_ret ⟨_, _, rfl, rfl, ?_⟩ | refine awp_ret ⟨_, rfl, ?_⟩ | ((refine awp_cond (ty := ty) rfl (fun hc => ?_) (fun hc => ?_)) <;> (try simp only [nms, reduceCtorEq] at hc) <;> (try (exfalso; omega))) | refine awp_anyM 10 12 mixed rfl (by kernel_rfl) ?_)) | ((with_reducible show AOps _ _ _ _ _ _); (first | refine aops_nil ?_ | refine aops_go ty_ok rfl rfl sd ?_ | refine aops_gate ty_ok rfl rfl rfl sd ?_ | refine aops_callE (ty := ty) rfl rfl rfl rfl rfl rfl rfl (hA) rfl ?_ | refine aops_callE (ty := ty) rfl rfl rfl rfl rfl rfl rfl (hb1) rfl ?_ | refine aops_litE ty_ok rfl rfl rfl rfl rfl rfl rfl rfl rfl rfl rfl rfl ?_ | refine aops_cutE ty_ok rfl rfl rfl rfl rfl rfl rfl rfl rfl sd rfl ?_ | ((fail_if_success (refine aops_known rfl ?_)); (refine aops_split ty_ok rfl rfl rfl rfl rfl rfl (fun hc => ⟨?_, ?_⟩) (fun hc => ⟨?_, ?_⟩)) <;> (try simp only [nms, reduceCtorEq] at hc) <;> (try (exfalso; omega)) <;> (try exact sd)))) | ((with_reducible show HeadT _ _ _ _ _ _ _ _ _ _); (first | refine head_end ?_ | refine head_goP ty_ok rfl rfl sd ?_ | refine head_gate ty_ok rfl rfl rfl sd ?_ | refine head_callE (ty := ty) rfl rfl rfl rfl rfl rfl rfl (hA) rfl ?_ | refine head_callE (ty := ty) rfl rfl rfl rfl rfl rfl rfl (hb1) rfl ?_ | ((fail_if_success (refine head_known rfl ?_)); (refine head_split ty_ok rfl rfl rfl rfl (fun hc => ⟨?_, ?_⟩) (fun hc => ⟨?_, ?_⟩)) <;> (try simp only [nms, reduceCtorEq] at hc) <;> (try (exfalso; omega)) <;> (try exact sd)))) | ((fail_if_success (with_reducible show AWp _ _ _ _ _)); (fail_if_success (with_reducible show AOps _ _ _ _ _ _)); (fail_if_success (with_reducible show HeadT _ _ _ _ _ _ _ _ _ _)); (first | (show AWp _ _ _ _ _) | (show AOps _ _ _ _ _ _))))
  refine awp_loopR (G := { k : Nat // k ≤ t.length }) (fun k => ⟨Tryz.f44.ntmps, [(4, .d (.sl none (u32s (x :: y :: t)))), (6, .ref 0), (7, .d (.int .i64 ((k.1 : Int) + 2)))], [(0, .row none 5 (bys (b128 true (40 * x + y) ++ ((t.take k.1).map (b128 true)).flatten)))], 1⟩) (fun k => t.length - k.1) ⟨0, Nat.zero_le _⟩ [(10, 0)]
    (SubR.mk' rfl rfl ⟨⟨_, rfl, rfl⟩, ⟨_, rfl, rfl⟩, ⟨_, rfl, rfl⟩, trivial⟩ ⟨⟨_, _, rfl, rfl, congrArg (fun z => AO.row none 5 (bys z)) (by simp)⟩, trivial⟩) ?_
  rintro ⟨k, hk⟩
  dsimp only
  have hfl := flat_len (t.take k) (fun m hm => htn m (List.mem_of_mem_take hm))
  have htk : (t.take k).length ≤ t.length := by rw [List.length_take]; omega
  rcases Nat.lt_or_ge k t.length with hkl | hkl
  · have hnk := htn t[k] (List.getElem_mem _)
    have hnum : IntKind.u64.wrap ((u32s (x :: y :: t)).getD ((k : Int) + 2).toNat default).num = (t[k] : Int) := by
      have e1 : ((k : Int) + 2).toNat = k + 1 + 1 := by omega
      rw [e1, num_u32s, List.getD_cons_succ, List.getD_cons_succ, List.getD_eq_getElem?_getD, List.getElem?_eq_getElem hkl]
      exact wrap_u64 _ (by simp; omega)
    have hb2 := c_base (Γ.at 0) t[k] true (by omega)
    rw [← hnum] at hb2
    have hb6 := b128_len32 true t[k] hnk
    repeat' (first | ((with_reducible show AWp _ _ _ _ _); (first | refine awp_seq ?_ | refine awp_block ?_ | refine awp_skip ?_ | refine awp_exit ?_ | refine awp_scope ?_ | refine awp_label ?_ | refine awp_run ty_ok rfl sd ?_ | refine awp_ret ⟨_, _, rfl, rfl, ?_⟩ | refine awp_ret ⟨_, rfl, ?_⟩ | ((refine awp_cond (ty := ty) rfl (fun hc => ?_) (fun hc => ?_)) <;> (try simp only [nms, reduceCtorEq] at hc) <;> (try (exfalso; omega))))) | ((with_reducible show AOps _ _ _ _ _ _); (first | refine aops_nil ?_ | refine aops_go ty_ok rfl rfl sd ?_ | refine aops_gate ty_ok rfl rfl rfl sd ?_ | refine aops_callE (ty := ty) rfl rfl rfl rfl rfl rfl rfl (hb2) rfl ?_ | refine aops_litE ty_ok rfl rfl rfl rfl rfl rfl rfl rfl rfl rfl rfl rfl ?_ | refine aops_cutE ty_ok rfl rfl rfl rfl rfl rfl rfl rfl rfl sd rfl ?_ | ((fail_if_success (refine aops_known rfl ?_)); (refine aops_split ty_ok rfl rfl rfl rfl rfl rfl (fun hc => ⟨?_, ?_⟩) (fun hc => ⟨?_, ?_⟩)) <;> (try simp only [nms, reduceCtorEq] at hc) <;> (try (exfalso; omega)) <;> (try exact sd)))) | ((fail_if_success (with_reducible show AWp _ _ _ _ _)); (fail_if_success (with_reducible show AOps _ _ _ _ _ _)); (first | (show AWp _ _ _ _ _) | (show AOps _ _ _ _ _ _))))
    refine ⟨⟨k + 1, hkl⟩, [(2, 0)], SubR.mk' rfl rfl ⟨⟨_, rfl, rfl⟩, ⟨_, rfl, rfl⟩, ⟨_, rfl, congrArg (fun z : Int => AV.d (Dat.int IntKind.i64 z)) (by simp only; omega)⟩, trivial⟩ ⟨⟨_, _, rfl, rfl, congrArg (AO.row none 5) ?_⟩, trivial⟩, by simp only; omega⟩
    rw [flat_take (b128 true) t k hkl]
    simp only [bys_app, List.append_assoc]
  · have hke : k = t.length := by omega
    subst hke
    repeat' (first | ((with_reducible show AWp _ _ _ _ _); (first | refine awp_seq ?_ | refine awp_block ?_ | refine awp_skip ?_ | refine awp_exit ?_ | refine awp_scope ?_ | refine awp_label ?_ | refine awp_run ty_ok rfl sd ?_ | refine awp_ret ⟨_, _, rfl, rfl, ?_⟩ | refine awp_ret ⟨_, rfl, ?_⟩ | ((refine awp_cond (ty := ty) rfl (fun hc => ?_) (fun hc => ?_)) <;> (try simp only [nms, reduceCtorEq] at hc) <;> (try (exfalso; omega))))) | ((with_reducible show AOps _ _ _ _ _ _); (first | refine aops_nil ?_ | refine aops_go ty_ok rfl rfl sd ?_ | refine aops_gate ty_ok rfl rfl rfl sd ?_ | refine aops_litE ty_ok rfl rfl rfl rfl rfl rfl rfl rfl rfl rfl rfl rfl ?_ | refine aops_cutE ty_ok rfl rfl rfl rfl rfl rfl rfl rfl rfl sd rfl ?_ | ((fail_if_success (refine aops_known rfl ?_)); (refine aops_split ty_ok rfl rfl rfl rfl rfl rfl (fun hc => ⟨?_, ?_⟩) (fun hc => ⟨?_, ?_⟩)) <;> (try simp only [nms, reduceCtorEq] at hc) <;> (try (exfalso; omega)) <;> (try exact sd)))) | ((fail_if_success (with_reducible show AWp _ _ _ _ _)); (fail_if_success (with_reducible show AOps _ _ _ _ _ _)); (first | (show AWp _ _ _ _ _) | (show AOps _ _ _ _ _ _))))
    simp only [encL, List.take_length]
end Go.Proofs.YtbbakpmedpcigaaGreatDoor

/- What octets are decoded as; what an encoding is decoded as: plain. -/
namespace Go.Proofs.YtbbakpmedpcigaaGreatDoor
open Go.Am
open Go.Lib (decDigits)
set_option linter.unusedSimpArgs false
set_option linter.unusedVariables false

theorem right_arcs {a : List Nat} (h : rightF a = true) (hn : ∀ n ∈ a, n ≤ 4294967295) : ∃ m r, arcsOf m r = a ∧ ∀ n ∈ m :: r, n ≤ 4294967295 := by
  match a, h, hn with
  | x :: y :: t, h, hn =>
    simp only [rightF, Bool.or_eq_true, Bool.and_eq_true, decide_eq_true_eq] at h
    refine ⟨40 * x + y, t, ?_, ?_⟩
    · have h1 : min ((40 * x + y) / 40) 2 = x := by omega
      have h2 : 40 * x + y - 40 * x = y := by omega
      simp only [arcsOf, h1, h2]
    · intro n hm
      rcases List.mem_cons.1 hm with rfl | hm
      · omega
      · exact hn n (by simp [hm])
theorem decS_enc {l : List UInt8} {a : List Nat} (h : okF l = some a) : decS (encL a) = (l, 0) := by
  obtain ⟨h1, h2, h3⟩ := okF_text h
  obtain ⟨m, r, h4, h5⟩ := right_arcs h2 h3
  have h6 : dec7 false 0 (encL a) = some (m :: r) := by
    rw [← h4, arcsOf_enc]
    exact dec7_flat _ h5
  simp only [decS, h6]
  rw [h4, h1]
theorem flat7_ge (ns : List Nat) : ns.length ≤ (flat7 ns).length := by
  induction ns with
  | nil => simp
  | cons n ns ih =>
    rw [flat7_cons, List.length_append, List.length_cons]
    have : 0 < (b128 true n).length := by
      by_cases hb : n < 128
      · rw [b128_small hb]; simp
      · rw [b128_big hb]; simp
    omega
/-- What octets are decoded as: nothing, or the only string that has them. -/
theorem decS_cases (c : List UInt8) : decS c = ([], 6) ∨ ∃ s, oidV s = true ∧ encO s = c ∧ decS c = (s, 0) ∧ s.length ≤ (c.length + 2) * 11 := by
  cases h : dec7 false 0 c with
  | none => exact .inl (by simp only [decS, h])
  | some ns =>
    match ns, h with
    | [], h => exact .inl (by simp only [decS, h])
    | m :: r, h =>
      have hle := dec7r_le c 0 _ (dec7_r _ _ _ _ h)
      have hr := arcsOf_right m r (hle m (List.mem_cons_self ..))
      have hn := arcsOf_le m r hle
      have ho := text_okF hr hn
      have he : encL (arcsOf m r) = c := by
        rw [arcsOf_enc]
        exact (flat_dec7 c).1 _ h
      refine .inr ⟨textF (arcsOf m r), by unfold oidV; rw [ho]; rfl, by unfold encO; rw [ho]; exact he, by simp only [decS, h], ?_⟩
      have h5 := textF_len _ hn
      have h6 := flat7_ge (m :: r)
      rw [← arcsOf_enc, he, List.length_cons] at h6
      simp only [arcsOf, List.length_cons] at h5 ⊢
      omega
theorem decS_encO {s : List UInt8} (h : oidV s = true) : decS (encO s) = (s, 0) := by
  unfold oidV at h
  unfold encO
  cases ho : okF s with
  | none => rw [ho] at h; cases h
  | some a => exact decS_enc ho
theorem oidV_nil : oidV [] = false := by
  unfold oidV
  cases ho : okF [] with
  | none => rfl
  | some a =>
    exfalso
    have h1 := okF_len ho
    obtain ⟨_, h2, _⟩ := okF_text ho
    match a, h2 with
    | x :: y :: t, _ => simp at h1
theorem decS_len (c : List UInt8) : (decS c).1.length ≤ (c.length + 2) * 11 := by
  rcases decS_cases c with h | ⟨s, _, _, h, hl⟩
  · rw [h]; simp
  · rw [h]; exact hl
end Go.Proofs.YtbbakpmedpcigaaGreatDoor

/- Decode of package oid, walked by the abstract machine. -/
namespace Go.Proofs.YtbbakpmedpcigaaGreatDoor
open Go.Am
open Go.Lib (decDigits)
set_option linter.unusedSimpArgs false
set_option linter.unusedVariables false

theorem u8_and127 (x : UInt8) : bits .and .u8 (x.toNat : Int) 127 = ((x.toNat % 128 : Nat) : Int) := by
  have hx : x.toNat < 256 := x.toNat_lt
  have h1 := (bits_nat .u8 8 (by decide) (fun n h0 h1 => by rw [IntKind.wrap_u8]; omega) x.toNat 127 (by omega) (by omega)).1
  have h2 : x.toNat &&& 127 = x.toNat % 128 := Nat.and_two_pow_sub_one_eq_mod _ 7
  rw [h2] at h1
  exact h1
theorem u8_and128 (x : UInt8) : (bits .and .u8 (x.toNat : Int) 128 != 0) = decide (128 ≤ x.toNat) := by
  have hx : x.toNat < 256 := x.toNat_lt
  have h1 := (bits_nat .u8 8 (by decide) (fun n h0 h1 => by rw [IntKind.wrap_u8]; omega) x.toNat 128 (by omega) (by omega)).1
  have h2 : ∀ d : Fin 256, (((d.1 &&& 128 : Nat) : Int) != 0) = decide (128 ≤ d.1) := by decide +kernel
  have h3 := h2 ⟨x.toNat, hx⟩
  simp only at h3
  rw [← h3]
  exact congrArg (fun z : Int => z != 0) h1
theorem u64_step (n d : Nat) (hn : n ≤ 4294967295) (hd : d < 128) : bits .or .u64 (shft .shl .u64 (n : Int) 7) (d : Int) = ((n * 128 + d : Nat) : Int) := by
  have h0 : shft .shl .u64 (n : Int) 7 = ((n * 128 : Nat) : Int) := by
    show IntKind.u64.wrap ((n : Int) * 2 ^ (min (7 : Int).toNat 64)) = _
    rw [show (2 : Int) ^ (min (7 : Int).toNat 64) = 128 by decide, IntKind.wrap_u64]
    omega
  rw [h0]
  have h1 := (bits_nat .u64 64 (by decide) (fun n h0 h1 => by rw [IntKind.wrap_u64]; omega) (n * 128) d (by omega) (by omega)).2
  have h2 : (n * 128) ||| d = n * 128 + d := by
    have := Nat.two_pow_add_eq_or_of_lt (i := 7) (b := d) hd n
    rw [Nat.mul_comm] at this
    exact this.symm
  rw [h2] at h1
  exact h1
theorem u64s_app (x y : List Nat) : u64s (x ++ y) = u64s x ++ u64s y := by simp [u64s]
theorem u64_at {a : List Nat} {k : Nat} (h : k < a.length) : ((u64s a).getD (k : Int).toNat default).num = (a[k] : Int) := by
  rw [num_u64s, Int.toNat_natCast, List.getD_eq_getElem?_getD, List.getElem?_eq_getElem h]
  rfl
theorem by_at {c : List UInt8} {k : Nat} (h : k < c.length) : ((bys c).getD (k : Int).toNat default).num = (c[k].toNat : Int) := by
  rw [num_bys, Int.toNat_natCast, List.getD_eq_getElem?_getD, List.getElem?_eq_getElem h]
  rfl
theorem map_app_cons (o : Option (List Nat)) (ns : List Nat) (m : Nat) : (o.map fun l => m :: l).map (fun l => ns ++ l) = o.map (fun l => (ns ++ [m]) ++ l) := by
  cases o <;> simp

theorem isODecode : IsFn Tryz.prog 32 Tryz.f32 := ⟨Tryz.func32, by decide, rfl⟩
set_option maxHeartbeats 4000000 in
theorem c_odec (c : List UInt8) (hl : c.length ≤ 10000000) : ACalls Tryz.prog envL 32 [.sl none (bys c)] (fun r => r = .d (decOD c)) := by
  refine acalls_of ty_ok isODecode rfl rfl ?_
  repeat' (first | ((with_reducible show AWp _ _ _ _ _); (first | refine awp_seq ?_ | refine awp_block ?_ | refine awp_skip ?_ | refine awp_exit ?_ | refine awp_scope ?_ | refine awp_label ?_ | refine awp_run ty_ok rfl sd ?_ | refine awp_ret ⟨_, _, rfl, rfl, ?_⟩ | refine awp_ret ⟨_, rfl, ?_⟩ | ((refine awp_cond (ty := ty) rfl (fun hc => ?_) (fun hc => ?_)) <;> (try simp only [nms, reduceCtorEq] at hc) <;> (try (exfalso; omega))))) | ((with_reducible show AOps _ _ _ _ _ _); (first | refine aops_nil ?_ | refine aops_go ty_ok rfl rfl sd ?_ | refine aops_gate ty_ok rfl rfl rfl sd ?_ | refine aops_litE ty_ok rfl rfl rfl rfl rfl rfl rfl rfl rfl rfl rfl rfl ?_ | refine aops_cutE ty_ok rfl rfl rfl rfl rfl rfl rfl rfl rfl sd rfl ?_ | ((fail_if_success (refine aops_known rfl ?_)); (refine aops_split ty_ok rfl rfl rfl rfl rfl rfl (fun hc => ⟨?_, ?_⟩) (fun hc => ⟨?_, ?_⟩)) <;> (try simp only [nms, reduceCtorEq] at hc) <;> (try (exfalso; omega)) <;> (try exact sd)))) | ((fail_if_success (with_reducible show AWp _ _ _ _ _)); (fail_if_success (with_reducible show AOps _ _ _ _ _ _)); (first | (show AWp _ _ _ _ _) | (show AOps _ _ _ _ _ _))))
  refine awp_nilrow 4 85 rfl ?_
  refine awp_loopR (G := { p : Nat × Bool × Nat × List Nat // p.1 ≤ c.length ∧ dec7 false 0 c = (dec7 p.2.1 p.2.2.1 (c.drop p.1)).map (fun l => p.2.2.2 ++ l) ∧ p.2.2.1 ≤ 4294967295 ∧ p.2.2.2.length ≤ p.1 ∧ (∀ n ∈ p.2.2.2, n ≤ 4294967295) ∧ (p.2.1 = false → p.2.2.1 = 0) })
    (fun p => ⟨Tryz.f32.ntmps, [(4, .ref 0), (5, .d (.bool p.1.2.1)), (6, .d (.int .u64 p.1.2.2.1)), (15, .d (.sl none (bys c))), (16, .d (.int .i64 c.length)), (17, .d (.int .i64 p.1.1))], [(0, .row none 85 (u64s p.1.2.2.2))], 1⟩) (fun p => c.length - p.1.1) ⟨(0, false, 0, []), Nat.zero_le _, by simp, by simp, Nat.le_refl _, by simp, fun _ => rfl⟩ [(0, 0)]
    (SubR.mk' rfl rfl ⟨⟨_, rfl, rfl⟩, ⟨_, rfl, rfl⟩, ⟨_, rfl, rfl⟩, ⟨_, rfl, rfl⟩, ⟨_, rfl, congrArg (fun z : Nat => AV.d (Dat.int IntKind.i64 z)) (bys_len _)⟩, ⟨_, rfl, rfl⟩, trivial⟩ ⟨⟨_, _, rfl, rfl, rfl⟩, trivial⟩) ?_
  rintro ⟨⟨k, b, n, ns⟩, hk, hd, hn, hnl, hns, hb0⟩
  simp only at hk hd hn hnl hns hb0
  dsimp only
  rcases Nat.lt_or_ge k c.length with hkl | hkl
  · have hx := by_at hkl
    rw [List.drop_eq_getElem_cons hkl] at hd
    generalize hcc : c[k] = x at hx hd
    have hx256 : x.toNat < 256 := x.toNat_lt
    have e1 := u8_and127 x
    have e2 := u8_and128 x
    have e3 := u64_step n (x.toNat % 128) hn (by omega)
    rw [← hx] at e1 e2
    have hw : IntKind.u64.wrap ((x.toNat % 128 : Nat) : Int) = ((x.toNat % 128 : Nat) : Int) := by rw [IntKind.wrap_u64]; omega
    have hnv : bits .or .u64 (shft .shl .u64 (n : Int) 7) (IntKind.u64.wrap (bits .and .u8 ((bys c).getD (k : Int).toNat default).num 127)) = ((n * 128 + x.toNat % 128 : Nat) : Int) := by rw [e1, hw, e3]
    have bad : (¬ ((!b && decide (x = 128)) = false ∧ n * 128 + x.toNat % 128 ≤ 4294967295)) → decOD c = .tup [sD [], .int .i64 6] := by
      intro h
      have : dec7 false 0 c = none := by
        rw [hd, dec7]
        split
        · rename_i h1 h2 h3
          exact absurd ⟨h1, of_decide_eq_true h2⟩ h
        · rename_i h1 h2 h3
          exact absurd ⟨h1, of_decide_eq_true h2⟩ h
        · rfl
      simp only [decOD, decS, this]
    have hx128 : (x = 128) ↔ ((bys c).getD (k : Int).toNat default).num = 128 := by
      rw [hx]
      constructor
      · rintro rfl; rfl
      · intro h
        exact u8_of (by have : (128 : UInt8).toNat = 128 := rfl; omega)
    by_cases hA : (!b && decide (x = 128)) = false ∧ n * 128 + x.toNat % 128 ≤ 4294967295
    · obtain ⟨hA1, hA2⟩ := hA
      have hA1' : b = false → ¬ ((bys c).getD (k : Int).toNat default).num = 128 := by
        rintro rfl h
        rw [hx128.2 h] at hA1
        cases hA1
      have hd2 : decide (n * 128 + x.toNat % 128 ≤ 4294967295) = true := decide_eq_true hA2
      by_cases h128 : 128 ≤ x.toNat
      · have hd3 : decide (128 ≤ x.toNat) = true := decide_eq_true h128
        rw [hd3] at e2
        have e2' : ¬ bits .and .u8 ((bys c).getD (k : Int).toNat default).num 128 = 0 := by simpa using e2
        rw [dec7, hA1, hd2, hd3] at hd
        cases b with
        | true =>
          repeat' (first | ((with_reducible show AWp _ _ _ _ _); (first | refine awp_seq ?_ | refine awp_block ?_ | refine awp_skip ?_ | refine awp_exit ?_ | refine awp_scope ?_ | refine awp_label ?_ | refine awp_run ty_ok rfl sd ?_ | refine awp_ret ⟨_, _, rfl, rfl, ?_⟩ | refine awp_ret ⟨_, rfl, ?_⟩ | ((refine awp_cond (ty := ty) rfl (fun hc => ?_) (fun hc => ?_)) <;> (try simp only [nms, reduceCtorEq] at hc) <;> (try (exfalso; omega))))) | ((with_reducible show AOps _ _ _ _ _ _); (first | refine aops_nil ?_ | refine aops_go ty_ok rfl rfl sd ?_ | refine aops_gate ty_ok rfl rfl rfl sd ?_ | refine aops_litE ty_ok rfl rfl rfl rfl rfl rfl rfl rfl rfl rfl rfl rfl ?_ | refine aops_cutE ty_ok rfl rfl rfl rfl rfl rfl rfl rfl rfl sd rfl ?_ | ((fail_if_success (refine aops_known rfl ?_)); (refine aops_split ty_ok rfl rfl rfl rfl rfl rfl (fun hc => ⟨?_, ?_⟩) (fun hc => ⟨?_, ?_⟩)) <;> (try simp only [nms, reduceCtorEq] at hc) <;> (try (exfalso; omega)) <;> (try exact sd)))) | ((fail_if_success (with_reducible show AWp _ _ _ _ _)); (fail_if_success (with_reducible show AOps _ _ _ _ _ _)); (first | (show AWp _ _ _ _ _) | (show AOps _ _ _ _ _ _))))
          refine ⟨⟨(k + 1, true, n * 128 + x.toNat % 128, ns), hkl, hd, hA2, by simp only; omega, hns, fun h => by cases h⟩, [(0, 0)], SubR.mk' rfl rfl ⟨⟨_, rfl, rfl⟩, ⟨_, rfl, congrArg (fun z : Bool => AV.d (Dat.bool z)) e2⟩, ⟨_, rfl, congrArg (fun z : Int => AV.d (Dat.int IntKind.u64 z)) hnv⟩, ⟨_, rfl, rfl⟩, ⟨_, rfl, rfl⟩, ⟨_, rfl, rfl⟩, trivial⟩ ⟨⟨_, _, rfl, rfl, rfl⟩, trivial⟩, by simp only; omega⟩
        | false =>
          have hne := hA1' rfl
          repeat' (first | ((with_reducible show AWp _ _ _ _ _); (first | refine awp_seq ?_ | refine awp_block ?_ | refine awp_skip ?_ | refine awp_exit ?_ | refine awp_scope ?_ | refine awp_label ?_ | refine awp_run ty_ok rfl sd ?_ | refine awp_ret ⟨_, _, rfl, rfl, ?_⟩ | refine awp_ret ⟨_, rfl, ?_⟩ | ((refine awp_cond (ty := ty) rfl (fun hc => ?_) (fun hc => ?_)) <;> (try simp only [nms, reduceCtorEq] at hc) <;> (try (exfalso; omega))))) | ((with_reducible show AOps _ _ _ _ _ _); (first | refine aops_nil ?_ | refine aops_go ty_ok rfl rfl sd ?_ | refine aops_gate ty_ok rfl rfl rfl sd ?_ | refine aops_litE ty_ok rfl rfl rfl rfl rfl rfl rfl rfl rfl rfl rfl rfl ?_ | refine aops_cutE ty_ok rfl rfl rfl rfl rfl rfl rfl rfl rfl sd rfl ?_ | ((fail_if_success (refine aops_known rfl ?_)); (refine aops_split ty_ok rfl rfl rfl rfl rfl rfl (fun hc => ⟨?_, ?_⟩) (fun hc => ⟨?_, ?_⟩)) <;> (try simp only [nms, reduceCtorEq] at hc) <;> (try (exfalso; omega)) <;> (try exact sd)))) | ((fail_if_success (with_reducible show AWp _ _ _ _ _)); (fail_if_success (with_reducible show AOps _ _ _ _ _ _)); (first | (show AWp _ _ _ _ _) | (show AOps _ _ _ _ _ _))))
          refine ⟨⟨(k + 1, true, n * 128 + x.toNat % 128, ns), hkl, hd, hA2, by simp only; omega, hns, fun h => by cases h⟩, [(0, 0)], SubR.mk' rfl rfl ⟨⟨_, rfl, rfl⟩, ⟨_, rfl, congrArg (fun z : Bool => AV.d (Dat.bool z)) e2⟩, ⟨_, rfl, congrArg (fun z : Int => AV.d (Dat.int IntKind.u64 z)) hnv⟩, ⟨_, rfl, rfl⟩, ⟨_, rfl, rfl⟩, ⟨_, rfl, rfl⟩, trivial⟩ ⟨⟨_, _, rfl, rfl, rfl⟩, trivial⟩, by simp only; omega⟩
      · have hd3 : decide (128 ≤ x.toNat) = false := decide_eq_false h128
        rw [hd3] at e2
        have e2' : bits .and .u8 ((bys c).getD (k : Int).toNat default).num 128 = 0 := by simpa using e2
        rw [dec7, hA1, hd2, hd3] at hd
        simp only at hd
        rw [map_app_cons] at hd
        have hns' : ∀ m ∈ ns ++ [n * 128 + x.toNat % 128], m ≤ 4294967295 := by
          intro m hm
          rcases List.mem_append.1 hm with hm | hm
          · exact hns m hm
          · simp only [List.mem_singleton] at hm
            omega
        have hrow : u64s ns ++ [Dat.int .u64 (bits .or .u64 (shft .shl .u64 (n : Int) 7) (IntKind.u64.wrap (bits .and .u8 ((bys c).getD (k : Int).toNat default).num 127)))] = u64s (ns ++ [n * 128 + x.toNat % 128]) := by
          rw [hnv, u64s_app]
          rfl
        cases b with
        | true =>
          repeat' (first | ((with_reducible show AWp _ _ _ _ _); (first | refine awp_seq ?_ | refine awp_block ?_ | refine awp_skip ?_ | refine awp_exit ?_ | refine awp_scope ?_ | refine awp_label ?_ | refine awp_run ty_ok rfl sd ?_ | refine awp_ret ⟨_, _, rfl, rfl, ?_⟩ | refine awp_ret ⟨_, rfl, ?_⟩ | ((refine awp_cond (ty := ty) rfl (fun hc => ?_) (fun hc => ?_)) <;> (try simp only [nms, reduceCtorEq] at hc) <;> (try (exfalso; omega))))) | ((with_reducible show AOps _ _ _ _ _ _); (first | refine aops_nil ?_ | refine aops_go ty_ok rfl rfl sd ?_ | refine aops_gate ty_ok rfl rfl rfl sd ?_ | refine aops_litE ty_ok rfl rfl rfl rfl rfl rfl rfl rfl rfl rfl rfl rfl ?_ | refine aops_cutE ty_ok rfl rfl rfl rfl rfl rfl rfl rfl rfl sd rfl ?_ | ((fail_if_success (refine aops_known rfl ?_)); (refine aops_split ty_ok rfl rfl rfl rfl rfl rfl (fun hc => ⟨?_, ?_⟩) (fun hc => ⟨?_, ?_⟩)) <;> (try simp only [nms, reduceCtorEq] at hc) <;> (try (exfalso; omega)) <;> (try exact sd)))) | ((fail_if_success (with_reducible show AWp _ _ _ _ _)); (fail_if_success (with_reducible show AOps _ _ _ _ _ _)); (first | (show AWp _ _ _ _ _) | (show AOps _ _ _ _ _ _))))
          refine ⟨⟨(k + 1, false, 0, ns ++ [n * 128 + x.toNat % 128]), hkl, hd, by simp, by simp; omega, hns', fun _ => rfl⟩, [(2, 0)], SubR.mk' rfl rfl ⟨⟨_, rfl, rfl⟩, ⟨_, rfl, congrArg (fun z : Bool => AV.d (Dat.bool z)) e2⟩, ⟨_, rfl, rfl⟩, ⟨_, rfl, rfl⟩, ⟨_, rfl, rfl⟩, ⟨_, rfl, rfl⟩, trivial⟩ ⟨⟨_, _, rfl, rfl, congrArg (AO.row none 85) hrow⟩, trivial⟩, by simp only; omega⟩
        | false =>
          have hne := hA1' rfl
          repeat' (first | ((with_reducible show AWp _ _ _ _ _); (first | refine awp_seq ?_ | refine awp_block ?_ | refine awp_skip ?_ | refine awp_exit ?_ | refine awp_scope ?_ | refine awp_label ?_ | refine awp_run ty_ok rfl sd ?_ | refine awp_ret ⟨_, _, rfl, rfl, ?_⟩ | refine awp_ret ⟨_, rfl, ?_⟩ | ((refine awp_cond (ty := ty) rfl (fun hc => ?_) (fun hc => ?_)) <;> (try simp only [nms, reduceCtorEq] at hc) <;> (try (exfalso; omega))))) | ((with_reducible show AOps _ _ _ _ _ _); (first | refine aops_nil ?_ | refine aops_go ty_ok rfl rfl sd ?_ | refine aops_gate ty_ok rfl rfl rfl sd ?_ | refine aops_litE ty_ok rfl rfl rfl rfl rfl rfl rfl rfl rfl rfl rfl rfl ?_ | refine aops_cutE ty_ok rfl rfl rfl rfl rfl rfl rfl rfl rfl sd rfl ?_ | ((fail_if_success (refine aops_known rfl ?_)); (refine aops_split ty_ok rfl rfl rfl rfl rfl rfl (fun hc => ⟨?_, ?_⟩) (fun hc => ⟨?_, ?_⟩)) <;> (try simp only [nms, reduceCtorEq] at hc) <;> (try (exfalso; omega)) <;> (try exact sd)))) | ((fail_if_success (with_reducible show AWp _ _ _ _ _)); (fail_if_success (with_reducible show AOps _ _ _ _ _ _)); (first | (show AWp _ _ _ _ _) | (show AOps _ _ _ _ _ _))))
          refine ⟨⟨(k + 1, false, 0, ns ++ [n * 128 + x.toNat % 128]), hkl, hd, by simp, by simp; omega, hns', fun _ => rfl⟩, [(2, 0)], SubR.mk' rfl rfl ⟨⟨_, rfl, rfl⟩, ⟨_, rfl, congrArg (fun z : Bool => AV.d (Dat.bool z)) e2⟩, ⟨_, rfl, rfl⟩, ⟨_, rfl, rfl⟩, ⟨_, rfl, rfl⟩, ⟨_, rfl, rfl⟩, trivial⟩ ⟨⟨_, _, rfl, rfl, congrArg (AO.row none 85) hrow⟩, trivial⟩, by simp only; omega⟩
    · have hbad := bad hA
      cases b with
      | true =>
        have hbig : ¬ n * 128 + x.toNat % 128 ≤ 4294967295 := fun h => hA ⟨rfl, h⟩
        repeat' (first | ((with_reducible show AWp _ _ _ _ _); (first | refine awp_seq ?_ | refine awp_block ?_ | refine awp_skip ?_ | refine awp_exit ?_ | refine awp_scope ?_ | refine awp_label ?_ | refine awp_run ty_ok rfl sd ?_ | refine awp_ret ⟨_, _, rfl, rfl, ?_⟩ | refine awp_ret ⟨_, rfl, ?_⟩ | ((refine awp_cond (ty := ty) rfl (fun hc => ?_) (fun hc => ?_)) <;> (try simp only [nms, reduceCtorEq] at hc) <;> (try (exfalso; omega))))) | ((with_reducible show AOps _ _ _ _ _ _); (first | refine aops_nil ?_ | refine aops_go ty_ok rfl rfl sd ?_ | refine aops_gate ty_ok rfl rfl rfl sd ?_ | refine aops_litE ty_ok rfl rfl rfl rfl rfl rfl rfl rfl rfl rfl rfl rfl ?_ | refine aops_cutE ty_ok rfl rfl rfl rfl rfl rfl rfl rfl rfl sd rfl ?_ | ((fail_if_success (refine aops_known rfl ?_)); (refine aops_split ty_ok rfl rfl rfl rfl rfl rfl (fun hc => ⟨?_, ?_⟩) (fun hc => ⟨?_, ?_⟩)) <;> (try simp only [nms, reduceCtorEq] at hc) <;> (try (exfalso; omega)) <;> (try exact sd)))) | ((fail_if_success (with_reducible show AWp _ _ _ _ _)); (fail_if_success (with_reducible show AOps _ _ _ _ _ _)); (first | (show AWp _ _ _ _ _) | (show AOps _ _ _ _ _ _))))
        rw [hbad]
        rfl
      | false =>
        by_cases h8 : ((bys c).getD (k : Int).toNat default).num = 128
        · repeat' (first | ((with_reducible show AWp _ _ _ _ _); (first | refine awp_seq ?_ | refine awp_block ?_ | refine awp_skip ?_ | refine awp_exit ?_ | refine awp_scope ?_ | refine awp_label ?_ | refine awp_run ty_ok rfl sd ?_ | refine awp_ret ⟨_, _, rfl, rfl, ?_⟩ | refine awp_ret ⟨_, rfl, ?_⟩ | ((refine awp_cond (ty := ty) rfl (fun hc => ?_) (fun hc => ?_)) <;> (try simp only [nms, reduceCtorEq] at hc) <;> (try (exfalso; omega))))) | ((with_reducible show AOps _ _ _ _ _ _); (first | refine aops_nil ?_ | refine aops_go ty_ok rfl rfl sd ?_ | refine aops_gate ty_ok rfl rfl rfl sd ?_ | refine aops_litE ty_ok rfl rfl rfl rfl rfl rfl rfl rfl rfl rfl rfl rfl ?_ | refine aops_cutE ty_ok rfl rfl rfl rfl rfl rfl rfl rfl rfl sd rfl ?_ | ((fail_if_success (refine aops_known rfl ?_)); (refine aops_split ty_ok rfl rfl rfl rfl rfl rfl (fun hc => ⟨?_, ?_⟩) (fun hc => ⟨?_, ?_⟩)) <;> (try simp only [nms, reduceCtorEq] at hc) <;> (try (exfalso; omega)) <;> (try exact sd)))) | ((fail_if_success (with_reducible show AWp _ _ _ _ _)); (fail_if_success (with_reducible show AOps _ _ _ _ _ _)); (first | (show AWp _ _ _ _ _) | (show AOps _ _ _ _ _ _))))
          rw [hbad]
          rfl
        · have hbig : ¬ n * 128 + x.toNat % 128 ≤ 4294967295 := fun h => hA ⟨by
            have : ¬ x = 128 := fun e => h8 (hx128.1 e)
            simp [this], h⟩
          repeat' (first | ((with_reducible show AWp _ _ _ _ _); (first | refine awp_seq ?_ | refine awp_block ?_ | refine awp_skip ?_ | refine awp_exit ?_ | refine awp_scope ?_ | refine awp_label ?_ | refine awp_run ty_ok rfl sd ?_ | refine awp_ret ⟨_, _, rfl, rfl, ?_⟩ | refine awp_ret ⟨_, rfl, ?_⟩ | ((refine awp_cond (ty := ty) rfl (fun hc => ?_) (fun hc => ?_)) <;> (try simp only [nms, reduceCtorEq] at hc) <;> (try (exfalso; omega))))) | ((with_reducible show AOps _ _ _ _ _ _); (first | refine aops_nil ?_ | refine aops_go ty_ok rfl rfl sd ?_ | refine aops_gate ty_ok rfl rfl rfl sd ?_ | refine aops_litE ty_ok rfl rfl rfl rfl rfl rfl rfl rfl rfl rfl rfl rfl ?_ | refine aops_cutE ty_ok rfl rfl rfl rfl rfl rfl rfl rfl rfl sd rfl ?_ | ((fail_if_success (refine aops_known rfl ?_)); (refine aops_split ty_ok rfl rfl rfl rfl rfl rfl (fun hc => ⟨?_, ?_⟩) (fun hc => ⟨?_, ?_⟩)) <;> (try simp only [nms, reduceCtorEq] at hc) <;> (try (exfalso; omega)) <;> (try exact sd)))) | ((fail_if_success (with_reducible show AWp _ _ _ _ _)); (fail_if_success (with_reducible show AOps _ _ _ _ _ _)); (first | (show AWp _ _ _ _ _) | (show AOps _ _ _ _ _ _))))
          rw [hbad]
          rfl
  · have hke : k = c.length := by omega
    subst hke
    rw [List.drop_length] at hd
    cases b with
    | true =>
      have : decOD c = .tup [sD [], .int .i64 6] := by
        have : dec7 false 0 c = none := hd
        simp only [decOD, decS, this]
      repeat' (first | ((with_reducible show AWp _ _ _ _ _); (first | refine awp_seq ?_ | refine awp_block ?_ | refine awp_skip ?_ | refine awp_exit ?_ | refine awp_scope ?_ | refine awp_label ?_ | refine awp_run ty_ok rfl sd ?_ | refine awp_ret ⟨_, _, rfl, rfl, ?_⟩ | refine awp_ret ⟨_, rfl, ?_⟩ | ((refine awp_cond (ty := ty) rfl (fun hc => ?_) (fun hc => ?_)) <;> (try simp only [nms, reduceCtorEq] at hc) <;> (try (exfalso; omega))))) | ((with_reducible show AOps _ _ _ _ _ _); (first | refine aops_nil ?_ | refine aops_go ty_ok rfl rfl sd ?_ | refine aops_gate ty_ok rfl rfl rfl sd ?_ | refine aops_litE ty_ok rfl rfl rfl rfl rfl rfl rfl rfl rfl rfl rfl rfl ?_ | refine aops_cutE ty_ok rfl rfl rfl rfl rfl rfl rfl rfl rfl sd rfl ?_ | ((fail_if_success (refine aops_known rfl ?_)); (refine aops_split ty_ok rfl rfl rfl rfl rfl rfl (fun hc => ⟨?_, ?_⟩) (fun hc => ⟨?_, ?_⟩)) <;> (try simp only [nms, reduceCtorEq] at hc) <;> (try (exfalso; omega)) <;> (try exact sd)))) | ((fail_if_success (with_reducible show AWp _ _ _ _ _)); (fail_if_success (with_reducible show AOps _ _ _ _ _ _)); (first | (show AWp _ _ _ _ _) | (show AOps _ _ _ _ _ _))))
      rw [this]
      rfl
    | false =>
      have hd1 : dec7 false 0 c = some ns := by rw [hd]; simp [dec7]
      match ns, hd1, hns, hnl with
      | [], hd1, hns, hnl =>
        have : decOD c = .tup [sD [], .int .i64 6] := by simp only [decOD, decS, hd1]
        repeat' (first | ((with_reducible show AWp _ _ _ _ _); (first | refine awp_seq ?_ | refine awp_block ?_ | refine awp_skip ?_ | refine awp_exit ?_ | refine awp_scope ?_ | refine awp_label ?_ | refine awp_run ty_ok rfl sd ?_ | refine awp_ret ⟨_, _, rfl, rfl, ?_⟩ | refine awp_ret ⟨_, rfl, ?_⟩ | ((refine awp_cond (ty := ty) rfl (fun hc => ?_) (fun hc => ?_)) <;> (try simp only [nms, reduceCtorEq] at hc) <;> (try (exfalso; omega))))) | ((with_reducible show AOps _ _ _ _ _ _); (first | refine aops_nil ?_ | refine aops_go ty_ok rfl rfl sd ?_ | refine aops_gate ty_ok rfl rfl rfl sd ?_ | refine aops_litE ty_ok rfl rfl rfl rfl rfl rfl rfl rfl rfl rfl rfl rfl ?_ | refine aops_cutE ty_ok rfl rfl rfl rfl rfl rfl rfl rfl rfl sd rfl ?_ | ((fail_if_success (refine aops_known rfl ?_)); (refine aops_split ty_ok rfl rfl rfl rfl rfl rfl (fun hc => ⟨?_, ?_⟩) (fun hc => ⟨?_, ?_⟩)) <;> (try simp only [nms, reduceCtorEq] at hc) <;> (try (exfalso; omega)) <;> (try exact sd)))) | ((fail_if_success (with_reducible show AWp _ _ _ _ _)); (fail_if_success (with_reducible show AOps _ _ _ _ _ _)); (first | (show AWp _ _ _ _ _) | (show AOps _ _ _ _ _ _))))
        rw [this]
        rfl
      | m :: r, hd1, hns, hnl =>
        have hm := hns m (List.mem_cons_self ..)
        have hul : (u64s (m :: r)).length = r.length + 1 := by simp [u64s]
        have hx0 : ((u64s (m :: r)).getD (Int.toNat 0) default).num = m := rfl
        simp only [List.length_cons] at hnl
        have hq : IntKind.u64.wrap (((u64s (m :: r)).getD (Int.toNat 0) default).num.tdiv 40) = ((m / 40 : Nat) : Int) := by
          rw [hx0, Int.tdiv_eq_ediv_of_nonneg (by omega), IntKind.wrap_u64]
          omega
        have hroot : minI (IntKind.u64.wrap (((u64s (m :: r)).getD (Int.toNat 0) default).num.tdiv 40)) 2 = ((min (m / 40) 2 : Nat) : Int) := by
          rw [hq]
          unfold minI
          split <;> omega
        have hcut : cutL (u64s (m :: r)) (Int.toNat 1) (u64s (m :: r)).length = u64s r := by
          unfold cutL
          rw [List.take_length]
          rfl
        have hle := arcsOf_le m r hns
        have hri := arcsOf_right m r hm
        have htx := c_text (arcsOf m r) (by simp [arcsOf]; omega) hle
        rw [textD, hri] at htx
        have hres : decOD c = .tup [sD (textF (arcsOf m r)), .int .i64 0] := by simp only [decOD, decS, hd1]
        repeat' (first | ((with_reducible show AWp _ _ _ _ _); (first | refine awp_seq ?_ | refine awp_block ?_ | refine awp_skip ?_ | refine awp_exit ?_ | refine awp_scope ?_ | refine awp_label ?_ | refine awp_run ty_ok rfl sd ?_ | refine awp_ret ⟨_, _, rfl, rfl, ?_⟩ | refine awp_ret ⟨_, rfl, ?_⟩ | ((refine awp_cond (ty := ty) rfl (fun hc => ?_) (fun hc => ?_)) <;> (try simp only [nms, reduceCtorEq] at hc) <;> (try (exfalso; omega))))) | ((with_reducible show AOps _ _ _ _ _ _); (first | refine aops_nil ?_ | refine aops_go ty_ok rfl rfl sd ?_ | refine aops_gate ty_ok rfl rfl rfl sd ?_ | refine aops_litE ty_ok rfl rfl rfl rfl rfl rfl rfl rfl rfl rfl rfl rfl ?_ | refine aops_cutE ty_ok rfl rfl rfl rfl rfl rfl rfl rfl rfl sd rfl ?_ | ((fail_if_success (refine aops_known rfl ?_)); (refine aops_split ty_ok rfl rfl rfl rfl rfl rfl (fun hc => ⟨?_, ?_⟩) (fun hc => ⟨?_, ?_⟩)) <;> (try simp only [nms, reduceCtorEq] at hc) <;> (try (exfalso; omega)) <;> (try exact sd)))) | ((fail_if_success (with_reducible show AWp _ _ _ _ _)); (fail_if_success (with_reducible show AOps _ _ _ _ _ _)); (first | (show AWp _ _ _ _ _) | (show AOps _ _ _ _ _ _))))
        refine aops_freezeE [.ref 0] rfl ?_
        refine aops_asDat 66 rfl rfl rfl ?_
        repeat' (first | ((with_reducible show AWp _ _ _ _ _); (first | refine awp_seq ?_ | refine awp_block ?_ | refine awp_skip ?_ | refine awp_exit ?_ | refine awp_scope ?_ | refine awp_label ?_ | refine awp_run ty_ok rfl sd ?_ | refine awp_ret ⟨_, _, rfl, rfl, ?_⟩ | refine awp_ret ⟨_, rfl, ?_⟩ | ((refine awp_cond (ty := ty) rfl (fun hc => ?_) (fun hc => ?_)) <;> (try simp only [nms, reduceCtorEq] at hc) <;> (try (exfalso; omega))))) | ((with_reducible show AOps _ _ _ _ _ _); (first | refine aops_nil ?_ | refine aops_go ty_ok rfl rfl sd ?_ | refine aops_gate ty_ok rfl rfl rfl sd ?_ | refine aops_litE ty_ok rfl rfl rfl rfl rfl rfl rfl rfl rfl rfl rfl rfl ?_ | refine aops_cutE ty_ok rfl rfl rfl rfl rfl rfl rfl rfl rfl sd rfl ?_ | ((fail_if_success (refine aops_known rfl ?_)); (refine aops_split ty_ok rfl rfl rfl rfl rfl rfl (fun hc => ⟨?_, ?_⟩) (fun hc => ⟨?_, ?_⟩)) <;> (try simp only [nms, reduceCtorEq] at hc) <;> (try (exfalso; omega)) <;> (try exact sd)))) | ((fail_if_success (with_reducible show AWp _ _ _ _ _)); (fail_if_success (with_reducible show AOps _ _ _ _ _ _)); (first | (show AWp _ _ _ _ _) | (show AOps _ _ _ _ _ _))))
        refine awp_loopR (G := { j : Nat // j ≤ r.length }) (fun j => ⟨Tryz.f32.ntmps, [(10, .ref 0), (67, .d (.sl none (u64s r))), (68, .d (.int .i64 r.length)), (69, .d (.int .i64 j.1))], [(0, .row none 76 (u32s (arcsOf m (r.take j.1))))], 1⟩) (fun j => r.length - j.1) ⟨0, Nat.zero_le _⟩ [(1, 0)]
          (SubR.mk' rfl rfl ⟨⟨_, rfl, rfl⟩, ⟨_, rfl, congrArg (fun z => AV.d (Dat.sl none z)) hcut⟩, ⟨_, rfl, congrArg (fun z : Nat => AV.d (Dat.int IntKind.i64 z)) (by rw [hcut, u64s_len])⟩, ⟨_, rfl, rfl⟩, trivial⟩ ⟨⟨_, _, rfl, rfl, congrArg (AO.row none 76) (by
            rw [hroot, hx0]
            simp only [arcsOf, List.take_zero, u32s, List.map_cons, List.map_nil]
            rw [IntKind.wrap_u32, IntKind.wrap_u32, IntKind.wrap_u64, IntKind.wrap_u64]
            congr 2
            · omega
            · congr 2
              omega)⟩, trivial⟩) ?_
        rintro ⟨j, hj⟩
        dsimp only
        have hrl : (r.take j).length ≤ r.length := by rw [List.length_take]; omega
        have hal : (arcsOf m (r.take j)).length = (r.take j).length + 2 := rfl
        rcases Nat.lt_or_ge j r.length with hjl | hjl
        · have hnum := u64_at hjl
          have hrj := hns r[j] (by simp)
          repeat' (first | ((with_reducible show AWp _ _ _ _ _); (first | refine awp_seq ?_ | refine awp_block ?_ | refine awp_skip ?_ | refine awp_exit ?_ | refine awp_scope ?_ | refine awp_label ?_ | refine awp_run ty_ok rfl sd ?_ | refine awp_ret ⟨_, _, rfl, rfl, ?_⟩ | refine awp_ret ⟨_, rfl, ?_⟩ | ((refine awp_cond (ty := ty) rfl (fun hc => ?_) (fun hc => ?_)) <;> (try simp only [nms, reduceCtorEq] at hc) <;> (try (exfalso; omega))))) | ((with_reducible show AOps _ _ _ _ _ _); (first | refine aops_nil ?_ | refine aops_go ty_ok rfl rfl sd ?_ | refine aops_gate ty_ok rfl rfl rfl sd ?_ | refine aops_litE ty_ok rfl rfl rfl rfl rfl rfl rfl rfl rfl rfl rfl rfl ?_ | refine aops_cutE ty_ok rfl rfl rfl rfl rfl rfl rfl rfl rfl sd rfl ?_ | ((fail_if_success (refine aops_known rfl ?_)); (refine aops_split ty_ok rfl rfl rfl rfl rfl rfl (fun hc => ⟨?_, ?_⟩) (fun hc => ⟨?_, ?_⟩)) <;> (try simp only [nms, reduceCtorEq] at hc) <;> (try (exfalso; omega)) <;> (try exact sd)))) | ((fail_if_success (with_reducible show AWp _ _ _ _ _)); (fail_if_success (with_reducible show AOps _ _ _ _ _ _)); (first | (show AWp _ _ _ _ _) | (show AOps _ _ _ _ _ _))))
          refine ⟨⟨j + 1, hjl⟩, [(2, 0)], SubR.mk' rfl rfl ⟨⟨_, rfl, rfl⟩, ⟨_, rfl, rfl⟩, ⟨_, rfl, rfl⟩, ⟨_, rfl, rfl⟩, trivial⟩ ⟨⟨_, _, rfl, rfl, congrArg (AO.row none 76) ?_⟩, trivial⟩, by simp only; omega⟩
          rw [List.take_succ_eq_append_getElem hjl, hnum, wrap_u32 _ hrj, show arcsOf m (r.take j ++ [r[j]]) = arcsOf m (r.take j) ++ [r[j]] from rfl, u32s_app]
          rfl
        · have hje : j = r.length := by omega
          subst hje
          rw [List.take_length]
          repeat' (first | ((with_reducible show AWp _ _ _ _ _); (first | refine awp_seq ?_ | refine awp_block ?_ | refine awp_skip ?_ | refine awp_exit ?_ | refine awp_scope ?_ | refine awp_label ?_ | refine awp_run ty_ok rfl sd ?_ | refine awp_ret ⟨_, _, rfl, rfl, ?_⟩ | refine awp_ret ⟨_, rfl, ?_⟩ | ((refine awp_cond (ty := ty) rfl (fun hc => ?_) (fun hc => ?_)) <;> (try simp only [nms, reduceCtorEq] at hc) <;> (try (exfalso; omega))))) | ((with_reducible show AOps _ _ _ _ _ _); (first | refine aops_nil ?_ | refine aops_go ty_ok rfl rfl sd ?_ | refine aops_gate ty_ok rfl rfl rfl sd ?_ | refine aops_callE (ty := ty) rfl rfl rfl rfl rfl rfl rfl (htx) rfl ?_ | refine aops_litE ty_ok rfl rfl rfl rfl rfl rfl rfl rfl rfl rfl rfl rfl ?_ | refine aops_cutE ty_ok rfl rfl rfl rfl rfl rfl rfl rfl rfl sd rfl ?_ | ((fail_if_success (refine aops_known rfl ?_)); (refine aops_split ty_ok rfl rfl rfl rfl rfl rfl (fun hc => ⟨?_, ?_⟩) (fun hc => ⟨?_, ?_⟩)) <;> (try simp only [nms, reduceCtorEq] at hc) <;> (try (exfalso; omega)) <;> (try exact sd)))) | ((fail_if_success (with_reducible show AWp _ _ _ _ _)); (fail_if_success (with_reducible show AOps _ _ _ _ _ _)); (first | (show AWp _ _ _ _ _) | (show AOps _ _ _ _ _ _))))
          all_goals rw [hres]
end Go.Proofs.YtbbakpmedpcigaaGreatDoor

/- Lists of purposes: Parse. Walked by the abstract machine. -/
namespace Go.Proofs.YtbbakpmedpcigaaGreatDoor
open Go.Am
set_option linter.unusedSimpArgs false
set_option linter.unusedVariables false
-- withAmZ

/-- One purpose. -/
def usE (b : List UInt8) (e : El) : Ex (List UInt8) := match isB e.x 0 false 6 with
  | false => .bad 3 e.st
  | true => match decide ((decS (cut b e.bd e.en)).2 = 0) with
    | true => .ok (decS (cut b e.bd e.en)).1
    | false => .bad 6 e.bd
def usP (b : List UInt8) : Ex (List (List UInt8)) := match ptF b 0 16 with
  | .bad c o => .bad c o
  | .ok l => match mapX (usE b) l with
    | .bad c o => .bad c o
    | .ok [] => .bad 1 b.length
    | .ok (p :: r) => .ok (p :: r)
def usD : Ex (List (List UInt8)) → Res
  | .bad c o => .d (.tup [.sl none [], errD c o])
  | .ok l => .ownT none 9 (strs l) [errD 0 0]
theorem el_at {l : List El} {k : Nat} (h : k < l.length) : (els l).getD (k : Int).toNat default = elD l[k] := by
  rw [Int.toNat_natCast, List.getD_eq_getElem?_getD, els, List.getElem?_map, List.getElem?_eq_getElem h]
  rfl
theorem el_can {X : Dat} {e : El} (h : X = elD e) : X = .agg [.int .i64 (X.cell 0).num, .int .i64 (X.cell 1).num, .bool (X.cell 2).tru, .int .i64 (X.cell 3).num, .int .i64 (X.cell 4).num, .int .i64 (X.cell 5).num] := by
  rw [h]
  rfl
theorem c_odec_ok (b : List UInt8) {i j : Nat} (hj : j ≤ b.length) (hij : i ≤ j) (hl : b.length ≤ 10000000) (h : (decS (cut b i j)).2 = 0) : ACalls Tryz.prog envL 32 [.sl none (cutL (bys b) (i : Int).toNat (j : Int).toNat)] (fun r => r = .d (.tup [sD (decS (cut b i j)).1, .int .i64 0])) := by
  have h1 := c_odec (cut b i j) (by rw [cut_len _ _ _ hj]; omega)
  rw [decOD, h] at h1
  rw [cutL_bys]
  exact h1
theorem c_odec_bad (b : List UInt8) {i j : Nat} (hj : j ≤ b.length) (hij : i ≤ j) (hl : b.length ≤ 10000000) (h : ¬ (decS (cut b i j)).2 = 0) : ACalls Tryz.prog envL 32 [.sl none (cutL (bys b) (i : Int).toNat (j : Int).toNat)] (fun r => r = .d (.tup [sD [], .int .i64 6])) := by
  have h1 := c_odec (cut b i j) (by rw [cut_len _ _ _ hj]; omega)
  rcases decS_cases (cut b i j) with hd | ⟨s, _, _, hd, _⟩
  · rw [decOD, hd] at h1
    rw [cutL_bys]
    exact h1
  · rw [hd] at h
    exact absurd rfl h
theorem isUParse : IsFn Tryz.prog 15 Tryz.f15 := ⟨Tryz.func15, by decide, rfl⟩
set_option maxHeartbeats 4000000 in
set_option maxRecDepth 100000 in
theorem c_uparse (b : List UInt8) (hb : b.length ≤ 1000000) : ACalls Tryz.prog envL 15 [.sl none (bys b)] (fun r => r = usD (usP b)) := by
  refine acalls_of ty_ok isUParse rfl rfl ?_
  rw [usP]
  cases hp : ptF b 0 16 with
  | bad c o =>
    have hc1 := c_parts_at (envL.at 0) b 0 16 (by omega) hp
    have := pt_bad hp
    repeat' (first | ((with_reducible show AWp _ _ _ _ _); (first | refine awp_seq ?_ | refine awp_block ?_ | refine awp_skip ?_ | refine awp_exit ?_ | refine awp_scope ?_ | refine awp_label ?_ | refine awp_run ty_ok rfl sd ?_ | refine awp_ret ⟨_, _, rfl, rfl, ?_⟩ | refine awp_ret ⟨_, rfl, ?_⟩ | ((refine awp_cond (ty := ty) rfl (fun hc => ?_) (fun hc => ?_)) <;> (try simp only [nms, reduceCtorEq] at hc) <;> (try (exfalso; omega))) | refine awp_anyL 2 mixed rfl (by kernel_rfl) ?_)) | ((with_reducible show AOps _ _ _ _ _ _); (first | refine aops_nil ?_ | refine aops_go ty_ok rfl rfl sd ?_ | refine aops_gate ty_ok rfl rfl rfl sd ?_ | refine aops_callE (ty := ty) rfl rfl rfl rfl rfl rfl rfl (hc1) rfl ?_ | refine aops_litE ty_ok rfl rfl rfl rfl rfl rfl rfl rfl rfl rfl rfl rfl ?_ | refine aops_litA ty_ok rfl rfl rfl rfl rfl rfl rfl rfl rfl rfl rfl rfl rfl rfl rfl rfl ?_ | refine aops_buildArr ty_ok rfl rfl rfl rfl rfl rfl rfl rfl rfl rfl ?_ | refine aops_indexArr ty_ok rfl rfl rfl rfl rfl rfl rfl rfl rfl rfl sd ?_ | refine aops_cutE ty_ok rfl rfl rfl rfl rfl rfl rfl rfl rfl sd rfl ?_ | ((fail_if_success (refine aops_known rfl ?_)); (refine aops_split ty_ok rfl rfl rfl rfl rfl rfl (fun hc => ⟨?_, ?_⟩) (fun hc => ⟨?_, ?_⟩)) <;> (try simp only [nms, reduceCtorEq] at hc) <;> (try (exfalso; omega)) <;> (try exact sd)))) | ((with_reducible show HeadT _ _ _ _ _ _ _ _ _ _); (first | refine head_end ?_ | refine head_goP ty_ok rfl rfl sd ?_ | refine head_gate ty_ok rfl rfl rfl sd ?_ | refine head_callE (ty := ty) rfl rfl rfl rfl rfl rfl rfl (hc1) rfl ?_ | ((fail_if_success (refine head_known rfl ?_)); (refine head_split ty_ok rfl rfl rfl rfl (fun hc => ⟨?_, ?_⟩) (fun hc => ⟨?_, ?_⟩)) <;> (try simp only [nms, reduceCtorEq] at hc) <;> (try (exfalso; omega)) <;> (try exact sd)))) | ((fail_if_success (with_reducible show AWp _ _ _ _ _)); (fail_if_success (with_reducible show AOps _ _ _ _ _ _)); (fail_if_success (with_reducible show HeadT _ _ _ _ _ _ _ _ _ _)); (first | (show AWp _ _ _ _ _) | (show AOps _ _ _ _ _ _))))
    rfl
  | ok l =>
    have hc1 := c_parts_at (envL.at 0) b 0 16 (by omega) hp
    obtain ⟨x, ts, hx1, hx2, hx3, hg, hbe, hle⟩ := pt_ok hp
    have hll : l.length ≤ b.length := by
      have h1 := elsF_len (hsz (catF ts)) ts
      have h2 : ∀ q : List (UInt8 × List UInt8), q.length ≤ (catF q).length := by
        intro q
        induction q with
        | nil => simp
        | cons t r ih =>
          have h3 := putF_len t.1 t.2
          have h4 := hsz_ge t.2
          simp only [catF, List.length_append, List.length_cons]
          omega
      have h3 := h2 ts
      have h4 := putF_len x (catF ts)
      rw [← hbe] at h4
      rw [hle]
      omega
    have hel : ∀ e ∈ l, e.st ≤ e.bd ∧ e.bd ≤ e.en ∧ e.en ≤ b.length := by
      intro e he
      obtain ⟨k, hk, rfl⟩ := List.getElem_of_mem he
      have hk2 : k < ts.length := by rwa [hle, elsF_len] at hk
      obtain ⟨e', h1, _, h2, h3, h4, _, _⟩ := pt_at (x := x) (ts := ts) k hk2
      have e2 : l[k] = e' := by
        have h5 : l[k]? = some l[k] := List.getElem?_eq_getElem hk
        have h6 : l[k]? = some e' := by rw [hle]; exact h1
        rw [h6] at h5
        simp only [Option.some.injEq] at h5
        exact h5.symm
      rw [e2, hbe]
      exact ⟨h2, h3, h4⟩
    have hen : (els l).length = l.length := els_len l
    simp only
    repeat' (first | ((with_reducible show AWp _ _ _ _ _); (first | refine awp_seq ?_ | refine awp_block ?_ | refine awp_skip ?_ | refine awp_exit ?_ | refine awp_scope ?_ | refine awp_label ?_ | refine awp_run ty_ok rfl sd ?_ | refine awp_ret ⟨_, _, rfl, rfl, ?_⟩ | refine awp_ret ⟨_, rfl, ?_⟩ | ((refine awp_cond (ty := ty) rfl (fun hc => ?_) (fun hc => ?_)) <;> (try simp only [nms, reduceCtorEq] at hc) <;> (try (exfalso; omega))) | refine awp_anyL 2 mixed rfl (by kernel_rfl) ?_)) | ((with_reducible show AOps _ _ _ _ _ _); (first | refine aops_nil ?_ | refine aops_go ty_ok rfl rfl sd ?_ | refine aops_gate ty_ok rfl rfl rfl sd ?_ | refine aops_callE (ty := ty) rfl rfl rfl rfl rfl rfl rfl (hc1) rfl ?_ | refine aops_litE ty_ok rfl rfl rfl rfl rfl rfl rfl rfl rfl rfl rfl rfl ?_ | refine aops_litA ty_ok rfl rfl rfl rfl rfl rfl rfl rfl rfl rfl rfl rfl rfl rfl rfl rfl ?_ | refine aops_buildArr ty_ok rfl rfl rfl rfl rfl rfl rfl rfl rfl rfl ?_ | refine aops_indexArr ty_ok rfl rfl rfl rfl rfl rfl rfl rfl rfl rfl sd ?_ | refine aops_cutE ty_ok rfl rfl rfl rfl rfl rfl rfl rfl rfl sd rfl ?_ | ((fail_if_success (refine aops_known rfl ?_)); (refine aops_split ty_ok rfl rfl rfl rfl rfl rfl (fun hc => ⟨?_, ?_⟩) (fun hc => ⟨?_, ?_⟩)) <;> (try simp only [nms, reduceCtorEq] at hc) <;> (try (exfalso; omega)) <;> (try exact sd)))) | ((with_reducible show HeadT _ _ _ _ _ _ _ _ _ _); (first | refine head_end ?_ | refine head_goP ty_ok rfl rfl sd ?_ | refine head_gate ty_ok rfl rfl rfl sd ?_ | refine head_callE (ty := ty) rfl rfl rfl rfl rfl rfl rfl (hc1) rfl ?_ | ((fail_if_success (refine head_known rfl ?_)); (refine head_split ty_ok rfl rfl rfl rfl (fun hc => ⟨?_, ?_⟩) (fun hc => ⟨?_, ?_⟩)) <;> (try simp only [nms, reduceCtorEq] at hc) <;> (try (exfalso; omega)) <;> (try exact sd)))) | ((fail_if_success (with_reducible show AWp _ _ _ _ _)); (fail_if_success (with_reducible show AOps _ _ _ _ _ _)); (fail_if_success (with_reducible show HeadT _ _ _ _ _ _ _ _ _ _)); (first | (show AWp _ _ _ _ _) | (show AOps _ _ _ _ _ _))))
    refine awp_nilrow 6 9 rfl ?_
    refine awp_loopR (G := { p : List (List UInt8) × Nat // p.2 ≤ l.length ∧ p.1.length ≤ p.2 ∧ mapX (usE b) (l.take p.2) = .ok p.1 }) (fun p => ⟨Tryz.f15.ntmps, [(0, .d (.sl none (bys b))), (3, .ptr 0 0), (6, .ref 2), (20, .ref 1), (21, .d (.int .i64 l.length)), (22, .d (.int .i64 p.1.2))], [(0, .box 31 [.d (.int .i64 0), .d (.int .i64 0)]), (1, .row (some 6) 57 (els l)), (2, .row none 9 (strs p.1.1))], 3⟩) (fun p => l.length - p.1.2) ⟨([], 0), Nat.zero_le _, Nat.zero_le _, rfl⟩ [(0, 0), (1, 1), (3, 2)]
      (SubR.mk' rfl rfl ⟨⟨_, rfl, rfl⟩, ⟨_, rfl, rfl⟩, ⟨_, rfl, rfl⟩, ⟨_, rfl, rfl⟩, ⟨_, rfl, congrArg (fun z : Nat => AV.d (Dat.int IntKind.i64 z)) (els_len _)⟩, ⟨_, rfl, rfl⟩, trivial⟩ ⟨⟨_, _, rfl, rfl, rfl⟩, ⟨_, _, rfl, rfl, rfl⟩, ⟨_, _, rfl, rfl, rfl⟩, trivial⟩) ?_
    rintro ⟨⟨acc, k⟩, hk, hacc, hm⟩
    dsimp only at hk hacc hm ⊢
    have hal : (strs acc).length ≤ 1000000 := by rw [strs_len]; omega
    rcases Nat.lt_or_ge k l.length with h | h
    · have hX := el_at h
      have hcan := el_can hX
      repeat' (first | ((with_reducible show AWp _ _ _ _ _); (first | refine awp_seq ?_ | refine awp_block ?_ | refine awp_skip ?_ | refine awp_exit ?_ | refine awp_scope ?_ | refine awp_label ?_ | refine awp_run ty_ok rfl sd ?_ | refine awp_ret ⟨_, _, rfl, rfl, ?_⟩ | refine awp_ret ⟨_, rfl, ?_⟩ | ((refine awp_cond (ty := ty) rfl (fun hc => ?_) (fun hc => ?_)) <;> (try simp only [nms, reduceCtorEq] at hc) <;> (try (exfalso; omega))))) | ((with_reducible show AOps _ _ _ _ _ _); (first | refine aops_nil ?_ | refine aops_go ty_ok rfl rfl sd ?_ | refine aops_gate ty_ok rfl rfl rfl sd ?_ | refine aops_litE ty_ok rfl rfl rfl rfl rfl rfl rfl rfl rfl rfl rfl rfl ?_ | refine aops_litA ty_ok rfl rfl rfl rfl rfl rfl rfl rfl rfl rfl rfl rfl rfl rfl rfl rfl ?_ | refine aops_buildArr ty_ok rfl rfl rfl rfl rfl rfl rfl rfl rfl rfl ?_ | refine aops_indexArr ty_ok rfl rfl rfl rfl rfl rfl rfl rfl rfl rfl sd ?_ | refine aops_cutE ty_ok rfl rfl rfl rfl rfl rfl rfl rfl rfl sd rfl ?_ | ((fail_if_success (refine aops_known rfl ?_)); (refine aops_split ty_ok rfl rfl rfl rfl rfl rfl (fun hc => ⟨?_, ?_⟩) (fun hc => ⟨?_, ?_⟩)) <;> (try simp only [nms, reduceCtorEq] at hc) <;> (try (exfalso; omega)) <;> (try exact sd)))) | ((fail_if_success (with_reducible show AWp _ _ _ _ _)); (fail_if_success (with_reducible show AOps _ _ _ _ _ _)); (first | (show AWp _ _ _ _ _) | (show AOps _ _ _ _ _ _))))
      simp only [hX, elD, Dat.cell, Dat.cells, List.getD_cons_zero, List.getD_cons_succ, Dat.num, Dat.tru, clsD, numD]
      obtain ⟨g1, g2, g3⟩ := hel l[k] (List.getElem_mem h)
      cases hi : isB l[k].x 0 false 6 with
      | false =>
        have hc2 := c_is_at (envL.at 0) l[k] 0 6 false hi
        have hb := mapX_take_bad (c := 3) (o := l[k].st) h hm (by rw [usE, hi])
        rw [hb]
        repeat' (first | ((with_reducible show AWp _ _ _ _ _); (first | refine awp_seq ?_ | refine awp_block ?_ | refine awp_skip ?_ | refine awp_exit ?_ | refine awp_scope ?_ | refine awp_label ?_ | refine awp_run ty_ok rfl sd ?_ | refine awp_ret ⟨_, _, rfl, rfl, ?_⟩ | refine awp_ret ⟨_, rfl, ?_⟩ | ((refine awp_cond (ty := ty) rfl (fun hc => ?_) (fun hc => ?_)) <;> (try simp only [nms, reduceCtorEq] at hc) <;> (try (exfalso; omega))) | refine awp_anyL 4 mixed rfl (by kernel_rfl) ?_)) | ((with_reducible show AOps _ _ _ _ _ _); (first | refine aops_nil ?_ | refine aops_go ty_ok rfl rfl sd ?_ | refine aops_gate ty_ok rfl rfl rfl sd ?_ | refine aops_callE (ty := ty) rfl rfl rfl rfl rfl rfl rfl (hc2) rfl ?_ | refine aops_litE ty_ok rfl rfl rfl rfl rfl rfl rfl rfl rfl rfl rfl rfl ?_ | refine aops_litA ty_ok rfl rfl rfl rfl rfl rfl rfl rfl rfl rfl rfl rfl rfl rfl rfl rfl ?_ | refine aops_buildArr ty_ok rfl rfl rfl rfl rfl rfl rfl rfl rfl rfl ?_ | refine aops_indexArr ty_ok rfl rfl rfl rfl rfl rfl rfl rfl rfl rfl sd ?_ | refine aops_cutE ty_ok rfl rfl rfl rfl rfl rfl rfl rfl rfl sd rfl ?_ | ((fail_if_success (refine aops_known rfl ?_)); (refine aops_split ty_ok rfl rfl rfl rfl rfl rfl (fun hc => ⟨?_, ?_⟩) (fun hc => ⟨?_, ?_⟩)) <;> (try simp only [nms, reduceCtorEq] at hc) <;> (try (exfalso; omega)) <;> (try exact sd)))) | ((with_reducible show HeadT _ _ _ _ _ _ _ _ _ _); (first | refine head_end ?_ | refine head_goP ty_ok rfl rfl sd ?_ | refine head_gate ty_ok rfl rfl rfl sd ?_ | refine head_callE (ty := ty) rfl rfl rfl rfl rfl rfl rfl (hc2) rfl ?_ | ((fail_if_success (refine head_known rfl ?_)); (refine head_split ty_ok rfl rfl rfl rfl (fun hc => ⟨?_, ?_⟩) (fun hc => ⟨?_, ?_⟩)) <;> (try simp only [nms, reduceCtorEq] at hc) <;> (try (exfalso; omega)) <;> (try exact sd)))) | ((fail_if_success (with_reducible show AWp _ _ _ _ _)); (fail_if_success (with_reducible show AOps _ _ _ _ _ _)); (fail_if_success (with_reducible show HeadT _ _ _ _ _ _ _ _ _ _)); (first | (show AWp _ _ _ _ _) | (show AOps _ _ _ _ _ _))))
        rfl
      | true =>
        have hc2 := c_is_at (envL.at 0) l[k] 0 6 false hi
        by_cases hd : (decS (cut b l[k].bd l[k].en)).2 = 0
        · have hc3 := c_odec_ok b g3 g2 (by omega) hd
          have ho := mapX_take_ok (b := (decS (cut b l[k].bd l[k].en)).1) h hm (by rw [usE, hi]; simp only [decide_eq_true hd])
          repeat' (first | ((with_reducible show AWp _ _ _ _ _); (first | refine awp_seq ?_ | refine awp_block ?_ | refine awp_skip ?_ | refine awp_exit ?_ | refine awp_scope ?_ | refine awp_label ?_ | refine awp_run ty_ok rfl sd ?_ | refine awp_ret ⟨_, _, rfl, rfl, ?_⟩ | refine awp_ret ⟨_, rfl, ?_⟩ | ((refine awp_cond (ty := ty) rfl (fun hc => ?_) (fun hc => ?_)) <;> (try simp only [nms, reduceCtorEq] at hc) <;> (try (exfalso; omega))) | refine awp_anyL 5 mixed rfl (by kernel_rfl) ?_)) | ((with_reducible show AOps _ _ _ _ _ _); (first | refine aops_nil ?_ | refine aops_go ty_ok rfl rfl sd ?_ | refine aops_gate ty_ok rfl rfl rfl sd ?_ | refine aops_callE (ty := ty) rfl rfl rfl rfl rfl rfl rfl (hc2) rfl ?_ | refine aops_callE (ty := ty) rfl rfl rfl rfl rfl rfl rfl (hc3) rfl ?_ | refine aops_litE ty_ok rfl rfl rfl rfl rfl rfl rfl rfl rfl rfl rfl rfl ?_ | refine aops_litA ty_ok rfl rfl rfl rfl rfl rfl rfl rfl rfl rfl rfl rfl rfl rfl rfl rfl ?_ | refine aops_buildArr ty_ok rfl rfl rfl rfl rfl rfl rfl rfl rfl rfl ?_ | refine aops_indexArr ty_ok rfl rfl rfl rfl rfl rfl rfl rfl rfl rfl sd ?_ | refine aops_cutE ty_ok rfl rfl rfl rfl rfl rfl rfl rfl rfl sd rfl ?_ | ((fail_if_success (refine aops_known rfl ?_)); (refine aops_split ty_ok rfl rfl rfl rfl rfl rfl (fun hc => ⟨?_, ?_⟩) (fun hc => ⟨?_, ?_⟩)) <;> (try simp only [nms, reduceCtorEq] at hc) <;> (try (exfalso; omega)) <;> (try exact sd)))) | ((with_reducible show HeadT _ _ _ _ _ _ _ _ _ _); (first | refine head_end ?_ | refine head_goP ty_ok rfl rfl sd ?_ | refine head_gate ty_ok rfl rfl rfl sd ?_ | refine head_callE (ty := ty) rfl rfl rfl rfl rfl rfl rfl (hc2) rfl ?_ | refine head_callE (ty := ty) rfl rfl rfl rfl rfl rfl rfl (hc3) rfl ?_ | ((fail_if_success (refine head_known rfl ?_)); (refine head_split ty_ok rfl rfl rfl rfl (fun hc => ⟨?_, ?_⟩) (fun hc => ⟨?_, ?_⟩)) <;> (try simp only [nms, reduceCtorEq] at hc) <;> (try (exfalso; omega)) <;> (try exact sd)))) | ((fail_if_success (with_reducible show AWp _ _ _ _ _)); (fail_if_success (with_reducible show AOps _ _ _ _ _ _)); (fail_if_success (with_reducible show HeadT _ _ _ _ _ _ _ _ _ _)); (first | (show AWp _ _ _ _ _) | (show AOps _ _ _ _ _ _))))
          refine ⟨⟨(acc ++ [(decS (cut b l[k].bd l[k].en)).1], k + 1), h, by simp; omega, ho⟩, [(0, 0), (1, 1), (5, 2)], SubR.mk' rfl rfl ⟨⟨_, rfl, rfl⟩, ⟨_, rfl, rfl⟩, ⟨_, rfl, rfl⟩, ⟨_, rfl, rfl⟩, ⟨_, rfl, rfl⟩, ⟨_, rfl, rfl⟩, trivial⟩ ⟨⟨_, _, rfl, rfl, rfl⟩, ⟨_, _, rfl, rfl, rfl⟩, ⟨_, _, rfl, rfl, congrArg (AO.row none 9) ?_⟩, trivial⟩, by simp only; omega⟩
          rw [strs_app]
          rfl
        · have hc3 := c_odec_bad b g3 g2 (by omega) hd
          have hb := mapX_take_bad (c := 6) (o := l[k].bd) h hm (by rw [usE, hi]; simp only [decide_eq_false hd])
          rw [hb]
          repeat' (first | ((with_reducible show AWp _ _ _ _ _); (first | refine awp_seq ?_ | refine awp_block ?_ | refine awp_skip ?_ | refine awp_exit ?_ | refine awp_scope ?_ | refine awp_label ?_ | refine awp_run ty_ok rfl sd ?_ | refine awp_ret ⟨_, _, rfl, rfl, ?_⟩ | refine awp_ret ⟨_, rfl, ?_⟩ | ((refine awp_cond (ty := ty) rfl (fun hc => ?_) (fun hc => ?_)) <;> (try simp only [nms, reduceCtorEq] at hc) <;> (try (exfalso; omega))) | refine awp_anyL 5 mixed rfl (by kernel_rfl) ?_)) | ((with_reducible show AOps _ _ _ _ _ _); (first | refine aops_nil ?_ | refine aops_go ty_ok rfl rfl sd ?_ | refine aops_gate ty_ok rfl rfl rfl sd ?_ | refine aops_callE (ty := ty) rfl rfl rfl rfl rfl rfl rfl (hc2) rfl ?_ | refine aops_callE (ty := ty) rfl rfl rfl rfl rfl rfl rfl (hc3) rfl ?_ | refine aops_litE ty_ok rfl rfl rfl rfl rfl rfl rfl rfl rfl rfl rfl rfl ?_ | refine aops_litA ty_ok rfl rfl rfl rfl rfl rfl rfl rfl rfl rfl rfl rfl rfl rfl rfl rfl ?_ | refine aops_buildArr ty_ok rfl rfl rfl rfl rfl rfl rfl rfl rfl rfl ?_ | refine aops_indexArr ty_ok rfl rfl rfl rfl rfl rfl rfl rfl rfl rfl sd ?_ | refine aops_cutE ty_ok rfl rfl rfl rfl rfl rfl rfl rfl rfl sd rfl ?_ | ((fail_if_success (refine aops_known rfl ?_)); (refine aops_split ty_ok rfl rfl rfl rfl rfl rfl (fun hc => ⟨?_, ?_⟩) (fun hc => ⟨?_, ?_⟩)) <;> (try simp only [nms, reduceCtorEq] at hc) <;> (try (exfalso; omega)) <;> (try exact sd)))) | ((with_reducible show HeadT _ _ _ _ _ _ _ _ _ _); (first | refine head_end ?_ | refine head_goP ty_ok rfl rfl sd ?_ | refine head_gate ty_ok rfl rfl rfl sd ?_ | refine head_callE (ty := ty) rfl rfl rfl rfl rfl rfl rfl (hc2) rfl ?_ | refine head_callE (ty := ty) rfl rfl rfl rfl rfl rfl rfl (hc3) rfl ?_ | ((fail_if_success (refine head_known rfl ?_)); (refine head_split ty_ok rfl rfl rfl rfl (fun hc => ⟨?_, ?_⟩) (fun hc => ⟨?_, ?_⟩)) <;> (try simp only [nms, reduceCtorEq] at hc) <;> (try (exfalso; omega)) <;> (try exact sd)))) | ((fail_if_success (with_reducible show AWp _ _ _ _ _)); (fail_if_success (with_reducible show AOps _ _ _ _ _ _)); (fail_if_success (with_reducible show HeadT _ _ _ _ _ _ _ _ _ _)); (first | (show AWp _ _ _ _ _) | (show AOps _ _ _ _ _ _))))
          rfl
    · have hke : k = l.length := by omega
      subst hke
      rw [List.take_length] at hm
      rw [hm]
      match acc with
      | [] =>
        repeat' (first | ((with_reducible show AWp _ _ _ _ _); (first | refine awp_seq ?_ | refine awp_block ?_ | refine awp_skip ?_ | refine awp_exit ?_ | refine awp_scope ?_ | refine awp_label ?_ | refine awp_run ty_ok rfl sd ?_ | refine awp_ret ⟨_, _, rfl, rfl, ?_⟩ | refine awp_ret ⟨_, rfl, ?_⟩ | ((refine awp_cond (ty := ty) rfl (fun hc => ?_) (fun hc => ?_)) <;> (try simp only [nms, reduceCtorEq] at hc) <;> (try (exfalso; omega))))) | ((with_reducible show AOps _ _ _ _ _ _); (first | refine aops_nil ?_ | refine aops_go ty_ok rfl rfl sd ?_ | refine aops_gate ty_ok rfl rfl rfl sd ?_ | refine aops_litE ty_ok rfl rfl rfl rfl rfl rfl rfl rfl rfl rfl rfl rfl ?_ | refine aops_litA ty_ok rfl rfl rfl rfl rfl rfl rfl rfl rfl rfl rfl rfl rfl rfl rfl rfl ?_ | refine aops_buildArr ty_ok rfl rfl rfl rfl rfl rfl rfl rfl rfl rfl ?_ | refine aops_indexArr ty_ok rfl rfl rfl rfl rfl rfl rfl rfl rfl rfl sd ?_ | refine aops_cutE ty_ok rfl rfl rfl rfl rfl rfl rfl rfl rfl sd rfl ?_ | ((fail_if_success (refine aops_known rfl ?_)); (refine aops_split ty_ok rfl rfl rfl rfl rfl rfl (fun hc => ⟨?_, ?_⟩) (fun hc => ⟨?_, ?_⟩)) <;> (try simp only [nms, reduceCtorEq] at hc) <;> (try (exfalso; omega)) <;> (try exact sd)))) | ((fail_if_success (with_reducible show AWp _ _ _ _ _)); (fail_if_success (with_reducible show AOps _ _ _ _ _ _)); (first | (show AWp _ _ _ _ _) | (show AOps _ _ _ _ _ _))))
        rw [bys_len]
        rfl
      | p :: r =>
        repeat' (first | ((with_reducible show AWp _ _ _ _ _); (first | refine awp_seq ?_ | refine awp_block ?_ | refine awp_skip ?_ | refine awp_exit ?_ | refine awp_scope ?_ | refine awp_label ?_ | refine awp_run ty_ok rfl sd ?_ | refine awp_ret ⟨_, _, rfl, rfl, ?_⟩ | refine awp_ret ⟨_, rfl, ?_⟩ | ((refine awp_cond (ty := ty) rfl (fun hc => ?_) (fun hc => ?_)) <;> (try simp only [nms, reduceCtorEq] at hc) <;> (try (exfalso; omega))))) | ((with_reducible show AOps _ _ _ _ _ _); (first | refine aops_nil ?_ | refine aops_go ty_ok rfl rfl sd ?_ | refine aops_gate ty_ok rfl rfl rfl sd ?_ | refine aops_litE ty_ok rfl rfl rfl rfl rfl rfl rfl rfl rfl rfl rfl rfl ?_ | refine aops_litA ty_ok rfl rfl rfl rfl rfl rfl rfl rfl rfl rfl rfl rfl rfl rfl rfl rfl ?_ | refine aops_buildArr ty_ok rfl rfl rfl rfl rfl rfl rfl rfl rfl rfl ?_ | refine aops_indexArr ty_ok rfl rfl rfl rfl rfl rfl rfl rfl rfl rfl sd ?_ | refine aops_cutE ty_ok rfl rfl rfl rfl rfl rfl rfl rfl rfl sd rfl ?_ | ((fail_if_success (refine aops_known rfl ?_)); (refine aops_split ty_ok rfl rfl rfl rfl rfl rfl (fun hc => ⟨?_, ?_⟩) (fun hc => ⟨?_, ?_⟩)) <;> (try simp only [nms, reduceCtorEq] at hc) <;> (try (exfalso; omega)) <;> (try exact sd)))) | ((fail_if_success (with_reducible show AWp _ _ _ _ _)); (fail_if_success (with_reducible show AOps _ _ _ _ _ _)); (first | (show AWp _ _ _ _ _) | (show AOps _ _ _ _ _ _))))
        rfl
theorem c_uparse_at (b : List UInt8) (hb : b.length ≤ 1000000) {v : Ex (List (List UInt8))} (h : usP b = v) : ACalls Tryz.prog envL 15 [.sl none (bys b)] (fun r => r = usD v) := by
  subst h
  exact c_uparse b hb
theorem usE_ok {b : List UInt8} {e : El} {s : List UInt8} (h : usE b e = .ok s) : e.x = 6 ∧ oidV s = true ∧ encO s = cut b e.bd e.en := by
  unfold usE at h
  cases hi : isB e.x 0 false 6 with
  | false => rw [hi] at h; cases h
  | true =>
    rw [hi] at h
    simp only at h
    rcases decS_cases (cut b e.bd e.en) with hd | ⟨s', h1, h2, hd, _⟩
    · rw [hd] at h; cases h
    · rw [hd] at h
      cases h
      exact ⟨isB_oid.1 hi, h1, h2⟩
theorem usE_bad {b : List UInt8} {e : El} {c o : Nat} (h : usE b e = .bad c o) : 0 < c ∧ (o = e.st ∨ o = e.bd) := by
  unfold usE at h
  split at h
  · cases h; exact ⟨by omega, .inl rfl⟩
  · split at h
    · cases h
    · cases h; exact ⟨by omega, .inr rfl⟩
theorem mapX_bad {α β : Type} {f : α → Ex β} : ∀ {l : List α} {c o : Nat}, mapX f l = .bad c o → ∃ a ∈ l, f a = .bad c o
  | [], _, _, h => by cases h
  | a :: r, c, o, h => by
    rw [mapX] at h
    cases ha : f a with
    | bad c' o' =>
      rw [ha] at h
      cases h
      exact ⟨a, List.mem_cons_self .., ha⟩
    | ok x =>
      rw [ha] at h
      simp only at h
      cases hr : mapX f r with
      | bad c' o' =>
        rw [hr] at h
        cases h
        obtain ⟨y, hy, hf⟩ := mapX_bad hr
        exact ⟨y, List.mem_cons_of_mem _ hy, hf⟩
      | ok q => rw [hr] at h; cases h
theorem us_raw {b : List UInt8} {l : List (List UInt8)} (h : usP b = .ok l) : ∃ els, ptF b 0 16 = .ok els ∧ mapX (usE b) els = .ok l ∧ l ≠ [] := by
  unfold usP at h
  cases hp : ptF b 0 16 with
  | bad c o => rw [hp] at h; cases h
  | ok es =>
    rw [hp] at h
    simp only at h
    cases hm : mapX (usE b) es with
    | bad c o => rw [hm] at h; cases h
    | ok L =>
      rw [hm] at h
      match L, hm, h with
      | p :: r, hm, h =>
        cases h
        exact ⟨es, rfl, hm, by simp⟩
/-- What is parsed is valid, and its encoding are these bytes. -/
theorem us_ok3 {b : List UInt8} {l : List (List UInt8)} (h : usP b = .ok l) : usV l = true ∧ b = usF l ∧ (l.map objF).flatten.length ≤ 2147483647 := by
  obtain ⟨es, hp, hm, hne⟩ := us_raw h
  obtain ⟨x, ts, hx1, hx2, hx3, hg, hbe, hle⟩ := pt_ok hp
  have hx := isB_seq.1 hx1
  subst hx
  obtain ⟨hlen, hk⟩ := mapX_ok hm
  have hts : es.length = ts.length := by rw [hle, elsF_len]
  have key : ∀ k (h1 : k < l.length) (h2 : k < ts.length), ts[k] = ((6 : UInt8), encO l[k]) ∧ oidV l[k] = true := by
    intro k h1 h2
    have h3 : k < es.length := by omega
    obtain ⟨e, e1, e2, _, _, _, e3, _⟩ := pt_at (x := 48) (ts := ts) k h2
    have e4 : es[k] = e := by
      have h5 : es[k]? = some es[k] := List.getElem?_eq_getElem h3
      have h6 : es[k]? = some e := by rw [hle]; exact e1
      rw [h6] at h5
      simp only [Option.some.injEq] at h5
      exact h5.symm
    have h7 := hk k h3 h1
    rw [e4] at h7
    obtain ⟨a1, a2, a3⟩ := usE_ok h7
    rw [hbe, e3] at a3
    rw [e2] at a1
    exact ⟨Prod.ext a1 a3.symm, a2⟩
  have h1 : ts = l.map fun s => ((6 : UInt8), encO s) := by
    refine List.ext_getElem (by simp; omega) (fun k h1 h2 => ?_)
    rw [List.getElem_map]
    exact (key k (by omega) h1).1
  refine ⟨?_, ?_, by rw [objs_cat, ← h1]; exact hx3⟩
  · unfold usV
    rw [Bool.and_eq_true]
    refine ⟨by cases l with
      | nil => exact absurd rfl hne
      | cons p r => rfl, List.all_eq_true.2 fun s hs => ?_⟩
    obtain ⟨k, hk, rfl⟩ := List.getElem_of_mem hs
    exact (key k hk (by omega)).2
  · rw [usF, objs_cat, ← h1]
    exact hbe
theorem us_ok {b : List UInt8} {l : List (List UInt8)} (h : usP b = .ok l) : usV l = true ∧ b = usF l := ⟨(us_ok3 h).1, (us_ok3 h).2.1⟩
/-- An encoding is parsed as what it encodes. -/
theorem us_of {l : List (List UInt8)} (hv : usV l = true) (hl : (l.map objF).flatten.length ≤ 2147483647) : usP (usF l) = .ok l := by
  have hp := pt_of (b := usF l) (cls := 0) (num := 16) (x := 48) (ts := l.map fun s => ((6 : UInt8), encO s)) (by decide) (by decide) (by rw [← objs_cat]; exact hl) (goodO l hl) (by rw [usF, objs_cat])
  have hm : mapX (usE (usF l)) (elsF (hsz (catF (l.map fun s => ((6 : UInt8), encO s)))) (l.map fun s => ((6 : UInt8), encO s))) = .ok l := by
    refine mapX_of (by rw [elsF_len, List.length_map]) (fun k h h' => ?_)
    obtain ⟨e, e1, e2, _, _, _, e3, _⟩ := pt_at (x := 48) (ts := l.map fun s => ((6 : UInt8), encO s)) k (by simpa using h')
    have e4 := List.getElem?_eq_getElem h
    rw [e1] at e4
    simp only [Option.some.injEq] at e4
    rw [← e4]
    rw [List.getElem_map] at e2 e3
    rw [← objs_cat] at e3
    have e5 : cut (usF l) e.bd e.en = encO l[k] := e3
    have e6 := decS_encO (usV_all hv l[k] (List.getElem_mem h'))
    unfold usE
    rw [e2, e5, e6]
    simp only [show isB 6 0 false 6 = true from by decide, decide_true]
  unfold usP
  rw [hp]
  simp only
  rw [hm]
  cases l with
  | nil => cases hv
  | cons p r => rfl
theorem us_bad {b : List UInt8} {c o : Nat} (h : usP b = .bad c o) : 0 < c ∧ o ≤ b.length := by
  unfold usP at h
  cases hp : ptF b 0 16 with
  | bad c' o' =>
    rw [hp] at h
    cases h
    exact pt_bad hp
  | ok es =>
    rw [hp] at h
    simp only at h
    cases hm : mapX (usE b) es with
    | bad c' o' =>
      rw [hm] at h
      cases h
      obtain ⟨e, he, hf⟩ := mapX_bad hm
      have h2 := usE_bad hf
      obtain ⟨x, ts, _, _, _, _, hbe, hle⟩ := pt_ok hp
      obtain ⟨k, hk, rfl⟩ := List.getElem_of_mem he
      have hk2 : k < ts.length := by rwa [hle, elsF_len] at hk
      obtain ⟨e', e1, _, a1, a2, a3, _, _⟩ := pt_at (x := x) (ts := ts) k hk2
      have h5 : es[k]? = some es[k] := List.getElem?_eq_getElem hk
      have h6 : es[k]? = some e' := by rw [hle]; exact e1
      rw [h6] at h5
      simp only [Option.some.injEq] at h5
      rw [← hbe, h5] at a3
      rw [h5] at a1 a2
      omega
    | ok L =>
      rw [hm] at h
      match L, h with
      | [], h =>
        cases h
        exact ⟨by omega, by omega⟩
end Go.Proofs.YtbbakpmedpcigaaGreatDoor

/- Identifier and length octets, read by the reference. Walked by the abstract machine. -/
namespace Go.Proofs.YtbbakpmedpcigaaGreatDoor
open Go.Am
set_option linter.unusedSimpArgs false
set_option linter.unusedVariables false

theorem beF_zero (r : List UInt8) : beF ((0 : UInt8) :: r) = beF r := rfl
theorem u64_stepR (n x : Nat) (hn : n < 72057594037927936) (hx : x < 256) : IntKind.u64.wrap (IntKind.u64.wrap ((n : Int) * 256) + IntKind.u64.wrap (x : Int)) = ((n * 256 + x : Nat) : Int) := by
  rw [IntKind.wrap_u64, IntKind.wrap_u64, IntKind.wrap_u64]
  omega
theorem isRUint : IsFn Tryz.prog 129 Tryz.f129 := ⟨Tryz.func129, by decide, rfl⟩
set_option maxHeartbeats 1000000 in
theorem c_ruint (Γ : Env) (b : List UInt8) (hb : b.length ≤ 7) : ACalls Tryz.prog Γ 129 [.sl none (bys b)] (fun r => r = .d (.tup [.int .u64 (beF b), .bool true])) := by
  refine acalls_of ty_ok isRUint rfl rfl ?_
  repeat' (first | ((with_reducible show AWp _ _ _ _ _); (first | refine awp_seq ?_ | refine awp_block ?_ | refine awp_skip ?_ | refine awp_exit ?_ | refine awp_scope ?_ | refine awp_label ?_ | refine awp_run ty_ok rfl sd ?_ | refine awp_ret ⟨_, _, rfl, rfl, ?_⟩ | refine awp_ret ⟨_, rfl, ?_⟩ | ((refine awp_cond (ty := ty) rfl (fun hc => ?_) (fun hc => ?_)) <;> (try simp only [nms, reduceCtorEq] at hc) <;> (try (exfalso; omega))))) | ((with_reducible show AOps _ _ _ _ _ _); (first | refine aops_nil ?_ | refine aops_go ty_ok rfl rfl sd ?_ | refine aops_gate ty_ok rfl rfl rfl sd ?_ | refine aops_litE ty_ok rfl rfl rfl rfl rfl rfl rfl rfl rfl rfl rfl rfl ?_ | refine aops_cutE ty_ok rfl rfl rfl rfl rfl rfl rfl rfl rfl sd rfl ?_ | ((fail_if_success (refine aops_known rfl ?_)); (refine aops_split ty_ok rfl rfl rfl rfl rfl rfl (fun hc => ⟨?_, ?_⟩) (fun hc => ⟨?_, ?_⟩)) <;> (try simp only [nms, reduceCtorEq] at hc) <;> (try (exfalso; omega)) <;> (try exact sd)))) | ((fail_if_success (with_reducible show AWp _ _ _ _ _)); (fail_if_success (with_reducible show AOps _ _ _ _ _ _)); (first | (show AWp _ _ _ _ _) | (show AOps _ _ _ _ _ _))))
  refine awp_loopR (G := { c : List UInt8 // beF c = beF b ∧ c.length ≤ 7 }) (fun c => ⟨Tryz.f129.ntmps, [(0, .d (.sl none (bys c.1)))], [], 0⟩) (fun c => c.1.length) ⟨b, rfl, hb⟩ []
    (SubR.mk' rfl rfl ⟨⟨_, rfl, rfl⟩, trivial⟩ trivial) ?_
  rintro ⟨c, hc1, hc2⟩
  dsimp only
  have hfin : (c.headD 1).toNat ≠ 0 → AWp Tryz.prog (Γ.at 0) (Code.skip) (fun _ _ => True) ⟨0, [], [], 0⟩ := fun _ => awp_skip trivial
  by_cases hz : ∃ r, c = 0 :: r
  · obtain ⟨r, rfl⟩ := hz
    have h0 : ((bys ((0 : UInt8) :: r)).getD (Int.toNat 0) default).num = 0 := rfl
    repeat' (first | ((with_reducible show AWp _ _ _ _ _); (first | refine awp_seq ?_ | refine awp_block ?_ | refine awp_skip ?_ | refine awp_exit ?_ | refine awp_scope ?_ | refine awp_label ?_ | refine awp_run ty_ok rfl sd ?_ | refine awp_ret ⟨_, _, rfl, rfl, ?_⟩ | refine awp_ret ⟨_, rfl, ?_⟩ | ((refine awp_cond (ty := ty) rfl (fun hc => ?_) (fun hc => ?_)) <;> (try simp only [nms, reduceCtorEq] at hc) <;> (try (exfalso; omega))))) | ((with_reducible show AOps _ _ _ _ _ _); (first | refine aops_nil ?_ | refine aops_go ty_ok rfl rfl sd ?_ | refine aops_gate ty_ok rfl rfl rfl sd ?_ | refine aops_litE ty_ok rfl rfl rfl rfl rfl rfl rfl rfl rfl rfl rfl rfl ?_ | refine aops_cutE ty_ok rfl rfl rfl rfl rfl rfl rfl rfl rfl sd rfl ?_ | ((fail_if_success (refine aops_known rfl ?_)); (refine aops_split ty_ok rfl rfl rfl rfl rfl rfl (fun hc => ⟨?_, ?_⟩) (fun hc => ⟨?_, ?_⟩)) <;> (try simp only [nms, reduceCtorEq] at hc) <;> (try (exfalso; omega)) <;> (try exact sd)))) | ((fail_if_success (with_reducible show AWp _ _ _ _ _)); (fail_if_success (with_reducible show AOps _ _ _ _ _ _)); (first | (show AWp _ _ _ _ _) | (show AOps _ _ _ _ _ _))))
    refine ⟨⟨r, by rw [← hc1, beF_zero], by simp at hc2; omega⟩, [], SubR.mk' rfl rfl ⟨⟨_, rfl, congrArg (fun z => AV.d (Dat.sl none z)) ?_⟩, trivial⟩ trivial, by simp⟩
    rw [cutL_bys, bys_len]
    simp [cutB]
  · have h0 : c ≠ [] → ((bys c).getD (Int.toNat 0) default).num ≠ 0 := fun hne => by
      match c, hne with
      | x :: r, _ =>
        show (x.toNat : Int) ≠ 0
        intro h
        exact hz ⟨r, by rw [show x = 0 from u8_ext (by simpa using h)]⟩
    have hlo : c.length = 0 ∨ ((bys c).getD (Int.toNat 0) default).num ≠ 0 := by
      cases c with
      | nil => exact .inl rfl
      | cons x r => exact .inr (h0 (by simp))
    repeat' (first | ((with_reducible show AWp _ _ _ _ _); (first | refine awp_seq ?_ | refine awp_block ?_ | refine awp_skip ?_ | refine awp_exit ?_ | refine awp_scope ?_ | refine awp_label ?_ | refine awp_run ty_ok rfl sd ?_ | refine awp_ret ⟨_, _, rfl, rfl, ?_⟩ | refine awp_ret ⟨_, rfl, ?_⟩ | ((refine awp_cond (ty := ty) rfl (fun hc => ?_) (fun hc => ?_)) <;> (try simp only [nms, reduceCtorEq] at hc) <;> (try (exfalso; omega))))) | ((with_reducible show AOps _ _ _ _ _ _); (first | refine aops_nil ?_ | refine aops_go ty_ok rfl rfl sd ?_ | refine aops_gate ty_ok rfl rfl rfl sd ?_ | refine aops_litE ty_ok rfl rfl rfl rfl rfl rfl rfl rfl rfl rfl rfl rfl ?_ | refine aops_cutE ty_ok rfl rfl rfl rfl rfl rfl rfl rfl rfl sd rfl ?_ | ((fail_if_success (refine aops_known rfl ?_)); (refine aops_split ty_ok rfl rfl rfl rfl rfl rfl (fun hc => ⟨?_, ?_⟩) (fun hc => ⟨?_, ?_⟩)) <;> (try simp only [nms, reduceCtorEq] at hc) <;> (try (exfalso; omega)) <;> (try exact sd)))) | ((fail_if_success (with_reducible show AWp _ _ _ _ _)); (fail_if_success (with_reducible show AOps _ _ _ _ _ _)); (first | (show AWp _ _ _ _ _) | (show AOps _ _ _ _ _ _))))
    all_goals try (exfalso; omega)
    all_goals
      refine awp_loopR (G := { i : Nat // i ≤ c.length }) (fun i => ⟨Tryz.f129.ntmps, [(0, .d (.sl none (bys c))), (4, .d (.int .u64 (beF (c.take i.1)))), (5, .d (.int .i64 i.1))], [], 0⟩) (fun i => c.length - i.1) ⟨0, Nat.zero_le _⟩ []
        (SubR.mk' rfl rfl ⟨⟨_, rfl, rfl⟩, ⟨_, rfl, rfl⟩, ⟨_, rfl, rfl⟩, trivial⟩ trivial) ?_
      rintro ⟨i, hi⟩
      dsimp only
      rcases Nat.lt_or_ge i c.length with hil | hil
      · have hbt := beF_lt (c.take i)
        have hpw := Nat.pow_le_pow_right (n := 256) (by omega) (show (c.take i).length ≤ 7 by rw [List.length_take]; omega)
        have hel : ((bys c).getD (i : Int).toNat default).num = (c[i].toNat : Int) := byte_at c i hil
        have hxl := u8_lt c[i]
        repeat' (first | ((with_reducible show AWp _ _ _ _ _); (first | refine awp_seq ?_ | refine awp_block ?_ | refine awp_skip ?_ | refine awp_exit ?_ | refine awp_scope ?_ | refine awp_label ?_ | refine awp_run ty_ok rfl sd ?_ | refine awp_ret ⟨_, _, rfl, rfl, ?_⟩ | refine awp_ret ⟨_, rfl, ?_⟩ | ((refine awp_cond (ty := ty) rfl (fun hc => ?_) (fun hc => ?_)) <;> (try simp only [nms, reduceCtorEq] at hc) <;> (try (exfalso; omega))))) | ((with_reducible show AOps _ _ _ _ _ _); (first | refine aops_nil ?_ | refine aops_go ty_ok rfl rfl sd ?_ | refine aops_gate ty_ok rfl rfl rfl sd ?_ | refine aops_litE ty_ok rfl rfl rfl rfl rfl rfl rfl rfl rfl rfl rfl rfl ?_ | refine aops_cutE ty_ok rfl rfl rfl rfl rfl rfl rfl rfl rfl sd rfl ?_ | ((fail_if_success (refine aops_known rfl ?_)); (refine aops_split ty_ok rfl rfl rfl rfl rfl rfl (fun hc => ⟨?_, ?_⟩) (fun hc => ⟨?_, ?_⟩)) <;> (try simp only [nms, reduceCtorEq] at hc) <;> (try (exfalso; omega)) <;> (try exact sd)))) | ((fail_if_success (with_reducible show AWp _ _ _ _ _)); (fail_if_success (with_reducible show AOps _ _ _ _ _ _)); (first | (show AWp _ _ _ _ _) | (show AOps _ _ _ _ _ _))))
        all_goals refine ⟨⟨i + 1, hil⟩, [], SubR.mk' rfl rfl ⟨⟨_, rfl, rfl⟩, ⟨_, rfl, congrArg (fun z : Int => AV.d (Dat.int IntKind.u64 z)) ?_⟩, ⟨_, rfl, rfl⟩, trivial⟩ trivial, by simp only; omega⟩
        all_goals rw [hel, u64_stepR _ _ (by omega) hxl, List.take_succ_eq_append_getElem hil, beF_snoc]
      · have hie : i = c.length := by omega
        subst hie
        repeat' (first | ((with_reducible show AWp _ _ _ _ _); (first | refine awp_seq ?_ | refine awp_block ?_ | refine awp_skip ?_ | refine awp_exit ?_ | refine awp_scope ?_ | refine awp_label ?_ | refine awp_run ty_ok rfl sd ?_ | refine awp_ret ⟨_, _, rfl, rfl, ?_⟩ | refine awp_ret ⟨_, rfl, ?_⟩ | ((refine awp_cond (ty := ty) rfl (fun hc => ?_) (fun hc => ?_)) <;> (try simp only [nms, reduceCtorEq] at hc) <;> (try (exfalso; omega))))) | ((with_reducible show AOps _ _ _ _ _ _); (first | refine aops_nil ?_ | refine aops_go ty_ok rfl rfl sd ?_ | refine aops_gate ty_ok rfl rfl rfl sd ?_ | refine aops_litE ty_ok rfl rfl rfl rfl rfl rfl rfl rfl rfl rfl rfl rfl ?_ | refine aops_cutE ty_ok rfl rfl rfl rfl rfl rfl rfl rfl rfl sd rfl ?_ | ((fail_if_success (refine aops_known rfl ?_)); (refine aops_split ty_ok rfl rfl rfl rfl rfl rfl (fun hc => ⟨?_, ?_⟩) (fun hc => ⟨?_, ?_⟩)) <;> (try simp only [nms, reduceCtorEq] at hc) <;> (try (exfalso; omega)) <;> (try exact sd)))) | ((fail_if_success (with_reducible show AWp _ _ _ _ _)); (fail_if_success (with_reducible show AOps _ _ _ _ _ _)); (first | (show AWp _ _ _ _ _) | (show AOps _ _ _ _ _ _))))
        try rw [List.take_length, hc1]
def cmpB : List UInt8 → List UInt8 → Int
  | [], [] => 0
  | [], _ :: _ => -1
  | _ :: _, [] => 1
  | a :: x, b :: y => if a.toNat < b.toNat then -1 else if b.toNat < a.toNat then 1 else cmpB x y
theorem cmpB_zero : ∀ (x y : List UInt8), cmpB x y = 0 ↔ x = y
  | [], [] => by simp [cmpB]
  | [], _ :: _ => by simp [cmpB]
  | _ :: _, [] => by simp [cmpB]
  | a :: x, b :: y => by
    rw [cmpB]
    by_cases h1 : a.toNat < b.toNat
    · rw [if_pos h1]
      have : a ≠ b := fun e => by rw [e] at h1; omega
      simp [this]
    · rw [if_neg h1]
      by_cases h2 : b.toNat < a.toNat
      · rw [if_pos h2]
        have : a ≠ b := fun e => by rw [e] at h2; omega
        simp [this]
      · rw [if_neg h2, cmpB_zero x y, show a = b from u8_ext (by omega)]
        simp
theorem cmpB_drop {x y : List UInt8} {k : Nat} (hx : k < x.length) (hy : k < y.length) : cmpB (x.drop k) (y.drop k) = if x[k].toNat < y[k].toNat then -1 else if y[k].toNat < x[k].toNat then 1 else cmpB (x.drop (k + 1)) (y.drop (k + 1)) := by
  rw [List.drop_eq_getElem_cons hx, List.drop_eq_getElem_cons hy, cmpB]
theorem cmpB_end {x y : List UInt8} {k : Nat} (h : ¬ (k < x.length ∧ k < y.length)) (hx : k ≤ x.length) (hy : k ≤ y.length) : cmpB (x.drop k) (y.drop k) = if x.length < y.length then -1 else if y.length < x.length then 1 else 0 := by
  cases h1 : x.drop k with
  | nil =>
    have := List.drop_eq_nil_iff.1 h1
    cases h2 : y.drop k with
    | nil =>
      have := List.drop_eq_nil_iff.1 h2
      rw [if_neg (by omega), if_neg (by omega)]
      rfl
    | cons b r =>
      have : k < y.length := by
        apply Nat.lt_of_not_le
        intro hle
        rw [List.drop_eq_nil_iff.2 hle] at h2
        cases h2
      rw [if_pos (by omega)]
      rfl
  | cons a r =>
    have hkx : k < x.length := by
      apply Nat.lt_of_not_le
      intro hle
      rw [List.drop_eq_nil_iff.2 hle] at h1
      cases h1
    have h2 : y.drop k = [] := List.drop_eq_nil_iff.2 (by omega)
    rw [h2, if_neg (by omega), if_pos (by omega)]
    rfl
theorem isRCompare1 : IsFn Tryz.prog 130 Tryz.f130 := ⟨Tryz.func130, by decide, rfl⟩
set_option maxHeartbeats 1000000 in
theorem c_rcmp (Γ : Env) (x y : List UInt8) (hx : x.length ≤ 1099511627) : ACalls Tryz.prog Γ 130 [.sl none (bys x), .sl none (bys y)] (fun r => r = .d (.int .i64 (cmpB x y))) := by
  refine acalls_of ty_ok isRCompare1 rfl rfl ?_
  repeat' (first | ((with_reducible show AWp _ _ _ _ _); (first | refine awp_seq ?_ | refine awp_block ?_ | refine awp_skip ?_ | refine awp_exit ?_ | refine awp_scope ?_ | refine awp_label ?_ | refine awp_run ty_ok rfl sd ?_ | refine awp_ret ⟨_, _, rfl, rfl, ?_⟩ | refine awp_ret ⟨_, rfl, ?_⟩ | ((refine awp_cond (ty := ty) rfl (fun hc => ?_) (fun hc => ?_)) <;> (try simp only [nms, reduceCtorEq] at hc) <;> (try (exfalso; omega))))) | ((with_reducible show AOps _ _ _ _ _ _); (first | refine aops_nil ?_ | refine aops_go ty_ok rfl rfl sd ?_ | refine aops_gate ty_ok rfl rfl rfl sd ?_ | refine aops_litE ty_ok rfl rfl rfl rfl rfl rfl rfl rfl rfl rfl rfl rfl ?_ | refine aops_cutE ty_ok rfl rfl rfl rfl rfl rfl rfl rfl rfl sd rfl ?_ | ((fail_if_success (refine aops_known rfl ?_)); (refine aops_split ty_ok rfl rfl rfl rfl rfl rfl (fun hc => ⟨?_, ?_⟩) (fun hc => ⟨?_, ?_⟩)) <;> (try simp only [nms, reduceCtorEq] at hc) <;> (try (exfalso; omega)) <;> (try exact sd)))) | ((fail_if_success (with_reducible show AWp _ _ _ _ _)); (fail_if_success (with_reducible show AOps _ _ _ _ _ _)); (first | (show AWp _ _ _ _ _) | (show AOps _ _ _ _ _ _))))
  refine awp_loopR (G := { k : Nat // k ≤ x.length ∧ k ≤ y.length ∧ cmpB x y = cmpB (x.drop k) (y.drop k) }) (fun k => ⟨Tryz.f130.ntmps, [(0, .d (.sl none (bys x))), (1, .d (.sl none (bys y))), (5, .d (.int .i64 k.1))], [], 0⟩) (fun k => x.length - k.1) ⟨0, by simp⟩ []
      (SubR.mk' rfl rfl ⟨⟨_, rfl, rfl⟩, ⟨_, rfl, rfl⟩, ⟨_, rfl, rfl⟩, trivial⟩ trivial) ?_
  rintro ⟨k, hk1, hk2, hk3⟩
  dsimp only
  by_cases h : k < x.length ∧ k < y.length
  · have e1 := byte_at x k h.1
    have e2 := byte_at y k h.2
    rw [cmpB_drop h.1 h.2] at hk3
    repeat' (first | ((with_reducible show AWp _ _ _ _ _); (first | refine awp_seq ?_ | refine awp_block ?_ | refine awp_skip ?_ | refine awp_exit ?_ | refine awp_scope ?_ | refine awp_label ?_ | refine awp_run ty_ok rfl sd ?_ | refine awp_ret ⟨_, _, rfl, rfl, ?_⟩ | refine awp_ret ⟨_, rfl, ?_⟩ | ((refine awp_cond (ty := ty) rfl (fun hc => ?_) (fun hc => ?_)) <;> (try simp only [nms, reduceCtorEq] at hc) <;> (try (exfalso; omega))) | refine awp_anyL 8 mixed rfl (by kernel_rfl) ?_)) | ((with_reducible show AOps _ _ _ _ _ _); (first | refine aops_nil ?_ | refine aops_go ty_ok rfl rfl sd ?_ | refine aops_gate ty_ok rfl rfl rfl sd ?_ | refine aops_litE ty_ok rfl rfl rfl rfl rfl rfl rfl rfl rfl rfl rfl rfl ?_ | refine aops_cutE ty_ok rfl rfl rfl rfl rfl rfl rfl rfl rfl sd rfl ?_ | ((fail_if_success (refine aops_known rfl ?_)); (refine aops_split ty_ok rfl rfl rfl rfl rfl rfl (fun hc => ⟨?_, ?_⟩) (fun hc => ⟨?_, ?_⟩)) <;> (try simp only [nms, reduceCtorEq] at hc) <;> (try (exfalso; omega)) <;> (try exact sd)))) | ((with_reducible show HeadT _ _ _ _ _ _ _ _ _ _); (first | refine head_end ?_ | refine head_goP ty_ok rfl rfl sd ?_ | refine head_gate ty_ok rfl rfl rfl sd ?_ | ((fail_if_success (refine head_known rfl ?_)); (refine head_split ty_ok rfl rfl rfl rfl (fun hc => ⟨?_, ?_⟩) (fun hc => ⟨?_, ?_⟩)) <;> (try simp only [nms, reduceCtorEq] at hc) <;> (try (exfalso; omega)) <;> (try exact sd)))) | ((fail_if_success (with_reducible show AWp _ _ _ _ _)); (fail_if_success (with_reducible show AOps _ _ _ _ _ _)); (fail_if_success (with_reducible show HeadT _ _ _ _ _ _ _ _ _ _)); (first | (show AWp _ _ _ _ _) | (show AOps _ _ _ _ _ _))))
    · rw [hk3, if_pos (by omega)]
    · rw [hk3, if_neg (by omega), if_pos (by omega)]
    · rw [if_neg (by omega), if_neg (by omega)] at hk3
      exact ⟨⟨k + 1, h.1, h.2, hk3⟩, [], SubR.mk' rfl rfl ⟨⟨_, rfl, rfl⟩, ⟨_, rfl, rfl⟩, ⟨_, rfl, rfl⟩, trivial⟩ trivial, by simp only; omega⟩
  · rw [cmpB_end h hk1 hk2] at hk3
    repeat' (first | ((with_reducible show AWp _ _ _ _ _); (first | refine awp_seq ?_ | refine awp_block ?_ | refine awp_skip ?_ | refine awp_exit ?_ | refine awp_scope ?_ | refine awp_label ?_ | refine awp_run ty_ok rfl sd ?_ | refine awp_ret ⟨_, _, rfl, rfl, ?_⟩ | refine awp_ret ⟨_, rfl, ?_⟩ | ((refine awp_cond (ty := ty) rfl (fun hc => ?_) (fun hc => ?_)) <;> (try simp only [nms, reduceCtorEq] at hc) <;> (try (exfalso; omega))))) | ((with_reducible show AOps _ _ _ _ _ _); (first | refine aops_nil ?_ | refine aops_go ty_ok rfl rfl sd ?_ | refine aops_gate ty_ok rfl rfl rfl sd ?_ | refine aops_litE ty_ok rfl rfl rfl rfl rfl rfl rfl rfl rfl rfl rfl rfl ?_ | refine aops_cutE ty_ok rfl rfl rfl rfl rfl rfl rfl rfl rfl sd rfl ?_ | ((fail_if_success (refine aops_known rfl ?_)); (refine aops_split ty_ok rfl rfl rfl rfl rfl rfl (fun hc => ⟨?_, ?_⟩) (fun hc => ⟨?_, ?_⟩)) <;> (try simp only [nms, reduceCtorEq] at hc) <;> (try (exfalso; omega)) <;> (try exact sd)))) | ((fail_if_success (with_reducible show AWp _ _ _ _ _)); (fail_if_success (with_reducible show AOps _ _ _ _ _ _)); (first | (show AWp _ _ _ _ _) | (show AOps _ _ _ _ _ _))))
    all_goals first | (exfalso; omega) | skip
    all_goals rw [hk3]
    all_goals first | (rw [if_pos (by omega)]; done) | (rw [if_neg (by omega), if_pos (by omega)]; done) | (rw [if_neg (by omega), if_neg (by omega)]; done)

theorem tm32 (x : UInt8) : Int.tmod (IntKind.i64.wrap (x.toNat : Int)) 32 = ((x.toNat % 32 : Nat) : Int) := by
  rw [wrap_i64_nat _ (by have := u8_lt x; omega)]
  rfl
theorem td_nat (x : UInt8) (k : Nat) (hk : 0 < k) : IntKind.i64.wrap (Int.tdiv (IntKind.i64.wrap (x.toNat : Int)) (k : Int)) = ((x.toNat / k : Nat) : Int) := by
  have := u8_lt x
  have h2 : x.toNat / k ≤ x.toNat := Nat.div_le_self _ _
  rw [wrap_i64_nat _ (by omega), ← Int.ofNat_tdiv, wrap_i64_nat _ (by omega)]
theorem isRReadIdentifier : IsFn Tryz.prog 119 Tryz.f119 := ⟨Tryz.func119, by decide, rfl⟩
theorem c_rreadid (Γ : Env) (x : UInt8) : ACalls Tryz.prog Γ 119 [.int .u8 x.toNat] (fun r => r = .d (idD x)) := by
  refine acalls_of ty_ok isRReadIdentifier rfl rfl ?_
  have h1 := u8_lt x
  have h2 := tm32 x
  repeat' (first | ((with_reducible show AWp _ _ _ _ _); (first | refine awp_seq ?_ | refine awp_block ?_ | refine awp_skip ?_ | refine awp_exit ?_ | refine awp_scope ?_ | refine awp_label ?_ | refine awp_run ty_ok rfl sd ?_ | refine awp_ret ⟨_, _, rfl, rfl, ?_⟩ | refine awp_ret ⟨_, rfl, ?_⟩ | ((refine awp_cond (ty := ty) rfl (fun hc => ?_) (fun hc => ?_)) <;> (try simp only [nms, reduceCtorEq] at hc) <;> (try (exfalso; omega))))) | ((with_reducible show AOps _ _ _ _ _ _); (first | refine aops_nil ?_ | refine aops_go ty_ok rfl rfl sd ?_ | refine aops_gate ty_ok rfl rfl rfl sd ?_ | refine aops_litE ty_ok rfl rfl rfl rfl rfl rfl rfl rfl rfl rfl rfl rfl ?_ | refine aops_cutE ty_ok rfl rfl rfl rfl rfl rfl rfl rfl rfl sd rfl ?_ | ((fail_if_success (refine aops_known rfl ?_)); (refine aops_split ty_ok rfl rfl rfl rfl rfl rfl (fun hc => ⟨?_, ?_⟩) (fun hc => ⟨?_, ?_⟩)) <;> (try simp only [nms, reduceCtorEq] at hc) <;> (try (exfalso; omega)) <;> (try exact sd)))) | ((fail_if_success (with_reducible show AWp _ _ _ _ _)); (fail_if_success (with_reducible show AOps _ _ _ _ _ _)); (first | (show AWp _ _ _ _ _) | (show AOps _ _ _ _ _ _))))
  · rw [idD, if_pos (by omega)]
  · rw [idD, if_neg (by omega)]
    have e1 := td_nat x 64 (by omega)
    have e2 := td_nat x 32 (by omega)
    simp only [Int.cast_ofNat_Int] at e1 e2
    rw [e1, e2, h2, clsD, numD, conB]
    congr 6
    rw [Bool.eq_iff_iff, beq_iff_eq, decide_eq_true_eq, show Int.tmod ((x.toNat / 32 : Nat) : Int) 2 = ((x.toNat / 32 % 2 : Nat) : Int) from rfl]
    omega
/-- A length is minimal if it is written as it was read. -/
theorem rl_min {x : UInt8} {r : List UInt8} {k : Nat} (hx : x.toNat = k + 128) (hk : 1 ≤ k) (hk4 : k ≤ 4) (hr : k ≤ r.length) (hn : beF (r.take k) ≤ 2147483647) : lenB (beF (r.take k)) = (x :: r).take (1 + k) ↔ ¬ ((r.headD 0).toNat = 0 ∨ beF (r.take k) < 128 ∨ 2147483647 < beF (r.take k)) := by
  have hf : rlF (x :: r) = if (r.headD 0).toNat = 0 ∨ beF (r.take k) < 128 ∨ 2147483647 < beF (r.take k) then .bad 4 0 else .ok (beF (r.take k), 1 + k) := by
    rw [rlF, if_neg (by omega), if_neg (by omega), show x.toNat - 128 = k by omega, if_neg (by omega), show x.toNat - 127 = 1 + k by omega]
  constructor
  · intro h hc
    rw [if_pos hc] at hf
    have e : x :: r = lenB (beF (r.take k)) ++ (x :: r).drop (1 + k) := by rw [h, List.take_append_drop]
    rw [e, rl_put _ _ hn] at hf
    cases hf
  · intro hc
    rw [if_neg hc] at hf
    obtain ⟨h1, h2, h3⟩ := rl_inv hf
    have : (x :: r).take (1 + k) = (lenB (beF (r.take k)) ++ (x :: r).drop (1 + k)).take (1 + k) := by rw [← h3]
    rw [this, List.take_append_of_le_length (by omega)]
    exact (List.take_of_length_le (by omega)).symm

theorem isRReadLength : IsFn Tryz.prog 120 Tryz.f120 := ⟨Tryz.func120, by decide, rfl⟩
set_option maxHeartbeats 4000000 in
set_option maxRecDepth 100000 in
theorem c_rreadlen (Γ : Env) (b : List UInt8) (hb : b.length ≤ 1099511627) : ACalls Tryz.prog Γ 120 [.sl none (bys b)] (fun r => r = .d (rlD (rlF b))) := by
  refine acalls_of ty_ok isRReadLength rfl rfl ?_
  match b, hb with
  | [], _ =>
    repeat' (first | ((with_reducible show AWp _ _ _ _ _); (first | refine awp_seq ?_ | refine awp_block ?_ | refine awp_skip ?_ | refine awp_exit ?_ | refine awp_scope ?_ | refine awp_label ?_ | refine awp_run ty_ok rfl sd ?_ | refine awp_ret ⟨_, _, rfl, rfl, ?_⟩ | refine awp_ret ⟨_, rfl, ?_⟩ | ((refine awp_cond (ty := ty) rfl (fun hc => ?_) (fun hc => ?_)) <;> (try simp only [nms, reduceCtorEq] at hc) <;> (try (exfalso; omega))))) | ((with_reducible show AOps _ _ _ _ _ _); (first | refine aops_nil ?_ | refine aops_go ty_ok rfl rfl sd ?_ | refine aops_gate ty_ok rfl rfl rfl sd ?_ | refine aops_litE ty_ok rfl rfl rfl rfl rfl rfl rfl rfl rfl rfl rfl rfl ?_ | refine aops_cutE ty_ok rfl rfl rfl rfl rfl rfl rfl rfl rfl sd rfl ?_ | ((fail_if_success (refine aops_known rfl ?_)); (refine aops_split ty_ok rfl rfl rfl rfl rfl rfl (fun hc => ⟨?_, ?_⟩) (fun hc => ⟨?_, ?_⟩)) <;> (try simp only [nms, reduceCtorEq] at hc) <;> (try (exfalso; omega)) <;> (try exact sd)))) | ((fail_if_success (with_reducible show AWp _ _ _ _ _)); (fail_if_success (with_reducible show AOps _ _ _ _ _ _)); (first | (show AWp _ _ _ _ _) | (show AOps _ _ _ _ _ _))))
    rfl
  | x :: r, hb =>
    have hx := u8_lt x
    have h0 : ((bys (x :: r)).getD (Int.toNat 0) default).num = (x.toNat : Int) := rfl
    have hw : IntKind.i64.wrap ((bys (x :: r)).getD (Int.toNat 0) default).num = (x.toNat : Int) := wrap_i64_nat _ (by omega)
    simp only [List.length_cons] at hb
    rw [rlF]
    by_cases h1 : x.toNat < 128
    · rw [if_pos h1]
      repeat' (first | ((with_reducible show AWp _ _ _ _ _); (first | refine awp_seq ?_ | refine awp_block ?_ | refine awp_skip ?_ | refine awp_exit ?_ | refine awp_scope ?_ | refine awp_label ?_ | refine awp_run ty_ok rfl sd ?_ | refine awp_ret ⟨_, _, rfl, rfl, ?_⟩ | refine awp_ret ⟨_, rfl, ?_⟩ | ((refine awp_cond (ty := ty) rfl (fun hc => ?_) (fun hc => ?_)) <;> (try simp only [nms, reduceCtorEq] at hc) <;> (try (exfalso; omega))))) | ((with_reducible show AOps _ _ _ _ _ _); (first | refine aops_nil ?_ | refine aops_go ty_ok rfl rfl sd ?_ | refine aops_gate ty_ok rfl rfl rfl sd ?_ | refine aops_litE ty_ok rfl rfl rfl rfl rfl rfl rfl rfl rfl rfl rfl rfl ?_ | refine aops_cutE ty_ok rfl rfl rfl rfl rfl rfl rfl rfl rfl sd rfl ?_ | ((fail_if_success (refine aops_known rfl ?_)); (refine aops_split ty_ok rfl rfl rfl rfl rfl rfl (fun hc => ⟨?_, ?_⟩) (fun hc => ⟨?_, ?_⟩)) <;> (try simp only [nms, reduceCtorEq] at hc) <;> (try (exfalso; omega)) <;> (try exact sd)))) | ((fail_if_success (with_reducible show AWp _ _ _ _ _)); (fail_if_success (with_reducible show AOps _ _ _ _ _ _)); (first | (show AWp _ _ _ _ _) | (show AOps _ _ _ _ _ _))))
      rw [hw]
      rfl
    rw [if_neg h1]
    by_cases h2 : x.toNat = 128 ∨ 132 < x.toNat
    · rw [if_pos h2]
      repeat' (first | ((with_reducible show AWp _ _ _ _ _); (first | refine awp_seq ?_ | refine awp_block ?_ | refine awp_skip ?_ | refine awp_exit ?_ | refine awp_scope ?_ | refine awp_label ?_ | refine awp_run ty_ok rfl sd ?_ | refine awp_ret ⟨_, _, rfl, rfl, ?_⟩ | refine awp_ret ⟨_, rfl, ?_⟩ | ((refine awp_cond (ty := ty) rfl (fun hc => ?_) (fun hc => ?_)) <;> (try simp only [nms, reduceCtorEq] at hc) <;> (try (exfalso; omega))))) | ((with_reducible show AOps _ _ _ _ _ _); (first | refine aops_nil ?_ | refine aops_go ty_ok rfl rfl sd ?_ | refine aops_gate ty_ok rfl rfl rfl sd ?_ | refine aops_litE ty_ok rfl rfl rfl rfl rfl rfl rfl rfl rfl rfl rfl rfl ?_ | refine aops_cutE ty_ok rfl rfl rfl rfl rfl rfl rfl rfl rfl sd rfl ?_ | ((fail_if_success (refine aops_known rfl ?_)); (refine aops_split ty_ok rfl rfl rfl rfl rfl rfl (fun hc => ⟨?_, ?_⟩) (fun hc => ⟨?_, ?_⟩)) <;> (try simp only [nms, reduceCtorEq] at hc) <;> (try (exfalso; omega)) <;> (try exact sd)))) | ((fail_if_success (with_reducible show AWp _ _ _ _ _)); (fail_if_success (with_reducible show AOps _ _ _ _ _ _)); (first | (show AWp _ _ _ _ _) | (show AOps _ _ _ _ _ _))))
      all_goals rfl
    rw [if_neg h2]
    have hlen : (bys (x :: r)).length = r.length + 1 := by simp [bys_len]
    by_cases h3 : r.length < x.toNat - 128
    · rw [if_pos h3]
      repeat' (first | ((with_reducible show AWp _ _ _ _ _); (first | refine awp_seq ?_ | refine awp_block ?_ | refine awp_skip ?_ | refine awp_exit ?_ | refine awp_scope ?_ | refine awp_label ?_ | refine awp_run ty_ok rfl sd ?_ | refine awp_ret ⟨_, _, rfl, rfl, ?_⟩ | refine awp_ret ⟨_, rfl, ?_⟩ | ((refine awp_cond (ty := ty) rfl (fun hc => ?_) (fun hc => ?_)) <;> (try simp only [nms, reduceCtorEq] at hc) <;> (try (exfalso; omega))))) | ((with_reducible show AOps _ _ _ _ _ _); (first | refine aops_nil ?_ | refine aops_go ty_ok rfl rfl sd ?_ | refine aops_gate ty_ok rfl rfl rfl sd ?_ | refine aops_litE ty_ok rfl rfl rfl rfl rfl rfl rfl rfl rfl rfl rfl rfl ?_ | refine aops_cutE ty_ok rfl rfl rfl rfl rfl rfl rfl rfl rfl sd rfl ?_ | ((fail_if_success (refine aops_known rfl ?_)); (refine aops_split ty_ok rfl rfl rfl rfl rfl rfl (fun hc => ⟨?_, ?_⟩) (fun hc => ⟨?_, ?_⟩)) <;> (try simp only [nms, reduceCtorEq] at hc) <;> (try (exfalso; omega)) <;> (try exact sd)))) | ((fail_if_success (with_reducible show AWp _ _ _ _ _)); (fail_if_success (with_reducible show AOps _ _ _ _ _ _)); (first | (show AWp _ _ _ _ _) | (show AOps _ _ _ _ _ _))))
      rw [hlen]
      rfl
    rw [if_neg h3]
    obtain ⟨K, hK⟩ : ∃ K, x.toNat = K + 128 := ⟨x.toNat - 128, by omega⟩
    have hK2 : x.toNat - 128 = K := by omega
    have hwK : IntKind.i64.wrap ((bys (x :: r)).getD (Int.toNat 0) default).num - 128 = (K : Int) := by omega
    rw [hK2] at h3 ⊢
    have hbt := beF_lt (r.take K)
    have hpw := Nat.pow_le_pow_right (n := 256) (by omega) (show (r.take K).length ≤ 4 by rw [List.length_take]; omega)
    have hc1 := c_ruint (Γ.at 0) (r.take K) (by rw [List.length_take]; omega)
    have hcut1 : cutL (bys (x :: r)) (Int.toNat 1) (Int.toNat (1 + (IntKind.i64.wrap ((bys (x :: r)).getD (Int.toNat 0) default).num - 128))) = bys (r.take K) := by
      rw [hwK, cutL_bys, show (1 + (K : Int)).toNat = K + 1 by omega]
      simp [cutB]
    rw [← hcut1] at hc1
    by_cases h5 : beF (r.take K) ≤ 2147483647
    · have hc2 := c_rlen02 (Γ.at 0) (beF (r.take K)) h5
      rw [← wrap_i64_nat (beF (r.take K)) (by omega)] at hc2
      have hlb := lenB_len5 h5
      have hwn : IntKind.i64.wrap ((beF (r.take K) : Nat) : Int) = (beF (r.take K) : Int) := wrap_i64_nat _ (by omega)
      have hmin := rl_min hK (by omega) (by omega) (by omega) h5
      have hc3 := c_rcmp (Γ.at 0) (lenB (beF (r.take K))) ((x :: r).take (1 + K)) (by omega)
      have hcut2 : cutL (bys (x :: r)) 0 (Int.toNat (1 + (IntKind.i64.wrap ((bys (x :: r)).getD (Int.toNat 0) default).num - 128))) = bys ((x :: r).take (1 + K)) := by
        rw [hwK, cutL_bys, show (1 + (K : Int)).toNat = 1 + K by omega]
        simp [cutB]
      rw [← hcut2] at hc3
      have hz := cmpB_zero (lenB (beF (r.take K))) ((x :: r).take (1 + K))
      by_cases h4 : (r.headD 0).toNat = 0 ∨ beF (r.take K) < 128 ∨ 2147483647 < beF (r.take K)
      · rw [if_pos h4]
        have hne : cmpB (lenB (beF (r.take K))) ((x :: r).take (1 + K)) ≠ 0 := fun e => (hmin.1 (hz.1 e)) h4
        repeat' (first | ((with_reducible show AWp _ _ _ _ _); (first | refine awp_seq ?_ | refine awp_block ?_ | refine awp_skip ?_ | refine awp_exit ?_ | refine awp_scope ?_ | refine awp_label ?_ | refine awp_run ty_ok rfl sd ?_ | refine awp_ret ⟨_, _, rfl, rfl, ?_⟩ | refine awp_ret ⟨_, rfl, ?_⟩ | ((refine awp_cond (ty := ty) rfl (fun hc => ?_) (fun hc => ?_)) <;> (try simp only [nms, reduceCtorEq] at hc) <;> (try (exfalso; omega))))) | ((with_reducible show AOps _ _ _ _ _ _); (first | refine aops_nil ?_ | refine aops_go ty_ok rfl rfl sd ?_ | refine aops_gate ty_ok rfl rfl rfl sd ?_ | refine aops_callE (ty := ty) rfl rfl rfl rfl rfl rfl rfl (hc1) rfl ?_ | refine aops_callE (ty := ty) rfl rfl rfl rfl rfl rfl rfl (hc2) rfl ?_ | refine aops_callE (ty := ty) rfl rfl rfl rfl rfl rfl rfl (hc3) rfl ?_ | refine aops_litE ty_ok rfl rfl rfl rfl rfl rfl rfl rfl rfl rfl rfl rfl ?_ | refine aops_cutE ty_ok rfl rfl rfl rfl rfl rfl rfl rfl rfl sd rfl ?_ | ((fail_if_success (refine aops_known rfl ?_)); (refine aops_split ty_ok rfl rfl rfl rfl rfl rfl (fun hc => ⟨?_, ?_⟩) (fun hc => ⟨?_, ?_⟩)) <;> (try simp only [nms, reduceCtorEq] at hc) <;> (try (exfalso; omega)) <;> (try exact sd)))) | ((fail_if_success (with_reducible show AWp _ _ _ _ _)); (fail_if_success (with_reducible show AOps _ _ _ _ _ _)); (first | (show AWp _ _ _ _ _) | (show AOps _ _ _ _ _ _))))
        all_goals rfl
      · rw [if_neg h4]
        have he : cmpB (lenB (beF (r.take K))) ((x :: r).take (1 + K)) = 0 := hz.2 (hmin.2 h4)
        repeat' (first | ((with_reducible show AWp _ _ _ _ _); (first | refine awp_seq ?_ | refine awp_block ?_ | refine awp_skip ?_ | refine awp_exit ?_ | refine awp_scope ?_ | refine awp_label ?_ | refine awp_run ty_ok rfl sd ?_ | refine awp_ret ⟨_, _, rfl, rfl, ?_⟩ | refine awp_ret ⟨_, rfl, ?_⟩ | ((refine awp_cond (ty := ty) rfl (fun hc => ?_) (fun hc => ?_)) <;> (try simp only [nms, reduceCtorEq] at hc) <;> (try (exfalso; omega))))) | ((with_reducible show AOps _ _ _ _ _ _); (first | refine aops_nil ?_ | refine aops_go ty_ok rfl rfl sd ?_ | refine aops_gate ty_ok rfl rfl rfl sd ?_ | refine aops_callE (ty := ty) rfl rfl rfl rfl rfl rfl rfl (hc1) rfl ?_ | refine aops_callE (ty := ty) rfl rfl rfl rfl rfl rfl rfl (hc2) rfl ?_ | refine aops_callE (ty := ty) rfl rfl rfl rfl rfl rfl rfl (hc3) rfl ?_ | refine aops_litE ty_ok rfl rfl rfl rfl rfl rfl rfl rfl rfl rfl rfl rfl ?_ | refine aops_cutE ty_ok rfl rfl rfl rfl rfl rfl rfl rfl rfl sd rfl ?_ | ((fail_if_success (refine aops_known rfl ?_)); (refine aops_split ty_ok rfl rfl rfl rfl rfl rfl (fun hc => ⟨?_, ?_⟩) (fun hc => ⟨?_, ?_⟩)) <;> (try simp only [nms, reduceCtorEq] at hc) <;> (try (exfalso; omega)) <;> (try exact sd)))) | ((fail_if_success (with_reducible show AWp _ _ _ _ _)); (fail_if_success (with_reducible show AOps _ _ _ _ _ _)); (first | (show AWp _ _ _ _ _) | (show AOps _ _ _ _ _ _))))
        rw [hwn, hwK, show x.toNat - 127 = K + 1 by omega, show (1 : Int) + (K : Int) = ((K + 1 : Nat) : Int) by omega]
        rfl
    · rw [if_pos (by omega)]
      repeat' (first | ((with_reducible show AWp _ _ _ _ _); (first | refine awp_seq ?_ | refine awp_block ?_ | refine awp_skip ?_ | refine awp_exit ?_ | refine awp_scope ?_ | refine awp_label ?_ | refine awp_run ty_ok rfl sd ?_ | refine awp_ret ⟨_, _, rfl, rfl, ?_⟩ | refine awp_ret ⟨_, rfl, ?_⟩ | ((refine awp_cond (ty := ty) rfl (fun hc => ?_) (fun hc => ?_)) <;> (try simp only [nms, reduceCtorEq] at hc) <;> (try (exfalso; omega))))) | ((with_reducible show AOps _ _ _ _ _ _); (first | refine aops_nil ?_ | refine aops_go ty_ok rfl rfl sd ?_ | refine aops_gate ty_ok rfl rfl rfl sd ?_ | refine aops_callE (ty := ty) rfl rfl rfl rfl rfl rfl rfl (hc1) rfl ?_ | refine aops_litE ty_ok rfl rfl rfl rfl rfl rfl rfl rfl rfl rfl rfl rfl ?_ | refine aops_cutE ty_ok rfl rfl rfl rfl rfl rfl rfl rfl rfl sd rfl ?_ | ((fail_if_success (refine aops_known rfl ?_)); (refine aops_split ty_ok rfl rfl rfl rfl rfl rfl (fun hc => ⟨?_, ?_⟩) (fun hc => ⟨?_, ?_⟩)) <;> (try simp only [nms, reduceCtorEq] at hc) <;> (try (exfalso; omega)) <;> (try exact sd)))) | ((fail_if_success (with_reducible show AWp _ _ _ _ _)); (fail_if_success (with_reducible show AOps _ _ _ _ _ _)); (first | (show AWp _ _ _ _ _) | (show AOps _ _ _ _ _ _))))
      rfl
end Go.Proofs.YtbbakpmedpcigaaGreatDoor

/- Trees of elements, read and written by the reference. Walked by the abstract machine. -/
namespace Go.Proofs.YtbbakpmedpcigaaGreatDoor
open Go.Am
set_option linter.unusedSimpArgs false
set_option linter.unusedVariables false
-- withAmZ

theorem c_rreadid_bad (Γ : Env) (x : UInt8) (h : x.toNat % 32 = 31) : ACalls Tryz.prog Γ 119 [.int .u8 x.toNat] (fun r => r = .d (.tup [.int .i64 0, .bool false, .int .i64 0, .int .i64 3])) := (c_rreadid Γ x).mono fun r hr => by
  rw [hr, idD, if_pos h]
theorem c_rreadid_ok (Γ : Env) (x : UInt8) (h : ¬ x.toNat % 32 = 31) : ACalls Tryz.prog Γ 119 [.int .u8 x.toNat] (fun r => r = .d (.tup [clsD x, .bool (conB x), numD x, .int .i64 0])) := (c_rreadid Γ x).mono fun r hr => by
  rw [hr, idD, if_neg h]
theorem c_rreadlen_at (Γ : Env) (b : List UInt8) (hb : b.length ≤ 1099511627) {v : Ex (Nat × Nat)} (h : rlF b = v) : ACalls Tryz.prog Γ 120 [.sl none (bys b)] (fun r => r = .d (rlD v)) := by
  subst h
  exact c_rreadlen Γ b hb
theorem isRReadHeader : IsFn Tryz.prog 103 Tryz.f103 := ⟨Tryz.func103, by decide, rfl⟩
set_option maxHeartbeats 4000000 in
set_option maxRecDepth 100000 in
theorem c_rreadhd (Γ : Env) (b : List UInt8) (hb : b.length ≤ 1099511627) : ACalls Tryz.prog Γ 103 [.sl none (bys b)] (fun r => r = .d (hdD (hdF b))) := by
  refine acalls_of ty_ok isRReadHeader rfl rfl ?_
  match b, hb with
  | [], _ =>
    repeat' (first | ((with_reducible show AWp _ _ _ _ _); (first | refine awp_seq ?_ | refine awp_block ?_ | refine awp_skip ?_ | refine awp_exit ?_ | refine awp_scope ?_ | refine awp_label ?_ | refine awp_run ty_ok rfl sd ?_ | refine awp_ret ⟨_, _, rfl, rfl, ?_⟩ | refine awp_ret ⟨_, rfl, ?_⟩ | ((refine awp_cond (ty := ty) rfl (fun hc => ?_) (fun hc => ?_)) <;> (try simp only [nms, reduceCtorEq] at hc) <;> (try (exfalso; omega))))) | ((with_reducible show AOps _ _ _ _ _ _); (first | refine aops_nil ?_ | refine aops_go ty_ok rfl rfl sd ?_ | refine aops_gate ty_ok rfl rfl rfl sd ?_ | refine aops_litE ty_ok rfl rfl rfl rfl rfl rfl rfl rfl rfl rfl rfl rfl ?_ | refine aops_litA ty_ok rfl rfl rfl rfl rfl rfl rfl rfl rfl rfl rfl rfl rfl rfl rfl rfl ?_ | refine aops_buildArr ty_ok rfl rfl rfl rfl rfl rfl rfl rfl rfl rfl ?_ | refine aops_indexArr ty_ok rfl rfl rfl rfl rfl rfl rfl rfl rfl rfl sd ?_ | refine aops_cutE ty_ok rfl rfl rfl rfl rfl rfl rfl rfl rfl sd rfl ?_ | ((fail_if_success (refine aops_known rfl ?_)); (refine aops_split ty_ok rfl rfl rfl rfl rfl rfl (fun hc => ⟨?_, ?_⟩) (fun hc => ⟨?_, ?_⟩)) <;> (try simp only [nms, reduceCtorEq] at hc) <;> (try (exfalso; omega)) <;> (try exact sd)))) | ((fail_if_success (with_reducible show AWp _ _ _ _ _)); (fail_if_success (with_reducible show AOps _ _ _ _ _ _)); (first | (show AWp _ _ _ _ _) | (show AOps _ _ _ _ _ _))))
    rfl
  | x :: r, hb =>
    have h0 : ((bys (x :: r)).getD (Int.toNat 0) default).num = (x.toNat : Int) := rfl
    simp only [List.length_cons] at hb
    rw [hdF]
    by_cases h1 : x.toNat % 32 = 31
    · rw [if_pos h1]
      have hc1 := c_rreadid_bad (Γ.at 0) x h1
      rw [← h0] at hc1
      repeat' (first | ((with_reducible show AWp _ _ _ _ _); (first | refine awp_seq ?_ | refine awp_block ?_ | refine awp_skip ?_ | refine awp_exit ?_ | refine awp_scope ?_ | refine awp_label ?_ | refine awp_run ty_ok rfl sd ?_ | refine awp_ret ⟨_, _, rfl, rfl, ?_⟩ | refine awp_ret ⟨_, rfl, ?_⟩ | ((refine awp_cond (ty := ty) rfl (fun hc => ?_) (fun hc => ?_)) <;> (try simp only [nms, reduceCtorEq] at hc) <;> (try (exfalso; omega))))) | ((with_reducible show AOps _ _ _ _ _ _); (first | refine aops_nil ?_ | refine aops_go ty_ok rfl rfl sd ?_ | refine aops_gate ty_ok rfl rfl rfl sd ?_ | refine aops_callE (ty := ty) rfl rfl rfl rfl rfl rfl rfl (hc1) rfl ?_ | refine aops_litE ty_ok rfl rfl rfl rfl rfl rfl rfl rfl rfl rfl rfl rfl ?_ | refine aops_litA ty_ok rfl rfl rfl rfl rfl rfl rfl rfl rfl rfl rfl rfl rfl rfl rfl rfl ?_ | refine aops_buildArr ty_ok rfl rfl rfl rfl rfl rfl rfl rfl rfl rfl ?_ | refine aops_indexArr ty_ok rfl rfl rfl rfl rfl rfl rfl rfl rfl rfl sd ?_ | refine aops_cutE ty_ok rfl rfl rfl rfl rfl rfl rfl rfl rfl sd rfl ?_ | ((fail_if_success (refine aops_known rfl ?_)); (refine aops_split ty_ok rfl rfl rfl rfl rfl rfl (fun hc => ⟨?_, ?_⟩) (fun hc => ⟨?_, ?_⟩)) <;> (try simp only [nms, reduceCtorEq] at hc) <;> (try (exfalso; omega)) <;> (try exact sd)))) | ((fail_if_success (with_reducible show AWp _ _ _ _ _)); (fail_if_success (with_reducible show AOps _ _ _ _ _ _)); (first | (show AWp _ _ _ _ _) | (show AOps _ _ _ _ _ _))))
      rfl
    rw [if_neg h1]
    have hc1 := c_rreadid_ok (Γ.at 0) x h1
    rw [← h0] at hc1
    have hcut : cutL (bys (x :: r)) (Int.toNat 1) (bys (x :: r)).length = bys r := by rw [cutL_bys, bys_len]; simp [cutB]
    have hrb : ∀ c o, rlF r = .bad c o → (c = 1 ∨ c = 4) ∧ o ≤ r.length := fun c o h => rl_bad h
    have hrk : ∀ n s, rlF r = .ok (n, s) → s ≤ 9 := fun n s h => by have := (rl_inv h).2.1; have := lenB_len n; omega
    cases hr : rlF r with
    | bad c o =>
      have hc2 := c_rreadlen_at (Γ.at 0) r (by omega) hr
      rw [← hcut] at hc2
      have := hrb c o hr
      repeat' (first | ((with_reducible show AWp _ _ _ _ _); (first | refine awp_seq ?_ | refine awp_block ?_ | refine awp_skip ?_ | refine awp_exit ?_ | refine awp_scope ?_ | refine awp_label ?_ | refine awp_run ty_ok rfl sd ?_ | refine awp_ret ⟨_, _, rfl, rfl, ?_⟩ | refine awp_ret ⟨_, rfl, ?_⟩ | ((refine awp_cond (ty := ty) rfl (fun hc => ?_) (fun hc => ?_)) <;> (try simp only [nms, reduceCtorEq] at hc) <;> (try (exfalso; omega))) | refine awp_anyS 8 7 ty_ok mixed rfl rfl rfl rfl rfl rfl rfl rfl rfl (by kernel_rfl) ?_)) | ((with_reducible show AOps _ _ _ _ _ _); (first | refine aops_nil ?_ | refine aops_go ty_ok rfl rfl sd ?_ | refine aops_gate ty_ok rfl rfl rfl sd ?_ | refine aops_callE (ty := ty) rfl rfl rfl rfl rfl rfl rfl (hc1) rfl ?_ | refine aops_callE (ty := ty) rfl rfl rfl rfl rfl rfl rfl (hc2) rfl ?_ | refine aops_litE ty_ok rfl rfl rfl rfl rfl rfl rfl rfl rfl rfl rfl rfl ?_ | refine aops_litA ty_ok rfl rfl rfl rfl rfl rfl rfl rfl rfl rfl rfl rfl rfl rfl rfl rfl ?_ | refine aops_buildArr ty_ok rfl rfl rfl rfl rfl rfl rfl rfl rfl rfl ?_ | refine aops_indexArr ty_ok rfl rfl rfl rfl rfl rfl rfl rfl rfl rfl sd ?_ | refine aops_cutE ty_ok rfl rfl rfl rfl rfl rfl rfl rfl rfl sd rfl ?_ | ((fail_if_success (refine aops_known rfl ?_)); (refine aops_split ty_ok rfl rfl rfl rfl rfl rfl (fun hc => ⟨?_, ?_⟩) (fun hc => ⟨?_, ?_⟩)) <;> (try simp only [nms, reduceCtorEq] at hc) <;> (try (exfalso; omega)) <;> (try exact sd)))) | ((with_reducible show HeadT _ _ _ _ _ _ _ _ _ _); (first | refine head_end ?_ | refine head_goP ty_ok rfl rfl sd ?_ | refine head_gate ty_ok rfl rfl rfl sd ?_ | refine head_callE (ty := ty) rfl rfl rfl rfl rfl rfl rfl (hc1) rfl ?_ | refine head_callE (ty := ty) rfl rfl rfl rfl rfl rfl rfl (hc2) rfl ?_ | ((fail_if_success (refine head_known rfl ?_)); (refine head_split ty_ok rfl rfl rfl rfl (fun hc => ⟨?_, ?_⟩) (fun hc => ⟨?_, ?_⟩)) <;> (try simp only [nms, reduceCtorEq] at hc) <;> (try (exfalso; omega)) <;> (try exact sd)))) | ((fail_if_success (with_reducible show AWp _ _ _ _ _)); (fail_if_success (with_reducible show AOps _ _ _ _ _ _)); (fail_if_success (with_reducible show HeadT _ _ _ _ _ _ _ _ _ _)); (first | (show AWp _ _ _ _ _) | (show AOps _ _ _ _ _ _) | refine st_go rfl rfl rfl rfl rfl rfl rfl ?_)))
      rfl
    | ok p =>
      obtain ⟨n, s⟩ := p
      have hc2 := c_rreadlen_at (Γ.at 0) r (by omega) hr
      rw [← hcut] at hc2
      have := hrk n s hr
      repeat' (first | ((with_reducible show AWp _ _ _ _ _); (first | refine awp_seq ?_ | refine awp_block ?_ | refine awp_skip ?_ | refine awp_exit ?_ | refine awp_scope ?_ | refine awp_label ?_ | refine awp_run ty_ok rfl sd ?_ | refine awp_ret ⟨_, _, rfl, rfl, ?_⟩ | refine awp_ret ⟨_, rfl, ?_⟩ | ((refine awp_cond (ty := ty) rfl (fun hc => ?_) (fun hc => ?_)) <;> (try simp only [nms, reduceCtorEq] at hc) <;> (try (exfalso; omega))) | refine awp_anyS 8 7 ty_ok mixed rfl rfl rfl rfl rfl rfl rfl rfl rfl (by kernel_rfl) ?_)) | ((with_reducible show AOps _ _ _ _ _ _); (first | refine aops_nil ?_ | refine aops_go ty_ok rfl rfl sd ?_ | refine aops_gate ty_ok rfl rfl rfl sd ?_ | refine aops_callE (ty := ty) rfl rfl rfl rfl rfl rfl rfl (hc1) rfl ?_ | refine aops_callE (ty := ty) rfl rfl rfl rfl rfl rfl rfl (hc2) rfl ?_ | refine aops_litE ty_ok rfl rfl rfl rfl rfl rfl rfl rfl rfl rfl rfl rfl ?_ | refine aops_litA ty_ok rfl rfl rfl rfl rfl rfl rfl rfl rfl rfl rfl rfl rfl rfl rfl rfl ?_ | refine aops_buildArr ty_ok rfl rfl rfl rfl rfl rfl rfl rfl rfl rfl ?_ | refine aops_indexArr ty_ok rfl rfl rfl rfl rfl rfl rfl rfl rfl rfl sd ?_ | refine aops_cutE ty_ok rfl rfl rfl rfl rfl rfl rfl rfl rfl sd rfl ?_ | ((fail_if_success (refine aops_known rfl ?_)); (refine aops_split ty_ok rfl rfl rfl rfl rfl rfl (fun hc => ⟨?_, ?_⟩) (fun hc => ⟨?_, ?_⟩)) <;> (try simp only [nms, reduceCtorEq] at hc) <;> (try (exfalso; omega)) <;> (try exact sd)))) | ((with_reducible show HeadT _ _ _ _ _ _ _ _ _ _); (first | refine head_end ?_ | refine head_goP ty_ok rfl rfl sd ?_ | refine head_gate ty_ok rfl rfl rfl sd ?_ | refine head_callE (ty := ty) rfl rfl rfl rfl rfl rfl rfl (hc1) rfl ?_ | refine head_callE (ty := ty) rfl rfl rfl rfl rfl rfl rfl (hc2) rfl ?_ | ((fail_if_success (refine head_known rfl ?_)); (refine head_split ty_ok rfl rfl rfl rfl (fun hc => ⟨?_, ?_⟩) (fun hc => ⟨?_, ?_⟩)) <;> (try simp only [nms, reduceCtorEq] at hc) <;> (try (exfalso; omega)) <;> (try exact sd)))) | ((fail_if_success (with_reducible show AWp _ _ _ _ _)); (fail_if_success (with_reducible show AOps _ _ _ _ _ _)); (fail_if_success (with_reducible show HeadT _ _ _ _ _ _ _ _ _ _)); (first | (show AWp _ _ _ _ _) | (show AOps _ _ _ _ _ _) | refine st_go rfl rfl rfl rfl rfl rfl rfl ?_)))
      rfl
/-- An element at the beginning, what is in it, what is behind it. -/
def ntD (b : List UInt8) : Ex (UInt8 × Nat × Nat) → Dat
  | .bad c o => .tup [hdr0, .sl none [], .sl none [], errD c o]
  | .ok (x, n, s) => if b.length - s < n then .tup [hdr0, .sl none [], .sl none [], errD 1 b.length] else .tup [hdrD x n s, .sl none (bys (cut b s (s + n))), .sl none (bys (b.drop (s + n))), errD 0 0]
theorem isRNext : IsFn Tryz.prog 85 Tryz.f85 := ⟨Tryz.func85, by decide, rfl⟩
set_option maxHeartbeats 4000000 in
set_option maxRecDepth 100000 in
theorem c_rnext (Γ : Env) (b : List UInt8) (hb : b.length ≤ 1099511627) : ACalls Tryz.prog Γ 85 [.sl none (bys b)] (fun r => r = .d (ntD b (hdF b))) := by
  refine acalls_of ty_ok isRNext rfl rfl ?_
  have hc1 := c_rreadhd (Γ.at 0) b hb
  cases hd : hdF b with
  | bad c o =>
    rw [hd] at hc1
    have := hd_bad hd
    repeat' (first | ((with_reducible show AWp _ _ _ _ _); (first | refine awp_seq ?_ | refine awp_block ?_ | refine awp_skip ?_ | refine awp_exit ?_ | refine awp_scope ?_ | refine awp_label ?_ | refine awp_run ty_ok rfl sd ?_ | refine awp_ret ⟨_, _, rfl, rfl, ?_⟩ | refine awp_ret ⟨_, rfl, ?_⟩ | ((refine awp_cond (ty := ty) rfl (fun hc => ?_) (fun hc => ?_)) <;> (try simp only [nms, reduceCtorEq] at hc) <;> (try (exfalso; omega))) | refine awp_anyS 5 2 ty_ok mixed rfl rfl rfl rfl rfl rfl rfl rfl rfl (by kernel_rfl) ?_)) | ((with_reducible show AOps _ _ _ _ _ _); (first | refine aops_nil ?_ | refine aops_go ty_ok rfl rfl sd ?_ | refine aops_gate ty_ok rfl rfl rfl sd ?_ | refine aops_callE (ty := ty) rfl rfl rfl rfl rfl rfl rfl (hc1) rfl ?_ | refine aops_litE ty_ok rfl rfl rfl rfl rfl rfl rfl rfl rfl rfl rfl rfl ?_ | refine aops_litA ty_ok rfl rfl rfl rfl rfl rfl rfl rfl rfl rfl rfl rfl rfl rfl rfl rfl ?_ | refine aops_buildArr ty_ok rfl rfl rfl rfl rfl rfl rfl rfl rfl rfl ?_ | refine aops_indexArr ty_ok rfl rfl rfl rfl rfl rfl rfl rfl rfl rfl sd ?_ | refine aops_cutE ty_ok rfl rfl rfl rfl rfl rfl rfl rfl rfl sd rfl ?_ | ((fail_if_success (refine aops_known rfl ?_)); (refine aops_split ty_ok rfl rfl rfl rfl rfl rfl (fun hc => ⟨?_, ?_⟩) (fun hc => ⟨?_, ?_⟩)) <;> (try simp only [nms, reduceCtorEq] at hc) <;> (try (exfalso; omega)) <;> (try exact sd)))) | ((with_reducible show HeadT _ _ _ _ _ _ _ _ _ _); (first | refine head_end ?_ | refine head_goP ty_ok rfl rfl sd ?_ | refine head_gate ty_ok rfl rfl rfl sd ?_ | refine head_callE (ty := ty) rfl rfl rfl rfl rfl rfl rfl (hc1) rfl ?_ | ((fail_if_success (refine head_known rfl ?_)); (refine head_split ty_ok rfl rfl rfl rfl (fun hc => ⟨?_, ?_⟩) (fun hc => ⟨?_, ?_⟩)) <;> (try simp only [nms, reduceCtorEq] at hc) <;> (try (exfalso; omega)) <;> (try exact sd)))) | ((fail_if_success (with_reducible show AWp _ _ _ _ _)); (fail_if_success (with_reducible show AOps _ _ _ _ _ _)); (fail_if_success (with_reducible show HeadT _ _ _ _ _ _ _ _ _ _)); (first | (show AWp _ _ _ _ _) | (show AOps _ _ _ _ _ _) | refine st_go rfl rfl rfl rfl rfl rfl rfl ?_)))
    rfl
  | ok p =>
    obtain ⟨x, n, s⟩ := p
    rw [hd] at hc1
    obtain ⟨_, g1, g2, g3⟩ := hd_inv hd
    have g4 := lenB_len5 g1
    have g5 := congrArg List.length g3
    simp only [List.length_cons, List.length_append, List.length_drop] at g5
    rw [ntD]
    by_cases h : b.length - s < n
    · rw [if_pos h]
      repeat' (first | ((with_reducible show AWp _ _ _ _ _); (first | refine awp_seq ?_ | refine awp_block ?_ | refine awp_skip ?_ | refine awp_exit ?_ | refine awp_scope ?_ | refine awp_label ?_ | refine awp_run ty_ok rfl sd ?_ | refine awp_ret ⟨_, _, rfl, rfl, ?_⟩ | refine awp_ret ⟨_, rfl, ?_⟩ | ((refine awp_cond (ty := ty) rfl (fun hc => ?_) (fun hc => ?_)) <;> (try simp only [nms, reduceCtorEq] at hc) <;> (try (exfalso; omega))) | refine awp_anyS 5 2 ty_ok mixed rfl rfl rfl rfl rfl rfl rfl rfl rfl (by kernel_rfl) ?_)) | ((with_reducible show AOps _ _ _ _ _ _); (first | refine aops_nil ?_ | refine aops_go ty_ok rfl rfl sd ?_ | refine aops_gate ty_ok rfl rfl rfl sd ?_ | refine aops_callE (ty := ty) rfl rfl rfl rfl rfl rfl rfl (hc1) rfl ?_ | refine aops_litE ty_ok rfl rfl rfl rfl rfl rfl rfl rfl rfl rfl rfl rfl ?_ | refine aops_litA ty_ok rfl rfl rfl rfl rfl rfl rfl rfl rfl rfl rfl rfl rfl rfl rfl rfl ?_ | refine aops_buildArr ty_ok rfl rfl rfl rfl rfl rfl rfl rfl rfl rfl ?_ | refine aops_indexArr ty_ok rfl rfl rfl rfl rfl rfl rfl rfl rfl rfl sd ?_ | refine aops_cutE ty_ok rfl rfl rfl rfl rfl rfl rfl rfl rfl sd rfl ?_ | ((fail_if_success (refine aops_known rfl ?_)); (refine aops_split ty_ok rfl rfl rfl rfl rfl rfl (fun hc => ⟨?_, ?_⟩) (fun hc => ⟨?_, ?_⟩)) <;> (try simp only [nms, reduceCtorEq] at hc) <;> (try (exfalso; omega)) <;> (try exact sd)))) | ((with_reducible show HeadT _ _ _ _ _ _ _ _ _ _); (first | refine head_end ?_ | refine head_goP ty_ok rfl rfl sd ?_ | refine head_gate ty_ok rfl rfl rfl sd ?_ | refine head_callE (ty := ty) rfl rfl rfl rfl rfl rfl rfl (hc1) rfl ?_ | ((fail_if_success (refine head_known rfl ?_)); (refine head_split ty_ok rfl rfl rfl rfl (fun hc => ⟨?_, ?_⟩) (fun hc => ⟨?_, ?_⟩)) <;> (try simp only [nms, reduceCtorEq] at hc) <;> (try (exfalso; omega)) <;> (try exact sd)))) | ((fail_if_success (with_reducible show AWp _ _ _ _ _)); (fail_if_success (with_reducible show AOps _ _ _ _ _ _)); (fail_if_success (with_reducible show HeadT _ _ _ _ _ _ _ _ _ _)); (first | (show AWp _ _ _ _ _) | (show AOps _ _ _ _ _ _) | refine st_go rfl rfl rfl rfl rfl rfl rfl ?_)))
      rw [bys_len]
      rfl
    · rw [if_neg h]
      have e1 : cutL (bys b) (s : Int).toNat ((s : Int) + (n : Int)).toNat = bys (cut b s (s + n)) := by
        rw [cutL_bys, show ((s : Int) + (n : Int)).toNat = s + n by omega]
        rfl
      have e2 : cutL (bys b) ((s : Int) + (n : Int)).toNat (bys b).length = bys (b.drop (s + n)) := by
        rw [cutL_bys, show ((s : Int) + (n : Int)).toNat = s + n by omega, bys_len]
        simp [cutB]
      repeat' (first | ((with_reducible show AWp _ _ _ _ _); (first | refine awp_seq ?_ | refine awp_block ?_ | refine awp_skip ?_ | refine awp_exit ?_ | refine awp_scope ?_ | refine awp_label ?_ | refine awp_run ty_ok rfl sd ?_ | refine awp_ret ⟨_, _, rfl, rfl, ?_⟩ | refine awp_ret ⟨_, rfl, ?_⟩ | ((refine awp_cond (ty := ty) rfl (fun hc => ?_) (fun hc => ?_)) <;> (try simp only [nms, reduceCtorEq] at hc) <;> (try (exfalso; omega))) | refine awp_anyS 21 18 ty_ok mixed rfl rfl rfl rfl rfl rfl rfl rfl rfl (by kernel_rfl) ?_)) | ((with_reducible show AOps _ _ _ _ _ _); (first | refine aops_nil ?_ | refine aops_go ty_ok rfl rfl sd ?_ | refine aops_gate ty_ok rfl rfl rfl sd ?_ | refine aops_callE (ty := ty) rfl rfl rfl rfl rfl rfl rfl (hc1) rfl ?_ | refine aops_litE ty_ok rfl rfl rfl rfl rfl rfl rfl rfl rfl rfl rfl rfl ?_ | refine aops_litA ty_ok rfl rfl rfl rfl rfl rfl rfl rfl rfl rfl rfl rfl rfl rfl rfl rfl ?_ | refine aops_buildArr ty_ok rfl rfl rfl rfl rfl rfl rfl rfl rfl rfl ?_ | refine aops_indexArr ty_ok rfl rfl rfl rfl rfl rfl rfl rfl rfl rfl sd ?_ | refine aops_cutE ty_ok rfl rfl rfl rfl rfl rfl rfl rfl rfl sd rfl ?_ | ((fail_if_success (refine aops_known rfl ?_)); (refine aops_split ty_ok rfl rfl rfl rfl rfl rfl (fun hc => ⟨?_, ?_⟩) (fun hc => ⟨?_, ?_⟩)) <;> (try simp only [nms, reduceCtorEq] at hc) <;> (try (exfalso; omega)) <;> (try exact sd)))) | ((with_reducible show HeadT _ _ _ _ _ _ _ _ _ _); (first | refine head_end ?_ | refine head_goP ty_ok rfl rfl sd ?_ | refine head_gate ty_ok rfl rfl rfl sd ?_ | refine head_callE (ty := ty) rfl rfl rfl rfl rfl rfl rfl (hc1) rfl ?_ | ((fail_if_success (refine head_known rfl ?_)); (refine head_split ty_ok rfl rfl rfl rfl (fun hc => ⟨?_, ?_⟩) (fun hc => ⟨?_, ?_⟩)) <;> (try simp only [nms, reduceCtorEq] at hc) <;> (try (exfalso; omega)) <;> (try exact sd)))) | ((fail_if_success (with_reducible show AWp _ _ _ _ _)); (fail_if_success (with_reducible show AOps _ _ _ _ _ _)); (fail_if_success (with_reducible show HeadT _ _ _ _ _ _ _ _ _ _)); (first | (show AWp _ _ _ _ _) | (show AOps _ _ _ _ _ _) | refine st_go rfl rfl rfl rfl rfl rfl rfl ?_)))
      rw [e1, e2]
      rfl
theorem c_rnext_at (Γ : Env) (b : List UInt8) (hb : b.length ≤ 1099511627) {v : Ex (UInt8 × Nat × Nat)} (h : hdF b = v) : ACalls Tryz.prog Γ 85 [.sl none (bys b)] (fun r => r = .d (ntD b v)) := by
  subst h
  exact c_rnext Γ b hb

/-! ### Trees -/
def node0 : Dat := .agg [.int .i64 0, .int .i64 0, .bool false, .sl none [], .sl (some 5) []]
def rdD : Ex (Dat × Nat) → Dat
  | .bad c o => .tup [node0, .int .i64 0, errD c o]
  | .ok (n, s) => .tup [n, .int .i64 s, errD 0 0]
def preK (acc : List Dat) : Ex (List Dat) → Ex (List Dat)
  | .bad c o => .bad c o
  | .ok l => .ok (acc ++ l)
theorem tr_node {d : Nat} {n : Dat} {b : List UInt8} (h : Tr d n b) : ∃ x c ks, n = nodeD x c ks := by
  cases h with
  | prim d x c => exact ⟨x, c, [], rfl⟩
  | cons d x ks bs => exact ⟨x, [], ks, rfl⟩
theorem kd_bad {rd : List UInt8 → Ex (Dat × Nat)} {hs : Nat} {c : List UInt8} (hrd : ∀ b e o, rd b = .bad e o → 0 < e ∧ o ≤ b.length) : ∀ (k i : Nat) {e o : Nat}, kdT rd hs c k i = .bad e o → 0 < e ∧ o ≤ hs + c.length
  | k + 1, i, e, o, h => by
    rw [kdT] at h
    split at h
    · rename_i hi
      cases hr : rd (c.drop i) with
      | bad e' o' =>
        rw [hr] at h
        cases h
        have := hrd _ _ _ hr
        rw [List.length_drop] at this
        omega
      | ok p =>
        obtain ⟨n, s⟩ := p
        rw [hr] at h
        simp only at h
        cases hk : kdT rd hs c k (i + s) with
        | bad e' o' =>
          rw [hk] at h
          cases h
          exact kd_bad hrd k (i + s) hk
        | ok l => rw [hk] at h; cases h
    · cases h
theorem rd_bad : ∀ (d : Nat) (b : List UInt8) (e o : Nat), rdF d b = .bad e o → 0 < e ∧ o ≤ b.length
  | 0, b, e, o, h => by cases h; exact ⟨by omega, by omega⟩
  | d + 1, b, e, o, h => by
    rw [rd_of_nx] at h
    cases hn : nxF b 0 b.length with
    | bad c' o' =>
      rw [hn] at h
      cases h
      have := nx_bad (Nat.zero_le _) (Nat.le_refl _) hn
      exact ⟨by omega, this.2⟩
    | ok el =>
      rw [hn] at h
      simp only at h
      obtain ⟨c, _, _, _, g4, g5, g6, _⟩ := nx_ok (Nat.zero_le _) (Nat.le_refl _) hn
      have hen : el.en = 0 + hsz c + c.length := by rw [g4]
      have hbd : el.bd = 0 + hsz c := by rw [g4]
      cases hc : conB el.x with
      | false => rw [hc] at h; cases h
      | true =>
        rw [hc] at h
        simp only at h
        cases hk : kdT (rdF d) el.bd (cut b el.bd el.en) (el.en - el.bd) 0 with
        | bad e' o' =>
          rw [hk] at h
          cases h
          have := kd_bad (rd_bad d) _ _ hk
          rw [g6] at this
          omega
        | ok ks => rw [hk] at h; cases h
theorem isRRead : IsFn Tryz.prog 70 Tryz.f70 := ⟨Tryz.func70, by decide, rfl⟩
set_option maxHeartbeats 8000000 in
set_option maxRecDepth 100000 in
theorem c_rread (Γ : Env) : ∀ (d : Nat), d ≤ 60 → ∀ (b : List UInt8), b.length ≤ 1000000 → ACalls Tryz.prog Γ 70 [.sl none (bys b), .int .i64 d] (fun r => r = .d (rdD (rdF d b)))
  | 0, _, b, hb => by
    refine acalls_of ty_ok isRRead rfl rfl ?_
    repeat' (first | ((with_reducible show AWp _ _ _ _ _); (first | refine awp_seq ?_ | refine awp_block ?_ | refine awp_skip ?_ | refine awp_exit ?_ | refine awp_scope ?_ | refine awp_label ?_ | refine awp_run ty_ok rfl sd ?_ | refine awp_ret ⟨_, _, rfl, rfl, ?_⟩ | refine awp_ret ⟨_, rfl, ?_⟩ | ((refine awp_cond (ty := ty) rfl (fun hc => ?_) (fun hc => ?_)) <;> (try simp only [nms, reduceCtorEq] at hc) <;> (try (exfalso; omega))))) | ((with_reducible show AOps _ _ _ _ _ _); (first | refine aops_nil ?_ | refine aops_go ty_ok rfl rfl sd ?_ | refine aops_gate ty_ok rfl rfl rfl sd ?_ | refine aops_litE ty_ok rfl rfl rfl rfl rfl rfl rfl rfl rfl rfl rfl rfl ?_ | refine aops_litA ty_ok rfl rfl rfl rfl rfl rfl rfl rfl rfl rfl rfl rfl rfl rfl rfl rfl ?_ | refine aops_buildArr ty_ok rfl rfl rfl rfl rfl rfl rfl rfl rfl rfl ?_ | refine aops_indexArr ty_ok rfl rfl rfl rfl rfl rfl rfl rfl rfl rfl sd ?_ | refine aops_cutE ty_ok rfl rfl rfl rfl rfl rfl rfl rfl rfl sd rfl ?_ | ((fail_if_success (refine aops_known rfl ?_)); (refine aops_split ty_ok rfl rfl rfl rfl rfl rfl (fun hc => ⟨?_, ?_⟩) (fun hc => ⟨?_, ?_⟩)) <;> (try simp only [nms, reduceCtorEq] at hc) <;> (try (exfalso; omega)) <;> (try exact sd)))) | ((fail_if_success (with_reducible show AWp _ _ _ _ _)); (fail_if_success (with_reducible show AOps _ _ _ _ _ _)); (first | (show AWp _ _ _ _ _) | (show AOps _ _ _ _ _ _))))
    rfl
  | d + 1, hd60, b, hb => by
    refine acalls_of ty_ok isRRead rfl rfl ?_
    rw [rdF]
    have hc1 := c_rnext (Γ.at 0) b (by omega)
    cases hd : hdF b with
    | bad c o =>
      rw [hd] at hc1
      have := hd_bad hd
      repeat' (first | ((with_reducible show AWp _ _ _ _ _); (first | refine awp_seq ?_ | refine awp_block ?_ | refine awp_skip ?_ | refine awp_exit ?_ | refine awp_scope ?_ | refine awp_label ?_ | refine awp_run ty_ok rfl sd ?_ | refine awp_ret ⟨_, _, rfl, rfl, ?_⟩ | refine awp_ret ⟨_, rfl, ?_⟩ | ((refine awp_cond (ty := ty) rfl (fun hc => ?_) (fun hc => ?_)) <;> (try simp only [nms, reduceCtorEq] at hc) <;> (try (exfalso; omega))) | refine awp_anyS 4 2 ty_ok mixed rfl rfl rfl rfl rfl rfl rfl rfl rfl (by kernel_rfl) ?_)) | ((with_reducible show AOps _ _ _ _ _ _); (first | refine aops_nil ?_ | refine aops_go ty_ok rfl rfl sd ?_ | refine aops_gate ty_ok rfl rfl rfl sd ?_ | refine aops_callE (ty := ty) rfl rfl rfl rfl rfl rfl rfl (hc1) rfl ?_ | refine aops_litE ty_ok rfl rfl rfl rfl rfl rfl rfl rfl rfl rfl rfl rfl ?_ | refine aops_litA ty_ok rfl rfl rfl rfl rfl rfl rfl rfl rfl rfl rfl rfl rfl rfl rfl rfl ?_ | refine aops_buildArr ty_ok rfl rfl rfl rfl rfl rfl rfl rfl rfl rfl ?_ | refine aops_indexArr ty_ok rfl rfl rfl rfl rfl rfl rfl rfl rfl rfl sd ?_ | refine aops_cutE ty_ok rfl rfl rfl rfl rfl rfl rfl rfl rfl sd rfl ?_ | ((fail_if_success (refine aops_known rfl ?_)); (refine aops_split ty_ok rfl rfl rfl rfl rfl rfl (fun hc => ⟨?_, ?_⟩) (fun hc => ⟨?_, ?_⟩)) <;> (try simp only [nms, reduceCtorEq] at hc) <;> (try (exfalso; omega)) <;> (try exact sd)))) | ((with_reducible show HeadT _ _ _ _ _ _ _ _ _ _); (first | refine head_end ?_ | refine head_goP ty_ok rfl rfl sd ?_ | refine head_gate ty_ok rfl rfl rfl sd ?_ | refine head_callE (ty := ty) rfl rfl rfl rfl rfl rfl rfl (hc1) rfl ?_ | ((fail_if_success (refine head_known rfl ?_)); (refine head_split ty_ok rfl rfl rfl rfl (fun hc => ⟨?_, ?_⟩) (fun hc => ⟨?_, ?_⟩)) <;> (try simp only [nms, reduceCtorEq] at hc) <;> (try (exfalso; omega)) <;> (try exact sd)))) | ((fail_if_success (with_reducible show AWp _ _ _ _ _)); (fail_if_success (with_reducible show AOps _ _ _ _ _ _)); (fail_if_success (with_reducible show HeadT _ _ _ _ _ _ _ _ _ _)); (first | (show AWp _ _ _ _ _) | (show AOps _ _ _ _ _ _) | refine st_go rfl rfl rfl rfl rfl rfl rfl ?_)))
      rfl
    | ok p =>
      obtain ⟨x, n, s⟩ := p
      rw [hd, ntD] at hc1
      obtain ⟨_, g1, g2, g3⟩ := hd_inv hd
      have g4 := lenB_len5 g1
      have g5 := congrArg List.length g3
      simp only [List.length_cons, List.length_append, List.length_drop] at g5
      simp only
      by_cases h : b.length - s < n
      · rw [if_pos h] at hc1 ⊢
        repeat' (first | ((with_reducible show AWp _ _ _ _ _); (first | refine awp_seq ?_ | refine awp_block ?_ | refine awp_skip ?_ | refine awp_exit ?_ | refine awp_scope ?_ | refine awp_label ?_ | refine awp_run ty_ok rfl sd ?_ | refine awp_ret ⟨_, _, rfl, rfl, ?_⟩ | refine awp_ret ⟨_, rfl, ?_⟩ | ((refine awp_cond (ty := ty) rfl (fun hc => ?_) (fun hc => ?_)) <;> (try simp only [nms, reduceCtorEq] at hc) <;> (try (exfalso; omega))) | refine awp_anyS 4 2 ty_ok mixed rfl rfl rfl rfl rfl rfl rfl rfl rfl (by kernel_rfl) ?_)) | ((with_reducible show AOps _ _ _ _ _ _); (first | refine aops_nil ?_ | refine aops_go ty_ok rfl rfl sd ?_ | refine aops_gate ty_ok rfl rfl rfl sd ?_ | refine aops_callE (ty := ty) rfl rfl rfl rfl rfl rfl rfl (hc1) rfl ?_ | refine aops_litE ty_ok rfl rfl rfl rfl rfl rfl rfl rfl rfl rfl rfl rfl ?_ | refine aops_litA ty_ok rfl rfl rfl rfl rfl rfl rfl rfl rfl rfl rfl rfl rfl rfl rfl rfl ?_ | refine aops_buildArr ty_ok rfl rfl rfl rfl rfl rfl rfl rfl rfl rfl ?_ | refine aops_indexArr ty_ok rfl rfl rfl rfl rfl rfl rfl rfl rfl rfl sd ?_ | refine aops_cutE ty_ok rfl rfl rfl rfl rfl rfl rfl rfl rfl sd rfl ?_ | ((fail_if_success (refine aops_known rfl ?_)); (refine aops_split ty_ok rfl rfl rfl rfl rfl rfl (fun hc => ⟨?_, ?_⟩) (fun hc => ⟨?_, ?_⟩)) <;> (try simp only [nms, reduceCtorEq] at hc) <;> (try (exfalso; omega)) <;> (try exact sd)))) | ((with_reducible show HeadT _ _ _ _ _ _ _ _ _ _); (first | refine head_end ?_ | refine head_goP ty_ok rfl rfl sd ?_ | refine head_gate ty_ok rfl rfl rfl sd ?_ | refine head_callE (ty := ty) rfl rfl rfl rfl rfl rfl rfl (hc1) rfl ?_ | ((fail_if_success (refine head_known rfl ?_)); (refine head_split ty_ok rfl rfl rfl rfl (fun hc => ⟨?_, ?_⟩) (fun hc => ⟨?_, ?_⟩)) <;> (try simp only [nms, reduceCtorEq] at hc) <;> (try (exfalso; omega)) <;> (try exact sd)))) | ((fail_if_success (with_reducible show AWp _ _ _ _ _)); (fail_if_success (with_reducible show AOps _ _ _ _ _ _)); (fail_if_success (with_reducible show HeadT _ _ _ _ _ _ _ _ _ _)); (first | (show AWp _ _ _ _ _) | (show AOps _ _ _ _ _ _) | refine st_go rfl rfl rfl rfl rfl rfl rfl ?_)))
        rfl
      rw [if_neg h] at hc1 ⊢
      have hcl := cut_len b s (s + n) (by omega)
      cases hcon : conB x with
      | false =>
        rw [hdrD, hcon] at hc1
        repeat' (first | ((with_reducible show AWp _ _ _ _ _); (first | refine awp_seq ?_ | refine awp_block ?_ | refine awp_skip ?_ | refine awp_exit ?_ | refine awp_scope ?_ | refine awp_label ?_ | refine awp_run ty_ok rfl sd ?_ | refine awp_ret ⟨_, _, rfl, rfl, ?_⟩ | refine awp_ret ⟨_, rfl, ?_⟩ | ((refine awp_cond (ty := ty) rfl (fun hc => ?_) (fun hc => ?_)) <;> (try simp only [nms, reduceCtorEq] at hc) <;> (try (exfalso; omega))) | refine awp_anyS 9 7 ty_ok mixed rfl rfl rfl rfl rfl rfl rfl rfl rfl (by kernel_rfl) ?_)) | ((with_reducible show AOps _ _ _ _ _ _); (first | refine aops_nil ?_ | refine aops_go ty_ok rfl rfl sd ?_ | refine aops_gate ty_ok rfl rfl rfl sd ?_ | refine aops_callE (ty := ty) rfl rfl rfl rfl rfl rfl rfl (hc1) rfl ?_ | refine aops_litE ty_ok rfl rfl rfl rfl rfl rfl rfl rfl rfl rfl rfl rfl ?_ | refine aops_litA ty_ok rfl rfl rfl rfl rfl rfl rfl rfl rfl rfl rfl rfl rfl rfl rfl rfl ?_ | refine aops_buildArr ty_ok rfl rfl rfl rfl rfl rfl rfl rfl rfl rfl ?_ | refine aops_indexArr ty_ok rfl rfl rfl rfl rfl rfl rfl rfl rfl rfl sd ?_ | refine aops_cutE ty_ok rfl rfl rfl rfl rfl rfl rfl rfl rfl sd rfl ?_ | ((fail_if_success (refine aops_known rfl ?_)); (refine aops_split ty_ok rfl rfl rfl rfl rfl rfl (fun hc => ⟨?_, ?_⟩) (fun hc => ⟨?_, ?_⟩)) <;> (try simp only [nms, reduceCtorEq] at hc) <;> (try (exfalso; omega)) <;> (try exact sd)))) | ((with_reducible show HeadT _ _ _ _ _ _ _ _ _ _); (first | refine head_end ?_ | refine head_goP ty_ok rfl rfl sd ?_ | refine head_gate ty_ok rfl rfl rfl sd ?_ | refine head_callE (ty := ty) rfl rfl rfl rfl rfl rfl rfl (hc1) rfl ?_ | ((fail_if_success (refine head_known rfl ?_)); (refine head_split ty_ok rfl rfl rfl rfl (fun hc => ⟨?_, ?_⟩) (fun hc => ⟨?_, ?_⟩)) <;> (try simp only [nms, reduceCtorEq] at hc) <;> (try (exfalso; omega)) <;> (try exact sd)))) | ((fail_if_success (with_reducible show AWp _ _ _ _ _)); (fail_if_success (with_reducible show AOps _ _ _ _ _ _)); (fail_if_success (with_reducible show HeadT _ _ _ _ _ _ _ _ _ _)); (first | (show AWp _ _ _ _ _) | (show AOps _ _ _ _ _ _) | refine st_go rfl rfl rfl rfl rfl rfl rfl ?_)))
        rw [nodeD, hcon]
        rfl
      | true =>
        rw [hdrD, hcon] at hc1
        obtain ⟨C, hC⟩ : ∃ C, cut b s (s + n) = C := ⟨_, rfl⟩
        rw [hC] at hc1 hcl
        simp only [hC]
        repeat' (first | ((with_reducible show AWp _ _ _ _ _); (first | refine awp_seq ?_ | refine awp_block ?_ | refine awp_skip ?_ | refine awp_exit ?_ | refine awp_scope ?_ | refine awp_label ?_ | refine awp_run ty_ok rfl sd ?_ | refine awp_ret ⟨_, _, rfl, rfl, ?_⟩ | refine awp_ret ⟨_, rfl, ?_⟩ | ((refine awp_cond (ty := ty) rfl (fun hc => ?_) (fun hc => ?_)) <;> (try simp only [nms, reduceCtorEq] at hc) <;> (try (exfalso; omega))))) | ((with_reducible show AOps _ _ _ _ _ _); (first | refine aops_nil ?_ | refine aops_go ty_ok rfl rfl sd ?_ | refine aops_gate ty_ok rfl rfl rfl sd ?_ | refine aops_callE (ty := ty) rfl rfl rfl rfl rfl rfl rfl (hc1) rfl ?_ | refine aops_litE ty_ok rfl rfl rfl rfl rfl rfl rfl rfl rfl rfl rfl rfl ?_ | refine aops_litA ty_ok rfl rfl rfl rfl rfl rfl rfl rfl rfl rfl rfl rfl rfl rfl rfl rfl ?_ | refine aops_buildArr ty_ok rfl rfl rfl rfl rfl rfl rfl rfl rfl rfl ?_ | refine aops_indexArr ty_ok rfl rfl rfl rfl rfl rfl rfl rfl rfl rfl sd ?_ | refine aops_cutE ty_ok rfl rfl rfl rfl rfl rfl rfl rfl rfl sd rfl ?_ | ((fail_if_success (refine aops_known rfl ?_)); (refine aops_split ty_ok rfl rfl rfl rfl rfl rfl (fun hc => ⟨?_, ?_⟩) (fun hc => ⟨?_, ?_⟩)) <;> (try simp only [nms, reduceCtorEq] at hc) <;> (try (exfalso; omega)) <;> (try exact sd)))) | ((fail_if_success (with_reducible show AWp _ _ _ _ _)); (fail_if_success (with_reducible show AOps _ _ _ _ _ _)); (first | (show AWp _ _ _ _ _) | (show AOps _ _ _ _ _ _))))
        refine awp_nilcell 4 4 63 rfl rfl rfl rfl ?_
        refine awp_loopR (G := { p : List Dat × Nat // p.2 ≤ C.length ∧ p.1.length ≤ p.2 ∧ ∃ k, C.length - p.2 ≤ k ∧ kdT (rdF d) s C n 0 = preK p.1 (kdT (rdF d) s C k p.2) }) (fun p => ⟨Tryz.f70.ntmps, [(1, .d (.int .i64 ((d + 1 : Nat) : Int))), (4, .ptr 0 0), (6, .ptr 1 0), (7, .ptr 2 0), (8, .d (.sl none (bys C))), (11, .ptr 3 0), (12, .d (.int .i64 p.1.2))], [(0, .box 63 [.d (.int .i64 0), .d (.int .i64 0), .d (.bool false), .nil none, .nil (some 5)]), (1, .box 31 [.d (.int .i64 0), .d (.int .i64 0)]), (2, .box 115 [.d (clsD x), .d (numD x), .d (.bool true), .d (.int .i64 n), .d (.int .i64 s)]), (3, .box 63 [.d (clsD x), .d (numD x), .d (.bool true), .nil none, .ref 4]), (4, .row (some 5) 63 p.1.1)], 5⟩) (fun p => C.length - p.1.2) ⟨([], 0), Nat.zero_le _, Nat.zero_le _, n, by simp only; omega, by
            cases kdT (rdF d) s C n 0 <;> rfl⟩ [(0, 0), (1, 1), (2, 2), (4, 3), (5, 4)]
          (SubR.mk' rfl rfl ⟨⟨_, rfl, rfl⟩, ⟨_, rfl, rfl⟩, ⟨_, rfl, rfl⟩, ⟨_, rfl, rfl⟩, ⟨_, rfl, rfl⟩, ⟨_, rfl, rfl⟩, ⟨_, rfl, rfl⟩, trivial⟩ ⟨⟨_, _, rfl, rfl, rfl⟩, ⟨_, _, rfl, rfl, rfl⟩, ⟨_, _, rfl, rfl, rfl⟩, ⟨_, _, rfl, rfl, rfl⟩, ⟨_, _, rfl, rfl, rfl⟩, trivial⟩) ?_
        rintro ⟨⟨acc, q⟩, hq, hacc, k, hk, hl⟩
        dsimp only at hq hacc hk hl ⊢
        by_cases hqc : q < C.length
        · obtain ⟨k, rfl⟩ : ∃ k', k = k' + 1 := ⟨k - 1, by omega⟩
          rw [kdT, if_pos hqc] at hl
          have hc2 := c_rread (Γ.at 0) d (by omega) (C.drop q) (by rw [List.length_drop]; omega)
          have hcut : cutL (bys C) (q : Int).toNat (bys C).length = bys (C.drop q) := by
            rw [cutL_bys, Int.toNat_natCast, bys_len]
            simp [cutB]
          have hd1 : ((d + 1 : Nat) : Int) - 1 = (d : Int) := by omega
          rw [← hcut, ← hd1] at hc2
          cases hr : rdF d (C.drop q) with
          | bad e o =>
            rw [hr] at hl hc2
            have := rd_bad _ _ _ _ hr
            rw [List.length_drop] at this
            repeat' (first | ((with_reducible show AWp _ _ _ _ _); (first | refine awp_seq ?_ | refine awp_block ?_ | refine awp_skip ?_ | refine awp_exit ?_ | refine awp_scope ?_ | refine awp_label ?_ | refine awp_run ty_ok rfl sd ?_ | refine awp_ret ⟨_, _, rfl, rfl, ?_⟩ | refine awp_ret ⟨_, rfl, ?_⟩ | ((refine awp_cond (ty := ty) rfl (fun hc => ?_) (fun hc => ?_)) <;> (try simp only [nms, reduceCtorEq] at hc) <;> (try (exfalso; omega))) | refine awp_anyS 13 11 ty_ok mixed rfl rfl rfl rfl rfl rfl rfl rfl rfl (by kernel_rfl) ?_)) | ((with_reducible show AOps _ _ _ _ _ _); (first | refine aops_nil ?_ | refine aops_go ty_ok rfl rfl sd ?_ | refine aops_gate ty_ok rfl rfl rfl sd ?_ | refine aops_callE (ty := ty) rfl rfl rfl rfl rfl rfl rfl (hc2) rfl ?_ | refine aops_litE ty_ok rfl rfl rfl rfl rfl rfl rfl rfl rfl rfl rfl rfl ?_ | refine aops_litA ty_ok rfl rfl rfl rfl rfl rfl rfl rfl rfl rfl rfl rfl rfl rfl rfl rfl ?_ | refine aops_buildArr ty_ok rfl rfl rfl rfl rfl rfl rfl rfl rfl rfl ?_ | refine aops_indexArr ty_ok rfl rfl rfl rfl rfl rfl rfl rfl rfl rfl sd ?_ | refine aops_cutE ty_ok rfl rfl rfl rfl rfl rfl rfl rfl rfl sd rfl ?_ | ((fail_if_success (refine aops_known rfl ?_)); (refine aops_split ty_ok rfl rfl rfl rfl rfl rfl (fun hc => ⟨?_, ?_⟩) (fun hc => ⟨?_, ?_⟩)) <;> (try simp only [nms, reduceCtorEq] at hc) <;> (try (exfalso; omega)) <;> (try exact sd)))) | ((with_reducible show HeadT _ _ _ _ _ _ _ _ _ _); (first | refine head_end ?_ | refine head_goP ty_ok rfl rfl sd ?_ | refine head_gate ty_ok rfl rfl rfl sd ?_ | refine head_callE (ty := ty) rfl rfl rfl rfl rfl rfl rfl (hc2) rfl ?_ | ((fail_if_success (refine head_known rfl ?_)); (refine head_split ty_ok rfl rfl rfl rfl (fun hc => ⟨?_, ?_⟩) (fun hc => ⟨?_, ?_⟩)) <;> (try simp only [nms, reduceCtorEq] at hc) <;> (try (exfalso; omega)) <;> (try exact sd)))) | ((fail_if_success (with_reducible show AWp _ _ _ _ _)); (fail_if_success (with_reducible show AOps _ _ _ _ _ _)); (fail_if_success (with_reducible show HeadT _ _ _ _ _ _ _ _ _ _)); (first | (show AWp _ _ _ _ _) | (show AOps _ _ _ _ _ _) | refine st_go rfl rfl rfl rfl rfl rfl rfl ?_)))
            rw [hl]
            simp only [preK, rdD]
            rfl
          | ok pr =>
            obtain ⟨nd, sz⟩ := pr
            rw [hr] at hl hc2
            simp only at hl
            obtain ⟨h1, h2⟩ := rd_ok _ _ _ _ hr
            have h3 := h2.pos
            rw [List.length_take, List.length_drop] at h3
            rw [List.length_drop] at h1
            obtain ⟨nx, nc, nk, rfl⟩ := tr_node h2
            repeat' (first | ((with_reducible show AWp _ _ _ _ _); (first | refine awp_seq ?_ | refine awp_block ?_ | refine awp_skip ?_ | refine awp_exit ?_ | refine awp_scope ?_ | refine awp_label ?_ | refine awp_run ty_ok rfl sd ?_ | refine awp_ret ⟨_, _, rfl, rfl, ?_⟩ | refine awp_ret ⟨_, rfl, ?_⟩ | ((refine awp_cond (ty := ty) rfl (fun hc => ?_) (fun hc => ?_)) <;> (try simp only [nms, reduceCtorEq] at hc) <;> (try (exfalso; omega))) | refine awp_anyS 13 11 ty_ok mixed rfl rfl rfl rfl rfl rfl rfl rfl rfl (by kernel_rfl) ?_)) | ((with_reducible show AOps _ _ _ _ _ _); (first | refine aops_nil ?_ | refine aops_go ty_ok rfl rfl sd ?_ | refine aops_gate ty_ok rfl rfl rfl sd ?_ | refine aops_callE (ty := ty) rfl rfl rfl rfl rfl rfl rfl (hc2) rfl ?_ | refine aops_litE ty_ok rfl rfl rfl rfl rfl rfl rfl rfl rfl rfl rfl rfl ?_ | refine aops_litA ty_ok rfl rfl rfl rfl rfl rfl rfl rfl rfl rfl rfl rfl rfl rfl rfl rfl ?_ | refine aops_buildArr ty_ok rfl rfl rfl rfl rfl rfl rfl rfl rfl rfl ?_ | refine aops_indexArr ty_ok rfl rfl rfl rfl rfl rfl rfl rfl rfl rfl sd ?_ | refine aops_cutE ty_ok rfl rfl rfl rfl rfl rfl rfl rfl rfl sd rfl ?_ | ((fail_if_success (refine aops_known rfl ?_)); (refine aops_split ty_ok rfl rfl rfl rfl rfl rfl (fun hc => ⟨?_, ?_⟩) (fun hc => ⟨?_, ?_⟩)) <;> (try simp only [nms, reduceCtorEq] at hc) <;> (try (exfalso; omega)) <;> (try exact sd)))) | ((with_reducible show HeadT _ _ _ _ _ _ _ _ _ _); (first | refine head_end ?_ | refine head_goP ty_ok rfl rfl sd ?_ | refine head_gate ty_ok rfl rfl rfl sd ?_ | refine head_callE (ty := ty) rfl rfl rfl rfl rfl rfl rfl (hc2) rfl ?_ | ((fail_if_success (refine head_known rfl ?_)); (refine head_split ty_ok rfl rfl rfl rfl (fun hc => ⟨?_, ?_⟩) (fun hc => ⟨?_, ?_⟩)) <;> (try simp only [nms, reduceCtorEq] at hc) <;> (try (exfalso; omega)) <;> (try exact sd)))) | ((fail_if_success (with_reducible show AWp _ _ _ _ _)); (fail_if_success (with_reducible show AOps _ _ _ _ _ _)); (fail_if_success (with_reducible show HeadT _ _ _ _ _ _ _ _ _ _)); (first | (show AWp _ _ _ _ _) | (show AOps _ _ _ _ _ _) | refine st_go rfl rfl rfl rfl rfl rfl rfl ?_)))
            refine ⟨⟨(acc ++ [nodeD nx nc nk], q + sz), by simp only; omega, by simp; omega, k, by simp only; omega, ?_⟩, [(0, 0), (1, 1), (2, 2), (3, 3), (8, 4)], SubR.mk' rfl rfl ⟨⟨_, rfl, rfl⟩, ⟨_, rfl, rfl⟩, ⟨_, rfl, rfl⟩, ⟨_, rfl, rfl⟩, ⟨_, rfl, rfl⟩, ⟨_, rfl, rfl⟩, ⟨_, rfl, rfl⟩, trivial⟩ ⟨⟨_, _, rfl, rfl, rfl⟩, ⟨_, _, rfl, rfl, rfl⟩, ⟨_, _, rfl, rfl, rfl⟩, ⟨_, _, rfl, rfl, rfl⟩, ⟨_, _, rfl, rfl, rfl⟩, trivial⟩, by simp only; omega⟩
            rw [hl]
            simp only
            cases kdT (rdF d) s C k (q + sz) with
            | bad c o => rfl
            | ok l => simp [preK]
        · have hz : kdT (rdF d) s C k q = .ok [] := by
            cases k with
            | zero => rfl
            | succ k => rw [kdT, if_neg hqc]
          rw [hz] at hl
          repeat' (first | ((with_reducible show AWp _ _ _ _ _); (first | refine awp_seq ?_ | refine awp_block ?_ | refine awp_skip ?_ | refine awp_exit ?_ | refine awp_scope ?_ | refine awp_label ?_ | refine awp_run ty_ok rfl sd ?_ | refine awp_ret ⟨_, _, rfl, rfl, ?_⟩ | refine awp_ret ⟨_, rfl, ?_⟩ | ((refine awp_cond (ty := ty) rfl (fun hc => ?_) (fun hc => ?_)) <;> (try simp only [nms, reduceCtorEq] at hc) <;> (try (exfalso; omega))) | refine awp_anyS 9 7 ty_ok mixed rfl rfl rfl rfl rfl rfl rfl rfl rfl (by kernel_rfl) ?_)) | ((with_reducible show AOps _ _ _ _ _ _); (first | refine aops_nil ?_ | refine aops_go ty_ok rfl rfl sd ?_ | refine aops_gate ty_ok rfl rfl rfl sd ?_ | refine aops_litE ty_ok rfl rfl rfl rfl rfl rfl rfl rfl rfl rfl rfl rfl ?_ | refine aops_litA ty_ok rfl rfl rfl rfl rfl rfl rfl rfl rfl rfl rfl rfl rfl rfl rfl rfl ?_ | refine aops_buildArr ty_ok rfl rfl rfl rfl rfl rfl rfl rfl rfl rfl ?_ | refine aops_indexArr ty_ok rfl rfl rfl rfl rfl rfl rfl rfl rfl rfl sd ?_ | refine aops_cutE ty_ok rfl rfl rfl rfl rfl rfl rfl rfl rfl sd rfl ?_ | ((fail_if_success (refine aops_known rfl ?_)); (refine aops_split ty_ok rfl rfl rfl rfl rfl rfl (fun hc => ⟨?_, ?_⟩) (fun hc => ⟨?_, ?_⟩)) <;> (try simp only [nms, reduceCtorEq] at hc) <;> (try (exfalso; omega)) <;> (try exact sd)))) | ((with_reducible show HeadT _ _ _ _ _ _ _ _ _ _); (first | refine head_end ?_ | refine head_goP ty_ok rfl rfl sd ?_ | refine head_gate ty_ok rfl rfl rfl sd ?_ | ((fail_if_success (refine head_known rfl ?_)); (refine head_split ty_ok rfl rfl rfl rfl (fun hc => ⟨?_, ?_⟩) (fun hc => ⟨?_, ?_⟩)) <;> (try simp only [nms, reduceCtorEq] at hc) <;> (try (exfalso; omega)) <;> (try exact sd)))) | ((fail_if_success (with_reducible show AWp _ _ _ _ _)); (fail_if_success (with_reducible show AOps _ _ _ _ _ _)); (fail_if_success (with_reducible show HeadT _ _ _ _ _ _ _ _ _ _)); (first | (show AWp _ _ _ _ _) | (show AOps _ _ _ _ _ _) | refine st_go rfl rfl rfl rfl rfl rfl rfl ?_)))
          rw [hl]
          simp only [preK, List.append_nil, rdD, nodeD, hcon]
          rfl
def wiD : Ex Dat → Dat
  | .bad c o => .tup [node0, errD c o]
  | .ok n => .tup [n, errD 0 0]
theorem c_rread_at (Γ : Env) (d : Nat) (hd : d ≤ 60) (b : List UInt8) (hb : b.length ≤ 1000000) {v : Ex (Dat × Nat)} (h : rdF d b = v) : ACalls Tryz.prog Γ 70 [.sl none (bys b), .int .i64 d] (fun r => r = .d (rdD v)) := by
  subst h
  exact c_rread Γ d hd b hb
theorem isRWithin : IsFn Tryz.prog 50 Tryz.f50 := ⟨Tryz.func50, by decide, rfl⟩
set_option maxHeartbeats 1000000 in
theorem c_rwithin (Γ : Env) (d : Nat) (hd : d ≤ 60) (b : List UInt8) (hb : b.length ≤ 1000000) : ACalls Tryz.prog Γ 50 [.sl none (bys b), .int .i64 d] (fun r => r = .d (wiD (wiF d b))) := by
  refine acalls_of ty_ok isRWithin rfl rfl ?_
  rw [wiF]
  cases hr : rdF d b with
  | bad e o =>
    have := rd_bad _ _ _ _ hr
    repeat' (first | ((with_reducible show AWp _ _ _ _ _); (first | refine awp_seq ?_ | refine awp_block ?_ | refine awp_skip ?_ | refine awp_exit ?_ | refine awp_scope ?_ | refine awp_label ?_ | refine awp_run ty_ok rfl sd ?_ | refine awp_ret ⟨_, _, rfl, rfl, ?_⟩ | refine awp_ret ⟨_, rfl, ?_⟩ | ((refine awp_cond (ty := ty) rfl (fun hc => ?_) (fun hc => ?_)) <;> (try simp only [nms, reduceCtorEq] at hc) <;> (try (exfalso; omega))) | refine awp_anyS 3 2 ty_ok mixed rfl rfl rfl rfl rfl rfl rfl rfl rfl (by kernel_rfl) ?_)) | ((with_reducible show AOps _ _ _ _ _ _); (first | refine aops_nil ?_ | refine aops_go ty_ok rfl rfl sd ?_ | refine aops_gate ty_ok rfl rfl rfl sd ?_ | refine aops_callE (ty := ty) rfl rfl rfl rfl rfl rfl rfl (c_rread_at _ d hd b hb hr) rfl ?_ | refine aops_litE ty_ok rfl rfl rfl rfl rfl rfl rfl rfl rfl rfl rfl rfl ?_ | refine aops_litA ty_ok rfl rfl rfl rfl rfl rfl rfl rfl rfl rfl rfl rfl rfl rfl rfl rfl ?_ | refine aops_buildArr ty_ok rfl rfl rfl rfl rfl rfl rfl rfl rfl rfl ?_ | refine aops_indexArr ty_ok rfl rfl rfl rfl rfl rfl rfl rfl rfl rfl sd ?_ | refine aops_cutE ty_ok rfl rfl rfl rfl rfl rfl rfl rfl rfl sd rfl ?_ | ((fail_if_success (refine aops_known rfl ?_)); (refine aops_split ty_ok rfl rfl rfl rfl rfl rfl (fun hc => ⟨?_, ?_⟩) (fun hc => ⟨?_, ?_⟩)) <;> (try simp only [nms, reduceCtorEq] at hc) <;> (try (exfalso; omega)) <;> (try exact sd)))) | ((with_reducible show HeadT _ _ _ _ _ _ _ _ _ _); (first | refine head_end ?_ | refine head_goP ty_ok rfl rfl sd ?_ | refine head_gate ty_ok rfl rfl rfl sd ?_ | refine head_callE (ty := ty) rfl rfl rfl rfl rfl rfl rfl (c_rread_at _ d hd b hb hr) rfl ?_ | ((fail_if_success (refine head_known rfl ?_)); (refine head_split ty_ok rfl rfl rfl rfl (fun hc => ⟨?_, ?_⟩) (fun hc => ⟨?_, ?_⟩)) <;> (try simp only [nms, reduceCtorEq] at hc) <;> (try (exfalso; omega)) <;> (try exact sd)))) | ((fail_if_success (with_reducible show AWp _ _ _ _ _)); (fail_if_success (with_reducible show AOps _ _ _ _ _ _)); (fail_if_success (with_reducible show HeadT _ _ _ _ _ _ _ _ _ _)); (first | (show AWp _ _ _ _ _) | (show AOps _ _ _ _ _ _) | refine st_go rfl rfl rfl rfl rfl rfl rfl ?_)))
    rfl
  | ok p =>
    obtain ⟨n, s⟩ := p
    obtain ⟨h1, h2⟩ := rd_ok _ _ _ _ hr
    obtain ⟨x, c, ks, rfl⟩ := tr_node h2
    simp only
    by_cases h : s < b.length
    · rw [if_pos h]
      repeat' (first | ((with_reducible show AWp _ _ _ _ _); (first | refine awp_seq ?_ | refine awp_block ?_ | refine awp_skip ?_ | refine awp_exit ?_ | refine awp_scope ?_ | refine awp_label ?_ | refine awp_run ty_ok rfl sd ?_ | refine awp_ret ⟨_, _, rfl, rfl, ?_⟩ | refine awp_ret ⟨_, rfl, ?_⟩ | ((refine awp_cond (ty := ty) rfl (fun hc => ?_) (fun hc => ?_)) <;> (try simp only [nms, reduceCtorEq] at hc) <;> (try (exfalso; omega))) | refine awp_anyS 3 2 ty_ok mixed rfl rfl rfl rfl rfl rfl rfl rfl rfl (by kernel_rfl) ?_)) | ((with_reducible show AOps _ _ _ _ _ _); (first | refine aops_nil ?_ | refine aops_go ty_ok rfl rfl sd ?_ | refine aops_gate ty_ok rfl rfl rfl sd ?_ | refine aops_callE (ty := ty) rfl rfl rfl rfl rfl rfl rfl (c_rread_at _ d hd b hb hr) rfl ?_ | refine aops_litE ty_ok rfl rfl rfl rfl rfl rfl rfl rfl rfl rfl rfl rfl ?_ | refine aops_litA ty_ok rfl rfl rfl rfl rfl rfl rfl rfl rfl rfl rfl rfl rfl rfl rfl rfl ?_ | refine aops_buildArr ty_ok rfl rfl rfl rfl rfl rfl rfl rfl rfl rfl ?_ | refine aops_indexArr ty_ok rfl rfl rfl rfl rfl rfl rfl rfl rfl rfl sd ?_ | refine aops_cutE ty_ok rfl rfl rfl rfl rfl rfl rfl rfl rfl sd rfl ?_ | ((fail_if_success (refine aops_known rfl ?_)); (refine aops_split ty_ok rfl rfl rfl rfl rfl rfl (fun hc => ⟨?_, ?_⟩) (fun hc => ⟨?_, ?_⟩)) <;> (try simp only [nms, reduceCtorEq] at hc) <;> (try (exfalso; omega)) <;> (try exact sd)))) | ((with_reducible show HeadT _ _ _ _ _ _ _ _ _ _); (first | refine head_end ?_ | refine head_goP ty_ok rfl rfl sd ?_ | refine head_gate ty_ok rfl rfl rfl sd ?_ | refine head_callE (ty := ty) rfl rfl rfl rfl rfl rfl rfl (c_rread_at _ d hd b hb hr) rfl ?_ | ((fail_if_success (refine head_known rfl ?_)); (refine head_split ty_ok rfl rfl rfl rfl (fun hc => ⟨?_, ?_⟩) (fun hc => ⟨?_, ?_⟩)) <;> (try simp only [nms, reduceCtorEq] at hc) <;> (try (exfalso; omega)) <;> (try exact sd)))) | ((fail_if_success (with_reducible show AWp _ _ _ _ _)); (fail_if_success (with_reducible show AOps _ _ _ _ _ _)); (fail_if_success (with_reducible show HeadT _ _ _ _ _ _ _ _ _ _)); (first | (show AWp _ _ _ _ _) | (show AOps _ _ _ _ _ _) | refine st_go rfl rfl rfl rfl rfl rfl rfl ?_)))
      rfl
    · rw [if_neg h]
      repeat' (first | ((with_reducible show AWp _ _ _ _ _); (first | refine awp_seq ?_ | refine awp_block ?_ | refine awp_skip ?_ | refine awp_exit ?_ | refine awp_scope ?_ | refine awp_label ?_ | refine awp_run ty_ok rfl sd ?_ | refine awp_ret ⟨_, _, rfl, rfl, ?_⟩ | refine awp_ret ⟨_, rfl, ?_⟩ | ((refine awp_cond (ty := ty) rfl (fun hc => ?_) (fun hc => ?_)) <;> (try simp only [nms, reduceCtorEq] at hc) <;> (try (exfalso; omega))) | refine awp_anyS 3 2 ty_ok mixed rfl rfl rfl rfl rfl rfl rfl rfl rfl (by kernel_rfl) ?_)) | ((with_reducible show AOps _ _ _ _ _ _); (first | refine aops_nil ?_ | refine aops_go ty_ok rfl rfl sd ?_ | refine aops_gate ty_ok rfl rfl rfl sd ?_ | refine aops_callE (ty := ty) rfl rfl rfl rfl rfl rfl rfl (c_rread_at _ d hd b hb hr) rfl ?_ | refine aops_litE ty_ok rfl rfl rfl rfl rfl rfl rfl rfl rfl rfl rfl rfl ?_ | refine aops_litA ty_ok rfl rfl rfl rfl rfl rfl rfl rfl rfl rfl rfl rfl rfl rfl rfl rfl ?_ | refine aops_buildArr ty_ok rfl rfl rfl rfl rfl rfl rfl rfl rfl rfl ?_ | refine aops_indexArr ty_ok rfl rfl rfl rfl rfl rfl rfl rfl rfl rfl sd ?_ | refine aops_cutE ty_ok rfl rfl rfl rfl rfl rfl rfl rfl rfl sd rfl ?_ | ((fail_if_success (refine aops_known rfl ?_)); (refine aops_split ty_ok rfl rfl rfl rfl rfl rfl (fun hc => ⟨?_, ?_⟩) (fun hc => ⟨?_, ?_⟩)) <;> (try simp only [nms, reduceCtorEq] at hc) <;> (try (exfalso; omega)) <;> (try exact sd)))) | ((with_reducible show HeadT _ _ _ _ _ _ _ _ _ _); (first | refine head_end ?_ | refine head_goP ty_ok rfl rfl sd ?_ | refine head_gate ty_ok rfl rfl rfl sd ?_ | refine head_callE (ty := ty) rfl rfl rfl rfl rfl rfl rfl (c_rread_at _ d hd b hb hr) rfl ?_ | ((fail_if_success (refine head_known rfl ?_)); (refine head_split ty_ok rfl rfl rfl rfl (fun hc => ⟨?_, ?_⟩) (fun hc => ⟨?_, ?_⟩)) <;> (try simp only [nms, reduceCtorEq] at hc) <;> (try (exfalso; omega)) <;> (try exact sd)))) | ((fail_if_success (with_reducible show AWp _ _ _ _ _)); (fail_if_success (with_reducible show AOps _ _ _ _ _ _)); (fail_if_success (with_reducible show HeadT _ _ _ _ _ _ _ _ _ _)); (first | (show AWp _ _ _ _ _) | (show AOps _ _ _ _ _ _) | refine st_go rfl rfl rfl rfl rfl rfl rfl ?_)))
      rfl
theorem c_rwithin_at (Γ : Env) (d : Nat) (hd : d ≤ 60) (b : List UInt8) (hb : b.length ≤ 1000000) {v : Ex Dat} (h : wiF d b = v) : ACalls Tryz.prog Γ 50 [.sl none (bys b), .int .i64 d] (fun r => r = .d (wiD v)) := by
  subst h
  exact c_rwithin Γ d hd b hb
def deD : Ex Dat → Dat
  | .bad _ _ => .tup [node0, .bool false]
  | .ok n => .tup [n, .bool true]
theorem wi_bad {d : Nat} {b : List UInt8} {e o : Nat} (h : wiF d b = .bad e o) : 0 < e := by
  unfold wiF at h
  cases hr : rdF d b with
  | bad e' o' =>
    rw [hr] at h
    cases h
    exact (rd_bad _ _ _ _ hr).1
  | ok p =>
    obtain ⟨n, s⟩ := p
    rw [hr] at h
    simp only at h
    split at h
    · cases h; omega
    · cases h
theorem isRDeep : IsFn Tryz.prog 33 Tryz.f33 := ⟨Tryz.func33, by decide, rfl⟩
theorem c_rdeep (Γ : Env) (b : List UInt8) (hb : b.length ≤ 1000000) : ACalls Tryz.prog Γ 33 [.sl none (bys b)] (fun r => r = .d (deD (wiF 60 b))) := by
  refine acalls_of ty_ok isRDeep rfl rfl ?_
  cases hr : wiF 60 b with
  | bad e o =>
    have := wi_bad hr
    repeat' (first | ((with_reducible show AWp _ _ _ _ _); (first | refine awp_seq ?_ | refine awp_block ?_ | refine awp_skip ?_ | refine awp_exit ?_ | refine awp_scope ?_ | refine awp_label ?_ | refine awp_run ty_ok rfl sd ?_ | refine awp_ret ⟨_, _, rfl, rfl, ?_⟩ | refine awp_ret ⟨_, rfl, ?_⟩ | ((refine awp_cond (ty := ty) rfl (fun hc => ?_) (fun hc => ?_)) <;> (try simp only [nms, reduceCtorEq] at hc) <;> (try (exfalso; omega))) | refine awp_anyS 5 4 ty_ok mixed rfl rfl rfl rfl rfl rfl rfl rfl rfl (by kernel_rfl) ?_)) | ((with_reducible show AOps _ _ _ _ _ _); (first | refine aops_nil ?_ | refine aops_go ty_ok rfl rfl sd ?_ | refine aops_gate ty_ok rfl rfl rfl sd ?_ | refine aops_callE (ty := ty) rfl rfl rfl rfl rfl rfl rfl (c_rwithin_at _ 60 (by omega) b hb hr) rfl ?_ | refine aops_litE ty_ok rfl rfl rfl rfl rfl rfl rfl rfl rfl rfl rfl rfl ?_ | refine aops_litA ty_ok rfl rfl rfl rfl rfl rfl rfl rfl rfl rfl rfl rfl rfl rfl rfl rfl ?_ | refine aops_buildArr ty_ok rfl rfl rfl rfl rfl rfl rfl rfl rfl rfl ?_ | refine aops_indexArr ty_ok rfl rfl rfl rfl rfl rfl rfl rfl rfl rfl sd ?_ | refine aops_cutE ty_ok rfl rfl rfl rfl rfl rfl rfl rfl rfl sd rfl ?_ | ((fail_if_success (refine aops_known rfl ?_)); (refine aops_split ty_ok rfl rfl rfl rfl rfl rfl (fun hc => ⟨?_, ?_⟩) (fun hc => ⟨?_, ?_⟩)) <;> (try simp only [nms, reduceCtorEq] at hc) <;> (try (exfalso; omega)) <;> (try exact sd)))) | ((with_reducible show HeadT _ _ _ _ _ _ _ _ _ _); (first | refine head_end ?_ | refine head_goP ty_ok rfl rfl sd ?_ | refine head_gate ty_ok rfl rfl rfl sd ?_ | refine head_callE (ty := ty) rfl rfl rfl rfl rfl rfl rfl (c_rwithin_at _ 60 (by omega) b hb hr) rfl ?_ | ((fail_if_success (refine head_known rfl ?_)); (refine head_split ty_ok rfl rfl rfl rfl (fun hc => ⟨?_, ?_⟩) (fun hc => ⟨?_, ?_⟩)) <;> (try simp only [nms, reduceCtorEq] at hc) <;> (try (exfalso; omega)) <;> (try exact sd)))) | ((fail_if_success (with_reducible show AWp _ _ _ _ _)); (fail_if_success (with_reducible show AOps _ _ _ _ _ _)); (fail_if_success (with_reducible show HeadT _ _ _ _ _ _ _ _ _ _)); (first | (show AWp _ _ _ _ _) | (show AOps _ _ _ _ _ _) | refine st_go rfl rfl rfl rfl rfl rfl rfl ?_)))
    simp only [deD]
    rw [beq_eq_false_iff_ne.2 (by omega)]
    rfl
  | ok n =>
    obtain ⟨x, c, ks, rfl⟩ := tr_node (wi_ok.1 hr)
    repeat' (first | ((with_reducible show AWp _ _ _ _ _); (first | refine awp_seq ?_ | refine awp_block ?_ | refine awp_skip ?_ | refine awp_exit ?_ | refine awp_scope ?_ | refine awp_label ?_ | refine awp_run ty_ok rfl sd ?_ | refine awp_ret ⟨_, _, rfl, rfl, ?_⟩ | refine awp_ret ⟨_, rfl, ?_⟩ | ((refine awp_cond (ty := ty) rfl (fun hc => ?_) (fun hc => ?_)) <;> (try simp only [nms, reduceCtorEq] at hc) <;> (try (exfalso; omega))) | refine awp_anyS 5 4 ty_ok mixed rfl rfl rfl rfl rfl rfl rfl rfl rfl (by kernel_rfl) ?_)) | ((with_reducible show AOps _ _ _ _ _ _); (first | refine aops_nil ?_ | refine aops_go ty_ok rfl rfl sd ?_ | refine aops_gate ty_ok rfl rfl rfl sd ?_ | refine aops_callE (ty := ty) rfl rfl rfl rfl rfl rfl rfl (c_rwithin_at _ 60 (by omega) b hb hr) rfl ?_ | refine aops_litE ty_ok rfl rfl rfl rfl rfl rfl rfl rfl rfl rfl rfl rfl ?_ | refine aops_litA ty_ok rfl rfl rfl rfl rfl rfl rfl rfl rfl rfl rfl rfl rfl rfl rfl rfl ?_ | refine aops_buildArr ty_ok rfl rfl rfl rfl rfl rfl rfl rfl rfl rfl ?_ | refine aops_indexArr ty_ok rfl rfl rfl rfl rfl rfl rfl rfl rfl rfl sd ?_ | refine aops_cutE ty_ok rfl rfl rfl rfl rfl rfl rfl rfl rfl sd rfl ?_ | ((fail_if_success (refine aops_known rfl ?_)); (refine aops_split ty_ok rfl rfl rfl rfl rfl rfl (fun hc => ⟨?_, ?_⟩) (fun hc => ⟨?_, ?_⟩)) <;> (try simp only [nms, reduceCtorEq] at hc) <;> (try (exfalso; omega)) <;> (try exact sd)))) | ((with_reducible show HeadT _ _ _ _ _ _ _ _ _ _); (first | refine head_end ?_ | refine head_goP ty_ok rfl rfl sd ?_ | refine head_gate ty_ok rfl rfl rfl sd ?_ | refine head_callE (ty := ty) rfl rfl rfl rfl rfl rfl rfl (c_rwithin_at _ 60 (by omega) b hb hr) rfl ?_ | ((fail_if_success (refine head_known rfl ?_)); (refine head_split ty_ok rfl rfl rfl rfl (fun hc => ⟨?_, ?_⟩) (fun hc => ⟨?_, ?_⟩)) <;> (try simp only [nms, reduceCtorEq] at hc) <;> (try (exfalso; omega)) <;> (try exact sd)))) | ((fail_if_success (with_reducible show AWp _ _ _ _ _)); (fail_if_success (with_reducible show AOps _ _ _ _ _ _)); (fail_if_success (with_reducible show HeadT _ _ _ _ _ _ _ _ _ _)); (first | (show AWp _ _ _ _ _) | (show AOps _ _ _ _ _ _) | refine st_go rfl rfl rfl rfl rfl rfl rfl ?_)))
    rfl
theorem c_rdeep_at (Γ : Env) (b : List UInt8) (hb : b.length ≤ 1000000) {v : Ex Dat} (h : wiF 60 b = v) : ACalls Tryz.prog Γ 33 [.sl none (bys b)] (fun r => r = .d (deD v)) := by
  subst h
  exact c_rdeep Γ b hb
theorem isRPut3 : IsFn Tryz.prog 25 Tryz.f25 := ⟨Tryz.func25, by decide, rfl⟩
theorem c_rput3 (Γ : Env) (x : UInt8) (ps : List (List UInt8)) (hp : ps.length ≤ 1099511627) (hl : ps.flatten.length ≤ 2147483647) : ACalls Tryz.prog Γ 25 [.int .u8 x.toNat, .sl none (byss ps)] (fun r => r = .own none 5 (bys (putF x ps.flatten))) := by
  refine acalls_of ty_ok isRPut3 rfl rfl ?_
  repeat' (first | ((with_reducible show AWp _ _ _ _ _); (first | refine awp_seq ?_ | refine awp_block ?_ | refine awp_skip ?_ | refine awp_exit ?_ | refine awp_scope ?_ | refine awp_label ?_ | refine awp_run ty_ok rfl sd ?_ | refine awp_ret ⟨_, _, rfl, rfl, ?_⟩ | refine awp_ret ⟨_, rfl, ?_⟩ | ((refine awp_cond (ty := ty) rfl (fun hc => ?_) (fun hc => ?_)) <;> (try simp only [nms, reduceCtorEq] at hc) <;> (try (exfalso; omega))))) | ((with_reducible show AOps _ _ _ _ _ _); (first | refine aops_nil ?_ | refine aops_go ty_ok rfl rfl sd ?_ | refine aops_gate ty_ok rfl rfl rfl sd ?_ | refine aops_litE ty_ok rfl rfl rfl rfl rfl rfl rfl rfl rfl rfl rfl rfl ?_ | refine aops_litA ty_ok rfl rfl rfl rfl rfl rfl rfl rfl rfl rfl rfl rfl rfl rfl rfl rfl ?_ | refine aops_buildArr ty_ok rfl rfl rfl rfl rfl rfl rfl rfl rfl rfl ?_ | refine aops_indexArr ty_ok rfl rfl rfl rfl rfl rfl rfl rfl rfl rfl sd ?_ | refine aops_cutE ty_ok rfl rfl rfl rfl rfl rfl rfl rfl rfl sd rfl ?_ | ((fail_if_success (refine aops_known rfl ?_)); (refine aops_split ty_ok rfl rfl rfl rfl rfl rfl (fun hc => ⟨?_, ?_⟩) (fun hc => ⟨?_, ?_⟩)) <;> (try simp only [nms, reduceCtorEq] at hc) <;> (try (exfalso; omega)) <;> (try exact sd)))) | ((fail_if_success (with_reducible show AWp _ _ _ _ _)); (fail_if_success (with_reducible show AOps _ _ _ _ _ _)); (first | (show AWp _ _ _ _ _) | (show AOps _ _ _ _ _ _))))
  refine awp_nilrow 5 5 rfl ?_
  refine awp_loopR (G := { k : Nat // k ≤ ps.length }) (fun k => ⟨Tryz.f25.ntmps, [(0, .d (.int .u8 x.toNat)), (1, .d (.sl none (byss ps))), (5, .ref 0), (6, .d (.int .i64 k.1))], [(0, .row none 5 (bys (ps.take k.1).flatten))], 1⟩) (fun k => ps.length - k.1) ⟨0, Nat.zero_le _⟩ [(0, 0)]
    (SubR.mk' rfl rfl ⟨⟨_, rfl, rfl⟩, ⟨_, rfl, rfl⟩, ⟨_, rfl, rfl⟩, ⟨_, rfl, rfl⟩, trivial⟩ ⟨⟨_, _, rfl, rfl, rfl⟩, trivial⟩) ?_
  rintro ⟨k, hk⟩
  dsimp only
  rcases Nat.lt_or_ge k ps.length with hkl | hkl
  · have he : ((byss ps).getD (k : Int).toNat default).els = bys ps[k] := by
      rw [Int.toNat_natCast, els_byss]
      simp [hkl]
    have hs := sumL_take ps k hkl
    have hs2 := sumL_le ps (k + 1)
    have hfl := sumL_flat (ps.take k)
    have hfl2 := sumL_flat ps
    have hel : (((byss ps).getD k default).els).length = ps[k].length := by
      rw [Int.toNat_natCast] at he
      rw [he, bys_len]
    repeat' (first | ((with_reducible show AWp _ _ _ _ _); (first | refine awp_seq ?_ | refine awp_block ?_ | refine awp_skip ?_ | refine awp_exit ?_ | refine awp_scope ?_ | refine awp_label ?_ | refine awp_run ty_ok rfl sd ?_ | refine awp_ret ⟨_, _, rfl, rfl, ?_⟩ | refine awp_ret ⟨_, rfl, ?_⟩ | ((refine awp_cond (ty := ty) rfl (fun hc => ?_) (fun hc => ?_)) <;> (try simp only [nms, reduceCtorEq] at hc) <;> (try (exfalso; omega))))) | ((with_reducible show AOps _ _ _ _ _ _); (first | refine aops_nil ?_ | refine aops_go ty_ok rfl rfl sd ?_ | refine aops_gate ty_ok rfl rfl rfl sd ?_ | refine aops_litE ty_ok rfl rfl rfl rfl rfl rfl rfl rfl rfl rfl rfl rfl ?_ | refine aops_litA ty_ok rfl rfl rfl rfl rfl rfl rfl rfl rfl rfl rfl rfl rfl rfl rfl rfl ?_ | refine aops_buildArr ty_ok rfl rfl rfl rfl rfl rfl rfl rfl rfl rfl ?_ | refine aops_indexArr ty_ok rfl rfl rfl rfl rfl rfl rfl rfl rfl rfl sd ?_ | refine aops_cutE ty_ok rfl rfl rfl rfl rfl rfl rfl rfl rfl sd rfl ?_ | ((fail_if_success (refine aops_known rfl ?_)); (refine aops_split ty_ok rfl rfl rfl rfl rfl rfl (fun hc => ⟨?_, ?_⟩) (fun hc => ⟨?_, ?_⟩)) <;> (try simp only [nms, reduceCtorEq] at hc) <;> (try (exfalso; omega)) <;> (try exact sd)))) | ((fail_if_success (with_reducible show AWp _ _ _ _ _)); (fail_if_success (with_reducible show AOps _ _ _ _ _ _)); (first | (show AWp _ _ _ _ _) | (show AOps _ _ _ _ _ _))))
    refine ⟨⟨k + 1, hkl⟩, [(1, 0)], SubR.mk' rfl rfl ⟨⟨_, rfl, rfl⟩, ⟨_, rfl, rfl⟩, ⟨_, rfl, rfl⟩, ⟨_, rfl, rfl⟩, trivial⟩ ⟨⟨_, _, rfl, rfl, congrArg (AO.row none 5) ?_⟩, trivial⟩, by simp only; omega⟩
    rw [he, List.take_succ_eq_append_getElem hkl, List.flatten_append, bys_app]
    simp
  · have hke : k = ps.length := by omega
    subst hke
    rw [List.take_length]
    repeat' (first | ((with_reducible show AWp _ _ _ _ _); (first | refine awp_seq ?_ | refine awp_block ?_ | refine awp_skip ?_ | refine awp_exit ?_ | refine awp_scope ?_ | refine awp_label ?_ | refine awp_run ty_ok rfl sd ?_ | refine awp_ret ⟨_, _, rfl, rfl, ?_⟩ | refine awp_ret ⟨_, rfl, ?_⟩ | ((refine awp_cond (ty := ty) rfl (fun hc => ?_) (fun hc => ?_)) <;> (try simp only [nms, reduceCtorEq] at hc) <;> (try (exfalso; omega))))) | ((with_reducible show AOps _ _ _ _ _ _); (first | refine aops_nil ?_ | refine aops_go ty_ok rfl rfl sd ?_ | refine aops_gate ty_ok rfl rfl rfl sd ?_ | refine aops_callE (ty := ty) rfl rfl rfl rfl rfl rfl rfl (c_rput _ x ps.flatten hl) rfl ?_ | refine aops_litE ty_ok rfl rfl rfl rfl rfl rfl rfl rfl rfl rfl rfl rfl ?_ | refine aops_litA ty_ok rfl rfl rfl rfl rfl rfl rfl rfl rfl rfl rfl rfl rfl rfl rfl rfl ?_ | refine aops_buildArr ty_ok rfl rfl rfl rfl rfl rfl rfl rfl rfl rfl ?_ | refine aops_indexArr ty_ok rfl rfl rfl rfl rfl rfl rfl rfl rfl rfl sd ?_ | refine aops_cutE ty_ok rfl rfl rfl rfl rfl rfl rfl rfl rfl sd rfl ?_ | ((fail_if_success (refine aops_known rfl ?_)); (refine aops_split ty_ok rfl rfl rfl rfl rfl rfl (fun hc => ⟨?_, ?_⟩) (fun hc => ⟨?_, ?_⟩)) <;> (try simp only [nms, reduceCtorEq] at hc) <;> (try (exfalso; omega)) <;> (try exact sd)))) | ((fail_if_success (with_reducible show AWp _ _ _ _ _)); (fail_if_success (with_reducible show AOps _ _ _ _ _ _)); (first | (show AWp _ _ _ _ _) | (show AOps _ _ _ _ _ _))))
    rfl
end Go.Proofs.YtbbakpmedpcigaaGreatDoor
