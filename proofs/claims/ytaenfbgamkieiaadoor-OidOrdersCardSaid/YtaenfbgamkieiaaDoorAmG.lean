/- The abstract machine, seventh part: what it means that code, or operations in a row, go through; rules for code. No program. -/
import Derived.Test.YtaenfbgamkieiaaDoorAmF
namespace Go.Am
open Go.RowKit
set_option linter.unusedSimpArgs false
set_option linter.unusedVariables false

/-- What is known of every world of a run: it stays true while the blocks below a bound stay. -/
structure Env where
  ok : World → Prop
  lim : Nat
  lim_le : ∀ w, ok w → lim ≤ w.heap.size
  stable : ∀ w w', ok w → w'.os = w.os → w'.tape = w.tape → w.heap.size ≤ w'.heap.size → (∀ b, b < lim → w'.heap[b]? = w.heap[b]?) → ok w'
  L : Nat
def Env.any : Env := ⟨fun _ => True, 0, fun _ _ => Nat.zero_le _, fun _ _ _ _ _ _ _ => trivial, 0⟩
/-- The same, behind so many numbers of objects. -/
def Env.at (Γ : Env) (n : Nat) : Env := { Γ with L := n }

structure Base0 (Γ : Env) (C : Ct) : Prop where
  ok : Γ.ok C.w
  lim : Γ.lim ≤ C.B
  B : C.B ≤ C.w.heap.size
structure Base (Γ : Env) (C : Ct) : Prop extends Base0 Γ C where
  ids : ∀ i, C.ok i = true → i < Γ.L

theorem Evo.below {C0 C : Ct} (hB : C0.B = C0.w.heap.size) (e : Evo C0 C) : Below C0.w.heap.size C0.w C.w :=
  ⟨e.os, e.tape, e.output, e.size, fun k hk => e.low k (by rw [hB]; exact hk)⟩
theorem Base0.up {Γ : Env} {C : Ct} (b : Base0 Γ C) {n : Nat} (h : ∀ i, C.ok i = true → i < n) : Base (Γ.at n) C := ⟨⟨b.ok, b.lim, b.B⟩, h⟩
theorem Base.evo {Γ : Env} {C0 C : Ct} (b : Base Γ C0) (e : Evo C0 C) : Base0 Γ C :=
  ⟨Γ.stable _ _ b.ok e.os e.tape e.size (fun k hk => e.low k (Nat.lt_of_lt_of_le hk b.lim)), by rw [e.B]; exact b.lim, by rw [e.B]; exact Nat.le_trans b.B e.size⟩

def post (C0 : Ct) (Q : Exit → St → Prop) : Exit → Act → World → Prop := fun e a w => ∃ σ C, C.w = w ∧ Models σ a C ∧ Evo C0 C ∧ Q e σ

def AWp (P : Program) (Γ : Env) (c : Code) (Q : Exit → St → Prop) (σ : St) : Prop :=
  ∀ (C0 : Ct) (a : Act) (C : Ct), Base Γ C0 → Evo C0 C → Models σ a C → c.wp P (post C0 Q) a C.w
def AOps (P : Program) (Γ : Env) (ops : List Oper) (Q : Exit → St → Prop) (rest : List Oper) (σ : St) : Prop :=
  ∀ (C0 : Ct) (a : Act) (C : Ct), Base Γ C0 → Evo C0 C → Models σ a C → wpList P ops.toArray (post C0 Q) rest a C.w

def AThen (K : St → Prop) (Q : Exit → St → Prop) : Exit → St → Prop
  | .normal, σ => K σ
  | e, σ => Q e σ
def AIn (id : Nat) (Q : Exit → St → Prop) : Exit → St → Prop
  | .exit id', σ => match Nat.beq id' id with
    | true => Q .normal σ
    | false => Q (.exit id') σ
  | e, σ => Q e σ

section
variable {P : Program} {Γ : Env} {Q : Exit → St → Prop} {σ : St}

theorem awp_mono {c : Code} {Q' : Exit → St → Prop} (h : AWp P Γ c Q σ) (hq : ∀ e σ, Q e σ → Q' e σ) : AWp P Γ c Q' σ :=
  fun C0 a C b e m => Code.wp_mono (fun ex a' w' ⟨σ', C', h1, h2, h3, h4⟩ => ⟨σ', C', h1, h2, h3, hq _ _ h4⟩) (h C0 a C b e m)

theorem awp_skip (h : Q .normal σ) : AWp P Γ .skip Q σ := fun C0 a C b e m => wp_skip ⟨σ, C, rfl, m, e, h⟩
theorem awp_ret (h : Q .ret σ) : AWp P Γ .ret Q σ := fun C0 a C b e m => wp_ret ⟨σ, C, rfl, m, e, h⟩
theorem awp_exit {id : Nat} (h : Q (.exit id) σ) : AWp P Γ (.exit id) Q σ := fun C0 a C b e m => wp_exit ⟨σ, C, rfl, m, e, h⟩
theorem awp_seq {x y : Code} (h : AWp P Γ x (AThen (AWp P Γ y Q) Q) σ) : AWp P Γ (.seq x y) Q σ := fun C0 a C b e m => by
  refine wp_seq (Code.wp_mono (fun ex a' w' hh => ?_) (h C0 a C b e m))
  obtain ⟨σ', C', rfl, h2, h3, h4⟩ := hh
  cases ex with
  | normal => exact h4 C0 a' C' b h3 h2
  | _ => exact ⟨σ', C', rfl, h2, h3, h4⟩
theorem awp_block {id : Nat} {c : Code} (h : AWp P Γ c (AIn id Q) σ) : AWp P Γ (.block id c) Q σ := fun C0 a C b e m => by
  refine wp_block (Code.wp_mono (fun ex a' w' hh => ?_) (h C0 a C b e m))
  obtain ⟨σ', C', rfl, h2, h3, h4⟩ := hh
  cases ex with
  | exit id' =>
    simp only [AIn] at h4
    simp only [Exit.inBlock]
    by_cases hid : id' = id
    · subst hid
      rw [if_pos rfl]
      simp only [Nat.beq_refl] at h4
      exact ⟨σ', C', rfl, h2, h3, by simpa using h4⟩
    · have hb : Nat.beq id' id = false := by
        cases hb : Nat.beq id' id with
        | false => rfl
        | true => exact absurd (Nat.eq_of_beq_eq_true hb) hid
      rw [if_neg hid]
      simp only [hb] at h4
      exact ⟨σ', C', rfl, h2, h3, h4⟩
  | _ => exact ⟨σ', C', rfl, h2, h3, h4⟩
theorem awp_cond {ty : TypeId → Option TI} {x : Operand} {y z : Code} {b : Bool} (hx : σ.ev ty 0 x = some (.d (.bool b))) (ht : b = true → AWp P Γ y Q σ) (hf : b = false → AWp P Γ z Q σ) : AWp P Γ (.cond x y z) Q σ :=
  fun C0 a C hb e m => wp_cond_split (Rep.bool_inv (ev_sound m hx)) (fun h => ht h C0 a C hb e m) (fun h => hf h C0 a C hb e m)

/-- A loop, with a measure on something that stands in no slot. -/
theorem wp_loop_ghost {G : Type} {c : Code} {R : Exit → Act → World → Prop} {a : Act} {w : World} (I : G → Act → World → Prop) (μ : G → Nat) (g : G) (h₀ : I g a w)
    (round : ∀ g a w, I g a w → c.wp P (Exit.then (fun a' w' => ∃ g', I g' a' w' ∧ μ g' < μ g) R) a w) : (Code.loop c).wp P R a w := by
  intro b k cs
  have key : ∀ n g a w, μ g = n → I g a w → ∃ e a' w', R e a' w' ∧ Arrives P (lone (b.at a (.code c :: .inLoop c :: k)) cs w) b k cs e a' w' := by
    intro n
    induction n using Nat.strongRecOn with
    | _ n ih =>
      intro g a w hn hI
      obtain ⟨e, a₁, w₁, hq, harr⟩ := round g a w hI b (.inLoop c :: k) cs
      cases e with
      | normal =>
        obtain ⟨g₁, hI₁, hlt⟩ := hq
        obtain ⟨e₂, a₂, w₂, hq₂, harr₂⟩ := ih (μ g₁) (hn ▸ hlt) g₁ a₁ w₁ rfl hI₁
        exact ⟨e₂, a₂, w₂, hq₂, .of_steps (Steps.trans harr (.one step_inLoop)) harr₂⟩
      | exit id => exact ⟨_, a₁, w₁, hq, .pass (x := .inLoop c) rfl (fun _ _ => .inl (by simp)) harr⟩
      | goto l => exact ⟨_, a₁, w₁, hq, .pass (x := .inLoop c) rfl (fun _ _ => .inl (by simp)) harr⟩
      | ret => exact ⟨_, a₁, w₁, hq, .pass (x := .inLoop c) rfl (fun _ _ => .inl (by simp)) harr⟩
      | panic ch => exact ⟨_, a₁, w₁, hq, .pass (x := .inLoop c) rfl (fun _ _ => .inl (by simp)) harr⟩
      | outgrown => exact ⟨_, a₁, w₁, hq, .pass (x := .inLoop c) rfl (fun _ _ => .inl (by simp)) harr⟩
  obtain ⟨e, a', w', hq, harr⟩ := key _ g a w rfl h₀
  exact ⟨e, a', w', hq, .of_steps (.one step_loop) harr⟩

/-- A state that knows less. -/
structure Sub (σ σ' : St) : Prop where
  sz : σ'.sz = σ.sz
  nx : σ'.nx = σ.nx
  tm : ∀ t x, σ'.get t = some x → σ.get t = some x
  ob : ∀ i o, σ'.obj i = some o → σ.obj i = some o
theorem Models.sub {σ σ' : St} {a : Act} {C : Ct} (h : Models σ a C) (s : Sub σ σ') : Models σ' a C :=
  ⟨h.defers, by rw [s.sz]; exact h.sz, by rw [s.nx]; exact h.nx, fun t x ht => by rw [s.sz]; exact h.tm t x (s.tm t x ht), fun i o hi => h.ob i o (s.ob i o hi),
   fun i j o o' g hi hj => h.apart i j o o' g (s.ob i o hi) (s.ob j o' hj)⟩
def SubT (σ : St) : List (Nat × AV) → Prop
  | [] => True
  | (t, x) :: r => σ.get t = some x ∧ SubT σ r
def SubO (σ : St) : List (Nat × AO) → Prop
  | [] => True
  | (i, o) :: r => σ.obj i = some o ∧ SubO σ r
theorem SubT.get {σ : St} : ∀ {l : List (Nat × AV)}, SubT σ l → ∀ t x, look t l = some x → σ.get t = some x
  | [], _, t, x, h => by cases h
  | (k, y) :: r, hs, t, x, h => by
    rw [look_cons] at h
    split at h
    · rename_i e
      subst e
      cases h
      exact hs.1
    · exact hs.2.get t x h
theorem SubO.get {σ : St} : ∀ {l : List (Nat × AO)}, SubO σ l → ∀ i o, look i l = some o → σ.obj i = some o
  | [], _, t, x, h => by cases h
  | (k, y) :: r, hs, t, x, h => by
    rw [look_cons] at h
    split at h
    · rename_i e
      subst e
      cases h
      exact hs.1
    · exact hs.2.get t x h
theorem Sub.mk' {sz nx : Nat} {tm : List (Nat × AV)} {ob : List (Nat × AO)} (h1 : σ.sz = sz) (h2 : σ.nx = nx) (h3 : SubT σ tm) (h4 : SubO σ ob) : Sub σ ⟨sz, tm, ob, nx⟩ :=
  ⟨h1.symm, h2.symm, h3.get, h4.get⟩
theorem awp_sub {c : Code} {σ' : St} (s : Sub σ σ') (h : AWp P Γ c Q σ') : AWp P Γ c Q σ := fun C0 a C b e m => h C0 a C b e (m.sub s)

/-- A loop: a family of states, a measure; each round starts in one of them and ends in one that is lower. -/
theorem awp_loop {G : Type} {c : Code} (S : G → St) (μ : G → Nat) (g : G) (h0 : Sub σ (S g)) (round : ∀ g, AWp P Γ c (AThen (fun σ' => ∃ g', Sub σ' (S g') ∧ μ g' < μ g) Q) (S g)) : AWp P Γ (.loop c) Q σ := fun C0 a C b e m => by
  refine wp_loop_ghost (G := G) (fun g a w => ∃ C, C.w = w ∧ Models (S g) a C ∧ Evo C0 C) μ g ⟨C, rfl, m.sub h0, e⟩ (fun g a w ⟨C, hw, m, e⟩ => ?_)
  subst hw
  refine Code.wp_mono (fun ex a' w' hh => ?_) (round g C0 a C b e m)
  obtain ⟨σ', C', rfl, h2, h3, h4⟩ := hh
  cases ex with
  | normal =>
    obtain ⟨g', hs, hlt⟩ := h4
    exact ⟨g', ⟨C', rfl, h2.sub hs, h3⟩, hlt⟩
  | _ => exact ⟨σ', C', rfl, h2, h3, h4⟩

/-! ### Operations in a row -/
theorem awp_region {id : Nat} {l : List Oper} (h : AOps P Γ l Q l σ) : AWp P Γ (.region id l.toArray false) Q σ := fun C0 a C b e m => wp_region_lit (h C0 a C b e m)
theorem aops_nil {ops : List Oper} (h : Q .normal σ) : AOps P Γ ops Q [] σ := fun C0 a C b e m => wpList_nil ⟨σ, C, rfl, m, e, h⟩

theorem Rep.un_inv {c : Ct} {v : Value} (h : Rep c .un v) : v = Go.undef := by cases h; rfl
def wantedA (ops : List Oper) (σ : St) (o : Oper) : Option Bool := match o.guard with
  | none => some true
  | some (j, want) => match ops[j]? with
    | some oj => match oj.dst with
      | some t => match σ.get t with
        | some (.d (.bool b)) => match want with
          | true => some b
          | false => some (!b)
        | some .un => some false
        | _ => none
      | none => none
    | none => none

theorem wantedA_sound {ops : List Oper} {o : Oper} {b : Bool} {a : Act} {C : Ct} (m : Models σ a C) (h : wantedA ops σ o = some b) : Region.wanted o (yielded ops.toArray a.tmps) = b := by
  unfold wantedA at h
  unfold Region.wanted
  split at h
  · rename_i hg; rw [hg]; cases h; rfl
  · rename_i j want hg
    rw [hg]
    split at h
    · rename_i oj hj
      split at h
      · rename_i t ht
        split at h
        · rename_i bb hv
          have hr := (m.tm t _ hv)
          have hbv := Rep.bool_inv hr.2
          have hy : yielded ops.toArray a.tmps j = some bb := by
            have hlt : t < a.tmps.size := by rw [m.sz]; exact hr.1
            simp only [yielded]
            simp [hj, ht]
            have := hbv
            simp [hlt] at this
            simp [hlt, this]
          simp only [hy]
          split at h
          · cases h; cases b <;> rfl
          · cases h; cases bb <;> rfl
        · rename_i hv
          cases h
          have hr := (m.tm t _ hv)
          have hbv : a.tmps.getD t undef = undef := Rep.un_inv hr.2
          have hy : yielded ops.toArray a.tmps j = none := by
            have hlt : t < a.tmps.size := by rw [m.sz]; exact hr.1
            simp only [yielded]
            simp [hj, ht]
            simp [hlt] at hbv
            simp [hlt, hbv, undef]
          simp only [hy]
          cases want <;> rfl
        · cases h
      · cases h
    · cases h

/-- One operation is carried out, and leaves a state. -/
theorem aops_step {ops rest : List Oper} {o : Oper} (hw : wantedA ops σ o = some true)
    (h : ∀ (C0 : Ct) (a : Act) (C : Ct) (K : Act → World → Prop) (R : Exit → Act → World → Prop), Base Γ C0 → Evo C0 C → Models σ a C →
      (∀ a' C' σ', Models σ' a' C' → Evo C0 C' → AOps P Γ ops Q rest σ' → K a' C'.w) → o.wp P a C.w K R) : AOps P Γ ops Q (o :: rest) σ := fun C0 a C b e m => by
  unfold wpList
  rw [if_pos (wantedA_sound m hw)]
  exact .inl (h C0 a C _ _ b e m (fun a' C' σ' m' e' h' => h' C0 a' C' b e' m'))

theorem aops_skip {ops rest : List Oper} {o : Oper} (hw : wantedA ops σ o = some false) (hd : ∀ d, o.dst = some d → d < σ.sz) (h : AOps P Γ ops Q rest (σ.put o.dst .un)) : AOps P Γ ops Q (o :: rest) σ := fun C0 a C b e m => by
  unfold wpList
  rw [if_neg (by rw [wantedA_sound m hw]; simp)]
  exact h C0 _ C b e (m.put .un hd)

/-- A guard that is not known: both ways, the guard's slot then known. -/
theorem aops_guard {ops rest : List Oper} {o : Oper} {j : Nat} {want : Bool} {oj : Oper} {t : Nat} {b : Bool} (hg : o.guard = some (j, want)) (hj : ops[j]? = some oj) (ht : oj.dst = some t) (hv : σ.get t = some (.d (.bool b)))
    (h1 : b = true → AOps P Γ ops Q (o :: rest) (σ.put (some t) (.d (.bool true)))) (h2 : b = false → AOps P Γ ops Q (o :: rest) (σ.put (some t) (.d (.bool false)))) : AOps P Γ ops Q (o :: rest) σ := fun C0 a C bb e m => by
  have key : ∀ b', b = b' → Models (σ.put (some t) (.d (.bool b'))) a C := by
    rintro b' rfl
    refine ⟨m.defers, m.sz, m.nx, fun s x hs => ?_, m.ob, m.apart⟩
    rw [St.get, St.put, look_cons] at hs
    split at hs
    · rename_i e'
      subst e'
      cases hs
      exact m.tm _ _ hv
    · exact m.tm s x hs
  cases hb : b with
  | true => exact h1 hb C0 a C bb e (key true hb)
  | false => exact h2 hb C0 a C bb e (key false hb)

theorem upon_value {o : Oper} {a : Act} {w w' : World} {v : Value} {K : Act → World → Prop} {R : Exit → Act → World → Prop} (h : (execOp a.eval o).run P w = .ok (.value v) w') (hk : K (a.put o.dst v) w') : o.wp P a w K R := by
  unfold Oper.wp
  rw [h]
  exact hk
theorem upon_skip {o : Oper} {a : Act} {w w' : World} {K : Act → World → Prop} {R : Exit → Act → World → Prop} (h : (execOp a.eval o).run P w = .ok .skip w') (hk : K (a.put o.dst undef) w') : o.wp P a w K R := by
  unfold Oper.wp
  rw [h]
  exact hk

def dstOk (σ : St) (dst : Option Tmp) : Bool := match dst with
  | none => true
  | some d => Nat.blt d σ.sz
theorem dstOk_spec {dst : Option Tmp} (h : dstOk σ dst = true) : ∀ d, dst = some d → d < σ.sz := by
  rintro d rfl
  simpa [dstOk, Nat.blt_eq] using h

theorem aops_pure {ty : TypeId → Option TI} (hT : TyOk P ty) {ops rest : List Oper} {o : Oper} {p : Prop} {y : AV} (hw : wantedA ops σ o = some true) (hd : dstOk σ o.dst = true) (h : pureOp ty σ o.type o.op = some (p, y)) (hp : p)
    (k : AOps P Γ ops Q rest (σ.put o.dst y)) : AOps P Γ ops Q (o :: rest) σ :=
  aops_step hw fun C0 a C K R b e m hk => by
    obtain ⟨v, hv, hr⟩ := pureOp_sound hT m h hp
    exact upon_value hv (hk _ C _ (m.put hr (dstOk_spec hd)) e k)
end

/-! ### Objects renumbered -/
def renId (L : Nat) (m : List (Nat × Nat)) (i : Nat) : Option Nat := match look i m with
  | some j => some j
  | none => match Nat.blt i L with
    | true => some i
    | false => none
def ren1 (L : Nat) (m : List (Nat × Nat)) : AV → AV
  | .ref i => match renId L m i with
    | some j => .ref j
    | none => .undef
  | .ptr i off => match renId L m i with
    | some j => .ptr j off
    | none => .undef
  | .elt i ek k => match renId L m i with
    | some j => .elt j ek k
    | none => .undef
  | .d x => .d x
  | .nil ek => .nil ek
  | .un => .un
  | .at_ ek x => .at_ ek x
  | _ => .undef
def renA (L : Nat) (m : List (Nat × Nat)) : AV → AV
  | .agg cs => match (cs.map (ren1 L m)).all (·.one) with
    | true => .agg (cs.map (ren1 L m))
    | false => .undef
  | .tup cs => .tup (cs.map (ren1 L m))
  | .fn f cap => .fn f (cap.map (ren1 L m))
  | x => ren1 L m x
def renO (L : Nat) (m : List (Nat × Nat)) : AO → AO
  | .box t cs => match (cs.map (ren1 L m)).all (·.one) with
    | true => .box t (cs.map (ren1 L m))
    | false => .dead
  | o => o
/-- The old number. -/
def oldId (L : Nat) (i : Nat) : List (Nat × Nat) → Option Nat
  | [] => match Nat.blt i L with
    | true => some i
    | false => none
  | (o, n) :: r => match Nat.beq n i with
    | true => some o
    | false => oldId L i r
/-- A renumbering: each pair is an old number and a new one. -/
def renOk (L nx : Nat) : List (Nat × Nat) → Bool
  | [] => Nat.ble L nx
  | (o, n) :: r => Nat.ble L o && Nat.ble L n && Nat.blt n nx && r.all (fun p => !Nat.beq p.1 o && !Nat.beq p.2 n) && renOk L nx r

theorem renOk_nx {L nx : Nat} : ∀ {m : List (Nat × Nat)}, renOk L nx m = true → L ≤ nx
  | [], h => Nat.le_of_ble_eq_true h
  | (o, n) :: r, h => by
    simp only [renOk, Bool.and_eq_true] at h
    exact renOk_nx h.2
theorem renOk_mem {L nx : Nat} : ∀ {m : List (Nat × Nat)}, renOk L nx m = true → ∀ o n, (o, n) ∈ m → L ≤ o ∧ L ≤ n ∧ n < nx ∧ oldId L n m = some o ∧ look o m = some n
  | [], h, o, n, hm => by cases hm
  | (o', n') :: r, h, o, n, hm => by
    simp only [renOk, Bool.and_eq_true, Nat.ble_eq, Nat.blt_eq, List.all_eq_true, Bool.not_eq_true'] at h
    obtain ⟨⟨⟨⟨h1, h2⟩, h3⟩, h4⟩, h5⟩ := h
    rcases List.mem_cons.1 hm with he | hm'
    · cases he
      exact ⟨h1, h2, h3, by simp [oldId], by simp [look]⟩
    · obtain ⟨g1, g2, g3, g4, g5⟩ := renOk_mem h5 o n hm'
      obtain ⟨k1, k2⟩ := h4 (o, n) hm'
      refine ⟨g1, g2, g3, ?_, ?_⟩
      · have : Nat.beq n' n = false := by
          cases hb : Nat.beq n' n with
          | false => rfl
          | true => rw [Nat.eq_of_beq_eq_true hb] at k2; simp at k2
        simp only [oldId, this]
        exact g4
      · rw [look_cons, if_neg]
        · exact g5
        · intro he
          subst he
          simp at k1
theorem look_mem {α : Type} : ∀ {l : List (Nat × α)} {t : Nat} {x : α}, look t l = some x → (t, x) ∈ l
  | [], t, x, h => by cases h
  | (k, y) :: r, t, x, h => by
    rw [look_cons] at h
    split at h
    · rename_i e
      subst e
      cases h
      exact List.mem_cons_self ..
    · exact List.mem_cons_of_mem _ (look_mem h)
theorem oldId_spec {L i j : Nat} : ∀ {m : List (Nat × Nat)}, oldId L i m = some j → (j, i) ∈ m ∨ (i < L ∧ j = i)
  | [], h => by
    simp only [oldId] at h
    split at h
    · rename_i hl
      cases h
      exact .inr ⟨by simpa [Nat.blt_eq] using hl, rfl⟩
    · cases h
  | (o, n) :: r, h => by
    simp only [oldId] at h
    split at h
    · rename_i hb
      cases h
      rw [Nat.eq_of_beq_eq_true hb]
      exact .inl (List.mem_cons_self ..)
    · rcases oldId_spec h with h | h
      · exact .inl (List.mem_cons_of_mem _ h)
      · exact .inr h
theorem renId_old {L nx : Nat} {m : List (Nat × Nat)} (hm : renOk L nx m = true) {i j : Nat} (h : renId L m i = some j) : (j < L → j = i) ∧ (L ≤ j → oldId L j m = some i) ∧ (j < L ∨ oldId L j m = some i) := by
  unfold renId at h
  split at h
  · rename_i j' hl
    cases h
    obtain ⟨h1, h2, h3, h4, h5⟩ := renOk_mem hm _ _ (look_mem hl)
    exact ⟨fun h => by omega, fun _ => h4, .inr h4⟩
  · split at h
    · rename_i hl
      cases h
      have : i < L := by simpa [Nat.blt_eq] using hl
      exact ⟨fun _ => rfl, fun h => by omega, .inl this⟩
    · cases h

/-- The concrete state, renumbered. -/
def Ct.ren (C : Ct) (L : Nat) (m : List (Nat × Nat)) : Ct :=
  { C with
    ρ := fun i => if i < L then C.ρ i else match oldId L i m with
      | some j => C.ρ j
      | none => C.ρ i
    ok := fun i => if i < L then C.ok i else match oldId L i m with
      | some j => C.ok j
      | none => false }
theorem Ct.ren_at {C : Ct} {L nx : Nat} {m : List (Nat × Nat)} (hm : renOk L nx m = true) {i j : Nat} (h : renId L m i = some j) : (C.ren L m).ρ j = C.ρ i ∧ (C.ren L m).ok j = C.ok i := by
  obtain ⟨h1, h2, _⟩ := renId_old hm h
  by_cases hj : j < L
  · have := h1 hj
    subst this
    simp [Ct.ren, hj]
  · have := h2 (by omega)
    simp [Ct.ren, hj, this]
theorem ren1_sound {C : Ct} {L nx : Nat} {m : List (Nat × Nat)} (hm : renOk L nx m = true) {x : AV} {v : Value} (h : Rep C x v) : Rep (C.ren L m) (ren1 L m x) v := by
  cases h with
  | undef v => exact .undef v
  | un => exact .un
  | d h => exact .d h
  | nil ek => exact .nil ek
  | agg => exact .undef _
  | tup => exact .undef _
  | fn => exact .undef _
  | at_ ek x b off hf hm => exact .at_ ek x b off hf hm
  | ref i hi v hv h1 =>
    simp only [ren1]
    split
    · rename_i j hj
      obtain ⟨e1, e2⟩ := Ct.ren_at (C := C) hm hj
      exact .ref j (e2.trans hi) v (hv.trans e1.symm) h1
    · exact .undef _
  | ptr i off g hi hg =>
    simp only [ren1]
    split
    · rename_i j hj
      obtain ⟨e1, e2⟩ := Ct.ren_at (C := C) hm hj
      exact .ptr j off g (e2.trans hi) (by rw [e1]; exact hg)
    · exact .undef _
  | elt i ek k g hi hg =>
    simp only [ren1]
    split
    · rename_i j hj
      obtain ⟨e1, e2⟩ := Ct.ren_at (C := C) hm hj
      exact .elt j ek k g (e2.trans hi) (by rw [e1]; exact hg)
    · exact .undef _
theorem map_ren {C : Ct} {L nx : Nat} {m : List (Nat × Nat)} (hm : renOk L nx m = true) {cs : List AV} {f : Nat → Value} (hr : ∀ (j : Nat) (y : AV), cs[j]? = some y → Rep C y (f j)) :
    ∀ (j : Nat) (y : AV), (cs.map (ren1 L m))[j]? = some y → Rep (C.ren L m) y (f j) := by
  intro j y hj
  rw [List.getElem?_map] at hj
  obtain ⟨x, hx, rfl⟩ := Option.map_eq_some_iff.1 hj
  exact ren1_sound hm (hr j x hx)
theorem renA_sound {C : Ct} {L nx : Nat} {m : List (Nat × Nat)} (hm : renOk L nx m = true) {x : AV} {v : Value} (h : Rep C x v) : Rep (C.ren L m) (renA L m x) v := by
  cases h with
  | agg cs vs hl h1 hr =>
    simp only [renA]
    split
    · rename_i ha
      exact .agg _ vs (by simpa using hl) (List.all_eq_true.1 ha) (map_ren hm hr)
    · exact .undef _
  | tup cs vs hl hr => exact .tup _ vs (by simpa using hl) (map_ren hm hr)
  | fn f cap vs hl hr => exact .fn f _ vs (by simpa using hl) (map_ren hm hr)
  | undef v => exact ren1_sound hm (.undef v)
  | un => exact ren1_sound hm .un
  | d h => exact ren1_sound hm (.d h)
  | nil ek => exact ren1_sound hm (.nil ek)
  | at_ ek x b off hf hm' => exact ren1_sound hm (.at_ ek x b off hf hm')
  | ref i hi v hv h1 => exact ren1_sound hm (.ref i hi v hv h1)
  | ptr i off g hi hg => exact ren1_sound hm (.ptr i off g hi hg)
  | elt i ek k g hi hg => exact ren1_sound hm (.elt i ek k g hi hg)
theorem renO_sound {C : Ct} {L nx : Nat} {m : List (Nat × Nat)} (hm : renOk L nx m = true) {i j : Nat} (hj : renId L m i = some j) {o : AO} (h : ORep C i o) : ORep (C.ren L m) j (renO L m o) := by
  obtain ⟨e1, e2⟩ := Ct.ren_at (C := C) hm hj
  cases o with
  | box t cs =>
    obtain ⟨hi, g, cur, hρ, hp, hB, hg, hs, h1, hr⟩ := h
    simp only [renO]
    split
    · rename_i ha
      exact ⟨e2.trans hi, g, cur, e1.trans hρ, hp, hB, hg, by simpa using hs, List.all_eq_true.1 ha, map_ren hm hr⟩
    · exact e2.trans hi
  | row ek t xs =>
    obtain ⟨hi, vals, ho, hp, hc⟩ := h
    exact ⟨e2.trans hi, vals, by rw [e1]; exact ho, by rw [e1]; exact hp, hc⟩
  | frz ek xs => exact ⟨e2.trans h.1, by rw [e1]; exact h.2⟩
  | dead => exact e2.trans h

theorem renO_excl {L : Nat} {m : List (Nat × Nat)} {o : AO} (h : (renO L m o).excl = true) : o.excl = true := by
  cases o with
  | box => rfl
  | row => rfl
  | frz => exact h
  | dead => exact h

/-- A state that knows less, its objects renumbered. -/
structure SubR (L : Nat) (m : List (Nat × Nat)) (σ σ' : St) : Prop where
  sz : σ'.sz = σ.sz
  ok : renOk L σ'.nx m = true
  tm : ∀ t x, σ'.get t = some x → ∃ y, σ.get t = some y ∧ renA L m y = x
  ob : ∀ i o, σ'.obj i = some o → ∃ j p, oldId L i m = some j ∧ σ.obj j = some p ∧ renO L m p = o
theorem renId_of_old {L nx : Nat} {m : List (Nat × Nat)} (hm : renOk L nx m = true) {i j : Nat} (h : oldId L i m = some j) : renId L m j = some i := by
  rcases oldId_spec h with h | ⟨h, rfl⟩
  · obtain ⟨_, _, _, _, h5⟩ := renOk_mem hm _ _ h
    simp [renId, h5]
  · have : look j m = none := by
      cases hl : look j m with
      | none => rfl
      | some n =>
        have := (renOk_mem hm _ _ (look_mem hl)).1
        omega
    have hb : Nat.blt j L = true := by simpa [Nat.blt_eq] using h
    simp [renId, this, hb]
theorem Models.ren {σ σ' : St} {a : Act} {C : Ct} (h : Models σ a C) {L : Nat} {m : List (Nat × Nat)} (s : SubR L m σ σ') : Models σ' a (C.ren L m) := by
  refine ⟨h.defers, by rw [s.sz]; exact h.sz, fun i hi => ?_, fun t x ht => ?_, fun i o hi => ?_, fun i j o o' g hi hj ho ho' hg hg' => ?_⟩
  · simp only [Ct.ren] at hi
    split at hi
    · rename_i hlt
      exact Nat.lt_of_lt_of_le hlt (renOk_nx s.ok)
    · rename_i hlt
      split at hi
      · rename_i j hj
        rcases oldId_spec hj with h1 | ⟨h1, _⟩
        · exact (renOk_mem s.ok _ _ h1).2.2.1
        · exact absurd h1 hlt
      · cases hi
  · obtain ⟨y, hy, rfl⟩ := s.tm t x ht
    rw [s.sz]
    exact ⟨(h.tm t y hy).1, renA_sound s.ok (h.tm t y hy).2⟩
  · obtain ⟨j, p, hj, hp, rfl⟩ := s.ob i o hi
    exact renO_sound s.ok (renId_of_old s.ok hj) (h.ob j p hp)
  · obtain ⟨j1, p1, hj1, hp1, rfl⟩ := s.ob i o hi
    obtain ⟨j2, p2, hj2, hp2, rfl⟩ := s.ob j o' hj
    rw [(Ct.ren_at s.ok (renId_of_old s.ok hj1)).1] at hg
    rw [(Ct.ren_at s.ok (renId_of_old s.ok hj2)).1] at hg'
    have := h.apart j1 j2 p1 p2 g hp1 hp2 (renO_excl ho) (renO_excl ho') hg hg'
    subst this
    have e1 := renId_of_old s.ok hj1
    have e2 := renId_of_old s.ok hj2
    rw [e1] at e2
    exact Option.some.inj e2
theorem Ct.ren_evo {C0 C : Ct} {L : Nat} (hL : ∀ i, C0.ok i = true → i < L) (e : Evo C0 C) (m : List (Nat × Nat)) : Evo C0 (C.ren L m) :=
  ⟨e.os, e.tape, e.output, e.size, e.kept, fun i hi => by simp only [Ct.ren]; rw [if_pos (hL i hi)]; exact e.ok i hi, fun i hi => by simp only [Ct.ren]; rw [if_pos (hL i hi)]; exact e.ρ i hi, e.B, e.low, e.prlow⟩

def SubRT (L : Nat) (m : List (Nat × Nat)) (σ : St) : List (Nat × AV) → Prop
  | [] => True
  | (t, x) :: r => (∃ y, σ.get t = some y ∧ renA L m y = x) ∧ SubRT L m σ r
def SubRO (L : Nat) (m : List (Nat × Nat)) (σ : St) : List (Nat × AO) → Prop
  | [] => True
  | (i, o) :: r => (∃ j p, oldId L i m = some j ∧ σ.obj j = some p ∧ renO L m p = o) ∧ SubRO L m σ r
theorem SubRT.get {L : Nat} {m : List (Nat × Nat)} {σ : St} : ∀ {l : List (Nat × AV)}, SubRT L m σ l → ∀ t x, look t l = some x → ∃ y, σ.get t = some y ∧ renA L m y = x
  | [], _, t, x, h => by cases h
  | (k, y) :: r, hs, t, x, h => by
    rw [look_cons] at h
    split at h
    · rename_i e
      subst e
      cases h
      exact hs.1
    · exact hs.2.get t x h
theorem SubRO.get {L : Nat} {m : List (Nat × Nat)} {σ : St} : ∀ {l : List (Nat × AO)}, SubRO L m σ l → ∀ i o, look i l = some o → ∃ j p, oldId L i m = some j ∧ σ.obj j = some p ∧ renO L m p = o
  | [], _, t, x, h => by cases h
  | (k, y) :: r, hs, t, x, h => by
    rw [look_cons] at h
    split at h
    · rename_i e
      subst e
      cases h
      exact hs.1
    · exact hs.2.get t x h
theorem SubR.mk' {σ : St} {L sz nx : Nat} {m : List (Nat × Nat)} {tm : List (Nat × AV)} {ob : List (Nat × AO)} (h1 : σ.sz = sz) (h2 : renOk L nx m = true) (h3 : SubRT L m σ tm) (h4 : SubRO L m σ ob) : SubR L m σ ⟨sz, tm, ob, nx⟩ :=
  ⟨h1.symm, h2, h3.get, h4.get⟩
section
variable {P : Program} {Γ : Env} {Q : Exit → St → Prop} {σ : St}
theorem awp_ren {c : Code} {σ' : St} (m : List (Nat × Nat)) (s : SubR Γ.L m σ σ') (h : AWp P Γ c Q σ') : AWp P Γ c Q σ := fun C0 a C b e md => h C0 a (C.ren Γ.L m) b (Ct.ren_evo b.ids e m) (md.ren s)
theorem aops_ren {ops rest : List Oper} {σ' : St} (m : List (Nat × Nat)) (s : SubR Γ.L m σ σ') (h : AOps P Γ ops Q rest σ') : AOps P Γ ops Q rest σ := fun C0 a C b e md => h C0 a (C.ren Γ.L m) b (Ct.ren_evo b.ids e m) (md.ren s)

/-- A loop whose objects are renumbered at the end of each round. -/
theorem awp_loopR {G : Type} {c : Code} (S : G → St) (μ : G → Nat) (g : G) (m0 : List (Nat × Nat)) (h0 : SubR Γ.L m0 σ (S g)) (round : ∀ g, AWp P Γ c (AThen (fun σ' => ∃ g' m, SubR Γ.L m σ' (S g') ∧ μ g' < μ g) Q) (S g)) : AWp P Γ (.loop c) Q σ := fun C0 a C b e md => by
  refine wp_loop_ghost (G := G) (fun g a w => ∃ C, C.w = w ∧ Models (S g) a C ∧ Evo C0 C) μ g ⟨C.ren Γ.L m0, rfl, md.ren h0, Ct.ren_evo b.ids e m0⟩ (fun g a w ⟨C, hw, m, e⟩ => ?_)
  subst hw
  refine Code.wp_mono (fun ex a' w' hh => ?_) (round g C0 a C b e m)
  obtain ⟨σ', C', rfl, h2, h3, h4⟩ := hh
  cases ex with
  | normal =>
    obtain ⟨g', m', hs, hlt⟩ := h4
    exact ⟨g', ⟨C'.ren Γ.L m', rfl, h2.ren hs, Ct.ren_evo b.ids h3 m'⟩, hlt⟩
  | _ => exact ⟨σ', C', rfl, h2, h3, h4⟩
end
end Go.Am
