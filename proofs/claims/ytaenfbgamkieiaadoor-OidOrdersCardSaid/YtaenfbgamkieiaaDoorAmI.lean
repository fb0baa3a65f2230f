/- The abstract machine, ninth part: stores; slices of the walk's own. No program. -/
import Derived.Test.YtaenfbgamkieiaaDoorAmH
namespace Go.Am
open Go.RowKit
set_option linter.unusedSimpArgs false
set_option linter.unusedVariables false

section
variable {P : Program} {Γ : Env} {Q : Exit → St → Prop} {σ : St} {ty : TypeId → Option TI}

/-! ### Data of abstract values -/
def datOf1 (σ : St) : AV → Option Dat
  | .d x => some x
  | .nil ek => some (.sl ek [])
  | .ref i => match σ.obj i with
    | some (.frz ek xs) => some (.sl ek xs)
    | _ => none
  | _ => none
def dat1All (σ : St) : List AV → Option (List Dat)
  | [] => some []
  | x :: r => match datOf1 σ x, dat1All σ r with
    | some y, some l => match y.one with
      | true => some (y :: l)
      | false => none
    | _, _ => none
def datOf (σ : St) : AV → Option Dat
  | .agg cs => match dat1All σ cs with
    | some l => some (.agg l)
    | none => none
  | x => datOf1 σ x
def datAll (σ : St) : List AV → Option (List Dat)
  | [] => some []
  | x :: r => match datOf σ x, datAll σ r with
    | some y, some l => some (y :: l)
    | _, _ => none

theorem datOf1_sound {a : Act} {C : Ct} (m : Models σ a C) {x : AV} {y : Dat} {v : Value} (h : datOf1 σ x = some y) (hx : Rep C x v) : RepD C.w C.pr y v := by
  unfold datOf1 at h
  split at h
  · cases h; cases hx with | d h => exact h
  · cases h; cases hx; exact .nil _
  · split at h
    · rename_i ho
      cases h
      cases hx with
      | ref i hi v hv h1 => subst hv; exact (m.ob _ _ ho).2
    · cases h
  · cases h
theorem dat1All_sound {a : Act} {C : Ct} (m : Models σ a C) : ∀ {l : List AV} {ys : List Dat}, dat1All σ l = some ys → ys.length = l.length ∧ (∀ y ∈ ys, y.one = true) ∧
    ∀ (vs : Nat → Value), (∀ (j : Nat) (x : AV), l[j]? = some x → Rep C x (vs j)) → ∀ (j : Nat) (y : Dat), ys[j]? = some y → RepD C.w C.pr y (vs j)
  | [], ys, h => by cases h; simp
  | x :: r, ys, h => by
    unfold dat1All at h
    split at h
    · rename_i y l hy hl
      split at h
      · rename_i h1
        cases h
        obtain ⟨i1, i2, i3⟩ := dat1All_sound m hl
        refine ⟨by simp [i1], ?_, fun vs hr j z hj => ?_⟩
        · intro z hz
          rcases List.mem_cons.1 hz with rfl | hz
          · exact h1
          · exact i2 z hz
        · cases j with
          | zero => simp at hj; subst hj; exact datOf1_sound m hy (hr 0 x rfl)
          | succ j => exact i3 (fun k => vs (k + 1)) (fun k x hk => hr (k + 1) x (by simpa using hk)) j z (by simpa using hj)
      · cases h
    · cases h
theorem datOf_sound {a : Act} {C : Ct} (m : Models σ a C) {x : AV} {y : Dat} {v : Value} (h : datOf σ x = some y) (hx : Rep C x v) : RepD C.w C.pr y v := by
  unfold datOf at h
  split at h
  · split at h
    · rename_i cs l hl
      cases h
      obtain ⟨i1, i2, i3⟩ := dat1All_sound m hl
      cases hx with
      | agg cs vs hs h1 hr => exact .agg l vs (by rw [hs, i1]) i2 (fun j y hj => i3 (fun j => vs.getD j undef) hr j y hj)
    · cases h
  · exact datOf1_sound m h hx
theorem datAll_sound {a : Act} {C : Ct} (m : Models σ a C) : ∀ {l : List AV} {ys : List Dat}, datAll σ l = some ys → ys.length = l.length ∧
    ∀ (vs : Nat → Value), (∀ (j : Nat) (x : AV), l[j]? = some x → Rep C x (vs j)) → ∀ (j : Nat) (y : Dat), ys[j]? = some y → RepD C.w C.pr y (vs j)
  | [], ys, h => by cases h; simp
  | x :: r, ys, h => by
    unfold datAll at h
    split at h
    · rename_i y l hy hl
      cases h
      obtain ⟨i1, i3⟩ := datAll_sound m hl
      refine ⟨by simp [i1], fun vs hr j z hj => ?_⟩
      cases j with
      | zero => simp at hj; subst hj; exact datOf_sound m hy (hr 0 x rfl)
      | succ j => exact i3 (fun k => vs (k + 1)) (fun k x hk => hr (k + 1) x (by simpa using hk)) j z (by simpa using hj)
    · cases h

/-! ### A row becomes read-only -/
def St.setO (σ : St) (i : Nat) (o : AO) : St := { σ with ob := (i, o) :: σ.ob }
def Ct.freeze (C : Ct) (i : Nat) : Ct := { C with pr := fun b => C.pr b || decide (blk (C.ρ i) = some b) }
theorem Ct.freeze_evo {C : Ct} (i : Nat) (hi : ∀ g, blk (C.ρ i) = some g → C.B ≤ g) : Evo C (C.freeze i) :=
  ⟨rfl, rfl, rfl, Nat.le_refl _, fun b _ hp => ⟨rfl, by simp [Ct.freeze, hp]⟩, fun _ h => h, fun _ _ => rfl, rfl, fun _ _ => rfl, fun b hb => by
    have hne : blk (C.ρ i) ≠ some b := fun e => by have := hi b e; omega
    simp [Ct.freeze, hne]⟩
theorem Models.freeze {a : Act} {C : Ct} (m : Models σ a C) {i : Nat} {ek : Option Nat} {e : TypeId} {xs : List Dat} (ho : σ.obj i = some (.row ek e xs)) : Models (σ.setO i (.frz ek xs)) a (C.freeze i) := by
  have ev := Ct.freeze_evo (C := C) i (fun g hg => ((m.ob i _ ho).excl rfl hg).2.2)
  have hi := (m.ob i _ ho).lt
  have keep : ∀ j oj, j ≠ i → σ.obj j = some oj → ORep (C.freeze i) j oj := fun j oj hj hoj =>
    (m.ob j oj hoj).mono ev (fun he g hg => ⟨rfl, by
      have hp := ((m.ob j oj hoj).excl he hg).2.1
      have hne : blk (C.ρ i) ≠ some g := fun h => hj (m.apart j i oj _ g hoj ho he rfl hg h)
      simp [Ct.freeze, hp, hne]⟩)
  refine ⟨m.defers, m.sz, m.nx, fun t x ht => ⟨(m.tm t x ht).1, (m.tm t x ht).2.mono ev⟩, fun j oj hj => ?_, fun j k oj ok g hj hk hej hek hgj hgk => ?_⟩
  · rw [St.obj, St.setO, look_cons] at hj
    split at hj
    · rename_i e
      subst e
      cases hj
      obtain ⟨_, vals, hown, hp, hcr⟩ := m.ob i _ ho
      refine ⟨hi, ?_⟩
      show RepD C.w (C.freeze i).pr (.sl ek xs) (C.ρ i)
      have hcr' := hcr.mono (w' := C.w) (pr' := (C.freeze i).pr) ev.kept
      rcases hown.2 with ⟨hn, h0⟩ | ⟨g, cap, cur, hv, _, hg, hnc, hcm, hcs, htake⟩
      · have : xs = [] := List.eq_nil_of_length_eq_zero h0
        subst this
        rw [hn]
        exact .nil ek
      · rw [hv]
        have hpg : (C.freeze i).pr g = true := by simp [Ct.freeze, hv, blk]
        refine RepD.sl_mk rfl hnc hcm (fun _ => rfl) (fun x hx => ?_) (fun k x hk j y hj => ?_)
        · obtain ⟨k, hk⟩ := List.mem_iff_getElem?.1 hx
          exact (hcr k x hk).1
        · obtain ⟨hf, h2⟩ := hcr' k x hk
          obtain ⟨u, hu, hr⟩ := h2 j y hj
          refine ⟨hpg, hf.one y (List.mem_of_getElem? hj), u, ?_, hr⟩
          have := hown.cells (g := g) (by rw [hv]; rfl) _ u hu
          rw [Addr.add_lit] at this
          rw [← this]
          congr 2
          omega
    · rename_i hne
      exact keep j oj (fun h => hne h.symm) hj
  · rw [St.obj, St.setO, look_cons] at hj hk
    split at hj
    · cases hj; simp [AO.excl] at hej
    · split at hk
      · cases hk; simp [AO.excl] at hek
      · exact m.apart j k oj ok g hj hk hej hek hgj hgk
/-- What is handed on becomes read-only. -/
def frz1 (σ : St) : AV → St
  | .ref i => match σ.obj i with
    | some (.row ek _ xs) => σ.setO i (.frz ek xs)
    | _ => σ
  | _ => σ
def frzL (σ : St) : List AV → St
  | [] => σ
  | x :: r => frzL (frz1 σ x) r
def frzA (σ : St) : AV → St
  | .agg cs => frzL σ cs
  | x => frz1 σ x
def frzAll (σ : St) : List AV → St
  | [] => σ
  | x :: r => frzAll (frzA σ x) r
theorem Models.frz1 {a : Act} {C : Ct} (m : Models σ a C) (x : AV) : ∃ C', Models (frz1 σ x) a C' ∧ Evo C C' ∧ C'.w = C.w := by
  unfold Am.frz1
  split
  · split
    · rename_i ho
      exact ⟨_, m.freeze ho, Ct.freeze_evo _ (fun g hg => ((m.ob _ _ ho).excl rfl hg).2.2), rfl⟩
    · exact ⟨C, m, .refl C, rfl⟩
  · exact ⟨C, m, .refl C, rfl⟩
theorem Models.frzL {a : Act} : ∀ (l : List AV) {σ : St} {C : Ct}, Models σ a C → ∃ C', Models (frzL σ l) a C' ∧ Evo C C' ∧ C'.w = C.w
  | [], σ, C, m => ⟨C, m, .refl C, rfl⟩
  | x :: r, σ, C, m => by
    obtain ⟨C1, m1, e1, h1⟩ := m.frz1 x
    obtain ⟨C2, m2, e2, h2⟩ := Models.frzL r m1
    exact ⟨C2, m2, e1.trans e2, h2.trans h1⟩
theorem Models.frzA {a : Act} {C : Ct} (m : Models σ a C) (x : AV) : ∃ C', Models (frzA σ x) a C' ∧ Evo C C' ∧ C'.w = C.w := by
  unfold Am.frzA
  split
  · exact Models.frzL _ m
  · exact m.frz1 x
theorem Models.frzAll {a : Act} : ∀ (l : List AV) {σ : St} {C : Ct}, Models σ a C → ∃ C', Models (frzAll σ l) a C' ∧ Evo C C' ∧ C'.w = C.w
  | [], σ, C, m => ⟨C, m, .refl C, rfl⟩
  | x :: r, σ, C, m => by
    obtain ⟨C1, m1, e1, h1⟩ := m.frzA x
    obtain ⟨C2, m2, e2, h2⟩ := Models.frzAll r m1
    exact ⟨C2, m2, e1.trans e2, h2.trans h1⟩

theorem aops_freeze {ops rest : List Oper} (l : List AV) (k : AOps P Γ ops Q rest (frzAll σ l)) : AOps P Γ ops Q rest σ := fun C0 a C b e m => by
  obtain ⟨C', m', e', hw⟩ := Models.frzAll l m
  rw [← hw]
  exact k C0 a C' b (e.trans e') m'
theorem awp_freeze {c : Code} (l : List AV) (k : AWp P Γ c Q (frzAll σ l)) : AWp P Γ c Q σ := fun C0 a C b e m => by
  obtain ⟨C', m', e', hw⟩ := Models.frzAll l m
  rw [← hw]
  exact k C0 a C' b (e.trans e') m'

/-! ### Stores -/
/-- Only one block of the walk's own has turned. -/
def Ct.turn (C : Ct) (w : World) : Ct := { C with w := w }
theorem Ct.turn_evo {C : Ct} {g : Nat} {cs : Array Value} (hp : C.pr g = false) (hB : C.B ≤ g) : Evo C (C.turn (C.w.setRow g cs)) :=
  ⟨rfl, rfl, rfl, by simp [Ct.turn], fun b _ hb => ⟨setRow_other C.w g b cs (fun h => by subst h; rw [hp] at hb; cases hb), hb⟩, fun _ h => h, fun _ _ => rfl, rfl, fun b hb => setRow_other C.w g b cs (by omega), fun _ _ => rfl⟩

theorem Models.turn {a : Act} {C : Ct} (m : Models σ a C) {i g : Nat} {o o' : AO} {cs : Array Value} (ho : σ.obj i = some o) (he : o.excl = true) (hg : blk (C.ρ i) = some g) (he' : o'.excl = true)
    (hn : ORep (C.turn (C.w.setRow g cs)) i o') : Models (σ.setO i o') a (C.turn (C.w.setRow g cs)) := by
  obtain ⟨h1, h2, h3⟩ := (m.ob i o ho).excl he hg
  have ev := Ct.turn_evo (cs := cs) h2 h3
  refine ⟨m.defers, m.sz, m.nx, fun t x ht => ⟨(m.tm t x ht).1, (m.tm t x ht).2.mono ev⟩, fun j oj hj => ?_, fun j k oj ok g' hj hk hej hek hgj hgk => ?_⟩
  · rw [St.obj, St.setO, look_cons] at hj
    split at hj
    · rename_i e
      subst e
      cases hj
      exact hn
    · rename_i hne
      refine (m.ob j oj hj).mono ev (fun hej g' hg' => ⟨setRow_other C.w g g' cs (fun h => ?_), ((m.ob j oj hj).excl hej hg').2.1⟩)
      subst h
      exact hne (m.apart i j o oj g' ho hj he hej hg hg')
  · rw [St.obj, St.setO, look_cons] at hj hk
    have e1 : ∀ t, (C.turn (C.w.setRow g cs)).ρ t = C.ρ t := fun _ => rfl
    rw [e1] at hgj hgk
    split at hj
    · rename_i e
      subst e
      split at hk
      · rename_i e; exact e
      · exact m.apart i k o ok g' ho hk he hek hgj hgk
    · split at hk
      · rename_i e
        subst e
        exact m.apart j i oj o g' hj ho hej he hgj hgk
      · exact m.apart j k oj ok g' hj hk hej hek hgj hgk

theorem setAll_get {new : List AV} : ∀ {cells : List AV} {off j : Nat} {y : AV}, off + new.length ≤ cells.length → (setAll cells off new)[j]? = some y →
    (j < off ∧ cells[j]? = some y) ∨ (off ≤ j ∧ j < off + new.length ∧ new[j - off]? = some y) ∨ (off + new.length ≤ j ∧ cells[j]? = some y) := by
  induction new with
  | nil =>
    intro cells off j y hl h
    simp only [setAll] at h
    by_cases hj : j < off
    · exact .inl ⟨hj, h⟩
    · exact .inr (.inr ⟨by simpa using hj, h⟩)
  | cons x r ih =>
    intro cells off j y hl h
    simp only [setAll] at h
    simp only [List.length_cons] at hl
    rcases ih (cells := cells.set off x) (by simp; omega) h with ⟨h1, h2⟩ | ⟨h1, h2, h3⟩ | ⟨h1, h2⟩
    · rw [List.getElem?_set] at h2
      split at h2
      · rename_i e
        subst e
        rw [if_pos (by omega)] at h2
        cases h2
        exact .inr (.inl ⟨Nat.le_refl _, by simp, by simp⟩)
      · exact .inl ⟨by omega, h2⟩
    · refine .inr (.inl ⟨by omega, by simp; omega, ?_⟩)
      have : j - off = (j - (off + 1)) + 1 := by omega
      rw [this]
      simpa using h3
    · rw [List.getElem?_set] at h2
      split at h2
      · omega
      · exact .inr (.inr ⟨by simp; omega, h2⟩)

theorem splice_get (cur vs : List Value) (off j : Nat) (h : off + vs.length ≤ cur.length) :
    (cur.take off ++ vs ++ cur.drop (off + vs.length))[j]? = if j < off then cur[j]? else if j < off + vs.length then vs[j - off]? else cur[j]? := by
  have hl : (cur.take off).length = off := by simp; omega
  by_cases h1 : j < off
  · rw [if_pos h1, List.append_assoc, List.getElem?_append_left (by rw [hl]; exact h1), List.getElem?_take, if_pos h1]
  · rw [if_neg h1]
    by_cases h2 : j < off + vs.length
    · rw [if_pos h2, List.append_assoc, List.getElem?_append_right (by rw [hl]; omega), hl, List.getElem?_append_left (by omega)]
    · rw [if_neg h2, List.getElem?_append_right (by simp [hl]; omega), List.getElem?_drop]
      congr 1
      simp [hl]
      omega
theorem splice_getD (cur : Array Value) (vs : List Value) (off j : Nat) (h : off + vs.length ≤ cur.size) :
    (cur.toList.take off ++ vs ++ cur.toList.drop (off + vs.length)).toArray.getD j undef = if j < off then cur.getD j undef else if j < off + vs.length then vs.getD (j - off) undef else cur.getD j undef := by
  have := splice_get cur.toList vs off j (by simpa using h)
  simp only [Array.getD_eq_getD_getElem?, List.getElem?_toArray, this, List.getD_eq_getElem?_getD]
  split
  · simp
  · split <;> simp
theorem run_storeAt_row (hT : TyOk P ty) {t : TypeId} {ti : TI} (ht : ty t = some ti) {w : World} {g off : Nat} {bt : TypeId} {cur : Array Value} {v : Value} (hg : w.heap[g]? = some (.cells cur bt (0, 0))) (hs : v.cells.size = ti.size)
    (hle : off + ti.size ≤ cur.size) (h1 : ∀ u ∈ v.cells.toList, u.oneCell' = true) :
    (Instr.storeAt t (.pointer (some ⟨g, off, none⟩)) v).run P w = .ok () (w.setRow g (cur.toList.take off ++ v.cells.toList ++ cur.toList.drop (off + v.cells.toList.length)).toArray) := by
  have hst := run_storeCells_at P g off bt v.cells.toList 0 cur w hg (by simp [hs]; omega) h1
  simp only [Nat.add_zero] at hst
  unfold Instr.storeAt Instr.sureAddr storeVar
  simp only [Sem.run_bind, Sem.run_pure, Result.andThen_ok, hT.run_size ht, hs, ne_eq, not_true_eq_false, if_false]
  exact hst

theorem aops_store (hT : TyOk P ty) {ops rest : List Oper} {o : Oper} {t bt : TypeId} {x z : Operand} {ti : TI} {y : AV} {i off : Nat} {cs new : List AV} (hw : wantedA ops σ o = some true) (hd : o.dst = none) (ho : o.op = .store t x z) (ht : ty t = some ti)
    (hx : σ.ev ty 0 x = some (.ptr i off)) (hz : σ.ev ty t z = some y) (hob : σ.obj i = some (.box bt cs)) (hc : avCells ti.size y = some new) (hle : Nat.ble (off + ti.size) cs.length = true)
    (k : AOps P Γ ops Q rest (σ.setO i (.box bt (setAll cs off new)))) : AOps P Γ ops Q (o :: rest) σ :=
  aops_step hw fun C0 a C K R b e m hk => by
    obtain ⟨c1, c2, c3, c4⟩ := cells_of_rep hc (ev_sound m hz)
    have hle' := Nat.le_of_ble_eq_true hle
    have hrx := ev_sound m hx
    obtain ⟨hi, g, cur, hρ, hp, hB, hheap, hsz, h1, hr⟩ := m.ob i _ hob
    have hv : a.eval x = .pointer (some ⟨g, off, none⟩) := by
      generalize a.eval x = v at hrx
      cases hrx with
      | ptr i' off' g' hi' hg' =>
        rw [hρ] at hg'
        have : g = g' := by simpa [blk] using hg'
        rw [this]
    have hone : ∀ u ∈ (a.eval z).cells.toList, u.oneCell' = true := by
      intro u hu
      obtain ⟨j, hj⟩ := List.mem_iff_getElem?.1 hu
      have hjl : j < new.length := by
        have := (List.getElem?_eq_some_iff.1 hj).1
        rw [c2, ← c1]; simpa using this
      have := (c4 j new[j] (List.getElem?_eq_getElem hjl)).oneCell (c3 _ (List.getElem_mem hjl))
      have hg : (a.eval z).cells.getD j undef = u := by
        have : (a.eval z).cells[j]? = some u := by simpa using hj
        simp [this]
      rwa [hg] at this
    have hrun := run_storeAt_row (P := P) hT ht (off := off) (v := a.eval z) hheap c1 (by rw [hsz]; exact hle') hone
    have hop : (execOp a.eval o).run P C.w = .ok .skip (C.w.setRow g (cur.toList.take off ++ (a.eval z).cells.toList ++ cur.toList.drop (off + (a.eval z).cells.toList.length)).toArray) := by
      unfold execOp
      simp only [ho, Sem.run_bind, hv, hrun, Result.andThen_ok, Sem.run_pure]
    have hbl : blk (C.ρ i) = some g := by rw [hρ]; rfl
    have m' := m.turn (o' := .box bt (setAll cs off new)) (cs := (cur.toList.take off ++ (a.eval z).cells.toList ++ cur.toList.drop (off + (a.eval z).cells.toList.length)).toArray) hob rfl hbl rfl (by
      refine ⟨hi, g, _, hρ, hp, hB, setRow_heap C.w g cur _ bt (0, 0) hheap, ?_, ?_, ?_⟩
      · simp [setAll_length, hsz, c1]; omega
      · intro q hq
        obtain ⟨j, hj⟩ := List.mem_iff_getElem?.1 hq
        rcases setAll_get (by rw [c2]; exact hle') hj with ⟨_, h⟩ | ⟨_, _, h⟩ | ⟨_, h⟩
        · exact h1 q (List.mem_of_getElem? h)
        · exact c3 q (List.mem_of_getElem? h)
        · exact h1 q (List.mem_of_getElem? h)
      · intro j q hj
        have ev := Ct.turn_evo (C := C) (cs := (cur.toList.take off ++ (a.eval z).cells.toList ++ cur.toList.drop (off + (a.eval z).cells.toList.length)).toArray) hp hB
        have hlen : (a.eval z).cells.toList.length = ti.size := by simpa using c1
        have hfit : off + (a.eval z).cells.toList.length ≤ cur.size := by rw [hsz, hlen]; exact hle'
        have hgd := splice_getD cur (a.eval z).cells.toList off j hfit
        rcases setAll_get (by rw [c2]; exact hle') hj with ⟨hjo, h⟩ | ⟨hjo, hjo2, h⟩ | ⟨hjo, h⟩
        · rw [hgd, if_pos hjo]
          exact (hr j q h).mono ev
        · rw [hgd, if_neg (by omega), if_pos (by rw [hlen, ← c2]; exact hjo2)]
          have := (c4 (j - off) q h).mono ev
          simpa using this
        · rw [hgd, if_neg (by omega), if_neg (by rw [hlen, ← c2]; omega)]
          exact (hr j q h).mono ev)
    refine upon_skip hop ?_
    rw [hd]
    exact hk a (C.turn _) _ m' (e.trans (Ct.turn_evo hp hB)) k
end
end Go.Am
