/- The abstract machine, eighth part: operations that make or write objects. No program. -/
import Derived.Test.YtaenfbgamkieiaaDoorAmG
namespace Go.Am
open Go.RowKit
set_option linter.unusedSimpArgs false
set_option linter.unusedVariables false

section
variable {P : Program} {Γ : Env} {Q : Exit → St → Prop} {σ : St} {ty : TypeId → Option TI}

theorem ORep.excl {C : Ct} {i : Nat} {o : AO} (h : ORep C i o) (he : o.excl = true) {g : Nat} (hg : blk (C.ρ i) = some g) : g < C.w.heap.size ∧ C.pr g = false ∧ C.B ≤ g := by
  cases o with
  | box t cs =>
    obtain ⟨_, g', cur, hρ, hp, hB, hh, _⟩ := h
    rw [hρ] at hg
    have : g' = g := by simpa [blk] using hg
    subst this
    exact ⟨(Array.getElem?_eq_some_iff.1 hh).1, hp, hB⟩
  | row ek e xs =>
    obtain ⟨_, vals, ho, hp, _⟩ := h
    refine ⟨?_, hp g hg, ?_⟩
    all_goals
      rcases ho.2 with ⟨hn, _⟩ | ⟨g', cap, cur, hv, hb, hh, _⟩
      · rw [hn] at hg; simp [blk] at hg
      · rw [hv] at hg
        have : g' = g := by simpa [blk] using hg
        subst this
        first | exact (Array.getElem?_eq_some_iff.1 hh).1 | exact hb
  | frz => simp [AO.excl] at he
  | dead => simp [AO.excl] at he

/-- One object more, perhaps one less. -/
def St.addAt (σ : St) (id nx : Nat) (kill : Option Nat) (o : AO) : St := match kill with
  | none => { σ with ob := (id, o) :: σ.ob, nx := nx }
  | some i => { σ with ob := (id, o) :: (i, .dead) :: σ.ob, nx := nx }
def St.add (σ : St) (kill : Option Nat) (o : AO) : St := σ.addAt σ.nx (σ.nx + 1) kill o
theorem St.add_obj {id nx : Nat} {kill : Option Nat} {o : AO} {j : Nat} {oj : AO} (h : (σ.addAt id nx kill o).obj j = some oj) : (j = id ∧ oj = o) ∨ (kill = some j ∧ oj = .dead) ∨ (kill ≠ some j ∧ σ.obj j = some oj) := by
  cases kill with
  | none =>
    simp only [St.addAt, St.obj, look_cons] at h
    split at h
    · rename_i e; cases h; exact .inl ⟨e.symm, rfl⟩
    · exact .inr (.inr ⟨by simp, h⟩)
  | some i =>
    simp only [St.addAt, St.obj, look_cons] at h
    split at h
    · rename_i e; cases h; exact .inl ⟨e.symm, rfl⟩
    · split at h
      · rename_i e; cases h; exact .inr (.inl ⟨by rw [e], rfl⟩)
      · rename_i hne; exact .inr (.inr ⟨by simpa using hne, h⟩)

theorem Models.addAt {a : Act} {C C' : Ct} (m : Models σ a C) (e : Evo C C') (id nx : Nat) (kill : Option Nat) (o : AO) (hk : ∀ i, kill = some i → C.ok i = true) (hn : ∀ i, C'.ok i = true → C.ok i = true ∨ i = id) (hnx : σ.nx ≤ nx) (hid : id < nx) (ho : ORep C' id o)
    (hold : ∀ j oj g, σ.obj j = some oj → oj.excl = true → kill ≠ some j → blk (C.ρ j) = some g → C'.w.heap[g]? = C.w.heap[g]? ∧ C'.pr g = false ∧ blk (C'.ρ id) ≠ some g) : Models (σ.addAt id nx kill o) a C' := by
  have hsz : (σ.addAt id nx kill o).sz = σ.sz := by cases kill <;> rfl
  have htm : ∀ t, (σ.addAt id nx kill o).get t = σ.get t := by intro t; cases kill <;> rfl
  have hnx' : (σ.addAt id nx kill o).nx = nx := by cases kill <;> rfl
  refine ⟨m.defers, by rw [hsz]; exact m.sz, fun i hi => by
    rw [hnx']
    rcases hn i hi with h | h
    · exact Nat.lt_of_lt_of_le (m.nx i h) hnx
    · rw [h]; exact hid, fun t x ht => ?_, fun i oi hi => ?_, fun i j oi oj g hi hj hei hej hgi hgj => ?_⟩
  · rw [htm] at ht
    rw [hsz]
    exact ⟨(m.tm t x ht).1, (m.tm t x ht).2.mono e⟩
  · rcases St.add_obj hi with ⟨rfl, rfl⟩ | ⟨hkk, rfl⟩ | ⟨hkk, hi'⟩
    · exact ho
    · show C'.ok i = true
      exact e.ok i (hk i hkk)
    · exact (m.ob i oi hi').mono e (fun he g hg => let ⟨h1, h2, _⟩ := hold i oi g hi' he hkk hg; ⟨h1, h2⟩)
  · have old : ∀ j oj, σ.obj j = some oj → C'.ρ j = C.ρ j := fun j oj hj => e.ρ j (m.ob j oj hj).lt
    rcases St.add_obj hi with ⟨rfl, rfl⟩ | ⟨_, rfl⟩ | ⟨hki, hi'⟩
    · rcases St.add_obj hj with ⟨rfl, rfl⟩ | ⟨_, rfl⟩ | ⟨hkj, hj'⟩
      · rfl
      · simp [AO.excl] at hej
      · rw [old j oj hj'] at hgj
        exact absurd hgi (hold j oj g hj' hej hkj hgj).2.2
    · simp [AO.excl] at hei
    · rcases St.add_obj hj with ⟨rfl, rfl⟩ | ⟨_, rfl⟩ | ⟨hkj, hj'⟩
      · rw [old i oi hi'] at hgi
        exact absurd hgj (hold i oi g hi' hei hki hgi).2.2
      · simp [AO.excl] at hej
      · rw [old i oi hi'] at hgi
        rw [old j oj hj'] at hgj
        exact m.apart i j oi oj g hi' hj' hei hej hgi hgj

/-- A new block. -/
def Ct.new (C : Ct) (id : Nat) (o : Obj) (v : Value) : Ct :=
  { w := C.w.alloc o, pr := fun b => if b = C.w.heap.size then false else C.pr b, ρ := fun i => if i = id then v else C.ρ i, ok := fun i => C.ok i || Nat.beq i id, B := C.B }
theorem Models.fresh {a : Act} {C : Ct} (m : Models σ a C) : C.ok σ.nx = false := by
  cases h : C.ok σ.nx with
  | false => rfl
  | true => exact absurd (m.nx _ h) (Nat.lt_irrefl _)
theorem ok_ne {C : Ct} {id i : Nat} (hid : C.ok id = false) (hi : C.ok i = true) : i ≠ id := fun h => by rw [h, hid] at hi; cases hi
theorem ok_or {C : Ct} {id i : Nat} (h : (C.ok i || Nat.beq i id) = true) : C.ok i = true ∨ i = id := by
  rw [Bool.or_eq_true] at h
  rcases h with h | h
  · exact .inl h
  · exact .inr (Nat.eq_of_beq_eq_true h)
theorem Ct.new_evo {C : Ct} {id : Nat} (hid : C.ok id = false) (hB : C.B ≤ C.w.heap.size) (o : Obj) (v : Value) : Evo C (C.new id o v) :=
  ⟨rfl, rfl, rfl, by show C.w.heap.size ≤ (C.w.alloc o).heap.size; simp, fun b hb hp => ⟨heap_alloc_old C.w o hb, by simp only [Ct.new]; rw [if_neg (by omega)]; exact hp⟩, fun i hi => by simp [Ct.new, hi],
   fun i hi => by simp only [Ct.new]; rw [if_neg (ok_ne hid hi)], rfl, fun b hb => heap_alloc_old C.w o (Nat.lt_of_lt_of_le hb hB), fun b hb => by simp only [Ct.new]; rw [if_neg (by omega)]⟩
theorem Models.newAt {a : Act} {C : Ct} (m : Models σ a C) (hB : C.B ≤ C.w.heap.size) {id nx : Nat} (hid : C.ok id = false) (hnx : σ.nx ≤ nx) (hlt : id < nx) (o : Obj) (v : Value) (hv : blk v = some C.w.heap.size) (ao : AO) (ho : ORep (C.new id o v) id ao) : Models (σ.addAt id nx none ao) a (C.new id o v) := by
  refine m.addAt (Ct.new_evo hid hB o v) id nx none ao (by simp) (fun i hi => ok_or hi) hnx hlt ho (fun j oj g hj he _ hg => ?_)
  obtain ⟨h1, h2, _⟩ := (m.ob j oj hj).excl he hg
  refine ⟨heap_alloc_old C.w o h1, ?_, ?_⟩
  · simp only [Ct.new]
    rw [if_neg (by omega)]
    exact h2
  · simp only [Ct.new, if_true]
    rw [hv]
    simp
    omega

theorem Models.new {a : Act} {C : Ct} (m : Models σ a C) (hB : C.B ≤ C.w.heap.size) (o : Obj) (v : Value) (hv : blk v = some C.w.heap.size) (ao : AO) (ho : ORep (C.new σ.nx o v) σ.nx ao) : Models (σ.add none ao) a (C.new σ.nx o v) :=
  m.newAt hB m.fresh (Nat.le_succ _) (Nat.lt_succ_self _) o v hv ao ho

theorem new_box {C : Ct} {id : Nat} (hid : C.ok id = false) (hB : C.B ≤ C.w.heap.size) {t : TypeId} {cs : List AV} {vs : Array Value} (h : CsRep C cs vs) :
    ORep (C.new id (.cells vs t) (.pointer (some ⟨C.w.heap.size, 0, none⟩))) id (.box t cs) := by
  refine ⟨by simp [Ct.new], C.w.heap.size, vs, by simp [Ct.new], by simp [Ct.new], hB, heap_alloc_new C.w _, h.1, h.2.1, fun j y hj => ?_⟩
  exact (h.2.2 j y hj).mono (Ct.new_evo hid hB _ _)

def zav : Dat → AV
  | .sl ek [] => .nil ek
  | x => .d x
theorem zero_csrep (hT : TyOk P ty) {t : TypeId} {ti : TI} (ht : ty t = some ti) (C : Ct) : CsRep C (ti.zd.map zav) ti.zero.cells := by
  obtain ⟨hz1, hz2⟩ := hT.zsize _ _ ht
  refine ⟨by simpa using hz1.trans hz2.symm, ?_, ?_⟩
  · intro y hy
    obtain ⟨q, hq, rfl⟩ := List.mem_map.1 hy
    have h1 := hT.zone _ _ ht q hq
    unfold zav
    split
    · rfl
    · exact h1
  · intro j y hy
    rw [List.getElem?_map] at hy
    obtain ⟨q, hq, rfl⟩ := Option.map_eq_some_iff.1 hy
    have hr := hT.zrep _ _ ht C.w C.pr j q hq
    have hn := hT.znil _ _ ht
    unfold zav
    split
    · have := znilB_get hn j _ hq
      simp only [Array.getD_eq_getD_getElem?, List.getD_eq_getElem?_getD, Array.getElem?_toList] at this ⊢
      rw [this]
      exact .nil _
    · exact .d hr

theorem aops_alloc (hT : TyOk P ty) {ops rest : List Oper} {o : Oper} {t : TypeId} {ti : TI} (hw : wantedA ops σ o = some true) (hd : dstOk σ o.dst = true) (ho : o.op = .alloc t) (ht : ty t = some ti)
    (k : AOps P Γ ops Q rest ((σ.add none (.box t (ti.zd.map zav))).put o.dst (.ptr σ.nx 0))) : AOps P Γ ops Q (o :: rest) σ :=
  aops_step hw fun C0 a C K R b e m hk => by
    have hB := (b.evo e).B
    obtain ⟨j, hj, _, _, hjz⟩ := hT.info _ _ ht
    have hrun : (execOp a.eval o).run P C.w = .ok (.value (.pointer (some ⟨C.w.heap.size, 0, none⟩))) (C.w.alloc (.cells ti.zero.cells t)) := by
      unfold execOp
      simp only [ho]
      refine run_value ?_
      simp [Instr.alloc, zeroValue, typeInfo, hj, hjz, newVar, newRow]
    have m' := m.new hB (.cells ti.zero.cells t) (.pointer (some ⟨C.w.heap.size, 0, none⟩)) rfl (.box t (ti.zd.map zav)) (new_box m.fresh hB (zero_csrep hT ht C))
    refine upon_value hrun (hk _ (C.new _ _ _) _ (m'.put (v := .pointer (some ⟨C.w.heap.size, 0, none⟩)) ?_ (dstOk_spec hd)) (e.trans (Ct.new_evo m.fresh hB _ _)) k)
    exact .ptr _ _ C.w.heap.size (by simp [Ct.new]) (by simp [Ct.new, blk])

theorem aops_box (hT : TyOk P ty) {ops rest : List Oper} {o : Oper} {t : TypeId} {x : Operand} {ti : TI} {y : AV} {cs : List AV} (hw : wantedA ops σ o = some true) (hd : dstOk σ o.dst = true) (ho : o.op = .box t x) (ht : ty t = some ti)
    (hx : σ.ev ty t x = some y) (hc : avCells ti.size y = some cs) (k : AOps P Γ ops Q rest ((σ.add none (.box t cs)).put o.dst (.ptr σ.nx 0))) : AOps P Γ ops Q (o :: rest) σ :=
  aops_step hw fun C0 a C K R b e m hk => by
    have hB := (b.evo e).B
    obtain ⟨h1, h2, h3, h4⟩ := cells_of_rep hc (ev_sound m hx)
    have hrun : (execOp a.eval o).run P C.w = .ok (.value (.pointer (some ⟨C.w.heap.size, 0, none⟩))) (C.w.alloc (.cells (a.eval x).cells t)) := by
      unfold execOp
      simp only [ho]
      refine run_value ?_
      simp [Instr.box, newVar, newRow]
    have m' := m.new hB (.cells (a.eval x).cells t) (.pointer (some ⟨C.w.heap.size, 0, none⟩)) rfl (.box t cs) (new_box m.fresh hB ⟨by rw [h1, h2], h3, h4⟩)
    refine upon_value hrun (hk _ (C.new _ _ _) _ (m'.put (v := .pointer (some ⟨C.w.heap.size, 0, none⟩)) ?_ (dstOk_spec hd)) (e.trans (Ct.new_evo m.fresh hB _ _)) k)
    exact .ptr _ _ C.w.heap.size (by simp [Ct.new]) (by simp [Ct.new, blk])
end
end Go.Am
