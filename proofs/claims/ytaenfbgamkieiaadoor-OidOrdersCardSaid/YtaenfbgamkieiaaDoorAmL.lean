/- The abstract machine, twelfth part: what a function does with data, said without memory; calls by such a contract; calls walked in place. No program. -/
import Derived.Test.YtaenfbgamkieiaaDoorAmK
namespace Go.Am
open Go.RowKit
set_option linter.unusedSimpArgs false
set_option linter.unusedVariables false

/-- What a call hands back: a datum; a slice of its own that the caller may write; a tuple that begins with such a slice. -/
inductive Res where
  | d (x : Dat)
  | own (ek : Option Nat) (e : TypeId) (xs : List Dat)
  | ownT (ek : Option Nat) (e : TypeId) (xs : List Dat) (rest : List Dat)

def OwnRep (w0 w : World) (pr : Nat → Bool) (ek : Option Nat) (e : TypeId) (xs : List Dat) (v : Value) : Prop :=
  ∃ vals, w.ownsRow w0.heap.size e (esz ek) v xs.length vals ∧ CellsRep w (fun b => (pr b || decide (w0.heap.size ≤ b)) && !decide (blk v = some b)) ek xs (fun j => vals[j]?)
def ResRep (w0 w : World) (pr : Nat → Bool) : Res → Value → Prop
  | .d x, v => RepD w (fun b => pr b || decide (w0.heap.size ≤ b)) x v
  | .own ek e xs, v => OwnRep w0 w pr ek e xs v
  | .ownT ek e xs rest, v => ∃ vs : Array Value, v = .tuple vs ∧ vs.size = rest.length + 1 ∧ OwnRep w0 w pr ek e xs (vs.getD 0 undef) ∧
      ∀ (j : Nat) (x : Dat), rest[j]? = some x → RepD w (fun b => (pr b || decide (w0.heap.size ≤ b)) && !decide (blk (vs.getD 0 undef) = some b)) x (vs.getD (j + 1) undef)

structure IsFn (P : Program) (f : FuncId) (fn : Func) : Prop where
  hf : P.funcs[f]? = some fn
  name : (fn.name == "runtime.NumGoroutine") = false
  body : fn.body.isNone = false
theorem IsFn.run {P : Program} {f : FuncId} {fn : Func} (h : IsFn P f fn) (args : Array Value) (w : World) : (callFunc f args).run P w = .ok (.enter f args) w := by
  have h1 := h.hf
  unfold callFunc
  simp only [Sem.run_bind, program, Sem.run, Result.andThen_ok, h.hf, h.name, h.body, Bool.false_eq_true, if_false, Sem.run_pure]

/-- THE CONTRACT of a function on data: handed values that read as 'args', in a world of which Γ is known, it returns; nothing that was there has turned; what it hands back is one of R. -/
def ACalls (P : Program) (Γ : Env) (f : FuncId) (args : List Dat) (R : Res → Prop) : Prop :=
  (∃ fn, IsFn P f fn) ∧ ∀ (w : World) (pr : Nat → Bool) (vs : Array Value), Γ.ok w → vs.size = args.length → (∀ (j : Nat) (x : Dat), args[j]? = some x → RepD w pr x (vs.getD j undef)) →
    Calls P f vs w fun e w' => ∃ v r, e = .returned v ∧ Below w.heap.size w w' ∧ ResRep w w' pr r v ∧ R r

theorem ACalls.mono {P : Program} {Γ : Env} {f : FuncId} {args : List Dat} {R R' : Res → Prop} (h : ACalls P Γ f args R) (hr : ∀ r, R r → R' r) : ACalls P Γ f args R' :=
  ⟨h.1, fun w pr vs h1 h2 h3 => (h.2 w pr vs h1 h2 h3).mono fun e w' ⟨v, r, a, b, c, d⟩ => ⟨v, r, a, b, c, hr r d⟩⟩

/-- The state behind a call. -/
def St.res (σ : St) (dst : Option Tmp) : Res → St
  | .d x => σ.put dst (.d x)
  | .own ek e xs => (σ.add none (.row ek e xs)).put dst (.ref σ.nx)
  | .ownT ek e xs rest => (σ.add none (.row ek e xs)).put dst (.tup (.ref σ.nx :: rest.map .d))

section
variable {P : Program} {Γ : Env} {Q : Exit → St → Prop} {σ : St} {ty : TypeId → Option TI}

/-- Behind a callee: new blocks are read-only but for the row that is handed over. -/
def Ct.back (C : Ct) (id : Nat) (w : World) (v : Value) : Ct :=
  { w := w, pr := fun b => (C.pr b || decide (C.w.heap.size ≤ b)) && !decide (blk v = some b), ρ := fun i => if i = id then v else C.ρ i, ok := fun i => C.ok i || Nat.beq i id, B := C.B }
def Ct.back0 (C : Ct) (w : World) : Ct := { C with w := w, pr := fun b => C.pr b || decide (C.w.heap.size ≤ b) }
theorem Ct.back0_evo {C : Ct} {w : World} (hB : C.B ≤ C.w.heap.size) (h : Below C.w.heap.size C.w w) : Evo C (C.back0 w) :=
  ⟨h.os, h.tape, h.output, h.size, fun b hb hp => ⟨h.block b hb, by simp [Ct.back0, hp]⟩, fun _ h => h, fun _ _ => rfl, rfl, fun b hb => h.block b (Nat.lt_of_lt_of_le hb hB), fun b hb => by simp [Ct.back0]; omega⟩
theorem Ct.back_evo {C : Ct} {id : Nat} {w : World} {v : Value} (hid : C.ok id = false) (hB : C.B ≤ C.w.heap.size) (h : Below C.w.heap.size C.w w) (hv : ∀ g, blk v = some g → C.w.heap.size ≤ g) : Evo C (C.back id w v) :=
  ⟨h.os, h.tape, h.output, h.size, fun b hb hp => ⟨h.block b hb, by
    have hne : blk v ≠ some b := fun e => by have := hv b e; omega
    simp [Ct.back, hp, hne]⟩, fun i hi => by simp [Ct.back, hi], fun i hi => by simp only [Ct.back]; rw [if_neg (ok_ne hid hi)], rfl, fun b hb => h.block b (Nat.lt_of_lt_of_le hb hB), fun b hb => by
    have hne : blk v ≠ some b := fun e => by have := hv b e; omega
    have h3 : ¬ C.w.heap.size ≤ b := by omega
    simp [Ct.back, hne, h3]⟩
theorem Models.back0 {a : Act} {C : Ct} (m : Models σ a C) {w : World} (hB : C.B ≤ C.w.heap.size) (h : Below C.w.heap.size C.w w) : Models σ a (C.back0 w) :=
  m.mono (Ct.back0_evo hB h) (fun _ h => h) fun i o g hi he hg => by
    obtain ⟨h1, h2, _⟩ := (m.ob i o hi).excl he hg
    refine ⟨h.block g h1, ?_⟩
    simp [Ct.back0, h2]
    exact h1
theorem Models.back {a : Act} {C : Ct} (m : Models σ a C) {id nx : Nat} (hid : C.ok id = false) (hnx : σ.nx ≤ nx) (hlt : id < nx) {w : World} {v : Value} {ek : Option Nat} {e : TypeId} {xs : List Dat} (hB : C.B ≤ C.w.heap.size) (h : Below C.w.heap.size C.w w) (ho : OwnRep C.w w C.pr ek e xs v) :
    (∀ g, blk v = some g → C.w.heap.size ≤ g) ∧ (∃ a n c, v = .slice a n c) ∧ Models (σ.addAt id nx none (.row ek e xs)) a (C.back id w v) := by
  obtain ⟨vals, hown, hcr⟩ := ho
  have hsl : ∃ a n c, v = .slice a n c := by
    rcases hown.2 with ⟨h, _⟩ | ⟨g, cap, cur, h, _⟩ <;> exact ⟨_, _, _, h⟩
  have hv : ∀ g, blk v = some g → C.w.heap.size ≤ g := by
    intro g hg
    rcases hown.2 with ⟨h, _⟩ | ⟨g', cap, cur, h, hb, _⟩
    · rw [h] at hg; simp [blk] at hg
    · rw [h] at hg
      have : g' = g := by simpa [blk] using hg
      omega
  have ev := Ct.back_evo hid hB h hv
  refine ⟨hv, hsl, m.addAt ev id nx none _ (by simp) (fun i hi => ok_or hi) hnx hlt ?_ (fun j oj g hj he _ hg => ?_)⟩
  · refine ⟨by simp [Ct.back], vals, ?_, ?_, ?_⟩
    · show w.ownsRow C.B e (esz ek) ((C.back id w v).ρ id) xs.length vals
      have hρ : (C.back id w v).ρ id = v := by simp [Ct.back]
      rw [hρ]
      refine ⟨hown.1, ?_⟩
      rcases hown.2 with h | ⟨g, cap, cur, h1, h2, rest⟩
      · exact .inl h
      · exact .inr ⟨g, cap, cur, h1, by omega, rest⟩
    · intro g hg
      have : blk v = some g := by simpa [Ct.back] using hg
      simp [Ct.back, this]
    · exact hcr
  · obtain ⟨h1, h2, _⟩ := (m.ob j oj hj).excl he hg
    refine ⟨h.block g h1, ?_, ?_⟩
    · simp [Ct.back, h2]
      intro h3
      omega
    · have hρ : (C.back id w v).ρ id = v := by simp [Ct.back]
      rw [hρ]
      intro h3
      have := hv g h3
      omega

def calleeOf (σ : St) (ty : TypeId → Option TI) (fx : Operand) : Option (FuncId × List AV) := match σ.ev ty 0 fx with
  | some (.fn f cap) => some (f, cap)
  | _ => none

theorem run_call {a : Act} {C : Ct} (m : Models σ a C) {o : Oper} {c : Call} {fx : Operand} {f : FuncId} {cap : List AV} {fn : Func} (ho : o.op = .call c) (hc : c.callee = .value fx) (hf : calleeOf σ ty fx = some (f, cap)) (hfn : IsFn P f fn) :
    ∃ vs : Array Value, vs.size = cap.length ∧ (∀ (j : Nat) (y : AV), cap[j]? = some y → Rep C y (vs.getD j undef)) ∧ (execOp a.eval o).run P C.w = .ok (.enter f (c.args.map a.eval ++ vs)) C.w := by
  unfold calleeOf at hf
  split at hf
  · rename_i f' cap' hv
    cases hf
    have hr := ev_sound m hv
    generalize hvv : a.eval fx = v at hr
    cases hr with
    | fn f cap vs hl hcap =>
      refine ⟨vs, hl, hcap, ?_⟩
      unfold execOp
      simp only [ho, resolve, hc, hvv, Deferred.ofValue, invoke, Sem.run_bind, Sem.run_pure, Result.andThen_ok]
      rw [show (#[] : Array Value) ++ c.args.map a.eval = c.args.map a.eval from by simp]
      exact hfn.run (c.args.map a.eval ++ vs) C.w
  · cases hf

/-- A call of a function of which a contract is known. -/
theorem aops_call {ops rest : List Oper} {o : Oper} {c : Call} {fx : Operand} {f : FuncId} {ys : List AV} {dargs : List Dat} {R : Res → Prop} (hw : wantedA ops σ o = some true) (hd : dstOk σ o.dst = true) (ho : o.op = .call c) (hc : c.callee = .value fx) (hf : calleeOf σ ty fx = some (f, []))
    (hy : evAll σ ty c.args.toList c.argTypes.toList = some ys) (hdat : datAll (frzAll σ ys) ys = some dargs) (hA : ACalls P Γ f dargs R)
    (k : ∀ r, R r → AOps P Γ ops Q rest ((frzAll σ ys).res o.dst r)) : AOps P Γ ops Q (o :: rest) σ :=
  aops_step hw fun C0 a C K R' b ev m hk => by
    obtain ⟨⟨fn, hfn⟩, hcalls⟩ := hA
    obtain ⟨vs, hvl, _, hrun⟩ := run_call (P := P) m ho hc hf hfn
    have hv0 : vs = #[] := Array.eq_empty_of_size_eq_zero (by simpa using hvl)
    subst hv0
    obtain ⟨C1, m1, e1, hw1⟩ := Models.frzAll ys m
    obtain ⟨y1, y2⟩ := evAll_sound m hy
    obtain ⟨d1, d2⟩ := datAll_sound m1 hdat
    have hsz1 : (frzAll σ ys).sz = σ.sz := by rw [← m1.sz, m.sz]
    have ev1 := ev.trans e1
    have hB1 := (b.evo ev1).B
    unfold Oper.wp
    rw [hrun]
    simp only [Array.append_empty]
    rw [← hw1]
    refine (hcalls C1.w C1.pr (c.args.map a.eval) (b.evo ev1).ok (by rw [d1, y1]; simp) (fun j x hj => ?_)).mono ?_
    · have := d2 (fun j => (c.args.toList.map a.eval).getD j undef) (fun j x hx => (y2 j x hx).mono e1) j x hj
      simpa using this
    · rintro e w' ⟨v, r, rfl, hbel, hres, hR⟩
      have kr := k r hR
      cases r with
      | d x =>
        refine hk _ (C1.back0 w') _ ((m1.back0 hB1 hbel).put (v := v) (.d hres) (by rw [hsz1]; exact dstOk_spec hd)) (ev1.trans (Ct.back0_evo hB1 hbel)) kr
      | own ek e xs =>
        obtain ⟨hv, ⟨_, _, _, hsl⟩, m2⟩ := m1.back m1.fresh (Nat.le_succ _) (Nat.lt_succ_self _) hB1 hbel hres
        refine hk _ (C1.back _ w' v) _ (m2.put (v := v) (.ref _ (by simp [Ct.back]) _ (by simp [Ct.back]) (by rw [hsl]; rfl)) (by
          show ∀ d, o.dst = some d → d < (frzAll σ ys).sz
          rw [hsz1]; exact dstOk_spec hd)) (ev1.trans (Ct.back_evo m1.fresh hB1 hbel hv)) kr
      | ownT ek e xs rs =>
        obtain ⟨vs, rfl, hvs, hown, hrest⟩ := hres
        obtain ⟨hv, ⟨_, _, _, hsl⟩, m2⟩ := m1.back m1.fresh (Nat.le_succ _) (Nat.lt_succ_self _) hB1 hbel hown
        refine hk _ (C1.back _ w' (vs.getD 0 undef)) _ (m2.put (v := .tuple vs) (.tup _ vs (by simp [hvs]) (fun j y hj => ?_)) (by
          show ∀ d, o.dst = some d → d < (frzAll σ ys).sz
          rw [hsz1]; exact dstOk_spec hd)) (ev1.trans (Ct.back_evo m1.fresh hB1 hbel hv)) kr
        cases j with
        | zero =>
          simp only [List.getElem?_cons_zero, Option.some.injEq] at hj
          subst hj
          exact .ref _ (by simp [Ct.back]) _ (by simp [Ct.back]) (by rw [hsl]; rfl)
        | succ j =>
          simp only [List.getElem?_cons_succ, List.getElem?_map] at hj
          obtain ⟨x, hx, rfl⟩ := Option.map_eq_some_iff.1 hj
          exact .d (hrest j x hx)

/-! ### What a function hands back -/
def resultA (ty : TypeId → Option TI) (σ : St) : List ResultVar → Option (List AV)
  | [] => some []
  | .tmp t :: r => match σ.get t, resultA ty σ r with
    | some x, some l => some (x :: l)
    | _, _ => none
  | .cell p t :: r => match σ.get p, ty t with
    | some (.ptr i off), some ti => match loadAV σ ti (.ptr i off), resultA ty σ r with
      | some (_, x), some l => some (x :: l)
      | _, _ => none
    | _, _ => none

theorem Rep.ptr_inv {c : Ct} {i off : Nat} {v : Value} (h : Rep c (.ptr i off) v) : ∃ g, v = .pointer (some ⟨g, off, none⟩) := by
  cases h with
  | ptr i off g hi hg => exact ⟨g, rfl⟩
theorem loadAV_ptr_true {i : TI} {k off : Nat} {p : Prop} {y : AV} (h : loadAV σ i (.ptr k off) = some (p, y)) : p := by
  unfold loadAV at h
  simp only at h
  split at h
  · split at h
    · split at h
      · cases h; trivial
      · cases h
    · split at h
      · cases h; trivial
      · cases h
  · cases h

def resSem (tmps : Array Value) : ResultVar → Sem Value
  | .tmp t => pure (tmps.getD t undef)
  | .cell q t => do loadVar t (← asAddr (tmps.getD q undef))
theorem results_eq (fn : Func) (tmps : Array Value) : results fn tmps = (do let vs ← fn.results.mapM (resSem tmps); pure (if h : vs.size = 1 then vs[0] else .tuple vs)) := by
  unfold results
  congr 2
theorem resultA_sound (hT : TyOk P ty) {a : Act} {C : Ct} (m : Models σ a C) : ∀ {l : List ResultVar} {ys : List AV}, resultA ty σ l = some ys → ∃ vs : List Value, vs.length = ys.length ∧
    (l.mapM (resSem a.tmps)).run P C.w = .ok vs C.w ∧ ∀ (j : Nat) (y : AV), ys[j]? = some y → Rep C y (vs.getD j undef)
  | [], ys, h => by
    cases h
    exact ⟨[], rfl, by simp, by simp⟩
  | .tmp t :: r, ys, h => by
    unfold resultA at h
    split at h
    · rename_i x l hx hl
      cases h
      obtain ⟨vs, h1, h2, h3⟩ := resultA_sound hT m hl
      refine ⟨a.tmps.getD t undef :: vs, by simp [h1], ?_, ?_⟩
      · simp only [List.mapM_cons, resSem, Sem.run_bind, Sem.run_pure, Result.andThen_ok, h2]
      · intro j y hj
        cases j with
        | zero => simp at hj; subst hj; simpa using (m.tm t x hx).2
        | succ j => simpa using h3 j y (by simpa using hj)
    · cases h
  | .cell q t :: r, ys, h => by
    unfold resultA at h
    split at h
    · rename_i i off ti hx ht
      split at h
      · rename_i p x l hld hl
        cases h
        have hp := loadAV_ptr_true hld
        obtain ⟨vs, h1, h2, h3⟩ := resultA_sound hT m hl
        obtain ⟨u, hu, hr⟩ := loadAV_sound hT m ht hld hp (m.tm q _ hx).2
        refine ⟨u :: vs, by simp [h1], ?_, ?_⟩
        · obtain ⟨g, hpv⟩ := Rep.ptr_inv (m.tm q _ hx).2
          rw [hpv] at hu
          have hu' : (loadVar t ⟨g, off, none⟩).run P C.w = .ok u C.w := by
            simpa [Instr.loadAt, Instr.sureAddr] using hu
          simp only [List.mapM_cons, resSem, Sem.run_bind, Sem.run_pure, Result.andThen_ok, hpv, asAddr, hu', h2]
        · intro j y hj
          cases j with
          | zero => simp at hj; subst hj; simpa using hr
          | succ j => simpa using h3 j y (by simpa using hj)
      · cases h
    · cases h

def packA : List AV → AV
  | [x] => x
  | l => .tup l
def packV (vs : List Value) : Value := if h : vs.length = 1 then vs[0] else .tuple vs.toArray
theorem run_results (hT : TyOk P ty) {a : Act} {C : Ct} (m : Models σ a C) {fn : Func} {ys : List AV} (h : resultA ty σ fn.results.toList = some ys) : ∃ v, (results fn a.tmps).run P C.w = .ok v C.w ∧ Rep C (packA ys) v := by
  obtain ⟨vs, h1, h2, h3⟩ := resultA_sound hT m h
  refine ⟨packV vs, ?_, ?_⟩
  · have hm : (List.toArray <$> (fn.results.toList.mapM (resSem a.tmps)) : Sem (Array Value)).run P C.w = .ok vs.toArray C.w := by
      simp only [Sem.run_map, h2]
      rfl
    rw [← Array.mapM_eq_mapM_toList] at hm
    rw [results_eq]
    simp only [Sem.run_bind, hm, Result.andThen_ok, Sem.run_pure, packV]
    congr 1
  · unfold packA packV
    split
    · rename_i x
      have hl : vs.length = 1 := by simpa using h1
      rw [dif_pos hl]
      have := h3 0 x rfl
      simpa [hl] using this
    · rename_i hne
      have hl : vs.length ≠ 1 := by
        intro hl
        rw [h1] at hl
        match ys, hl with
        | [x], _ => exact hne x rfl
      rw [dif_neg hl]
      exact .tup ys vs.toArray (by simp [h1]) (fun j y hj => by simpa using h3 j y hj)
end
end Go.Am
