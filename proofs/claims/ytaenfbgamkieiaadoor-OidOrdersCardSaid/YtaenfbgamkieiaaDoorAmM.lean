/- The abstract machine, thirteenth part: a contract out of a walk; a call walked in place. No program. -/
import Derived.Test.YtaenfbgamkieiaaDoorAmL
namespace Go.Am
open Go.RowKit
set_option linter.unusedSimpArgs false
set_option linter.unusedVariables false

section
variable {P : Program} {Γ : Env} {Q : Exit → St → Prop} {σ : St} {ty : TypeId → Option TI}

def enumA : Nat → List AV → List (Nat × AV)
  | _, [] => []
  | k, x :: r => (k, x) :: enumA (k + 1) r
theorem look_enumA : ∀ {l : List AV} {k t : Nat} {x : AV}, look t (enumA k l) = some x → k ≤ t ∧ l[t - k]? = some x
  | [], k, t, x, h => by cases h
  | y :: r, k, t, x, h => by
    rw [enumA, look_cons] at h
    split at h
    · rename_i e
      subst e
      cases h
      simp
    · rename_i hne
      obtain ⟨h1, h2⟩ := look_enumA h
      refine ⟨by omega, ?_⟩
      rw [show t - k = (t - (k + 1)) + 1 by omega]
      simpa using h2
def entry (sz : Nat) (ys : List AV) (ob : List (Nat × AO)) (nx : Nat) : St := ⟨sz, enumA 0 ys, ob, nx⟩

theorem Models.entry {a : Act} {C : Ct} (m : Models σ a C) {sz : Nat} {ys : List AV} {vs : Array Value} (hsz : vs.size = ys.length) (hle : ys.length ≤ sz) (hr : ∀ (j : Nat) (y : AV), ys[j]? = some y → Rep C y (vs.getD j undef)) :
    Models (entry sz ys σ.ob σ.nx) { tmps := vs ++ Array.replicate (sz - vs.size) undef, defers := [] } C := by
  refine ⟨rfl, by simp [Am.entry]; omega, m.nx, fun t x ht => ?_, m.ob, m.apart⟩
  obtain ⟨_, h2⟩ := look_enumA ht
  simp only [Nat.sub_zero] at h2
  have hlt := (List.getElem?_eq_some_iff.1 h2).1
  refine ⟨by show t < sz; omega, ?_⟩
  have := hr t x h2
  have hts : t < vs.size := by omega
  simpa [Array.getElem?_append, hts] using this

/-- A state without objects, over arguments that are data. -/
theorem Models.start {w : World} {pr : Nat → Bool} {vs : Array Value} {args : List Dat} {sz : Nat} (hsz : vs.size = args.length) (hle : args.length ≤ sz) (hr : ∀ (j : Nat) (x : Dat), args[j]? = some x → RepD w pr x (vs.getD j undef)) :
    Models (Am.entry sz (args.map .d) [] 0) { tmps := vs ++ Array.replicate (sz - vs.size) undef, defers := [] } ⟨w, pr, fun _ => .slice none 0 0, fun _ => false, w.heap.size⟩ := by
  refine ⟨rfl, by simp [Am.entry]; omega, fun i hi => by (cases hi), fun t x ht => ?_, fun i o hi => ?_, fun i j o o' g hi => ?_⟩
  · obtain ⟨_, h2⟩ := look_enumA ht
    simp only [Nat.sub_zero, List.getElem?_map] at h2
    obtain ⟨d, hd, rfl⟩ := Option.map_eq_some_iff.1 h2
    have hlt := (List.getElem?_eq_some_iff.1 hd).1
    refine ⟨by show t < sz; omega, ?_⟩
    have hts : t < vs.size := by omega
    have := hr t d hd
    exact .d (by simpa [Array.getElem?_append, hts] using this)
  · cases hi
  · cases hi

def retRes (σ : St) : AV → Option Res
  | .ref i => match σ.obj i with
    | some (.row ek e xs) => some (.own ek e xs)
    | some (.frz ek xs) => some (.d (.sl ek xs))
    | _ => none
  | .tup (.ref i :: rest) => match (frzAll σ rest).obj i, datAll (frzAll σ rest) rest with
    | some (.row ek e xs), some l => some (.ownT ek e xs l)
    | some (.frz ek xs), some l => some (.d (.tup (.sl ek xs :: l)))
    | _, _ => none
  | .tup l => match datAll (frzAll σ l) l with
    | some ds => some (.d (.tup ds))
    | none => none
  | x => match datOf (frzA σ x) x with
    | some d => some (.d d)
    | none => none

theorem own_of_row {w : World} {pr : Nat → Bool} {C0 C : Ct} (hw : C0.w = w) (hB : C0.B = w.heap.size) (hpr : C0.pr = pr) (e : Evo C0 C) {i : Nat} {ek : Option Nat} {t : TypeId} {xs : List Dat} (h : ORep C i (.row ek t xs)) : OwnRep w C.w pr ek t xs (C.ρ i) := by
  obtain ⟨_, vals, hown, hp, hcr⟩ := h
  refine ⟨vals, ?_, hcr.mono (fun b hb hpb => ⟨rfl, ?_⟩)⟩
  · rw [← hB, ← e.B]; exact hown
  · have hne : blk (C.ρ i) ≠ some b := fun h => by have := hp b h; rw [this] at hpb; cases hpb
    have : pr b = true ∨ w.heap.size ≤ b := by
      by_cases hlt : b < w.heap.size
      · left
        rw [← hpr, ← e.prlow b (by rw [hB]; exact hlt)]
        exact hpb
      · right; omega
    simp [hne, this]
theorem repD_out {w : World} {pr : Nat → Bool} {C0 C : Ct} (hw : C0.w = w) (hB : C0.B = w.heap.size) (hpr : C0.pr = pr) (e : Evo C0 C) {x : Dat} {v : Value} (h : RepD C.w C.pr x v) : RepD C.w (fun b => pr b || decide (w.heap.size ≤ b)) x v :=
  h.mono (fun b hb hpb => ⟨rfl, by
    have : pr b = true ∨ w.heap.size ≤ b := by
      by_cases hlt : b < w.heap.size
      · left
        rw [← hpr, ← e.prlow b (by rw [hB]; exact hlt)]
        exact hpb
      · right; omega
    simpa using this⟩)

theorem retRes_sound {w : World} {pr : Nat → Bool} {C0 C : Ct} {a : Act} (hw : C0.w = w) (hB : C0.B = w.heap.size) (hpr : C0.pr = pr) (e : Evo C0 C) (m : Models σ a C) {x : AV} {r : Res} {v : Value} (h : retRes σ x = some r) (hx : Rep C x v) : ResRep w C.w pr r v := by
  unfold retRes at h
  split at h
  · rename_i i
    cases hx with
    | ref i hi v hv h1 =>
      subst hv
      split at h
      · rename_i ho
        cases h
        exact own_of_row hw hB hpr e (m.ob _ _ ho)
      · rename_i ho
        cases h
        exact repD_out hw hB hpr e (m.ob _ _ ho).2
      · cases h
  · rename_i i rest
    obtain ⟨C1, m1, e1, hw1⟩ := Models.frzAll rest m
    cases hx with
    | tup cs vs hl hr =>
      have hr0 := hr 0 (.ref i) rfl
      rw [← hw1]
      split at h
      · rename_i ek t xs l ho hd
        cases h
        obtain ⟨d1, d2⟩ := datAll_sound m1 hd
        have hrow := m1.ob _ _ ho
        have hv0 : vs.getD 0 undef = C1.ρ i := by
          have := hr0.mono e1
          generalize vs.getD 0 undef = z at this
          cases this with
          | ref i hi v hv h1 => exact hv
        refine ⟨vs, rfl, by simp [hl, d1], ?_, fun j x hj => ?_⟩
        · rw [hv0]; exact own_of_row hw hB hpr (e.trans e1) hrow
        · have := d2 (fun j => vs.getD (j + 1) undef) (fun j y hy => (hr (j + 1) y (by simpa using hy)).mono e1) j x hj
          rw [hv0]
          refine this.mono (fun b hb hpb => ⟨rfl, ?_⟩)
          have hne : blk (C1.ρ i) ≠ some b := fun h => by
            have := (hrow.excl rfl h).2.1
            rw [this] at hpb; cases hpb
          have : pr b = true ∨ w.heap.size ≤ b := by
            by_cases hlt : b < w.heap.size
            · left
              rw [← hpr, ← (e.trans e1).prlow b (by rw [hB]; exact hlt)]
              exact hpb
            · right; omega
          simp [hne, this]
      · rename_i ek xs l ho hd
        cases h
        obtain ⟨d1, d2⟩ := datAll_sound m1 hd
        have hv0 : vs.getD 0 undef = C1.ρ i := by
          have := hr0.mono e1
          generalize vs.getD 0 undef = z at this
          cases this with
          | ref i hi v hv h1 => exact hv
        refine repD_out hw hB hpr (e.trans e1) (.tup _ vs (by simp [hl, d1]) (fun j y hj => ?_))
        cases j with
        | zero => simp at hj; subst hj; rw [hv0]; exact (m1.ob _ _ ho).2
        | succ j => exact d2 (fun j => vs.getD (j + 1) undef) (fun j y hy => (hr (j + 1) y (by simpa using hy)).mono e1) j y (by simpa using hj)
      · cases h
  · rename_i l _
    obtain ⟨C1, m1, e1, hw1⟩ := Models.frzAll l m
    split at h
    · rename_i ds hd
      cases h
      obtain ⟨d1, d2⟩ := datAll_sound m1 hd
      rw [← hw1]
      cases hx with
      | tup cs vs hl hr =>
        exact repD_out hw hB hpr (e.trans e1) (.tup ds vs (by rw [hl, d1]) (fun j y hj => d2 (fun j => vs.getD j undef) (fun j y hy => (hr j y hy).mono e1) j y hj))
    · cases h
  · obtain ⟨C1, m1, e1, hw1⟩ := m.frzA x
    split at h
    · rename_i d hd
      cases h
      rw [← hw1]
      exact repD_out hw hB hpr (e.trans e1) (datOf_sound m1 hd (hx.mono e1))
    · cases h

/-- The end of a function's walk. -/
def RetOk (ty : TypeId → Option TI) (fn : Func) (R : Res → Prop) : Exit → St → Prop
  | .ret, σ => ∃ ys r, resultA ty σ fn.results.toList = some ys ∧ retRes σ (packA ys) = some r ∧ R r
  | .normal, σ => ∃ ys r, resultA ty σ fn.results.toList = some ys ∧ retRes σ (packA ys) = some r ∧ R r
  | _, _ => False

/-- A contract out of a walk. -/
theorem acalls_of (hT : TyOk P ty) {f : FuncId} {fn : Func} {body : Code} {args : List Dat} {R : Res → Prop} (hfn : IsFn P f fn) (hb : fn.body = some body) (hle : Nat.ble args.length fn.ntmps = true)
    (h : AWp P (Γ.at 0) body (RetOk ty fn R) (entry fn.ntmps (args.map .d) [] 0)) : ACalls P Γ f args R := by
  refine ⟨⟨fn, hfn⟩, fun w pr vs hok hsz hr => calls_of_wp hfn.hf hb ?_⟩
  have m := Models.start (sz := fn.ntmps) hsz (Nat.le_of_ble_eq_true hle) hr
  have hbase : Base (Γ.at 0) ⟨w, pr, fun _ => .slice none 0 0, fun _ => false, w.heap.size⟩ := ⟨⟨hok, Γ.lim_le w hok, Nat.le_refl _⟩, fun i hi => by cases hi⟩
  refine Code.wp_mono (fun ex a' w' hh => ?_) (h _ _ _ hbase (.refl _) m)
  obtain ⟨σ', C', rfl, m', e', hq⟩ := hh
  have hbel : Below w.heap.size w C'.w := Evo.below rfl e'
  cases ex <;> simp only [RetOk] at hq
  all_goals
    obtain ⟨ys, r, h1, h2, h3⟩ := hq
    obtain ⟨v, hv, hrep⟩ := run_results (P := P) hT m' h1
    exact ⟨m'.defers, v, hv, v, r, rfl, hbel, retRes_sound rfl rfl rfl e' m' h2 hrep, h3⟩

/-- The end of a callee that is walked in place. -/
def BackOk (ty : TypeId → Option TI) (fn : Func) (K : List (Nat × AO) → Nat → AV → Prop) : Exit → St → Prop
  | .ret, σ => ∃ ys, resultA ty σ fn.results.toList = some ys ∧ K σ.ob σ.nx (packA ys)
  | .normal, σ => ∃ ys, resultA ty σ fn.results.toList = some ys ∧ K σ.ob σ.nx (packA ys)
  | _, _ => False

/-- A call that is walked in place: a closure, for instance. -/
theorem aops_inline (hT : TyOk P ty) {ops rest : List Oper} {o : Oper} {c : Call} {fx : Operand} {f : FuncId} {fn : Func} {body : Code} {cap ys : List AV} (hw : wantedA ops σ o = some true) (hd : dstOk σ o.dst = true) (ho : o.op = .call c) (hc : c.callee = .value fx) (hf : calleeOf σ ty fx = some (f, cap))
    (hy : evAll σ ty c.args.toList c.argTypes.toList = some ys) (hfn : IsFn P f fn) (hb : fn.body = some body) (hle : Nat.ble (ys ++ cap).length fn.ntmps = true)
    (h : AWp P (Γ.at σ.nx) body (BackOk ty fn (fun ob nx r => AOps P Γ ops Q rest (St.put { σ with ob := ob, nx := nx } o.dst r))) (entry fn.ntmps (ys ++ cap) σ.ob σ.nx)) : AOps P Γ ops Q (o :: rest) σ :=
  aops_step hw fun C0 a C K R' b ev m hk => by
    obtain ⟨vs, hvl, hvr, hrun⟩ := run_call (P := P) m ho hc hf hfn
    obtain ⟨y1, y2⟩ := evAll_sound m hy
    have me := m.entry (sz := fn.ntmps) (ys := ys ++ cap) (vs := c.args.map a.eval ++ vs) (by simp [y1, hvl]) (Nat.le_of_ble_eq_true hle) (fun j y hj => by
      rw [List.getElem?_append] at hj
      have hal : (c.args.map a.eval).size = ys.length := by simp [y1]
      split at hj
      · rename_i hlt
        have := y2 j y hj
        have hlt' : j < (c.args.map a.eval).size := by omega
        have hlt2 : j < c.args.size := by simpa using hlt'
        simpa [Array.getElem?_append, hlt2] using this
      · rename_i hge
        have := hvr _ y hj
        have hge' : ¬ j < c.args.size := by simp at hal; omega
        have hsub : j - c.args.size = j - ys.length := by simp at hal; omega
        simpa [Array.getElem?_append, hge', hsub] using this)
    unfold Oper.wp
    rw [hrun]
    refine calls_of_wp hfn.hf hb (Code.wp_mono (fun ex a' w' hh => ?_) (h C _ C ((b.evo ev).up m.nx) (.refl C) me))
    obtain ⟨σ', C', rfl, m', e', hq⟩ := hh
    have back : ∀ ys, resultA ty σ' fn.results.toList = some ys → AOps P Γ ops Q rest (St.put { σ with ob := σ'.ob, nx := σ'.nx } o.dst (packA ys)) →
        a'.defers = [] ∧ ∃ v, (results fn a'.tmps).run P C'.w = .ok v C'.w ∧ K (a.put o.dst v) C'.w := by
      intro ys h1 h2
      obtain ⟨v, hv, hrep⟩ := run_results (P := P) hT m' h1
      refine ⟨m'.defers, v, hv, hk _ C' _ (Models.put (σ := { σ with ob := σ'.ob, nx := σ'.nx }) ⟨m.defers, m.sz, m'.nx, fun t x ht => ⟨(m.tm t x ht).1, (m.tm t x ht).2.mono e'⟩, m'.ob, m'.apart⟩ hrep (dstOk_spec hd)) (ev.trans e') h2⟩
    cases ex <;> simp only [BackOk] at hq
    all_goals
      obtain ⟨ys, h1, h2⟩ := hq
      exact back ys h1 h2
end
end Go.Am
namespace Go.Am
/-- What is asked of one row of a table of types. -/
structure TyFact (P : Program) (t : TypeId) (i : TI) : Prop where
  und : P.underlying t = some i.desc
  info : ∃ j, P.info? t = some j ∧ j.size = i.size ∧ j.bytes = i.bytes ∧ j.zero = some i.zero
  one : i.agg = false → i.size = 1
  zsize : i.zero.cells.size = i.size ∧ i.zd.length = i.size
  zone : ∀ y ∈ i.zd, y.one = true
  zrep : ∀ w pr j y, i.zd[j]? = some y → RepD w pr y (i.zero.cells.getD j undef)
  znil : znilB i.zd i.zero.cells.toList = true
  places : ∀ fields, i.desc = .struct fields → ∃ places, fields.toList.mapM (fun f => (P.info? f.type).map fun i => (f.offset, i.size)) = some places
def RepL (w : World) (pr : Nat → Bool) : List Dat → List Value → Prop
  | [], _ => True
  | d :: ds, v :: vs => RepD w pr d v ∧ RepL w pr ds vs
  | _ :: _, [] => False
theorem RepL.get {w : World} {pr : Nat → Bool} : ∀ {ds : List Dat} {vs : List Value}, RepL w pr ds vs → ∀ (j : Nat) (y : Dat), ds[j]? = some y → RepD w pr y (vs.getD j undef)
  | [], _, _, j, y, h => by simp at h
  | d :: ds, v :: vs, hr, 0, y, h => by simp at h; subst h; simpa using hr.1
  | d :: ds, v :: vs, hr, j + 1, y, h => by simpa using RepL.get hr.2 j y (by simpa using h)
  | d :: ds, [], hr, j, y, h => hr.elim
theorem TyFact.mk' {P : Program} {t : TypeId} {i : TI} (h1 : P.underlying t = some i.desc) (h2 : (P.info? t).map (fun j => (j.size, j.bytes, j.zero)) = some (i.size, i.bytes, some i.zero)) (h3 : i.agg = false → i.size = 1)
    (h4 : i.zero.cells.size = i.size) (h5 : i.zd.length = i.size) (h6 : i.zd.all (·.one) = true) (h7 : ∀ w pr, RepL w pr i.zd i.zero.cells.toList) (h9 : znilB i.zd i.zero.cells.toList = true) (h8 : ∀ fields, i.desc = .struct fields → ∃ places, fields.toList.mapM (fun f => (P.info? f.type).map fun i => (f.offset, i.size)) = some places) : TyFact P t i := by
  obtain ⟨j, hj, he⟩ := Option.map_eq_some_iff.1 h2
  simp only [Prod.mk.injEq] at he
  exact ⟨h1, ⟨j, hj, he.1, he.2.1, he.2.2⟩, h3, ⟨h4, h5⟩, fun y hy => List.all_eq_true.1 h6 y hy, fun w pr j y hy => by simpa using (h7 w pr).get j y hy, h9, h8⟩
def TyAll (P : Program) : List (Nat × TI) → Prop
  | [] => True
  | (t, i) :: r => TyFact P t i ∧ TyAll P r
theorem TyAll.get {P : Program} : ∀ {l : List (Nat × TI)}, TyAll P l → ∀ t i, look t l = some i → TyFact P t i
  | [], _, t, i, h => by cases h
  | (k, y) :: r, hs, t, x, h => by
    rw [look_cons] at h
    split at h
    · rename_i e
      subst e
      cases h
      exact hs.1
    · exact hs.2.get t x h
theorem tyOk_of {P : Program} {l : List (Nat × TI)} (h : TyAll P l) : TyOk P (fun t => look t l) where
  und t i ht := (h.get t i ht).und
  info t i ht := (h.get t i ht).info
  one t i ht := (h.get t i ht).one
  zsize t i ht := (h.get t i ht).zsize
  zone t i ht := (h.get t i ht).zone
  zrep t i ht := (h.get t i ht).zrep
  znil t i ht := (h.get t i ht).znil
  places t i ht := (h.get t i ht).places
end Go.Am
