/- Part 3 of the texts of this proof: an abstract machine for walks, the walks of the functions, plain laws. Each part says in its own first lines what is proved there. -/
import Derived.Test.YtohabohifjadgaaDoorK2
import Derived.MapKept
import Derived.Lay
import Derived.Stop.Joined
import Derived.SizedLaws

/- The abstract machine: maps that the walk itself has made: made, looked into, a new key put in. No program. -/
namespace Go.Am
open Go.RowKit
set_option linter.unusedSimpArgs false
set_option linter.unusedVariables false

def keyB : Dat → Dat → Option Bool
  | .int k a, .int k' b => match kindB k k' with
    | true => some (decide (a = b))
    | false => none
  | .str a, .str b => some (decide (a = b))
  | _, _ => none
def findM (k : Dat) : List (Dat × AV) → Option (Option AV)
  | [] => some none
  | (k', x) :: r => match keyB k k' with
    | some true => some (some x)
    | some false => findM k r
    | none => none
def keyT : TypeDesc → Dat → Bool
  | .string, .str _ => true
  | .int q, .int k _ => kindB k q
  | _, _ => false

section
variable {P : Program} {Γ : Env} {Q : Exit → St → Prop} {σ : St} {ty : TypeId → Option TI}

/-- What a look-up yields. -/
def lookR (zx : AV) : Bool → Option AV → AV
  | true, some x => .tup [x, .d (.bool true)]
  | true, none => .tup [zx, .d (.bool false)]
  | false, some x => x
  | false, none => zx
/-- A literal without elements. -/
theorem run_lit0 {t e : TypeId} {j : TypeInfo} (hu : P.underlying t = some (.slice e)) (hie : P.info? e = some j) (w : World) :
    (Instr.buildSlice t 0 #[]).run P w = .ok (.slice (some ⟨w.heap.size, 0, none⟩) 0 0) (w.alloc (.cells #[] e)) := by
  have e0 : (Array.range 0).map (fun _ : Nat => (default : Value)) = #[] := Array.eq_empty_of_size_eq_zero (by simp)
  simp [Instr.buildSlice, run_underlying hu, sizeOf, typeInfo, hie, newRow, Instr.fill]
  exact congrArg (fun z => w.alloc (Obj.cells z e)) e0
theorem aops_lit0 (hT : TyOk P ty) {ops rest : List Oper} {o : Oper} {t e : TypeId} {ti ei : TI} {sz nx : Nat} {tm : List (Nat × AV)} {ob : List (Nat × AO)} (hw : wantedA ops σ o = some true) (hd : dstOk σ o.dst = true) (ho : o.op = .buildSlice t 0 #[]) (ht : ty t = some ti) (hde : ti.desc = .slice e) (he : ty e = some ei)
    (hr : addPut σ none (.row ei.ek e []) o.dst .ref = ⟨sz, tm, ob, nx⟩) (k : AOps P Γ ops Q rest ⟨sz, tm, ob, nx⟩) : AOps P Γ ops Q (o :: rest) σ :=
  aops_step hw fun C0 a C K R b ev m hk => by
    rw [addPut_eq] at hr
    have hB := (b.evo ev).B
    obtain ⟨j, hj, hjs, _, hjz⟩ := hT.info _ _ he
    have hu := hT.und _ _ ht
    rw [hde] at hu
    have hrun : (execOp a.eval o).run P C.w = .ok (.value (.slice (some ⟨C.w.heap.size, 0, none⟩) 0 0)) (C.w.alloc (.cells #[] e)) := by
      unfold execOp
      simp only [ho]
      exact run_value (by rw [show (#[] : Array (Nat × Operand)).map (fun x => (x.1, a.eval x.2)) = #[] from Array.eq_empty_of_size_eq_zero (by simp)]; exact run_lit0 hu hj C.w)
    have m' := m.new hB (.cells #[] e) (.slice (some ⟨C.w.heap.size, 0, none⟩) 0 0) rfl (.row ei.ek e []) (by
      have := new_row (C := C) m.fresh hB (ek := ei.ek) (e := e) (xs := []) (vs := #[]) 0 (by simp) (by simp [maxLen]) (by simp) (by
        intro k d hk
        simp at hk)
      exact this)
    refine upon_value hrun (hk _ (C.new _ _ _) _ (m'.put (v := .slice (some ⟨C.w.heap.size, 0, none⟩) 0 0) ?_ (dstOk_spec hd)) (ev.trans (Ct.new_evo m.fresh hB _ _)) (by rw [hr]; exact k))
    exact .ref _ (by simp [Ct.new]) _ (by simp [Ct.new]) rfl
/-- A field of a struct that lies in a slot. -/
def fieldVal (fi : TI) (off : Nat) : AV → Option AV
  | .d (.agg cs) => match fi.agg with
    | false => match cs[off]? with
      | some y => some (.d y)
      | none => none
    | true => match Nat.ble (off + fi.size) cs.length with
      | true => some (.d (.agg ((cs.drop off).take fi.size)))
      | false => none
  | .agg cs => match fi.agg with
    | false => cs[off]?
    | true => match Nat.ble (off + fi.size) cs.length with
      | true => some (.agg ((cs.drop off).take fi.size))
      | false => none
  | _ => none
theorem cut_cells {α : Type} {cs : List α} {vs : Array Value} {off n j : Nat} {y : α} (hl : vs.size = cs.length) (hle : off + n ≤ cs.length) (hj : ((cs.drop off).take n)[j]? = some y) : cs[off + j]? = some y ∧ (vs.extract off (off + n)).getD j undef = vs.getD (off + j) undef := by
  have hlt := (List.getElem?_eq_some_iff.1 hj).1
  rw [List.length_take, List.length_drop] at hlt
  have hjn : j < n := by omega
  rw [List.getElem?_take, if_pos hjn, List.getElem?_drop] at hj
  refine ⟨hj, ?_⟩
  have h2 : off + j < vs.size := by omega
  simp [h2, show j < min (off + n) vs.size - off by omega]
theorem fieldVal_sound (hT : TyOk P ty) {t : TypeId} {fi : TI} (ht : ty t = some fi) {off : Nat} {y z : AV} (h : fieldVal fi off y = some z) {C : Ct} {v : Value} (hv : Rep C y v) : ∃ vs u, v = .agg vs ∧ (part t vs off).run P C.w = .ok u C.w ∧ Rep C z u := by
  have hagg := hT.run_agg ht C.w
  have hsize := hT.run_size ht C.w
  unfold fieldVal at h
  split at h
  · cases hv with
    | d h' =>
      cases h' with
      | agg cs vs hl h1 hr =>
        split at h
        · rename_i ha
          split at h
          · rename_i y hy
            cases h
            have hlt : off < vs.size := by rw [hl]; exact (List.getElem?_eq_some_iff.1 hy).1
            refine ⟨vs, vs.getD off undef, rfl, ?_, .d (hr off _ hy)⟩
            unfold part
            simp only [Sem.run_bind, hagg, ha, Result.andThen_ok]
            simp [hlt]
          · cases h
        · rename_i ha
          split at h
          · rename_i hb
            cases h
            have hle := Nat.le_of_ble_eq_true hb
            refine ⟨vs, .agg (vs.extract off (off + fi.size)), rfl, ?_, .d (.agg _ _ (by simp; omega) (fun y hy => h1 y (List.mem_of_mem_drop (List.mem_of_mem_take hy))) (fun j y hj => ?_))⟩
            · unfold part
              simp only [Sem.run_bind, hagg, ha, Result.andThen_ok, if_true, hsize, Sem.run_pure]
            · obtain ⟨e1, e2⟩ := cut_cells hl hle hj
              rw [e2]
              exact hr _ _ e1
          · cases h
  · cases hv with
    | agg cs vs hl h1 hr =>
      split at h
      · rename_i ha
        have hlt : off < vs.size := by rw [hl]; exact (List.getElem?_eq_some_iff.1 h).1
        refine ⟨vs, vs.getD off undef, rfl, ?_, hr off _ h⟩
        unfold part
        simp only [Sem.run_bind, hagg, ha, Result.andThen_ok]
        simp [hlt]
      · rename_i ha
        split at h
        · rename_i hb
          cases h
          have hle := Nat.le_of_ble_eq_true hb
          refine ⟨vs, .agg (vs.extract off (off + fi.size)), rfl, ?_, .agg _ _ (by simp; omega) (fun y hy => h1 y (List.mem_of_mem_drop (List.mem_of_mem_take hy))) (fun j y hj => ?_)⟩
          · unfold part
            simp only [Sem.run_bind, hagg, ha, Result.andThen_ok, if_true, hsize, Sem.run_pure]
          · obtain ⟨e1, e2⟩ := cut_cells hl hle hj
            rw [e2]
            exact hr _ _ e1
        · cases h
  · cases h
theorem aops_field (hT : TyOk P ty) {ops rest : List Oper} {o : Oper} {xt : TypeId} {x : Operand} {f : Nat} {si fi : TI} {fields : Array Field} {fd : Field} {y z : AV} {sz nx : Nat} {tm : List (Nat × AV)} {ob : List (Nat × AO)} (hw : wantedA ops σ o = some true) (hd : dstOk σ o.dst = true) (ho : o.op = .field xt x f)
    (hs : ty xt = some si) (hsd : si.desc = .struct fields) (hf : fields[f]? = some fd) (hfi : ty fd.type = some fi) (hx : σ.ev ty xt x = some y) (hv : fieldVal fi fd.offset y = some z) (hr : put' σ o.dst z = ⟨sz, tm, ob, nx⟩) (k : AOps P Γ ops Q rest ⟨sz, tm, ob, nx⟩) : AOps P Γ ops Q (o :: rest) σ :=
  aops_step hw fun C0 a C K R b e m hk => by
    rw [put'_eq] at hr
    obtain ⟨vs, u, hav, hpart, hrep⟩ := fieldVal_sound hT hfi hv (ev_sound m hx)
    have hu := hT.und _ _ hs
    rw [hsd] at hu
    have hrun : (execOp a.eval o).run P C.w = .ok (.value u) C.w := by
      unfold execOp
      simp only [ho]
      refine run_value ?_
      unfold Instr.field
      simp only [Sem.run_bind, run_underlying hu, Result.andThen_ok, hf, hav, asAgg, Sem.run_pure, hpart]
    exact upon_value hrun (hk _ C _ (m.put hrep (dstOk_spec hd)) e (by rw [hr]; exact k))
/-- A side proof; a fact of the context may be the same up to computing. -/
theorem sdm {q : Prop} (h : q := by first | (simp only [and_true, true_and]; done) | (simp only [and_true, true_and, szs, cns]; omega) | omega | ((repeat' (first | exact True.intro | apply And.intro)) <;> first | omega | (simp only [List.getElem_toArray, List.getElem_cons_zero, List.getElem_cons_succ, szs, cns]; omega) | assumption | (simp only [szs, cns]; omega))) : q := h
/-- A row that is handed over may be looked at as a datum. -/
theorem own_datum {w0 w : World} {pr : Nat → Bool} {ek : Option Nat} {e : TypeId} {xs : List Dat} {v : Value} (h : OwnRep w0 w pr ek e xs v) : RepD w (fun b => pr b || decide (w0.heap.size ≤ b)) (.sl ek xs) v := by
  obtain ⟨vals, hown, hcr⟩ := h
  rcases hown.2 with ⟨hn, h0⟩ | ⟨g, cap, cur, hv, hb, hg, hnc, hcm, hcs, htake⟩
  · have : xs = [] := List.eq_nil_of_length_eq_zero h0
    subst this
    rw [hn]
    exact .nil ek
  · rw [hv]
    refine RepD.sl_mk rfl hnc hcm (fun _ => rfl) (fun x hx => ?_) (fun k x hk j y hj => ?_)
    · obtain ⟨k, hk⟩ := List.mem_iff_getElem?.1 hx
      exact (hcr k x hk).1
    · obtain ⟨hf, h2⟩ := hcr k x hk
      obtain ⟨u, hu, hr⟩ := h2 j y hj
      refine ⟨by simp only [Bool.or_eq_true, decide_eq_true_eq]; exact .inr hb, hf.one y (List.mem_of_getElem? hj), u, ?_, hr.mono fun b _ hb => ⟨rfl, by simp only [Bool.and_eq_true] at hb; exact hb.1⟩⟩
      have := hown.cells (g := g) (by rw [hv]; rfl) _ u hu
      rw [Addr.add_lit] at this
      simpa using this
/-- A callee that is walked in place falls off its end. -/
theorem back_nil {fn : Func} {K : List (Nat × AO) → Nat → AV → Prop} {ys : List AV} (h : resultA ty σ fn.results.toList = some ys) (k : K σ.ob σ.nx (packA ys)) : BackOk ty fn K .normal σ := ⟨ys, h, k⟩
end
end Go.Am

/- The abstract machine: the tail of a row of the walk's own is cleared. No program. -/
namespace Go.Am
open Go.RowKit
set_option linter.unusedSimpArgs false
set_option linter.unusedVariables false
section
variable {P : Program} {Γ : Env} {Q : Exit → St → Prop} {σ : St} {ty : TypeId → Option TI}

end
end Go.Am

/- Results whose slices lie in new blocks that may be written. No program. -/
namespace Go.Am
open Go.RowKit
set_option linter.unusedSimpArgs false
set_option linter.unusedVariables false

theorem rowN_out {C : Ct} {i : Nat} {ek : Option Nat} {e : TypeId} {xs : List Dat} (h : ORep C i (.row ek e xs)) (hx : FlatL xs) {n : Nat} (hn : n ≤ C.B) : RepD C.w (fun b => decide (C.B ≤ b)) (.nw n ek xs) (C.ρ i) := by
  refine .nw n ek xs _ (row_out h hx) fun g hg => ?_
  obtain ⟨_, _, h3⟩ := h.excl rfl hg
  refine ⟨Nat.le_trans hn h3, by simpa using h3, ?_⟩
  obtain ⟨_, vals, hown, _, _⟩ := h
  rcases hown.2 with ⟨h0, _⟩ | ⟨g', cap, cur, hv, hb, hg', _⟩
  · rw [h0] at hg
    simp [blk] at hg
  · rw [hv] at hg
    have : g' = g := by simpa [blk] using hg
    subst this
    exact plainB_of hg'
def nwL (n : Nat) (σ : St) : List AV → Option (List Dat × Prop)
  | [] => some ([], True)
  | .d x :: r => match nwL n σ r with
    | some (xs, p) => some (x :: xs, (FlatD x ∧ x.one = true) ∧ p)
    | none => none
  | .ref i :: r => match σ.obj i, nwL n σ r with
    | some (.row ek _ ys), some (xs, p) => some (.nw n ek ys :: xs, FlatL ys ∧ p)
    | _, _ => none
  | _ => none
theorem nwL_sound {a : Act} {C : Ct} {σ : St} (m : Models σ a C) {n : Nat} (hn : n ≤ C.B) : ∀ {l : List AV} {z : List Dat × Prop}, nwL n σ l = some z → z.2 → z.1.length = l.length ∧ (∀ x ∈ z.1, x.one = true) ∧
    ∀ (vs : Nat → Value), (∀ (j : Nat) (y : AV), l[j]? = some y → Rep C y (vs j)) → ∀ (j : Nat) (x : Dat), z.1[j]? = some x → RepD C.w (fun b => decide (C.B ≤ b)) x (vs j) := by
  intro l
  induction l with
  | nil =>
    intro z h hp
    cases h
    exact ⟨rfl, by simp, fun vs _ j x hj => by simp at hj⟩
  | cons y r ih =>
    intro z h hp
    unfold nwL at h
    split at h
    · rename_i heq; cases heq
    · rename_i x r' heq
      cases heq
      split at h
      · rename_i xs p hq
        cases h
        obtain ⟨h1, h2, h3⟩ := ih hq hp.2
        refine ⟨by simpa using h1, fun u hu => ?_, fun vs hv j u hj => ?_⟩
        · rcases List.mem_cons.1 hu with rfl | hu
          · exact hp.1.2
          · exact h2 u hu
        · cases j with
          | zero =>
            simp only [List.getElem?_cons_zero, Option.some.injEq] at hj
            subst hj
            cases hv 0 _ rfl with
            | d h => exact hp.1.1 _ _ _ _ _ h
          | succ j => exact h3 (fun k => vs (k + 1)) (fun k q hk => hv (k + 1) q (by simpa using hk)) j u (by simpa using hj)
      · cases h
    · rename_i i r' heq
      cases heq
      split at h
      · rename_i ek e ys xs p ho hq
        cases h
        obtain ⟨h1, h2, h3⟩ := ih hq hp.2
        refine ⟨by simpa using h1, fun u hu => ?_, fun vs hv j u hj => ?_⟩
        · rcases List.mem_cons.1 hu with rfl | hu
          · rfl
          · exact h2 u hu
        · cases j with
          | zero =>
            simp only [List.getElem?_cons_zero, Option.some.injEq] at hj
            subst hj
            have hr := hv 0 _ rfl
            cases hr with
            | ref i hi v hv' h1' =>
              rw [hv']
              exact rowN_out (m.ob _ _ ho) hp.1 hn
          | succ j => exact h3 (fun k => vs (k + 1)) (fun k q hk => hv (k + 1) q (by simpa using hk)) j u (by simpa using hj)
      · cases h
    · cases h
def RetOkN (ty : TypeId → Option TI) (fn : Func) (n : Nat) (R : Dat → Prop) : Exit → St → Prop
  | .ret, σ => ∃ cs z, resultA ty σ fn.results.toList = some [.agg cs] ∧ nwL n σ cs = some z ∧ (z.2 ∧ R (.agg z.1))
  | .normal, σ => ∃ cs z, resultA ty σ fn.results.toList = some [.agg cs] ∧ nwL n σ cs = some z ∧ (z.2 ∧ R (.agg z.1))
  | _, _ => False
theorem afreshN_of {P : Program} {Γ : Env} {ty : TypeId → Option TI} (hT : TyOk P ty) {f : FuncId} {fn : Func} {body : Code} {args : List Dat} {n : Nat} {R : Dat → Prop} (hn : ∀ w, Γ.ok w → n ≤ w.heap.size) (hfn : IsFn P f fn) (hb : fn.body = some body) (hle : Nat.ble args.length fn.ntmps = true)
    (h : AWp P (Γ.at 0) body (RetOkN ty fn n R) (entry fn.ntmps (args.map .d) [] 0)) : AFresh P Γ f args R := by
  refine ⟨⟨fn, hfn⟩, fun w pr vs hok hsz hr => calls_of_wp hfn.hf hb ?_⟩
  have m := Models.start (sz := fn.ntmps) hsz (Nat.le_of_ble_eq_true hle) hr
  have hbase : Base (Γ.at 0) ⟨w, pr, fun _ => .slice none 0 0, fun _ => false, w.heap.size⟩ := ⟨⟨hok, Γ.lim_le w hok, Nat.le_refl _⟩, fun i hi => by cases hi⟩
  refine Code.wp_mono (fun ex a' w' hh => ?_) (h _ _ _ hbase (.refl _) m)
  obtain ⟨σ', C', rfl, m', e', hq⟩ := hh
  have hbel : Below w.heap.size w C'.w := Evo.below rfl e'
  have hBB : C'.B = w.heap.size := e'.B
  have hnB : n ≤ C'.B := by rw [hBB]; exact hn w hok
  cases ex <;> simp only [RetOkN] at hq
  all_goals
    obtain ⟨cs, z, h1, h2, h3, h4⟩ := hq
    obtain ⟨v, hv, hrep⟩ := run_results (P := P) hT m' h1
    obtain ⟨k1, k2, k3⟩ := nwL_sound m' hnB h2 h3
    have hrep' : Rep C' (.agg cs) v := hrep
    cases hrep' with
    | agg cs vs hl h1' hr' =>
      have := RepD.agg (w := C'.w) (pr := fun b => decide (C'.B ≤ b)) z.1 vs (by rw [hl, k1]) k2 (k3 (fun j => vs.getD j undef) hr')
      rw [hBB] at this
      exact ⟨m'.defers, .agg vs, hv, .agg vs, .agg z.1, rfl, hbel, this, h4⟩
/-- What is handed over may be known better. -/
theorem ACalls.arg {P : Program} {Γ : Env} {f : FuncId} {args args' : List Dat} {R : Res → Prop} (h : ACalls P Γ f args R) (hl : args'.length = args.length)
    (hw : ∀ (j : Nat) (x x' : Dat), args[j]? = some x → args'[j]? = some x' → ∀ (w : World) (pr : Nat → Bool) (v : Value), RepD w pr x' v → RepD w pr x v) : ACalls P Γ f args' R :=
  ⟨h.1, fun w pr vs h1 h2 h3 => h.2 w pr vs h1 (h2.trans hl) fun j x hj => by
    have hj' : j < args'.length := by rw [hl]; exact (List.getElem?_eq_some_iff.1 hj).1
    exact hw j x args'[j] hj (List.getElem?_eq_getElem hj') w pr _ (h3 j _ (List.getElem?_eq_getElem hj'))⟩
end Go.Am

/- The abstract machine, twenty-sixth part: a slice of one struct; arrays. No program. -/
namespace Go.Am
open Go.RowKit
set_option linter.unusedSimpArgs false
set_option linter.unusedVariables false
section
variable {P : Program} {Γ : Env} {Q : Exit → St → Prop} {σ : St} {ty : TypeId → Option TI}
theorem run_lit1 {t e : TypeId} {v z : Value} {j : TypeInfo} (hu : P.underlying t = some (.slice e)) (hie : P.info? e = some j) (hz : j.zero = some z) (hs : v.cells.size = j.size) (h0 : 0 < j.size) (hm : j.size ≤ 16777216) (w : World) :
    (Instr.buildSlice t 1 #[(0, v)]).run P w = .ok (.slice (some ⟨w.heap.size, 0, none⟩) 1 1) (w.alloc (.cells (v.cells.zipIdx.foldl (fun (cs : Array Value) (x : Value × Nat) => cs.setIfInBounds (0 + x.2) x.1) ((Array.range (1 * j.size)).map (z.cells[· % z.cells.size]!))) e)) := by
  have h1 : ¬ 1 * j.size > 2 ^ 24 := by omega
  have h2 : ¬ 1 * j.size = 0 := by omega
  have hf : Instr.fill (fun i => some (i * j.size, j.size)) ((Array.range (1 * j.size)).map (z.cells[· % z.cells.size]!)) [(0, v)] = some (v.cells.zipIdx.foldl (fun (cs : Array Value) (x : Value × Nat) => cs.setIfInBounds (0 + x.2) x.1) ((Array.range (1 * j.size)).map (z.cells[· % z.cells.size]!))) := by
    have h3 : ((Array.range (1 * j.size)).map (z.cells[· % z.cells.size]!)).size = j.size := by simp
    simp only [Instr.fill, Nat.zero_mul, hs, Nat.zero_add, h3]
    rw [if_neg (by simp)]
  have h4 : ¬ 16777216 < j.size := by omega
  have h5 : ¬ j.size = 0 := by omega
  simp [Instr.buildSlice, run_underlying hu, sizeOf, typeInfo, zeroValue, hie, hz, h4, h5, newRow] at hf ⊢
  simp [hf]
theorem aops_litA (hT : TyOk P ty) {ops rest : List Oper} {o : Oper} {t e : TypeId} {x : Operand} {ti ei : TI} {y : AV} {ds : List Dat} {sz nx : Nat} {tm : List (Nat × AV)} {ob : List (Nat × AO)} {sz' nx' : Nat} {tm' : List (Nat × AV)} {ob' : List (Nat × AO)} (ho : o.op = .buildSlice t 1 #[(0, x)]) (ht : ty t = some ti) (hde : ti.desc = .slice e) (he : ty e = some ei) (hek : ei.agg = true)
    (hx0 : σ.ev ty e x = some y) (hf : frzAN σ y = ⟨sz, tm, ob, nx⟩) (hw : wantedA ops ⟨sz, tm, ob, nx⟩ o = some true) (hd : dstOk ⟨sz, tm, ob, nx⟩ o.dst = true) (hx : (⟨sz, tm, ob, nx⟩ : St).ev ty e x = some y) (hp : datOf ⟨sz, tm, ob, nx⟩ y = some (.agg ds)) (hl : Nat.beq ds.length ei.size = true) (h1 : ds.all (·.one) = true) (h0 : Nat.ble 1 ei.size = true) (hN : Nat.ble ei.size 16777216 = true)
    (hr : addPut ⟨sz, tm, ob, nx⟩ none (.row (some ei.size) e [.agg ds]) o.dst .ref = ⟨sz', tm', ob', nx'⟩) (k : AOps P Γ ops Q rest ⟨sz', tm', ob', nx'⟩) : AOps P Γ ops Q (o :: rest) σ := by
  refine aops_freeze [y] ?_
  have hfe : frzAll σ [y] = ⟨sz, tm, ob, nx⟩ := by
    rw [frzAll, frzAll, ← frzAN_eq]
    exact hf
  rw [hfe]
  have hl' := Nat.eq_of_beq_eq_true hl
  have h0' := Nat.le_of_ble_eq_true h0
  have hN' := Nat.le_of_ble_eq_true hN
  have h1' : ∀ z ∈ ds, z.one = true := List.all_eq_true.1 h1
  refine aops_step hw fun C0 a C K R b ev m hk => ?_
  have hB := (b.evo ev).B
  obtain ⟨j, hj, hjs, _, hjz⟩ := hT.info _ _ he
  obtain ⟨hz1, hz2⟩ := hT.zsize _ _ he
  have hu := hT.und _ _ ht
  rw [hde] at hu
  have hrd := datOf_sound m hp (ev_sound m hx)
  obtain ⟨v, hv⟩ : ∃ v, v = a.eval x := ⟨_, rfl⟩
  rw [← hv] at hrd
  cases hrd with
  | agg _ vs hvl _ hvr =>
    have hvs : (Value.agg vs).cells.size = j.size := by
      show vs.size = _
      rw [hvl, hl', hjs]
    have hzr := hT.zrep _ _ he
    have hzo := hT.zone _ _ he
    have hinit : CsRep C (ei.zd.map .d) ((Array.range (1 * j.size)).map (ei.zero.cells[· % ei.zero.cells.size]!)) := by
      refine ⟨by simp [hjs, hz2], ?_, ?_⟩
      · intro y hy
        obtain ⟨q, hq, rfl⟩ := List.mem_map.1 hy
        exact hzo q hq
      · intro i y hy
        rw [List.getElem?_map] at hy
        obtain ⟨q, hq, rfl⟩ := Option.map_eq_some_iff.1 hy
        have hil : i < ei.size := by rw [← hz2]; exact (List.getElem?_eq_some_iff.1 hq).1
        have e1 : ((Array.range (1 * j.size)).map (ei.zero.cells[· % ei.zero.cells.size]!)).getD i undef = ei.zero.cells.getD i undef := by
          have h2 : i < ei.zero.cells.size := by rw [hz1]; exact hil
          simp [hjs, hil, Nat.mod_eq_of_lt h2, h2]
        rw [e1]
        exact .d (hzr C.w C.pr i q hq)
    have hset := setAll_sound (c := C) 0 (ds.map .d) vs.toList 0 _ _ hinit (by simp [hvl]) (by
      intro y hy
      obtain ⟨q, hq, rfl⟩ := List.mem_map.1 hy
      exact h1' q hq) (by
      intro i y hy
      rw [List.getElem?_map] at hy
      obtain ⟨q, hq, rfl⟩ := Option.map_eq_some_iff.1 hy
      have := hvr i q hq
      simpa using Rep.d (c := C) this)
    obtain ⟨cs, hcs⟩ : ∃ cs, cs = (Value.agg vs).cells.zipIdx.foldl (fun (cs : Array Value) (x : Value × Nat) => cs.setIfInBounds (0 + x.2) x.1) ((Array.range (1 * j.size)).map (ei.zero.cells[· % ei.zero.cells.size]!)) := ⟨_, rfl⟩
    have hset' : CsRep C (setAll (ei.zd.map .d) 0 (ds.map .d)) cs := by
      rw [hcs, ← Array.foldl_toList, Array.toList_zipIdx]
      exact hset
    have hrun : (execOp a.eval o).run P C.w = .ok (.value (.slice (some ⟨C.w.heap.size, 0, none⟩) 1 1)) (C.w.alloc (.cells cs e)) := by
      unfold execOp
      simp only [ho]
      refine run_value ?_
      have := run_lit1 (v := .agg vs) hu hj hjz hvs (by rw [hjs]; omega) (by rw [hjs]; omega) C.w
      rw [← hcs] at this
      have e2 : (#[(0, x)] : Array (Nat × Operand)).map (fun (i, x) => (i, a.eval x)) = #[(0, Value.agg vs)] := by simp [← hv]
      rw [e2]
      exact this
    have hcsz : cs.size = ei.size := by
      rw [hset'.1, setAll_length, List.length_map, hz2]
    have m' := m.new hB (.cells cs e) (.slice (some ⟨C.w.heap.size, 0, none⟩) 1 1) rfl (.row (some ei.size) e [.agg ds]) (by
      have := new_row (C := C) m.fresh hB (ek := some ei.size) (e := e) (xs := [.agg ds]) (vs := cs) 1 (by simp) (by simp [maxLen]) (by simp [hcsz, esz]) (by
        intro k d hk
        match k, hk with
        | 0, hk =>
          simp only [List.getElem?_cons_zero, Option.some.injEq] at hk
          subst hk
          refine ⟨⟨ds, rfl, hl', h1'⟩, fun i y hy => ?_⟩
          have hil : i < ds.length := (List.getElem?_eq_some_iff.1 hy).1
          have hlt : i < (setAll (ei.zd.map AV.d) 0 (ds.map .d)).length := by rw [setAll_length, List.length_map, hz2, ← hl']; exact hil
          have hget := List.getElem?_eq_getElem hlt
          rcases setAll_get (by simp [hz2, hl']) hget with ⟨h, _⟩ | ⟨_, _, h⟩ | ⟨h, _⟩
          · omega
          · rw [Nat.sub_zero, List.getElem?_map] at h
            have hy' : ds[i]? = some y := hy
            rw [hy'] at h
            simp only [Option.map_some, Option.some.injEq] at h
            have hrep := hset'.2.2 i _ hget
            rw [← h] at hrep
            refine ⟨cs.getD i undef, ?_, ?_⟩
            · have : i < cs.size := by rw [hcsz, ← hl']; exact hil
              simp [this]
            · cases hrep with
              | d hh => exact hh
          · simp at h
            omega)
      exact this)
    rw [addPut_eq] at hr
    rw [← hr] at k
    refine upon_value hrun (hk _ (C.new _ _ _) _ (m'.put (v := .slice (some ⟨C.w.heap.size, 0, none⟩) 1 1) ?_ (dstOk_spec hd)) (ev.trans (Ct.new_evo m.fresh hB _ _)) k)
    exact .ref _ (by simp [Ct.new]) _ (by simp [Ct.new]) rfl

/-! ### Arrays -/
def partsA (σ : St) (ty : TypeId → Option TI) (e : TypeId) : Nat → List (Nat × Operand) → Option (List AV)
  | _, [] => some []
  | k, (i, x) :: r => match Nat.beq i k with
    | true => match σ.ev ty e x with
      | some y => match y.one, partsA σ ty e (k + 1) r with
        | true, some l => some (y :: l)
        | _, _ => none
      | none => none
    | false => none
theorem partsA_sound {a : Act} {C : Ct} (m : Models σ a C) {e : TypeId} : ∀ {l : List (Nat × Operand)} {k : Nat} {ys : List AV}, partsA σ ty e k l = some ys → ys.length = l.length ∧ (∀ y ∈ ys, y.one = true) ∧
    (∀ (j : Nat) (p : Nat × Operand), l[j]? = some p → p.1 = k + j) ∧ ∀ (j : Nat) (p : Nat × Operand) (y : AV), l[j]? = some p → ys[j]? = some y → Rep C y (a.eval p.2)
  | [], k, ys, h => by
    cases h
    simp
  | (i, x) :: r, k, ys, h => by
    rw [partsA] at h
    split at h
    · rename_i hik
      split at h
      · rename_i y hy
        split at h
        · rename_i l hone hl
          cases h
          obtain ⟨h1, h2, h3, h4⟩ := partsA_sound m hl
          refine ⟨by simp [h1], ?_, ?_, ?_⟩
          · intro z hz
            rcases List.mem_cons.1 hz with rfl | hz
            · exact hone
            · exact h2 z hz
          · intro j p hj
            cases j with
            | zero =>
              simp only [List.getElem?_cons_zero, Option.some.injEq] at hj
              subst hj
              exact Nat.eq_of_beq_eq_true hik
            | succ j =>
              have := h3 j p (by simpa using hj)
              omega
          · intro j p z hj hz
            cases j with
            | zero =>
              simp only [List.getElem?_cons_zero, Option.some.injEq] at hj hz
              subst hj; subst hz
              exact ev_sound m hy
            | succ j => exact h4 j p z (by simpa using hj) (by simpa using hz)
        · cases h
      · cases h
    · cases h
/-- An array literal, each element of it given, each one cell. -/
theorem aops_buildArr (hT : TyOk P ty) {ops rest : List Oper} {o : Oper} {t e : TypeId} {n : Nat} {parts : Array (Nat × Operand)} {ti ei : TI} {ys : List AV} {sz nx : Nat} {tm : List (Nat × AV)} {ob : List (Nat × AO)} (hw : wantedA ops σ o = some true) (hd : dstOk σ o.dst = true) (ho : o.op = .build t parts) (ht : ty t = some ti) (hde : ti.desc = .array n e) (he : ty e = some ei) (hek : ei.agg = false)
    (hp : partsA σ ty e 0 parts.toList = some ys) (hn : Nat.beq ys.length ti.size = true) (hr : put' σ o.dst (.agg ys) = ⟨sz, tm, ob, nx⟩) (k : AOps P Γ ops Q rest ⟨sz, tm, ob, nx⟩) : AOps P Γ ops Q (o :: rest) σ := by
  refine aops_step hw fun C0 a C K R b ev m hk => ?_
  obtain ⟨j, hj, hjs, _, hjz⟩ := hT.info _ _ ht
  obtain ⟨je, hje, hjes, _, _⟩ := hT.info _ _ he
  obtain ⟨hz1, hz2⟩ := hT.zsize _ _ ht
  have h1s := hT.one _ _ he hek
  have hu := hT.und _ _ ht
  rw [hde] at hu
  have hn' := Nat.eq_of_beq_eq_true hn
  obtain ⟨i1, i2, i3, i4⟩ := partsA_sound m hp
  obtain ⟨L, hL⟩ : ∃ L, L = parts.toList.map fun (i, x) => (i, a.eval x) := ⟨_, rfl⟩
  have hget : ∀ (j : Nat) (q : Nat × Value), L[j]? = some q → ∃ p, parts.toList[j]? = some p ∧ q = (p.1, a.eval p.2) := by
    intro j q hq
    rw [hL, List.getElem?_map] at hq
    obtain ⟨p, hp, rfl⟩ := Option.map_eq_some_iff.1 hq
    exact ⟨p, hp, rfl⟩
  have hone : ∀ (j : Nat) (q : Nat × Value), L[j]? = some q → q.1 = 0 + j ∧ q.2.cells = #[q.2] := by
    intro j q hq
    obtain ⟨p, hp1, rfl⟩ := hget j q hq
    refine ⟨i3 j p hp1, ?_⟩
    have hjl : j < ys.length := by rw [i1]; exact (List.getElem?_eq_some_iff.1 hp1).1
    have hr := i4 j p ys[j] hp1 (List.getElem?_eq_getElem hjl)
    exact one_cells (hr.oneCell (i2 _ (List.getElem_mem hjl)))
  have hLl : L.length = ys.length := by rw [hL, List.length_map, i1]
  obtain ⟨cs, f1, f2, _, f4⟩ := fill_lit L 0 ti.zero.cells hone (by rw [hLl, hz1, hn']; omega)
  have hpl : (parts.map fun (i, x) => (i, a.eval x)).toList = L := by rw [hL]; simp
  have hrun : (execOp a.eval o).run P C.w = .ok (.value (.agg cs)) C.w := by
    unfold execOp
    simp only [ho]
    refine run_value ?_
    unfold Instr.build
    simp only [Nat.mul_one] at f1
    have hz0 : (zeroValue t).run P C.w = .ok ti.zero C.w := by simp [zeroValue, typeInfo, hj, hjz]
    have hse : (sizeOf e).run P C.w = .ok 1 C.w := by simp [sizeOf, typeInfo, hje, hjes, h1s]
    simp only [Sem.run_bind, hz0, Result.andThen_ok, run_underlying hu, hse, Nat.mul_one]
    have hpl' : (Array.map (fun x => (x.fst, a.eval x.snd)) parts).toList = L := hpl
    rw [hpl', f1]
    rfl
  refine upon_value hrun (hk _ C _ (m.put (x := .agg ys) ?_ (dstOk_spec hd)) ev (by rw [← put'_eq, hr]; exact k))
  refine .agg ys cs (by rw [f2, hz1, hn']) i2 (fun j y hj => ?_)
  have hjl : j < parts.toList.length := by rw [← i1]; exact (List.getElem?_eq_some_iff.1 hj).1
  have hpj := List.getElem?_eq_getElem hjl
  have h5 := f4 j (parts.toList[j].1, a.eval parts.toList[j].2) (by rw [hL, List.getElem?_map, hpj]; rfl)
  have h6 := i4 j _ y hpj hj
  rw [Nat.zero_add] at h5
  have : cs.getD j undef = a.eval parts.toList[j].2 := by simp [h5]
  rw [this]
  exact h6
/-- The address of an element of an array that lies in a box. -/
theorem aops_indexArr (hT : TyOk P ty) {ops rest : List Oper} {o : Oper} {t e : TypeId} {n : Nat} {x z : Operand} {ti ei : TI} {i off : Nat} {kq : IntKind} {q : Int} {sz nx : Nat} {tm : List (Nat × AV)} {ob : List (Nat × AO)} (hw : wantedA ops σ o = some true) (hd : dstOk σ o.dst = true) (ho : o.op = .indexAddr t x z) (ht : ty t = some ti) (hde : ti.desc = .array n e) (he : ty e = some ei) (h1 : Nat.beq ei.size 1 = true)
    (hx : σ.ev ty t x = some (.ptr i off)) (hz : σ.ev ty 0 z = some (.d (.int kq q))) (hr : put' σ o.dst (.ptr i (off + q.toNat)) = ⟨sz, tm, ob, nx⟩) (hq : 0 ≤ q ∧ q < n) (k : AOps P Γ ops Q rest ⟨sz, tm, ob, nx⟩) : AOps P Γ ops Q (o :: rest) σ := by
  refine aops_step hw fun C0 a C K R b ev m hk => ?_
  have hu := hT.und _ _ ht
  rw [hde] at hu
  have h1' := Nat.eq_of_beq_eq_true h1
  have hxr := ev_sound m hx
  have hzr := Rep.int_inv (ev_sound m hz)
  obtain ⟨v, hv⟩ : ∃ v, v = a.eval x := ⟨_, rfl⟩
  rw [← hv] at hxr
  cases hxr with
  | ptr _ _ g hi hg =>
    have hrun : (execOp a.eval o).run P C.w = .ok (.value (.pointer (some ⟨g, off + q.toNat, none⟩))) C.w := by
      unfold execOp
      simp only [ho]
      refine run_value ?_
      rw [← hv, hzr]
      have hs := hT.run_size he C.w
      simp [Instr.indexAt, run_underlying hu, asIntOf, Instr.sureAddr, hq.1, hq.2, hs, h1', Addr.add_lit]
    exact upon_value hrun (hk _ C _ (m.put (x := .ptr i (off + q.toNat)) (.ptr i _ g hi hg) (dstOk_spec hd)) ev (by rw [← put'_eq, hr]; exact k))
end
end Go.Am

/- What the texts before this one share with other seats: the parts of them that are used here. Walked by the abstract machine. -/
namespace Go.Proofs.YtohabohifjadgaaDoor
open Go.Am
set_option linter.unusedSimpArgs false
set_option linter.unusedVariables false
-- withAmZ withAmMp

structure Ext where
  o : List UInt8
  c : Bool
  v : List UInt8
theorem Ext.ext' {x y : Ext} (h1 : x.o = y.o) (h2 : x.c = y.c) (h3 : x.v = y.v) : x = y := by
  obtain ⟨_, _, _⟩ := x
  obtain ⟨_, _, _⟩ := y
  simp only at h1 h2 h3
  rw [h1, h2, h3]
def exB (x : Ext) : List (UInt8 × List UInt8) := match x.c with
  | true => [(6, encO x.o), (1, [255]), (4, x.v)]
  | false => [(6, encO x.o), (4, x.v)]
def exV (x : Ext) : Bool := oidV x.o
def exF (x : Ext) : List UInt8 := putF 48 (catF (exB x))
theorem exF_len (x : Ext) : (exF x).length = hsz (catF (exB x)) + (catF (exB x)).length := putF_len 48 (catF (exB x))
def xD (x : Ext) : Dat := .agg [sD x.o, .bool x.c, .sl none (bys x.v)]
def xsD (l : List Ext) : List Dat := l.map xD
theorem xs_len (l : List Ext) : (xsD l).length = l.length := by simp [xsD]
theorem xs_app (a b : List Ext) : xsD (a ++ b) = xsD a ++ xsD b := by simp [xsD]
theorem xs_at {l : List Ext} {k : Nat} (h : k < l.length) : (xsD l).getD (k : Int).toNat default = xD l[k] := by
  rw [Int.toNat_natCast, List.getD_eq_getElem?_getD, xsD, List.getElem?_map, List.getElem?_eq_getElem h]
  rfl
theorem x_can {X : Dat} {x : Ext} (h : X = xD x) : X = .agg [.str (X.cell 0).txt, .bool (X.cell 1).tru, .sl none (X.cell 2).els] := by
  rw [h]
  rfl
theorem exF_le (x : Ext) : (exF x).length ≤ 5 * x.o.length + x.v.length + 60 := by
  have h1 := encO_len x.o
  have h2 := exF_len x
  have h3 := hsz_le (catF (exB x))
  have h4 := putF_len 6 (encO x.o)
  have h5 := putF_len 4 x.v
  have h6 := hsz_le (encO x.o)
  have h7 := hsz_le x.v
  have h8 : (putF 1 [255]).length = 3 := by decide
  have h9 : (catF (exB x)).length ≤ (putF 6 (encO x.o)).length + 3 + (putF 4 x.v).length := by
    unfold exB
    cases x.c <;> simp [catF, h8] <;> omega
  omega
def fewX (x : Ext) : Bool := decide (x.o.length ≤ 200) && decide (x.v.length ≤ 1500)
theorem fewX_len {x : Ext} (h : fewX x = true) : x.o.length ≤ 200 ∧ x.v.length ≤ 1500 := by
  unfold fewX at h
  simpa using h
theorem ex_cat (x : Ext) (B : Nat) (h : 5 * x.o.length + x.v.length + 60 ≤ B) : (catF (exB x)).length ≤ B := by
  have h1 := exF_le x
  have h2 := exF_len x
  omega
/-- A list of extensions is small. -/
def sumX : List Ext → Nat
  | [] => 0
  | x :: r => x.o.length + x.v.length + sumX r
theorem sumX_app (a b : List Ext) : sumX (a ++ b) = sumX a + sumX b := by
  induction a with
  | nil => simp [sumX]
  | cons x r ih => simp [sumX, ih]; omega
def fewXs (l : List Ext) : Bool := decide (l.length ≤ 12) && decide (sumX (l.take 20) ≤ 3000)
theorem fewXs_len {l : List Ext} (h : fewXs l = true) : l.length ≤ 12 ∧ sumX l ≤ 3000 ∧ ∀ x ∈ l, x.o.length ≤ 3000 ∧ x.v.length ≤ 3000 := by
  unfold fewXs at h
  rw [Bool.and_eq_true, decide_eq_true_eq, decide_eq_true_eq] at h
  rw [List.take_of_length_le (by omega)] at h
  refine ⟨h.1, h.2, ?_⟩
  have key : ∀ l : List Ext, ∀ x ∈ l, x.o.length + x.v.length ≤ sumX l := by
    intro l
    induction l with
    | nil => intro x hx; cases hx
    | cons y r ih =>
      intro x hx
      rcases List.mem_cons.1 hx with rfl | hx
      · simp only [sumX]; omega
      · have := ih x hx
        simp only [sumX]; omega
  intro x hx
  have := key l x hx
  omega
theorem okF_of_bad {s : List UInt8} (h : oidV s = false) : okF s = none := by
  unfold oidV at h
  cases ho : okF s with
  | none => rfl
  | some a => rw [ho] at h; cases h
theorem isFromBoolean : IsFn Tryd.prog 18 Tryd.f18 := ⟨Tryd.func18, by decide, rfl⟩
theorem c_frombool (Γ : Env) : ACalls Tryd.prog Γ 18 [.bool true] (fun r => r = .own none 5 (bys [255])) := by
  refine acalls_of ty_ok isFromBoolean rfl rfl ?_
  repeat' (first | ((with_reducible show AWp _ _ _ _ _); (first | refine awp_seq ?_ | refine awp_block ?_ | refine awp_skip ?_ | refine awp_exit ?_ | refine awp_scope ?_ | refine awp_label ?_ | refine awp_run ty_ok rfl sdm ?_ | refine awp_ret ⟨_, _, rfl, rfl, ?_⟩ | refine awp_ret ⟨_, rfl, ?_⟩ | ((refine awp_cond (ty := ty) rfl (fun hc => ?_) (fun hc => ?_)) <;> (try simp only [nms, reduceCtorEq] at hc) <;> (try (exfalso; omega))))) | ((with_reducible show AOps _ _ _ _ _ _); (first | refine aops_nil ?_ | refine aops_go ty_ok rfl rfl sdm ?_ | refine aops_gate ty_ok rfl rfl rfl sdm ?_ | refine aops_litE ty_ok rfl rfl rfl rfl rfl rfl rfl rfl rfl rfl rfl rfl ?_ | refine aops_litA ty_ok rfl rfl rfl rfl rfl rfl rfl rfl rfl rfl rfl rfl rfl rfl rfl rfl ?_ | refine aops_buildArr ty_ok rfl rfl rfl rfl rfl rfl rfl rfl rfl rfl ?_ | refine aops_indexArr ty_ok rfl rfl rfl rfl rfl rfl rfl rfl rfl rfl sdm ?_ | refine aops_lit0 ty_ok rfl rfl rfl rfl rfl rfl rfl ?_ | refine aops_field ty_ok rfl rfl rfl rfl rfl rfl rfl rfl rfl rfl ?_ | refine aops_cutE ty_ok rfl rfl rfl rfl rfl rfl rfl rfl rfl sdm rfl ?_ | ((fail_if_success (refine aops_known rfl ?_)); (refine aops_split ty_ok rfl rfl rfl rfl rfl rfl (fun hc => ⟨?_, ?_⟩) (fun hc => ⟨?_, ?_⟩)) <;> (try simp only [nms, reduceCtorEq] at hc) <;> (try (exfalso; omega)) <;> (try exact sdm)))) | ((fail_if_success (with_reducible show AWp _ _ _ _ _)); (fail_if_success (with_reducible show AOps _ _ _ _ _ _)); (first | (show AWp _ _ _ _ _) | (show AOps _ _ _ _ _ _))))
  rfl
def exR (x : Ext) : Res := match exV x with
  | true => .ownT none 5 (bys (exF x)) [.int .i64 0]
  | false => .d (.tup [.sl none [], .int .i64 8])
theorem isXMarshal : IsFn Tryd.prog 10 Tryd.f10 := ⟨Tryd.func10, by decide, rfl⟩
theorem isXWrap : IsFn Tryd.prog 16 Tryd.f16 := ⟨Tryd.func16, by decide, rfl⟩
set_option maxHeartbeats 2000000 in
theorem c_xmarshal (x : Ext) (ho : x.o.length ≤ 1000000) (hvl : x.v.length ≤ 1000000) : ACalls Tryd.prog envL 10 [xD x] (fun r => r = exR x) := by
  refine acalls_of ty_ok isXMarshal rfl rfl ?_
  have he := encO_len x.o
  have hcat := ex_cat x 6000060 (by omega)
  unfold exR
  cases hv : exV x with
  | false =>
    have hc1 := c_oenc_bad x.o (by omega) (okF_of_bad hv)
    unfold sD at hc1
    unfold xD sD
    repeat' (first | ((with_reducible show AWp _ _ _ _ _); (first | refine awp_seq ?_ | refine awp_block ?_ | refine awp_skip ?_ | refine awp_exit ?_ | refine awp_scope ?_ | refine awp_label ?_ | refine awp_run ty_ok rfl sdm ?_ | refine awp_ret ⟨_, _, rfl, rfl, ?_⟩ | refine awp_ret ⟨_, rfl, ?_⟩ | ((refine awp_cond (ty := ty) rfl (fun hc => ?_) (fun hc => ?_)) <;> (try simp only [nms, reduceCtorEq] at hc) <;> (try (exfalso; omega))))) | ((with_reducible show AOps _ _ _ _ _ _); (first | refine aops_nil ?_ | refine aops_go ty_ok rfl rfl sdm ?_ | refine aops_gate ty_ok rfl rfl rfl sdm ?_ | refine aops_callE (ty := ty) rfl rfl rfl rfl rfl rfl rfl (hc1) rfl ?_ | refine aops_litE ty_ok rfl rfl rfl rfl rfl rfl rfl rfl rfl rfl rfl rfl ?_ | refine aops_litA ty_ok rfl rfl rfl rfl rfl rfl rfl rfl rfl rfl rfl rfl rfl rfl rfl rfl ?_ | refine aops_buildArr ty_ok rfl rfl rfl rfl rfl rfl rfl rfl rfl rfl ?_ | refine aops_indexArr ty_ok rfl rfl rfl rfl rfl rfl rfl rfl rfl rfl sdm ?_ | refine aops_lit0 ty_ok rfl rfl rfl rfl rfl rfl rfl ?_ | refine aops_field ty_ok rfl rfl rfl rfl rfl rfl rfl rfl rfl rfl ?_ | refine aops_cutE ty_ok rfl rfl rfl rfl rfl rfl rfl rfl rfl sdm rfl ?_ | ((fail_if_success (refine aops_known rfl ?_)); (refine aops_split ty_ok rfl rfl rfl rfl rfl rfl (fun hc => ⟨?_, ?_⟩) (fun hc => ⟨?_, ?_⟩)) <;> (try simp only [nms, reduceCtorEq] at hc) <;> (try (exfalso; omega)) <;> (try exact sdm)))) | ((fail_if_success (with_reducible show AWp _ _ _ _ _)); (fail_if_success (with_reducible show AOps _ _ _ _ _ _)); (first | (show AWp _ _ _ _ _) | (show AOps _ _ _ _ _ _))))
    rfl
  | true =>
    have hc1 := c_oenc_okO x.o (by omega) hv
    have m3 : maxI (maxI (maxI 0 0) 0) 0 = 0 := rfl
    have m2 : maxI (maxI 0 0) 0 = 0 := rfl
    have hw1 := fun Γ => c_wrap Γ 0 6 false [encO x.o] (by omega) (by omega) (by simp) (by simp; omega)
    have hw2 := fun Γ => c_wrap Γ 0 1 false [[255]] (by omega) (by omega) (by simp) (by simp)
    have hw3 := fun Γ => c_wrap Γ 0 4 false [x.v] (by omega) (by omega) (by simp) (by simp; omega)
    unfold sD at hc1
    obtain ⟨o, c, v⟩ := x
    simp only at he hvl ho hc1 hw1 hw3
    unfold xD sD
    simp only
    cases c with
    | true =>
      have hs := c_sequence (envL.at 0) [putF (idB 0 false 6) [encO o].flatten, putF (idB 0 false 1) [[255]].flatten, putF (idB 0 false 4) [v].flatten] (by simp) (by simpa [exB, catF, idB] using Nat.le_trans hcat (by omega))
      repeat' (first | ((with_reducible show AWp _ _ _ _ _); (first | refine awp_seq ?_ | refine awp_block ?_ | refine awp_skip ?_ | refine awp_exit ?_ | refine awp_scope ?_ | refine awp_label ?_ | refine awp_run ty_ok rfl sdm ?_ | refine awp_ret ⟨_, _, rfl, rfl, ?_⟩ | refine awp_ret ⟨_, rfl, ?_⟩ | ((refine awp_cond (ty := ty) rfl (fun hc => ?_) (fun hc => ?_)) <;> (try simp only [nms, reduceCtorEq] at hc) <;> (try (exfalso; omega))))) | ((with_reducible show AOps _ _ _ _ _ _); (first | refine aops_nil ?_ | refine aops_go ty_ok rfl rfl sdm ?_ | refine aops_gate ty_ok rfl rfl rfl sdm ?_ | refine aops_callE (ty := ty) rfl rfl rfl rfl rfl rfl rfl (hc1) rfl ?_ | refine aops_callE (ty := ty) rfl rfl rfl rfl rfl rfl rfl (hw1 _) rfl ?_ | refine aops_callE (ty := ty) rfl rfl rfl rfl rfl rfl rfl (hw2 _) rfl ?_ | refine aops_callE (ty := ty) rfl rfl rfl rfl rfl rfl rfl (hw3 _) rfl ?_ | refine aops_callE (ty := ty) rfl rfl rfl rfl rfl rfl rfl (c_frombool _) rfl ?_ | refine aops_callE (ty := ty) rfl rfl rfl rfl rfl rfl rfl (hs) rfl ?_ | refine aops_inline ty_ok rfl rfl rfl rfl rfl rfl isXWrap rfl rfl ?_ | refine aops_litE ty_ok rfl rfl rfl rfl rfl rfl rfl rfl rfl rfl rfl rfl ?_ | refine aops_litA ty_ok rfl rfl rfl rfl rfl rfl rfl rfl rfl rfl rfl rfl rfl rfl rfl rfl ?_ | refine aops_buildArr ty_ok rfl rfl rfl rfl rfl rfl rfl rfl rfl rfl ?_ | refine aops_indexArr ty_ok rfl rfl rfl rfl rfl rfl rfl rfl rfl rfl sdm ?_ | refine aops_lit0 ty_ok rfl rfl rfl rfl rfl rfl rfl ?_ | refine aops_field ty_ok rfl rfl rfl rfl rfl rfl rfl rfl rfl rfl ?_ | refine aops_cutE ty_ok rfl rfl rfl rfl rfl rfl rfl rfl rfl sdm rfl ?_ | ((fail_if_success (refine aops_known rfl ?_)); (refine aops_split ty_ok rfl rfl rfl rfl rfl rfl (fun hc => ⟨?_, ?_⟩) (fun hc => ⟨?_, ?_⟩)) <;> (try simp only [nms, reduceCtorEq] at hc) <;> (try (exfalso; omega)) <;> (try exact sdm)))) | ((fail_if_success (with_reducible show AWp _ _ _ _ _)); (fail_if_success (with_reducible show AOps _ _ _ _ _ _)); (first | (show AWp _ _ _ _ _) | (show AOps _ _ _ _ _ _) | ((with_reducible show BackOk _ _ _ _ _); refine back_nil rfl ?_))))
      all_goals simp [exF, exB, catF, idB]
    | false =>
      have hs := c_sequence (envL.at 0) [putF (idB 0 false 6) [encO o].flatten, putF (idB 0 false 4) [v].flatten] (by simp) (by simpa [exB, catF, idB] using Nat.le_trans hcat (by omega))
      repeat' (first | ((with_reducible show AWp _ _ _ _ _); (first | refine awp_seq ?_ | refine awp_block ?_ | refine awp_skip ?_ | refine awp_exit ?_ | refine awp_scope ?_ | refine awp_label ?_ | refine awp_run ty_ok rfl sdm ?_ | refine awp_ret ⟨_, _, rfl, rfl, ?_⟩ | refine awp_ret ⟨_, rfl, ?_⟩ | ((refine awp_cond (ty := ty) rfl (fun hc => ?_) (fun hc => ?_)) <;> (try simp only [nms, reduceCtorEq] at hc) <;> (try (exfalso; omega))))) | ((with_reducible show AOps _ _ _ _ _ _); (first | refine aops_nil ?_ | refine aops_go ty_ok rfl rfl sdm ?_ | refine aops_gate ty_ok rfl rfl rfl sdm ?_ | refine aops_callE (ty := ty) rfl rfl rfl rfl rfl rfl rfl (hc1) rfl ?_ | refine aops_callE (ty := ty) rfl rfl rfl rfl rfl rfl rfl (hw1 _) rfl ?_ | refine aops_callE (ty := ty) rfl rfl rfl rfl rfl rfl rfl (hw3 _) rfl ?_ | refine aops_callE (ty := ty) rfl rfl rfl rfl rfl rfl rfl (hs) rfl ?_ | refine aops_inline ty_ok rfl rfl rfl rfl rfl rfl isXWrap rfl rfl ?_ | refine aops_litE ty_ok rfl rfl rfl rfl rfl rfl rfl rfl rfl rfl rfl rfl ?_ | refine aops_litA ty_ok rfl rfl rfl rfl rfl rfl rfl rfl rfl rfl rfl rfl rfl rfl rfl rfl ?_ | refine aops_buildArr ty_ok rfl rfl rfl rfl rfl rfl rfl rfl rfl rfl ?_ | refine aops_indexArr ty_ok rfl rfl rfl rfl rfl rfl rfl rfl rfl rfl sdm ?_ | refine aops_lit0 ty_ok rfl rfl rfl rfl rfl rfl rfl ?_ | refine aops_field ty_ok rfl rfl rfl rfl rfl rfl rfl rfl rfl rfl ?_ | refine aops_cutE ty_ok rfl rfl rfl rfl rfl rfl rfl rfl rfl sdm rfl ?_ | ((fail_if_success (refine aops_known rfl ?_)); (refine aops_split ty_ok rfl rfl rfl rfl rfl rfl (fun hc => ⟨?_, ?_⟩) (fun hc => ⟨?_, ?_⟩)) <;> (try simp only [nms, reduceCtorEq] at hc) <;> (try (exfalso; omega)) <;> (try exact sdm)))) | ((fail_if_success (with_reducible show AWp _ _ _ _ _)); (fail_if_success (with_reducible show AOps _ _ _ _ _ _)); (first | (show AWp _ _ _ _ _) | (show AOps _ _ _ _ _ _) | ((with_reducible show BackOk _ _ _ _ _); refine back_nil rfl ?_))))
      all_goals simp [exF, exB, catF, idB]
theorem c_xmarshal_ok (x : Ext) (ho : x.o.length ≤ 1000000) (hvl : x.v.length ≤ 1000000) (h : exV x = true) : ACalls Tryd.prog envL 10 [xD x] (fun r => r = .ownT none 5 (bys (exF x)) [.int .i64 0]) := by
  have := c_xmarshal x ho hvl
  rwa [exR, h] at this
theorem isRXFew : IsFn Tryd.prog 6 Tryd.f6 := ⟨Tryd.func6, by decide, rfl⟩
theorem c_rxfew (Γ : Env) (x : Ext) {v : Bool} (h : fewX x = v) : ACalls Tryd.prog Γ 6 [xD x] (fun r => r = .d (.bool v)) := by
  refine acalls_of ty_ok isRXFew rfl rfl ?_
  subst h
  unfold xD sD fewX
  have h1 : (bA x.o).size = x.o.length := bA_size _
  have h2 : (bys x.v).length = x.v.length := bys_len _
  repeat' (first | ((with_reducible show AWp _ _ _ _ _); (first | refine awp_seq ?_ | refine awp_block ?_ | refine awp_skip ?_ | refine awp_exit ?_ | refine awp_scope ?_ | refine awp_label ?_ | refine awp_run ty_ok rfl sdm ?_ | refine awp_ret ⟨_, _, rfl, rfl, ?_⟩ | refine awp_ret ⟨_, rfl, ?_⟩ | ((refine awp_cond (ty := ty) rfl (fun hc => ?_) (fun hc => ?_)) <;> (try simp only [nms, reduceCtorEq] at hc) <;> (try (exfalso; omega))))) | ((with_reducible show AOps _ _ _ _ _ _); (first | refine aops_nil ?_ | refine aops_go ty_ok rfl rfl sdm ?_ | refine aops_gate ty_ok rfl rfl rfl sdm ?_ | refine aops_litE ty_ok rfl rfl rfl rfl rfl rfl rfl rfl rfl rfl rfl rfl ?_ | refine aops_litA ty_ok rfl rfl rfl rfl rfl rfl rfl rfl rfl rfl rfl rfl rfl rfl rfl rfl ?_ | refine aops_buildArr ty_ok rfl rfl rfl rfl rfl rfl rfl rfl rfl rfl ?_ | refine aops_indexArr ty_ok rfl rfl rfl rfl rfl rfl rfl rfl rfl rfl sdm ?_ | refine aops_lit0 ty_ok rfl rfl rfl rfl rfl rfl rfl ?_ | refine aops_field ty_ok rfl rfl rfl rfl rfl rfl rfl rfl rfl rfl ?_ | refine aops_cutE ty_ok rfl rfl rfl rfl rfl rfl rfl rfl rfl sdm rfl ?_ | ((fail_if_success (refine aops_known rfl ?_)); (refine aops_split ty_ok rfl rfl rfl rfl rfl rfl (fun hc => ⟨?_, ?_⟩) (fun hc => ⟨?_, ?_⟩)) <;> (try simp only [nms, reduceCtorEq] at hc) <;> (try (exfalso; omega)) <;> (try exact sdm)))) | ((fail_if_success (with_reducible show AWp _ _ _ _ _)); (fail_if_success (with_reducible show AOps _ _ _ _ _ _)); (first | (show AWp _ _ _ _ _) | (show AOps _ _ _ _ _ _))))
  · rw [decide_eq_true (show x.o.length ≤ 200 by omega), Bool.true_and]
    refine congrArg (fun b => Res.d (Dat.bool b)) ?_
    rw [Bool.eq_iff_iff, decide_eq_true_eq, decide_eq_true_eq, h2]
    omega
  · rw [decide_eq_false (show ¬ x.o.length ≤ 200 by omega), Bool.false_and]
instance : DecidableEq Ext := fun x y => decidable_of_iff ((x.o = y.o ∧ x.c = y.c) ∧ x.v = y.v) ⟨fun h => Ext.ext' h.1.1 h.1.2 h.2, fun h => by subst h; exact ⟨⟨rfl, rfl⟩, rfl⟩⟩
theorem ext_eq (x y : Ext) : decide (x = y) = (decide (x.o = y.o) && decide (x.c = y.c) && decide (x.v = y.v)) := by
  rw [Bool.eq_iff_iff]
  simp only [decide_eq_true_eq, Bool.and_eq_true]
  exact ⟨fun h => by subst h; exact ⟨⟨rfl, rfl⟩, rfl⟩, fun h => Ext.ext' h.1.1 h.1.2 h.2⟩
theorem isBExt : IsFn Tryd.prog 9 Tryd.f9 := ⟨Tryd.func9, by decide, rfl⟩
theorem c_bext (Γ : Env) (x y : Ext) {v : Bool} (h : decide (x = y) = v) : ACalls Tryd.prog Γ 9 [xD x, xD y] (fun r => r = .d (.bool v)) := by
  refine acalls_of ty_ok isBExt rfl rfl ?_
  subst h
  rw [ext_eq]
  have hb := c_bytes (Γ.at 0) x.v y.v
  have ho := @bA_inj x.o y.o
  unfold xD sD
  repeat' (first | ((with_reducible show AWp _ _ _ _ _); (first | refine awp_seq ?_ | refine awp_block ?_ | refine awp_skip ?_ | refine awp_exit ?_ | refine awp_scope ?_ | refine awp_label ?_ | refine awp_run ty_ok rfl sdm ?_ | refine awp_ret ⟨_, _, rfl, rfl, ?_⟩ | refine awp_ret ⟨_, rfl, ?_⟩ | ((refine awp_cond (ty := ty) rfl (fun hc => ?_) (fun hc => ?_)) <;> (try simp only [nms, reduceCtorEq] at hc) <;> (try (exfalso; omega))))) | ((with_reducible show AOps _ _ _ _ _ _); (first | refine aops_nil ?_ | refine aops_go ty_ok rfl rfl sdm ?_ | refine aops_gate ty_ok rfl rfl rfl sdm ?_ | refine aops_callE (ty := ty) rfl rfl rfl rfl rfl rfl rfl (hb) rfl ?_ | refine aops_litE ty_ok rfl rfl rfl rfl rfl rfl rfl rfl rfl rfl rfl rfl ?_ | refine aops_litA ty_ok rfl rfl rfl rfl rfl rfl rfl rfl rfl rfl rfl rfl rfl rfl rfl rfl ?_ | refine aops_buildArr ty_ok rfl rfl rfl rfl rfl rfl rfl rfl rfl rfl ?_ | refine aops_indexArr ty_ok rfl rfl rfl rfl rfl rfl rfl rfl rfl rfl sdm ?_ | refine aops_lit0 ty_ok rfl rfl rfl rfl rfl rfl rfl ?_ | refine aops_field ty_ok rfl rfl rfl rfl rfl rfl rfl rfl rfl rfl ?_ | refine aops_cutE ty_ok rfl rfl rfl rfl rfl rfl rfl rfl rfl sdm rfl ?_ | ((fail_if_success (refine aops_known rfl ?_)); (refine aops_split ty_ok rfl rfl rfl rfl rfl rfl (fun hc => ⟨?_, ?_⟩) (fun hc => ⟨?_, ?_⟩)) <;> (try simp only [nms, reduceCtorEq] at hc) <;> (try (exfalso; omega)) <;> (try exact sdm)))) | ((fail_if_success (with_reducible show AWp _ _ _ _ _)); (fail_if_success (with_reducible show AOps _ _ _ _ _ _)); (first | (show AWp _ _ _ _ _) | (show AOps _ _ _ _ _ _))))
  · rw [ho] at *
    simp_all
  · rw [ho] at *
    simp_all
  · rw [ho] at *
    simp_all
def xSm (x : Ext) : Prop := x.o.length ≤ 200000 ∧ x.v.length ≤ 200000
theorem c_xmar_ok (x : Ext) (s : xSm x) (h : exV x = true) : ACalls Tryd.prog envL 10 [xD x] (fun r => r = .ownT none 5 (bys (exF x)) [.int .i64 0]) := c_xmarshal_ok x (by have := s.1; omega) (by have := s.2; omega) h
def basX : Ext := ⟨[50, 46, 53, 46, 50, 57, 46, 49, 57], true, [48, 0]⟩
theorem bas_v : exV basX = true := by decide +kernel
theorem bas_f : exF basX = [48, 12, 6, 3, 85, 29, 19, 1, 1, 255, 4, 2, 48, 0] := by decide +kernel
theorem isAwake22 : IsFn Tryd.prog 4 Tryd.f4 := ⟨Tryd.func4, by decide, rfl⟩
theorem c_awake22 : ACalls Tryd.prog envL 4 [] (fun r => r = .d (.bool true)) := by
  refine acalls_of ty_ok isAwake22 rfl rfl ?_
  have h1 := c_xmar_ok basX ⟨by decide, by decide⟩ bas_v
  rw [bas_f] at h1
  repeat' (first | ((with_reducible show AWp _ _ _ _ _); (first | refine awp_seq ?_ | refine awp_block ?_ | refine awp_skip ?_ | refine awp_exit ?_ | refine awp_scope ?_ | refine awp_label ?_ | refine awp_run ty_ok rfl sdm ?_ | refine awp_ret ⟨_, _, rfl, rfl, ?_⟩ | refine awp_ret ⟨_, rfl, ?_⟩ | ((refine awp_cond (ty := ty) rfl (fun hc => ?_) (fun hc => ?_)) <;> (try simp only [nms, reduceCtorEq] at hc) <;> (try (exfalso; omega))))) | ((with_reducible show AOps _ _ _ _ _ _); (first | refine aops_nil ?_ | refine aops_go ty_ok rfl rfl sdm ?_ | refine aops_gate ty_ok rfl rfl rfl sdm ?_ | refine aops_callE (ty := ty) rfl rfl rfl rfl rfl rfl rfl (h1) rfl ?_ | refine aops_callE (ty := ty) rfl rfl rfl rfl rfl rfl rfl (c_bytes_eq _ [48, 12, 6, 3, 85, 29, 19, 1, 1, 255, 4, 2, 48, 0] [48, 12, 6, 3, 85, 29, 19, 1, 1, 255, 4, 2, 48, 0] rfl) rfl ?_ | refine aops_litE ty_ok rfl rfl rfl rfl rfl rfl rfl rfl rfl rfl rfl rfl ?_ | refine aops_litA ty_ok rfl rfl rfl rfl rfl rfl rfl rfl rfl rfl rfl rfl rfl rfl rfl rfl ?_ | refine aops_buildArr ty_ok rfl rfl rfl rfl rfl rfl rfl rfl rfl rfl ?_ | refine aops_indexArr ty_ok rfl rfl rfl rfl rfl rfl rfl rfl rfl rfl sdm ?_ | refine aops_lit0 ty_ok rfl rfl rfl rfl rfl rfl rfl ?_ | refine aops_field ty_ok rfl rfl rfl rfl rfl rfl rfl rfl rfl rfl ?_ | refine aops_cutE ty_ok rfl rfl rfl rfl rfl rfl rfl rfl rfl sdm rfl ?_ | ((fail_if_success (refine aops_known rfl ?_)); (refine aops_split ty_ok rfl rfl rfl rfl rfl rfl (fun hc => ⟨?_, ?_⟩) (fun hc => ⟨?_, ?_⟩)) <;> (try simp only [nms, reduceCtorEq] at hc) <;> (try (exfalso; omega)) <;> (try exact sdm)))) | ((fail_if_success (with_reducible show AWp _ _ _ _ _)); (fail_if_success (with_reducible show AOps _ _ _ _ _ _)); (first | (show AWp _ _ _ _ _) | (show AOps _ _ _ _ _ _))))
  all_goals rfl
theorem sumX_snoc (l : List Ext) (k : Nat) (h : k < l.length) : sumX (l.take (k + 1)) = sumX (l.take k) + l[k].o.length + l[k].v.length := by
  rw [List.take_succ_eq_append_getElem h, sumX_app]
  simp [sumX]
  omega
theorem sumX_le (l : List Ext) (B : Nat) (h : ∀ x ∈ l, x.o.length ≤ B ∧ x.v.length ≤ B) : sumX l ≤ 2 * B * l.length := by
  induction l with
  | nil => simp [sumX]
  | cons x r ih =>
    have h1 := h x (List.mem_cons_self ..)
    have h2 := ih (fun y hy => h y (List.mem_cons_of_mem _ hy))
    simp only [sumX, List.length_cons, Nat.mul_add, Nat.mul_one]
    omega
def xlB (l : List Ext) : Prop := ∀ x ∈ l, x.o.length ≤ 140737488351232 ∧ x.v.length ≤ 140737488351232
theorem x_size {X : Dat} {x : Ext} (h : X = xD x) : (X.cell 0).txt.size = x.o.length ∧ (X.cell 2).els.length = x.v.length := by
  subst h
  exact ⟨bA_size _, bys_len _⟩
theorem x_fields {X : Dat} {x : Ext} (h : X = xD x) : X.cell 0 = .str (X.cell 0).txt ∧ X.cell 1 = .bool (X.cell 1).tru ∧ X.cell 2 = .sl none (X.cell 2).els := by
  subst h
  exact ⟨rfl, rfl, rfl⟩
theorem isRXLFew : IsFn Tryd.prog 5 Tryd.f5 := ⟨Tryd.func5, by decide, rfl⟩
set_option maxHeartbeats 1000000 in
theorem c_rxlfew (Γ : Env) (l : List Ext) (hB : xlB l) {v : Bool} (hv : fewXs l = v) : ACalls Tryd.prog Γ 5 [.sl (some 3) (xsD l)] (fun r => r = .d (.bool v)) := by
  refine acalls_of ty_ok isRXLFew rfl rfl ?_
  subst hv
  have hxl := xs_len l
  repeat' (first | ((with_reducible show AWp _ _ _ _ _); (first | refine awp_seq ?_ | refine awp_block ?_ | refine awp_skip ?_ | refine awp_exit ?_ | refine awp_scope ?_ | refine awp_label ?_ | refine awp_run ty_ok rfl sdm ?_ | refine awp_ret ⟨_, _, rfl, rfl, ?_⟩ | refine awp_ret ⟨_, rfl, ?_⟩ | ((refine awp_cond (ty := ty) rfl (fun hc => ?_) (fun hc => ?_)) <;> (try simp only [nms, reduceCtorEq] at hc) <;> (try (exfalso; omega))))) | ((with_reducible show AOps _ _ _ _ _ _); (first | refine aops_nil ?_ | refine aops_go ty_ok rfl rfl sdm ?_ | refine aops_gate ty_ok rfl rfl rfl sdm ?_ | refine aops_litE ty_ok rfl rfl rfl rfl rfl rfl rfl rfl rfl rfl rfl rfl ?_ | refine aops_litA ty_ok rfl rfl rfl rfl rfl rfl rfl rfl rfl rfl rfl rfl rfl rfl rfl rfl ?_ | refine aops_buildArr ty_ok rfl rfl rfl rfl rfl rfl rfl rfl rfl rfl ?_ | refine aops_indexArr ty_ok rfl rfl rfl rfl rfl rfl rfl rfl rfl rfl sdm ?_ | refine aops_lit0 ty_ok rfl rfl rfl rfl rfl rfl rfl ?_ | refine aops_field ty_ok rfl rfl rfl rfl rfl rfl rfl rfl rfl rfl ?_ | refine aops_cutE ty_ok rfl rfl rfl rfl rfl rfl rfl rfl rfl sdm rfl ?_ | ((fail_if_success (refine aops_known rfl ?_)); (refine aops_split ty_ok rfl rfl rfl rfl rfl rfl (fun hc => ⟨?_, ?_⟩) (fun hc => ⟨?_, ?_⟩)) <;> (try simp only [nms, reduceCtorEq] at hc) <;> (try (exfalso; omega)) <;> (try exact sdm)))) | ((fail_if_success (with_reducible show AWp _ _ _ _ _)); (fail_if_success (with_reducible show AOps _ _ _ _ _ _)); (first | (show AWp _ _ _ _ _) | (show AOps _ _ _ _ _ _))))
  refine awp_loopR (G := { k : Nat // k ≤ l.length ∧ k ≤ 20 }) (fun k => ⟨Tryd.f5.ntmps, [(0, .d (.sl (some 3) (xsD l))), (3, .d (.int .i64 (sumX (l.take k.1)))), (4, .d (.int .i64 k.1))], [], 0⟩) (fun k => l.length - k.1) ⟨0, by simp⟩ []
      (SubR.mk' rfl rfl ⟨⟨_, rfl, rfl⟩, ⟨_, rfl, rfl⟩, ⟨_, rfl, rfl⟩, trivial⟩ trivial) ?_
  rintro ⟨k, hk1, hk2⟩
  dsimp only
  have hs : sumX (l.take k) ≤ 2 * 140737488351232 * 20 := by
    have h1 := sumX_le (l.take k) 140737488351232 (fun x hx => hB x (List.mem_of_mem_take hx))
    have h2 : (l.take k).length ≤ 20 := by rw [List.length_take]; omega
    exact Nat.le_trans h1 (Nat.mul_le_mul_left _ h2)
  by_cases h : k < l.length ∧ k < 20
  · have hX := xs_at h.1
    obtain ⟨z1, z2⟩ := x_size hX
    obtain ⟨y1, y2, y3⟩ := x_fields hX
    obtain ⟨b1, b2⟩ := hB l[k] (List.getElem_mem h.1)
    have hsn := sumX_snoc l k h.1
    have a1 : (sumX (l.take k) : Int) + ((((xsD l).getD (k : Int).toNat default).cell 0).txt.size : Int) ≤ 9223372036854775807 := by omega
    have a2 : (sumX (l.take k) : Int) + ((((xsD l).getD (k : Int).toNat default).cell 0).txt.size : Int) + ((((xsD l).getD (k : Int).toNat default).cell 2).els.length : Int) ≤ 9223372036854775807 := by omega
    repeat' (first | ((with_reducible show AWp _ _ _ _ _); (first | refine awp_seq ?_ | refine awp_block ?_ | refine awp_skip ?_ | refine awp_exit ?_ | refine awp_scope ?_ | refine awp_label ?_ | refine awp_run ty_ok rfl sdm ?_ | refine awp_ret ⟨_, _, rfl, rfl, ?_⟩ | refine awp_ret ⟨_, rfl, ?_⟩ | ((refine awp_cond (ty := ty) rfl (fun hc => ?_) (fun hc => ?_)) <;> (try simp only [nms, reduceCtorEq] at hc) <;> (try (exfalso; omega))) | refine awp_anyL 15 mixed rfl (by kernel_rfl) ?_)) | ((with_reducible show AOps _ _ _ _ _ _); (first | refine aops_nil ?_ | refine aops_go ty_ok rfl rfl sdm ?_ | refine aops_gate ty_ok rfl rfl rfl sdm ?_ | refine aops_litE ty_ok rfl rfl rfl rfl rfl rfl rfl rfl rfl rfl rfl rfl ?_ | refine aops_litA ty_ok rfl rfl rfl rfl rfl rfl rfl rfl rfl rfl rfl rfl rfl rfl rfl rfl ?_ | refine aops_buildArr ty_ok rfl rfl rfl rfl rfl rfl rfl rfl rfl rfl ?_ | refine aops_indexArr ty_ok rfl rfl rfl rfl rfl rfl rfl rfl rfl rfl sdm ?_ | refine aops_lit0 ty_ok rfl rfl rfl rfl rfl rfl rfl ?_ | refine aops_field ty_ok rfl rfl rfl rfl rfl rfl rfl rfl rfl rfl ?_ | refine aops_cutE ty_ok rfl rfl rfl rfl rfl rfl rfl rfl rfl sdm rfl ?_ | ((fail_if_success (refine aops_known rfl ?_)); (refine aops_split ty_ok rfl rfl rfl rfl rfl rfl (fun hc => ⟨?_, ?_⟩) (fun hc => ⟨?_, ?_⟩)) <;> (try simp only [nms, reduceCtorEq] at hc) <;> (try (exfalso; omega)) <;> (try exact sdm)))) | ((with_reducible show HeadT _ _ _ _ _ _ _ _ _ _); (first | refine head_end ?_ | refine head_goP ty_ok rfl rfl sdm ?_ | refine head_gate ty_ok rfl rfl rfl sdm ?_ | ((fail_if_success (refine head_known rfl ?_)); (refine head_split ty_ok rfl rfl rfl rfl (fun hc => ⟨?_, ?_⟩) (fun hc => ⟨?_, ?_⟩)) <;> (try simp only [nms, reduceCtorEq] at hc) <;> (try (exfalso; omega)) <;> (try exact sdm)))) | ((fail_if_success (with_reducible show AWp _ _ _ _ _)); (fail_if_success (with_reducible show AOps _ _ _ _ _ _)); (fail_if_success (with_reducible show HeadT _ _ _ _ _ _ _ _ _ _)); (first | (show AWp _ _ _ _ _) | (show AOps _ _ _ _ _ _))))
    refine ⟨⟨k + 1, h.1, h.2⟩, [], SubR.mk' rfl rfl ⟨⟨_, rfl, rfl⟩, ⟨_, rfl, congrArg (fun z : Int => AV.d (Dat.int IntKind.i64 z)) ?_⟩, ⟨_, rfl, rfl⟩, trivial⟩ trivial, by simp only; omega⟩
    rw [hsn]
    have e1 : ((((xsD l).getD (k : Int).toNat default).cell 0).txt.size : Int) = l[k].o.length := by rw [z1]
    have e2 : ((((xsD l).getD (k : Int).toNat default).cell 2).els.length : Int) = l[k].v.length := by rw [z2]
    show (sumX (l.take k) : Int) + ((((xsD l).getD (k : Int).toNat default).cell 0).txt.size : Int) + ((((xsD l).getD (k : Int).toNat default).cell 2).els.length : Int) = _
    omega
  · have hf : l.take 20 = l.take k := by
      by_cases h2 : k < 20
      · rw [List.take_of_length_le (by omega), List.take_of_length_le (by omega)]
      · rw [show k = 20 by omega]
    unfold fewXs
    rw [hf]
    repeat' (first | ((with_reducible show AWp _ _ _ _ _); (first | refine awp_seq ?_ | refine awp_block ?_ | refine awp_skip ?_ | refine awp_exit ?_ | refine awp_scope ?_ | refine awp_label ?_ | refine awp_run ty_ok rfl sdm ?_ | refine awp_ret ⟨_, _, rfl, rfl, ?_⟩ | refine awp_ret ⟨_, rfl, ?_⟩ | ((refine awp_cond (ty := ty) rfl (fun hc => ?_) (fun hc => ?_)) <;> (try simp only [nms, reduceCtorEq] at hc) <;> (try (exfalso; omega))))) | ((with_reducible show AOps _ _ _ _ _ _); (first | refine aops_nil ?_ | refine aops_go ty_ok rfl rfl sdm ?_ | refine aops_gate ty_ok rfl rfl rfl sdm ?_ | refine aops_litE ty_ok rfl rfl rfl rfl rfl rfl rfl rfl rfl rfl rfl rfl ?_ | refine aops_litA ty_ok rfl rfl rfl rfl rfl rfl rfl rfl rfl rfl rfl rfl rfl rfl rfl rfl ?_ | refine aops_buildArr ty_ok rfl rfl rfl rfl rfl rfl rfl rfl rfl rfl ?_ | refine aops_indexArr ty_ok rfl rfl rfl rfl rfl rfl rfl rfl rfl rfl sdm ?_ | refine aops_lit0 ty_ok rfl rfl rfl rfl rfl rfl rfl ?_ | refine aops_field ty_ok rfl rfl rfl rfl rfl rfl rfl rfl rfl rfl ?_ | refine aops_cutE ty_ok rfl rfl rfl rfl rfl rfl rfl rfl rfl sdm rfl ?_ | ((fail_if_success (refine aops_known rfl ?_)); (refine aops_split ty_ok rfl rfl rfl rfl rfl rfl (fun hc => ⟨?_, ?_⟩) (fun hc => ⟨?_, ?_⟩)) <;> (try simp only [nms, reduceCtorEq] at hc) <;> (try (exfalso; omega)) <;> (try exact sdm)))) | ((fail_if_success (with_reducible show AWp _ _ _ _ _)); (fail_if_success (with_reducible show AOps _ _ _ _ _ _)); (first | (show AWp _ _ _ _ _) | (show AOps _ _ _ _ _ _))))
    all_goals first | (exfalso; omega) | skip
    all_goals refine congrArg (fun b => Res.d (Dat.bool b)) ?_
    all_goals rw [Bool.eq_iff_iff]
    all_goals simp only [Bool.and_eq_true, decide_eq_true_eq, Bool.false_eq_true, false_iff, iff_false]
    all_goals omega
theorem isBExts : IsFn Tryd.prog 8 Tryd.f8 := ⟨Tryd.func8, by decide, rfl⟩
set_option maxHeartbeats 1000000 in
theorem c_bexts0 (Γ : Env) (x y : List Ext) (hx : x.length ≤ 1000000) {v : Bool} (hv : decide (x = y) = v) : ACalls Tryd.prog Γ 8 [.sl (some 3) (xsD x), .sl (some 3) (xsD y)] (fun r => r = .d (.bool v)) := by
  refine acalls_of ty_ok isBExts rfl rfl ?_
  subst hv
  have hxl := xs_len x
  have hyl := xs_len y
  repeat' (first | ((with_reducible show AWp _ _ _ _ _); (first | refine awp_seq ?_ | refine awp_block ?_ | refine awp_skip ?_ | refine awp_exit ?_ | refine awp_scope ?_ | refine awp_label ?_ | refine awp_run ty_ok rfl sdm ?_ | refine awp_ret ⟨_, _, rfl, rfl, ?_⟩ | refine awp_ret ⟨_, rfl, ?_⟩ | ((refine awp_cond (ty := ty) rfl (fun hc => ?_) (fun hc => ?_)) <;> (try simp only [nms, reduceCtorEq] at hc) <;> (try (exfalso; omega))))) | ((with_reducible show AOps _ _ _ _ _ _); (first | refine aops_nil ?_ | refine aops_go ty_ok rfl rfl sdm ?_ | refine aops_gate ty_ok rfl rfl rfl sdm ?_ | refine aops_litE ty_ok rfl rfl rfl rfl rfl rfl rfl rfl rfl rfl rfl rfl ?_ | refine aops_litA ty_ok rfl rfl rfl rfl rfl rfl rfl rfl rfl rfl rfl rfl rfl rfl rfl rfl ?_ | refine aops_buildArr ty_ok rfl rfl rfl rfl rfl rfl rfl rfl rfl rfl ?_ | refine aops_indexArr ty_ok rfl rfl rfl rfl rfl rfl rfl rfl rfl rfl sdm ?_ | refine aops_lit0 ty_ok rfl rfl rfl rfl rfl rfl rfl ?_ | refine aops_field ty_ok rfl rfl rfl rfl rfl rfl rfl rfl rfl rfl ?_ | refine aops_cutE ty_ok rfl rfl rfl rfl rfl rfl rfl rfl rfl sdm rfl ?_ | ((fail_if_success (refine aops_known rfl ?_)); (refine aops_split ty_ok rfl rfl rfl rfl rfl rfl (fun hc => ⟨?_, ?_⟩) (fun hc => ⟨?_, ?_⟩)) <;> (try simp only [nms, reduceCtorEq] at hc) <;> (try (exfalso; omega)) <;> (try exact sdm)))) | ((fail_if_success (with_reducible show AWp _ _ _ _ _)); (fail_if_success (with_reducible show AOps _ _ _ _ _ _)); (first | (show AWp _ _ _ _ _) | (show AOps _ _ _ _ _ _))))
  refine awp_loopR (G := { k : Nat // k ≤ x.length ∧ k ≤ y.length ∧ x.take k = y.take k }) (fun k => ⟨Tryd.f8.ntmps, [(0, .d (.sl (some 3) (xsD x))), (1, .d (.sl (some 3) (xsD y))), (5, .d (.int .i64 k.1))], [], 0⟩) (fun k => x.length - k.1) ⟨0, by simp⟩ []
      (SubR.mk' rfl rfl ⟨⟨_, rfl, rfl⟩, ⟨_, rfl, rfl⟩, ⟨_, rfl, rfl⟩, trivial⟩ trivial) ?_
  rintro ⟨k, hk1, hk2, hk3⟩
  dsimp only
  by_cases h : k < x.length ∧ k < y.length
  · have hX := xs_at h.1
    have hY := xs_at h.2
    have hc1 := x_can hX
    have hc2 := x_can hY
    by_cases he : x[k] = y[k]
    · have hb := c_bext (Γ.at 0) x[k] y[k] (decide_eq_true he)
      rw [← hX, ← hY, hc1, hc2] at hb
      repeat' (first | ((with_reducible show AWp _ _ _ _ _); (first | refine awp_seq ?_ | refine awp_block ?_ | refine awp_skip ?_ | refine awp_exit ?_ | refine awp_scope ?_ | refine awp_label ?_ | refine awp_run ty_ok rfl sdm ?_ | refine awp_ret ⟨_, _, rfl, rfl, ?_⟩ | refine awp_ret ⟨_, rfl, ?_⟩ | ((refine awp_cond (ty := ty) rfl (fun hc => ?_) (fun hc => ?_)) <;> (try simp only [nms, reduceCtorEq] at hc) <;> (try (exfalso; omega))) | refine awp_anyL 9 mixed rfl (by kernel_rfl) ?_)) | ((with_reducible show AOps _ _ _ _ _ _); (first | refine aops_nil ?_ | refine aops_go ty_ok rfl rfl sdm ?_ | refine aops_gate ty_ok rfl rfl rfl sdm ?_ | refine aops_callE (ty := ty) rfl rfl rfl rfl rfl rfl rfl (hb) rfl ?_ | refine aops_litE ty_ok rfl rfl rfl rfl rfl rfl rfl rfl rfl rfl rfl rfl ?_ | refine aops_litA ty_ok rfl rfl rfl rfl rfl rfl rfl rfl rfl rfl rfl rfl rfl rfl rfl rfl ?_ | refine aops_buildArr ty_ok rfl rfl rfl rfl rfl rfl rfl rfl rfl rfl ?_ | refine aops_indexArr ty_ok rfl rfl rfl rfl rfl rfl rfl rfl rfl rfl sdm ?_ | refine aops_lit0 ty_ok rfl rfl rfl rfl rfl rfl rfl ?_ | refine aops_field ty_ok rfl rfl rfl rfl rfl rfl rfl rfl rfl rfl ?_ | refine aops_cutE ty_ok rfl rfl rfl rfl rfl rfl rfl rfl rfl sdm rfl ?_ | ((fail_if_success (refine aops_known rfl ?_)); (refine aops_split ty_ok rfl rfl rfl rfl rfl rfl (fun hc => ⟨?_, ?_⟩) (fun hc => ⟨?_, ?_⟩)) <;> (try simp only [nms, reduceCtorEq] at hc) <;> (try (exfalso; omega)) <;> (try exact sdm)))) | ((with_reducible show HeadT _ _ _ _ _ _ _ _ _ _); (first | refine head_end ?_ | refine head_goP ty_ok rfl rfl sdm ?_ | refine head_gate ty_ok rfl rfl rfl sdm ?_ | refine head_callE (ty := ty) rfl rfl rfl rfl rfl rfl rfl (hb) rfl ?_ | ((fail_if_success (refine head_known rfl ?_)); (refine head_split ty_ok rfl rfl rfl rfl (fun hc => ⟨?_, ?_⟩) (fun hc => ⟨?_, ?_⟩)) <;> (try simp only [nms, reduceCtorEq] at hc) <;> (try (exfalso; omega)) <;> (try exact sdm)))) | ((fail_if_success (with_reducible show AWp _ _ _ _ _)); (fail_if_success (with_reducible show AOps _ _ _ _ _ _)); (fail_if_success (with_reducible show HeadT _ _ _ _ _ _ _ _ _ _)); (first | (show AWp _ _ _ _ _) | (show AOps _ _ _ _ _ _))))
      refine ⟨⟨k + 1, h.1, h.2, ?_⟩, [], SubR.mk' rfl rfl ⟨⟨_, rfl, rfl⟩, ⟨_, rfl, rfl⟩, ⟨_, rfl, rfl⟩, trivial⟩ trivial, by simp only; omega⟩
      rw [List.take_succ_eq_append_getElem h.1, List.take_succ_eq_append_getElem h.2, hk3, he]
    · have hb := c_bext (Γ.at 0) x[k] y[k] (decide_eq_false he)
      rw [← hX, ← hY, hc1, hc2] at hb
      have hne : decide (x = y) = false := decide_eq_false fun e => he (by subst e; rfl)
      repeat' (first | ((with_reducible show AWp _ _ _ _ _); (first | refine awp_seq ?_ | refine awp_block ?_ | refine awp_skip ?_ | refine awp_exit ?_ | refine awp_scope ?_ | refine awp_label ?_ | refine awp_run ty_ok rfl sdm ?_ | refine awp_ret ⟨_, _, rfl, rfl, ?_⟩ | refine awp_ret ⟨_, rfl, ?_⟩ | ((refine awp_cond (ty := ty) rfl (fun hc => ?_) (fun hc => ?_)) <;> (try simp only [nms, reduceCtorEq] at hc) <;> (try (exfalso; omega))) | refine awp_anyL 9 mixed rfl (by kernel_rfl) ?_)) | ((with_reducible show AOps _ _ _ _ _ _); (first | refine aops_nil ?_ | refine aops_go ty_ok rfl rfl sdm ?_ | refine aops_gate ty_ok rfl rfl rfl sdm ?_ | refine aops_callE (ty := ty) rfl rfl rfl rfl rfl rfl rfl (hb) rfl ?_ | refine aops_litE ty_ok rfl rfl rfl rfl rfl rfl rfl rfl rfl rfl rfl rfl ?_ | refine aops_litA ty_ok rfl rfl rfl rfl rfl rfl rfl rfl rfl rfl rfl rfl rfl rfl rfl rfl ?_ | refine aops_buildArr ty_ok rfl rfl rfl rfl rfl rfl rfl rfl rfl rfl ?_ | refine aops_indexArr ty_ok rfl rfl rfl rfl rfl rfl rfl rfl rfl rfl sdm ?_ | refine aops_lit0 ty_ok rfl rfl rfl rfl rfl rfl rfl ?_ | refine aops_field ty_ok rfl rfl rfl rfl rfl rfl rfl rfl rfl rfl ?_ | refine aops_cutE ty_ok rfl rfl rfl rfl rfl rfl rfl rfl rfl sdm rfl ?_ | ((fail_if_success (refine aops_known rfl ?_)); (refine aops_split ty_ok rfl rfl rfl rfl rfl rfl (fun hc => ⟨?_, ?_⟩) (fun hc => ⟨?_, ?_⟩)) <;> (try simp only [nms, reduceCtorEq] at hc) <;> (try (exfalso; omega)) <;> (try exact sdm)))) | ((with_reducible show HeadT _ _ _ _ _ _ _ _ _ _); (first | refine head_end ?_ | refine head_goP ty_ok rfl rfl sdm ?_ | refine head_gate ty_ok rfl rfl rfl sdm ?_ | refine head_callE (ty := ty) rfl rfl rfl rfl rfl rfl rfl (hb) rfl ?_ | ((fail_if_success (refine head_known rfl ?_)); (refine head_split ty_ok rfl rfl rfl rfl (fun hc => ⟨?_, ?_⟩) (fun hc => ⟨?_, ?_⟩)) <;> (try simp only [nms, reduceCtorEq] at hc) <;> (try (exfalso; omega)) <;> (try exact sdm)))) | ((fail_if_success (with_reducible show AWp _ _ _ _ _)); (fail_if_success (with_reducible show AOps _ _ _ _ _ _)); (fail_if_success (with_reducible show HeadT _ _ _ _ _ _ _ _ _ _)); (first | (show AWp _ _ _ _ _) | (show AOps _ _ _ _ _ _))))
      rw [hne]
  · have hfin : decide (x = y) = decide (x.length = y.length) := by
      rw [Bool.eq_iff_iff, decide_eq_true_eq, decide_eq_true_eq]
      refine ⟨fun e => by rw [e], fun e => ?_⟩
      rw [← List.take_length (l := x), ← List.take_length (l := y), ← e]
      have : k = x.length := by omega
      rw [← this]
      exact hk3
    rw [hfin]
    repeat' (first | ((with_reducible show AWp _ _ _ _ _); (first | refine awp_seq ?_ | refine awp_block ?_ | refine awp_skip ?_ | refine awp_exit ?_ | refine awp_scope ?_ | refine awp_label ?_ | refine awp_run ty_ok rfl sdm ?_ | refine awp_ret ⟨_, _, rfl, rfl, ?_⟩ | refine awp_ret ⟨_, rfl, ?_⟩ | ((refine awp_cond (ty := ty) rfl (fun hc => ?_) (fun hc => ?_)) <;> (try simp only [nms, reduceCtorEq] at hc) <;> (try (exfalso; omega))))) | ((with_reducible show AOps _ _ _ _ _ _); (first | refine aops_nil ?_ | refine aops_go ty_ok rfl rfl sdm ?_ | refine aops_gate ty_ok rfl rfl rfl sdm ?_ | refine aops_litE ty_ok rfl rfl rfl rfl rfl rfl rfl rfl rfl rfl rfl rfl ?_ | refine aops_litA ty_ok rfl rfl rfl rfl rfl rfl rfl rfl rfl rfl rfl rfl rfl rfl rfl rfl ?_ | refine aops_buildArr ty_ok rfl rfl rfl rfl rfl rfl rfl rfl rfl rfl ?_ | refine aops_indexArr ty_ok rfl rfl rfl rfl rfl rfl rfl rfl rfl rfl sdm ?_ | refine aops_lit0 ty_ok rfl rfl rfl rfl rfl rfl rfl ?_ | refine aops_field ty_ok rfl rfl rfl rfl rfl rfl rfl rfl rfl rfl ?_ | refine aops_cutE ty_ok rfl rfl rfl rfl rfl rfl rfl rfl rfl sdm rfl ?_ | ((fail_if_success (refine aops_known rfl ?_)); (refine aops_split ty_ok rfl rfl rfl rfl rfl rfl (fun hc => ⟨?_, ?_⟩) (fun hc => ⟨?_, ?_⟩)) <;> (try simp only [nms, reduceCtorEq] at hc) <;> (try (exfalso; omega)) <;> (try exact sdm)))) | ((fail_if_success (with_reducible show AWp _ _ _ _ _)); (fail_if_success (with_reducible show AOps _ _ _ _ _ _)); (first | (show AWp _ _ _ _ _) | (show AOps _ _ _ _ _ _))))
    all_goals first | (exfalso; omega) | skip
    all_goals refine congrArg (fun b => Res.d (Dat.bool b)) ?_
    all_goals rw [xs_len, xs_len, Bool.eq_iff_iff, beq_iff_eq, decide_eq_true_eq]
    all_goals omega
def fiX (o : List UInt8) : Nat → List Ext → Option Nat
  | _, [] => none
  | k, x :: r => if x.o = o then some k else fiX o (k + 1) r
def ixI (o : List UInt8) (l : List Ext) : Int := match fiX o 0 l with
  | some i => i
  | none => -1
theorem fiX_drop {o : List UInt8} {l : List Ext} {k : Nat} (h : k < l.length) : fiX o k (l.drop k) = if l[k].o = o then some k else fiX o (k + 1) (l.drop (k + 1)) := by
  rw [List.drop_eq_getElem_cons h, fiX]
theorem fiX_some {o : List UInt8} : ∀ {q : List Ext} {k i : Nat}, fiX o k q = some i → k ≤ i ∧ ∃ h : i - k < q.length, q[i - k].o = o ∧ q.find? (fun x => decide (x.o = o)) = some q[i - k]
  | [], k, i, h => by cases h
  | x :: r, k, i, h => by
    unfold fiX at h
    split at h
    · rename_i he
      cases h
      exact ⟨Nat.le_refl _, by simp, by simp [he], by simp [he]⟩
    · rename_i he
      obtain ⟨h1, h2, h3, h4⟩ := fiX_some h
      have e : i - k = (i - (k + 1)) + 1 := by omega
      refine ⟨by omega, by rw [List.length_cons]; omega, ?_, ?_⟩
      · simp only [e, List.getElem_cons_succ]
        exact h3
      · simp only [e, List.getElem_cons_succ]
        rw [List.find?_cons, decide_eq_false he]
        exact h4
theorem isXIndex : IsFn Tryd.prog 13 Tryd.f13 := ⟨Tryd.func13, by decide, rfl⟩
theorem isXIndexFn : IsFn Tryd.prog 20 Tryd.f20 := ⟨Tryd.func20, by decide, rfl⟩
theorem isXIndex1 : IsFn Tryd.prog 21 Tryd.f21 := ⟨Tryd.func21, by decide, rfl⟩
set_option maxHeartbeats 1000000 in
theorem c_xindex (Γ : Env) (l : List Ext) (o : List UInt8) (hn : l.length ≤ 1000000) : ACalls Tryd.prog Γ 13 [.sl (some 3) (xsD l), sD o] (fun r => r = .d (.int .i64 (ixI o l))) := by
  refine acalls_of ty_ok isXIndex rfl rfl ?_
  have hxl := xs_len l
  unfold sD
  repeat' (first | ((with_reducible show AWp _ _ _ _ _); (first | refine awp_seq ?_ | refine awp_block ?_ | refine awp_skip ?_ | refine awp_exit ?_ | refine awp_scope ?_ | refine awp_label ?_ | refine awp_run ty_ok rfl sdm ?_ | refine awp_ret ⟨_, _, rfl, rfl, ?_⟩ | refine awp_ret ⟨_, rfl, ?_⟩ | ((refine awp_cond (ty := ty) rfl (fun hc => ?_) (fun hc => ?_)) <;> (try simp only [nms, reduceCtorEq] at hc) <;> (try (exfalso; omega))))) | ((with_reducible show AOps _ _ _ _ _ _); (first | refine aops_nil ?_ | refine aops_go ty_ok rfl rfl sdm ?_ | refine aops_gate ty_ok rfl rfl rfl sdm ?_ | refine aops_inline ty_ok rfl rfl rfl rfl rfl rfl isXIndexFn rfl rfl ?_ | refine aops_inline ty_ok rfl rfl rfl rfl rfl rfl isXIndex1 rfl rfl ?_ | refine aops_litE ty_ok rfl rfl rfl rfl rfl rfl rfl rfl rfl rfl rfl rfl ?_ | refine aops_litA ty_ok rfl rfl rfl rfl rfl rfl rfl rfl rfl rfl rfl rfl rfl rfl rfl rfl ?_ | refine aops_buildArr ty_ok rfl rfl rfl rfl rfl rfl rfl rfl rfl rfl ?_ | refine aops_indexArr ty_ok rfl rfl rfl rfl rfl rfl rfl rfl rfl rfl sdm ?_ | refine aops_lit0 ty_ok rfl rfl rfl rfl rfl rfl rfl ?_ | refine aops_field ty_ok rfl rfl rfl rfl rfl rfl rfl rfl rfl rfl ?_ | refine aops_cutE ty_ok rfl rfl rfl rfl rfl rfl rfl rfl rfl sdm rfl ?_ | ((fail_if_success (refine aops_known rfl ?_)); (refine aops_split ty_ok rfl rfl rfl rfl rfl rfl (fun hc => ⟨?_, ?_⟩) (fun hc => ⟨?_, ?_⟩)) <;> (try simp only [nms, reduceCtorEq] at hc) <;> (try (exfalso; omega)) <;> (try exact sdm)))) | ((fail_if_success (with_reducible show AWp _ _ _ _ _)); (fail_if_success (with_reducible show AOps _ _ _ _ _ _)); (first | (show AWp _ _ _ _ _) | (show AOps _ _ _ _ _ _) | ((with_reducible show BackOk _ _ _ _ _); refine back_nil rfl ?_))))
  refine awp_loopR (G := { k : Nat // k ≤ l.length ∧ fiX o 0 l = fiX o k (l.drop k) }) (fun k => ⟨Tryd.f20.ntmps, [(0, .d (.sl (some 3) (xsD l))), (1, .fn 21 [.ptr 0 0]), (6, .d (.sl (some 3) (xsD l))), (7, .d (.int .i64 l.length)), (8, .d (.int .i64 k.1))], [(0, .box 9 [.d (.str (bA o))])], 1⟩) (fun k => l.length - k.1) ⟨0, by simp⟩ []
      (SubR.mk' rfl rfl ⟨⟨_, rfl, rfl⟩, ⟨_, rfl, rfl⟩, ⟨_, rfl, rfl⟩, ⟨_, rfl, congrArg (fun z : Nat => AV.d (Dat.int IntKind.i64 z)) (xs_len _)⟩, ⟨_, rfl, rfl⟩, trivial⟩ ⟨⟨_, _, rfl, rfl, rfl⟩, trivial⟩) ?_
  rintro ⟨k, hk, hf⟩
  dsimp only
  rcases Nat.lt_or_ge k l.length with h | h
  · have hX := xs_at h
    have hcan := x_can hX
    have t1 : (((xsD l).getD (k : Int).toNat default).cell 0).txt = bA l[k].o := by rw [hX]; rfl
    rw [fiX_drop h] at hf
    repeat' (first | ((with_reducible show AWp _ _ _ _ _); (first | refine awp_seq ?_ | refine awp_block ?_ | refine awp_skip ?_ | refine awp_exit ?_ | refine awp_scope ?_ | refine awp_label ?_ | refine awp_run ty_ok rfl sdm ?_ | refine awp_ret ⟨_, _, rfl, rfl, ?_⟩ | refine awp_ret ⟨_, rfl, ?_⟩ | ((refine awp_cond (ty := ty) rfl (fun hc => ?_) (fun hc => ?_)) <;> (try simp only [nms, reduceCtorEq] at hc) <;> (try (exfalso; omega))))) | ((with_reducible show AOps _ _ _ _ _ _); (first | refine aops_nil ?_ | refine aops_go ty_ok rfl rfl sdm ?_ | refine aops_gate ty_ok rfl rfl rfl sdm ?_ | refine aops_inline ty_ok rfl rfl rfl rfl rfl rfl isXIndex1 rfl rfl ?_ | refine aops_litE ty_ok rfl rfl rfl rfl rfl rfl rfl rfl rfl rfl rfl rfl ?_ | refine aops_litA ty_ok rfl rfl rfl rfl rfl rfl rfl rfl rfl rfl rfl rfl rfl rfl rfl rfl ?_ | refine aops_buildArr ty_ok rfl rfl rfl rfl rfl rfl rfl rfl rfl rfl ?_ | refine aops_indexArr ty_ok rfl rfl rfl rfl rfl rfl rfl rfl rfl rfl sdm ?_ | refine aops_lit0 ty_ok rfl rfl rfl rfl rfl rfl rfl ?_ | refine aops_field ty_ok rfl rfl rfl rfl rfl rfl rfl rfl rfl rfl ?_ | refine aops_cutE ty_ok rfl rfl rfl rfl rfl rfl rfl rfl rfl sdm rfl ?_ | ((fail_if_success (refine aops_known rfl ?_)); (refine aops_split ty_ok rfl rfl rfl rfl rfl rfl (fun hc => ⟨?_, ?_⟩) (fun hc => ⟨?_, ?_⟩)) <;> (try simp only [nms, reduceCtorEq] at hc) <;> (try (exfalso; omega)) <;> (try exact sdm)))) | ((fail_if_success (with_reducible show AWp _ _ _ _ _)); (fail_if_success (with_reducible show AOps _ _ _ _ _ _)); (first | (show AWp _ _ _ _ _) | (show AOps _ _ _ _ _ _) | ((with_reducible show BackOk _ _ _ _ _); refine back_nil rfl ?_))))
    · have e : l[k].o = o := by
        rw [← bA_inj, ← t1]
        exact hc
      rw [if_pos e] at hf
      rw [ixI, hf]
    · have e : l[k].o ≠ o := fun e => hc (by
        show (((xsD l).getD (k : Int).toNat default).cell 0).txt = bA o
        rw [t1, e])
      rw [if_neg e] at hf
      exact ⟨⟨k + 1, h, hf⟩, [], SubR.mk' rfl rfl ⟨⟨_, rfl, rfl⟩, ⟨_, rfl, rfl⟩, ⟨_, rfl, rfl⟩, ⟨_, rfl, rfl⟩, ⟨_, rfl, rfl⟩, trivial⟩ ⟨⟨_, _, rfl, rfl, rfl⟩, trivial⟩, by simp only; omega⟩
  · have hke : k = l.length := by omega
    subst hke
    rw [List.drop_length, fiX] at hf
    repeat' (first | ((with_reducible show AWp _ _ _ _ _); (first | refine awp_seq ?_ | refine awp_block ?_ | refine awp_skip ?_ | refine awp_exit ?_ | refine awp_scope ?_ | refine awp_label ?_ | refine awp_run ty_ok rfl sdm ?_ | refine awp_ret ⟨_, _, rfl, rfl, ?_⟩ | refine awp_ret ⟨_, rfl, ?_⟩ | ((refine awp_cond (ty := ty) rfl (fun hc => ?_) (fun hc => ?_)) <;> (try simp only [nms, reduceCtorEq] at hc) <;> (try (exfalso; omega))))) | ((with_reducible show AOps _ _ _ _ _ _); (first | refine aops_nil ?_ | refine aops_go ty_ok rfl rfl sdm ?_ | refine aops_gate ty_ok rfl rfl rfl sdm ?_ | refine aops_litE ty_ok rfl rfl rfl rfl rfl rfl rfl rfl rfl rfl rfl rfl ?_ | refine aops_litA ty_ok rfl rfl rfl rfl rfl rfl rfl rfl rfl rfl rfl rfl rfl rfl rfl rfl ?_ | refine aops_buildArr ty_ok rfl rfl rfl rfl rfl rfl rfl rfl rfl rfl ?_ | refine aops_indexArr ty_ok rfl rfl rfl rfl rfl rfl rfl rfl rfl rfl sdm ?_ | refine aops_lit0 ty_ok rfl rfl rfl rfl rfl rfl rfl ?_ | refine aops_field ty_ok rfl rfl rfl rfl rfl rfl rfl rfl rfl rfl ?_ | refine aops_cutE ty_ok rfl rfl rfl rfl rfl rfl rfl rfl rfl sdm rfl ?_ | ((fail_if_success (refine aops_known rfl ?_)); (refine aops_split ty_ok rfl rfl rfl rfl rfl rfl (fun hc => ⟨?_, ?_⟩) (fun hc => ⟨?_, ?_⟩)) <;> (try simp only [nms, reduceCtorEq] at hc) <;> (try (exfalso; omega)) <;> (try exact sdm)))) | ((fail_if_success (with_reducible show AWp _ _ _ _ _)); (fail_if_success (with_reducible show AOps _ _ _ _ _ _)); (first | (show AWp _ _ _ _ _) | (show AOps _ _ _ _ _ _))))
    rw [ixI, hf]
theorem c_xindex_at (Γ : Env) (l : List Ext) (o : List UInt8) (hn : l.length ≤ 1000000) {v : Int} (h : ixI o l = v) : ACalls Tryd.prog Γ 13 [.sl (some 3) (xsD l), sD o] (fun r => r = .d (.int .i64 v)) := by
  subst h
  exact c_xindex Γ l o hn
theorem isXClone : IsFn Tryd.prog 14 Tryd.f14 := ⟨Tryd.func14, by decide, rfl⟩
theorem isXAll : IsFn Tryd.prog 12 Tryd.f12 := ⟨Tryd.func12, by decide, rfl⟩
theorem xD_fits (x : Ext) : Fits (some 3) (xD x) := ⟨_, rfl, rfl, by simp [Dat.one, sD]⟩
def wiX (l : List Ext) (x : Ext) : List Ext := match fiX x.o 0 l with
  | some i => l.set i x
  | none => l ++ [x]
theorem isXWith : IsFn Tryd.prog 7 Tryd.f7 := ⟨Tryd.func7, by decide, rfl⟩
theorem wiX_mem {l : List Ext} {x y : Ext} (h : y ∈ wiX l x) : y ∈ l ∨ y = x := by
  unfold wiX at h
  split at h
  · exact List.mem_or_eq_of_mem_set h
  · rcases List.mem_append.1 h with h | h
    · exact .inl h
    · exact .inr (by simpa using h)
theorem wiX_len (l : List Ext) (x : Ext) : (wiX l x).length ≤ l.length + 1 := by
  unfold wiX
  split <;> simp
end Go.Proofs.YtohabohifjadgaaDoor

/- Lists of extensions: all and With hand back values that lie in new blocks. Walked by the abstract machine. -/
namespace Go.Proofs.YtohabohifjadgaaDoor
open Go.Am
set_option linter.unusedSimpArgs false
set_option linter.unusedVariables false
-- withAmZ withAmMp

def xN (n : Nat) (x : Ext) : Dat := .agg [sD x.o, .bool x.c, .nw n none (bys x.v)]
def xsN (n : Nat) (l : List Ext) : List Dat := l.map (xN n)
theorem xsN_len (n : Nat) (l : List Ext) : (xsN n l).length = l.length := by simp [xsN]
theorem xsN_app (n : Nat) (a b : List Ext) : xsN n (a ++ b) = xsN n a ++ xsN n b := by simp [xsN]
theorem xN_fits (n : Nat) (x : Ext) : Fits (some 3) (xN n x) := ⟨_, rfl, rfl, by simp [Dat.one, sD]⟩
theorem xs_weak (n : Nat) (l : List Ext) {w : World} {pr : Nat → Bool} {v : Value} (h : RepD w pr (.sl (some 3) (xsN n l)) v) : RepD w pr (.sl (some 3) (xsD l)) v := by
  rcases h.sl_inv with ⟨rfl, h0⟩ | ⟨b, off, spot, cap, rfl, hc, hm, hs, hf, hk⟩
  · have : l = [] := by
      cases l with
      | nil => rfl
      | cons => cases h0
    subst this
    exact .nil _
  · have hl : (xsN n l).length = (xsD l).length := by simp [xsN, xsD]
    refine RepD.sl_mk hl (by rw [← hl]; exact hc) hm (fun h => hs (by rw [hl]; exact h)) (fun x hx => ?_) (fun k x hkx j y hj => ?_)
    · obtain ⟨e, _, rfl⟩ := List.mem_map.1 hx
      exact xD_fits e
    · rw [xsD, List.getElem?_map] at hkx
      cases hlk : l[k]? with
      | none => rw [hlk] at hkx; cases hkx
      | some e =>
        rw [hlk] at hkx
        cases hkx
        have hx' : (xsN n l)[k]? = some (xN n e) := by rw [xsN, List.getElem?_map, hlk]; rfl
        have key : ∃ y', (xN n e).cells[j]? = some y' ∧ y.one = true ∧ ∀ u, RepD w pr y' u → RepD w pr y u := by
          match j, hj with
          | 0, hj => cases hj; exact ⟨_, rfl, rfl, fun u h => h⟩
          | 1, hj => cases hj; exact ⟨_, rfl, rfl, fun u h => h⟩
          | 2, hj =>
            cases hj
            refine ⟨_, rfl, rfl, fun u h => ?_⟩
            cases h with
            | nw n ek xs v h hb => exact h
          | j + 3, hj => cases hj
        obtain ⟨y', hy', h1, hw⟩ := key
        obtain ⟨hp, _, u, hu, hr⟩ := hk k _ hx' j y' hy'
        exact ⟨hp, h1, u, hu, hw u hr⟩
theorem c_xcloneN (Γ : Env) (n : Nat) (hn : ∀ w, Γ.ok w → n ≤ w.heap.size) (x : Ext) (hv : x.v.length ≤ 1099511627776) : ACalls Tryd.prog Γ 14 [xD x] (fun r => r = .d (xN n x)) := by
  refine AFresh.plain ?_
  refine afreshN_of (n := n) ty_ok hn isXClone rfl rfl ?_
  have hc1 := c_clone (Γ.at 0) x.v hv
  unfold xD sD
  repeat' (first | ((with_reducible show AWp _ _ _ _ _); (first | refine awp_seq ?_ | refine awp_block ?_ | refine awp_skip ?_ | refine awp_exit ?_ | refine awp_scope ?_ | refine awp_label ?_ | refine awp_run ty_ok rfl sdm ?_ | refine awp_ret ⟨_, _, rfl, rfl, ?_⟩ | refine awp_ret ⟨_, rfl, ?_⟩ | ((refine awp_cond (ty := ty) rfl (fun hc => ?_) (fun hc => ?_)) <;> (try simp only [nms, reduceCtorEq] at hc) <;> (try (exfalso; omega))))) | ((with_reducible show AOps _ _ _ _ _ _); (first | refine aops_nil ?_ | refine aops_go ty_ok rfl rfl sdm ?_ | refine aops_gate ty_ok rfl rfl rfl sdm ?_ | refine aops_callE (ty := ty) rfl rfl rfl rfl rfl rfl rfl (hc1) rfl ?_ | refine aops_litE ty_ok rfl rfl rfl rfl rfl rfl rfl rfl rfl rfl rfl rfl ?_ | refine aops_litA ty_ok rfl rfl rfl rfl rfl rfl rfl rfl rfl rfl rfl rfl rfl rfl rfl rfl ?_ | refine aops_buildArr ty_ok rfl rfl rfl rfl rfl rfl rfl rfl rfl rfl ?_ | refine aops_indexArr ty_ok rfl rfl rfl rfl rfl rfl rfl rfl rfl rfl sdm ?_ | refine aops_lit0 ty_ok rfl rfl rfl rfl rfl rfl rfl ?_ | refine aops_field ty_ok rfl rfl rfl rfl rfl rfl rfl rfl rfl rfl ?_ | refine aops_cutE ty_ok rfl rfl rfl rfl rfl rfl rfl rfl rfl sdm rfl ?_ | ((fail_if_success (refine aops_known rfl ?_)); (refine aops_split ty_ok rfl rfl rfl rfl rfl rfl (fun hc => ⟨?_, ?_⟩) (fun hc => ⟨?_, ?_⟩)) <;> (try simp only [nms, reduceCtorEq] at hc) <;> (try (exfalso; omega)) <;> (try exact sdm)))) | ((fail_if_success (with_reducible show AWp _ _ _ _ _)); (fail_if_success (with_reducible show AOps _ _ _ _ _ _)); (first | (show AWp _ _ _ _ _) | (show AOps _ _ _ _ _ _))))
  refine ⟨?_, rfl⟩
  (repeat' apply And.intro) <;> first | exact flat_str _ | exact flat_bool _ | exact flat_bys _ | rfl | exact trivial
theorem c_xindexN (Γ : Env) (n : Nat) (l : List Ext) (o : List UInt8) (hn : l.length ≤ 1000000) {v : Int} (h : ixI o l = v) : ACalls Tryd.prog Γ 13 [.sl (some 3) (xsN n l), sD o] (fun r => r = .d (.int .i64 v)) := by
  refine (c_xindex_at Γ l o hn h).arg rfl (fun j x x' h1 h2 w pr v hr => ?_)
  match j, h1, h2 with
  | 0, h1, h2 => cases h1; cases h2; exact xs_weak n l hr
  | 1, h1, h2 => cases h1; cases h2; exact hr
  | j + 2, h1, h2 => cases h1
set_option maxHeartbeats 1000000 in
theorem c_xallN (Γ : Env) (n : Nat) (hΓ : ∀ w, Γ.ok w → n ≤ w.heap.size) (l : List Ext) (hn : l.length ≤ 1000000) (hv : ∀ x ∈ l, x.v.length ≤ 1099511627776) : ACalls Tryd.prog Γ 12 [.sl (some 3) (xsD l)] (fun r => r = .own (some 3) 25 (xsN n l)) := by
  refine acalls_of ty_ok isXAll rfl rfl ?_
  have hxl := xs_len l
  repeat' (first | ((with_reducible show AWp _ _ _ _ _); (first | refine awp_seq ?_ | refine awp_block ?_ | refine awp_skip ?_ | refine awp_exit ?_ | refine awp_scope ?_ | refine awp_label ?_ | refine awp_run ty_ok rfl sdm ?_ | refine awp_ret ⟨_, _, rfl, rfl, ?_⟩ | refine awp_ret ⟨_, rfl, ?_⟩ | ((refine awp_cond (ty := ty) rfl (fun hc => ?_) (fun hc => ?_)) <;> (try simp only [nms, reduceCtorEq] at hc) <;> (try (exfalso; omega))))) | ((with_reducible show AOps _ _ _ _ _ _); (first | refine aops_nil ?_ | refine aops_go ty_ok rfl rfl sdm ?_ | refine aops_gate ty_ok rfl rfl rfl sdm ?_ | refine aops_litE ty_ok rfl rfl rfl rfl rfl rfl rfl rfl rfl rfl rfl rfl ?_ | refine aops_litA ty_ok rfl rfl rfl rfl rfl rfl rfl rfl rfl rfl rfl rfl rfl rfl rfl rfl ?_ | refine aops_buildArr ty_ok rfl rfl rfl rfl rfl rfl rfl rfl rfl rfl ?_ | refine aops_indexArr ty_ok rfl rfl rfl rfl rfl rfl rfl rfl rfl rfl sdm ?_ | refine aops_lit0 ty_ok rfl rfl rfl rfl rfl rfl rfl ?_ | refine aops_field ty_ok rfl rfl rfl rfl rfl rfl rfl rfl rfl rfl ?_ | refine aops_cutE ty_ok rfl rfl rfl rfl rfl rfl rfl rfl rfl sdm rfl ?_ | ((fail_if_success (refine aops_known rfl ?_)); (refine aops_split ty_ok rfl rfl rfl rfl rfl rfl (fun hc => ⟨?_, ?_⟩) (fun hc => ⟨?_, ?_⟩)) <;> (try simp only [nms, reduceCtorEq] at hc) <;> (try (exfalso; omega)) <;> (try exact sdm)))) | ((fail_if_success (with_reducible show AWp _ _ _ _ _)); (fail_if_success (with_reducible show AOps _ _ _ _ _ _)); (first | (show AWp _ _ _ _ _) | (show AOps _ _ _ _ _ _))))
  refine awp_nilrow 3 25 rfl ?_
  refine awp_loopR (G := { k : Nat // k ≤ l.length }) (fun k => ⟨Tryd.f12.ntmps, [(3, .ref 0), (6, .d (.sl (some 3) (xsD l))), (7, .d (.int .i64 l.length)), (8, .d (.int .i64 k.1))], [(0, .row (some 3) 25 (xsN n (l.take k.1)))], 1⟩) (fun k => l.length - k.1) ⟨0, Nat.zero_le _⟩ [(0, 0)]
      (SubR.mk' rfl rfl ⟨⟨_, rfl, rfl⟩, ⟨_, rfl, rfl⟩, ⟨_, rfl, congrArg (fun z : Nat => AV.d (Dat.int IntKind.i64 z)) (xs_len _)⟩, ⟨_, rfl, rfl⟩, trivial⟩ ⟨⟨_, _, rfl, rfl, rfl⟩, trivial⟩) ?_
  rintro ⟨k, hk⟩
  dsimp only
  have hrl : (xsN n (l.take k)).length ≤ 1000000 := by rw [xsN_len, List.length_take]; omega
  rcases Nat.lt_or_ge k l.length with h | h
  · have hX := xs_at h
    have hcan := x_can hX
    have hc1 := c_xcloneN (Γ.at 0) n hΓ l[k] (hv _ (List.getElem_mem h))
    rw [← hX, hcan] at hc1
    unfold xN sD at hc1
    repeat' (first | ((with_reducible show AWp _ _ _ _ _); (first | refine awp_seq ?_ | refine awp_block ?_ | refine awp_skip ?_ | refine awp_exit ?_ | refine awp_scope ?_ | refine awp_label ?_ | refine awp_run ty_ok rfl sdm ?_ | refine awp_ret ⟨_, _, rfl, rfl, ?_⟩ | refine awp_ret ⟨_, rfl, ?_⟩ | ((refine awp_cond (ty := ty) rfl (fun hc => ?_) (fun hc => ?_)) <;> (try simp only [nms, reduceCtorEq] at hc) <;> (try (exfalso; omega))))) | ((with_reducible show AOps _ _ _ _ _ _); (first | refine aops_nil ?_ | refine aops_go ty_ok rfl rfl sdm ?_ | refine aops_gate ty_ok rfl rfl rfl sdm ?_ | refine aops_callE (ty := ty) rfl rfl rfl rfl rfl rfl rfl (hc1) rfl ?_ | refine aops_litE ty_ok rfl rfl rfl rfl rfl rfl rfl rfl rfl rfl rfl rfl ?_ | refine aops_litA ty_ok rfl rfl rfl rfl rfl rfl rfl rfl rfl rfl rfl rfl rfl rfl rfl rfl ?_ | refine aops_buildArr ty_ok rfl rfl rfl rfl rfl rfl rfl rfl rfl rfl ?_ | refine aops_indexArr ty_ok rfl rfl rfl rfl rfl rfl rfl rfl rfl rfl sdm ?_ | refine aops_lit0 ty_ok rfl rfl rfl rfl rfl rfl rfl ?_ | refine aops_field ty_ok rfl rfl rfl rfl rfl rfl rfl rfl rfl rfl ?_ | refine aops_cutE ty_ok rfl rfl rfl rfl rfl rfl rfl rfl rfl sdm rfl ?_ | ((fail_if_success (refine aops_known rfl ?_)); (refine aops_split ty_ok rfl rfl rfl rfl rfl rfl (fun hc => ⟨?_, ?_⟩) (fun hc => ⟨?_, ?_⟩)) <;> (try simp only [nms, reduceCtorEq] at hc) <;> (try (exfalso; omega)) <;> (try exact sdm)))) | ((fail_if_success (with_reducible show AWp _ _ _ _ _)); (fail_if_success (with_reducible show AOps _ _ _ _ _ _)); (first | (show AWp _ _ _ _ _) | (show AOps _ _ _ _ _ _))))
    refine ⟨⟨k + 1, h⟩, [(3, 0)], SubR.mk' rfl rfl ⟨⟨_, rfl, rfl⟩, ⟨_, rfl, rfl⟩, ⟨_, rfl, rfl⟩, ⟨_, rfl, rfl⟩, trivial⟩ ⟨⟨_, _, rfl, rfl, congrArg (AO.row (some 3) 25) ?_⟩, trivial⟩, by simp only; omega⟩
    rw [List.take_succ_eq_append_getElem h, xsN_app]
    rfl
  · have hke : k = l.length := by omega
    subst hke
    rw [List.take_length]
    repeat' (first | ((with_reducible show AWp _ _ _ _ _); (first | refine awp_seq ?_ | refine awp_block ?_ | refine awp_skip ?_ | refine awp_exit ?_ | refine awp_scope ?_ | refine awp_label ?_ | refine awp_run ty_ok rfl sdm ?_ | refine awp_ret ⟨_, _, rfl, rfl, ?_⟩ | refine awp_ret ⟨_, rfl, ?_⟩ | ((refine awp_cond (ty := ty) rfl (fun hc => ?_) (fun hc => ?_)) <;> (try simp only [nms, reduceCtorEq] at hc) <;> (try (exfalso; omega))))) | ((with_reducible show AOps _ _ _ _ _ _); (first | refine aops_nil ?_ | refine aops_go ty_ok rfl rfl sdm ?_ | refine aops_gate ty_ok rfl rfl rfl sdm ?_ | refine aops_litE ty_ok rfl rfl rfl rfl rfl rfl rfl rfl rfl rfl rfl rfl ?_ | refine aops_litA ty_ok rfl rfl rfl rfl rfl rfl rfl rfl rfl rfl rfl rfl rfl rfl rfl rfl ?_ | refine aops_buildArr ty_ok rfl rfl rfl rfl rfl rfl rfl rfl rfl rfl ?_ | refine aops_indexArr ty_ok rfl rfl rfl rfl rfl rfl rfl rfl rfl rfl sdm ?_ | refine aops_lit0 ty_ok rfl rfl rfl rfl rfl rfl rfl ?_ | refine aops_field ty_ok rfl rfl rfl rfl rfl rfl rfl rfl rfl rfl ?_ | refine aops_cutE ty_ok rfl rfl rfl rfl rfl rfl rfl rfl rfl sdm rfl ?_ | ((fail_if_success (refine aops_known rfl ?_)); (refine aops_split ty_ok rfl rfl rfl rfl rfl rfl (fun hc => ⟨?_, ?_⟩) (fun hc => ⟨?_, ?_⟩)) <;> (try simp only [nms, reduceCtorEq] at hc) <;> (try (exfalso; omega)) <;> (try exact sdm)))) | ((fail_if_success (with_reducible show AWp _ _ _ _ _)); (fail_if_success (with_reducible show AOps _ _ _ _ _ _)); (first | (show AWp _ _ _ _ _) | (show AOps _ _ _ _ _ _))))
    rfl
set_option maxHeartbeats 1000000 in
theorem c_xwithN (Γ : Env) (n : Nat) (hΓ : ∀ w, Γ.ok w → n ≤ w.heap.size) (l : List Ext) (x : Ext) (hn : l.length ≤ 1000000) (hv : ∀ x ∈ l, x.v.length ≤ 1099511627776) (hx : x.v.length ≤ 1099511627776) : ACalls Tryd.prog Γ 7 [.sl (some 3) (xsD l), xD x] (fun r => r = .own (some 3) 25 (xsN n (wiX l x))) := by
  refine acalls_of ty_ok isXWith rfl rfl ?_
  have hxl := xsN_len n l
  have hc0 := c_xallN (Γ.at 0) n hΓ l hn hv
  have hc2 := c_xcloneN (Γ.at 0) n hΓ x hx
  unfold wiX
  cases hf : fiX x.o 0 l with
  | none =>
    have hI : AFresh Tryd.prog (Γ.at 0) 13 [.sl (some 3) (xsN n l), sD x.o] (fun y => y = .int .i64 (-1)) := .of_flat (c_xindexN (Γ.at 0) n l x.o hn (v := -1) (by rw [ixI, hf])) (flat_int _ _)
    obtain ⟨o, c, v⟩ := x
    unfold xD sD at *
    unfold xN sD at hc2
    simp only at hI hc2
    repeat' (first | ((with_reducible show AWp _ _ _ _ _); (first | refine awp_seq ?_ | refine awp_block ?_ | refine awp_skip ?_ | refine awp_exit ?_ | refine awp_scope ?_ | refine awp_label ?_ | refine awp_run ty_ok rfl sdm ?_ | refine awp_ret ⟨_, _, rfl, rfl, ?_⟩ | refine awp_ret ⟨_, rfl, ?_⟩ | ((refine awp_cond (ty := ty) rfl (fun hc => ?_) (fun hc => ?_)) <;> (try simp only [nms, reduceCtorEq] at hc) <;> (try (exfalso; omega))))) | ((with_reducible show AOps _ _ _ _ _ _); (first | refine aops_nil ?_ | refine aops_go ty_ok rfl rfl sdm ?_ | refine aops_gate ty_ok rfl rfl rfl sdm ?_ | refine aops_callE (ty := ty) rfl rfl rfl rfl rfl rfl rfl (hc0) rfl ?_ | refine aops_lend (ty := ty) rfl rfl rfl rfl rfl rfl rfl (hI) rfl ?_ | refine aops_callE (ty := ty) rfl rfl rfl rfl rfl rfl rfl (hc2) rfl ?_ | refine aops_litE ty_ok rfl rfl rfl rfl rfl rfl rfl rfl rfl rfl rfl rfl ?_ | refine aops_litA ty_ok rfl rfl rfl rfl rfl rfl rfl rfl rfl rfl rfl rfl rfl rfl rfl rfl ?_ | refine aops_buildArr ty_ok rfl rfl rfl rfl rfl rfl rfl rfl rfl rfl ?_ | refine aops_indexArr ty_ok rfl rfl rfl rfl rfl rfl rfl rfl rfl rfl sdm ?_ | refine aops_lit0 ty_ok rfl rfl rfl rfl rfl rfl rfl ?_ | refine aops_field ty_ok rfl rfl rfl rfl rfl rfl rfl rfl rfl rfl ?_ | refine aops_cutE ty_ok rfl rfl rfl rfl rfl rfl rfl rfl rfl sdm rfl ?_ | ((fail_if_success (refine aops_known rfl ?_)); (refine aops_split ty_ok rfl rfl rfl rfl rfl rfl (fun hc => ⟨?_, ?_⟩) (fun hc => ⟨?_, ?_⟩)) <;> (try simp only [nms, reduceCtorEq] at hc) <;> (try (exfalso; omega)) <;> (try exact sdm)))) | ((fail_if_success (with_reducible show AWp _ _ _ _ _)); (fail_if_success (with_reducible show AOps _ _ _ _ _ _)); (first | (show AWp _ _ _ _ _) | (show AOps _ _ _ _ _ _))))
    rw [xsN_app]
    rfl
  | some i =>
    have hI : AFresh Tryd.prog (Γ.at 0) 13 [.sl (some 3) (xsN n l), sD x.o] (fun y => y = .int .i64 i) := .of_flat (c_xindexN (Γ.at 0) n l x.o hn (v := i) (by rw [ixI, hf])) (flat_int _ _)
    obtain ⟨_, h2, h3, h4⟩ := fiX_some hf
    simp only [Nat.sub_zero] at h2
    have hfit := xN_fits n x
    obtain ⟨o, c, v⟩ := x
    have e : xsN n (l.set i ⟨o, c, v⟩) = (xsN n l).set i (xN n ⟨o, c, v⟩) := by rw [xsN, xsN, List.map_set]
    rw [e]
    unfold xD sD at *
    unfold xN sD at *
    simp only at hI hc2 hfit
    repeat' (first | ((with_reducible show AWp _ _ _ _ _); (first | refine awp_seq ?_ | refine awp_block ?_ | refine awp_skip ?_ | refine awp_exit ?_ | refine awp_scope ?_ | refine awp_label ?_ | refine awp_run ty_ok rfl sdm ?_ | refine awp_ret ⟨_, _, rfl, rfl, ?_⟩ | refine awp_ret ⟨_, rfl, ?_⟩ | ((refine awp_cond (ty := ty) rfl (fun hc => ?_) (fun hc => ?_)) <;> (try simp only [nms, reduceCtorEq] at hc) <;> (try (exfalso; omega))))) | ((with_reducible show AOps _ _ _ _ _ _); (first | refine aops_nil ?_ | refine aops_go ty_ok rfl rfl sdm ?_ | refine aops_gate ty_ok rfl rfl rfl sdm ?_ | refine aops_callE (ty := ty) rfl rfl rfl rfl rfl rfl rfl (hc0) rfl ?_ | refine aops_lend (ty := ty) rfl rfl rfl rfl rfl rfl rfl (hI) rfl ?_ | refine aops_callE (ty := ty) rfl rfl rfl rfl rfl rfl rfl (hc2) rfl ?_ | refine aops_litE ty_ok rfl rfl rfl rfl rfl rfl rfl rfl rfl rfl rfl rfl ?_ | refine aops_litA ty_ok rfl rfl rfl rfl rfl rfl rfl rfl rfl rfl rfl rfl rfl rfl rfl rfl ?_ | refine aops_buildArr ty_ok rfl rfl rfl rfl rfl rfl rfl rfl rfl rfl ?_ | refine aops_indexArr ty_ok rfl rfl rfl rfl rfl rfl rfl rfl rfl rfl sdm ?_ | refine aops_lit0 ty_ok rfl rfl rfl rfl rfl rfl rfl ?_ | refine aops_field ty_ok rfl rfl rfl rfl rfl rfl rfl rfl rfl rfl ?_ | refine aops_cutE ty_ok rfl rfl rfl rfl rfl rfl rfl rfl rfl sdm rfl ?_ | ((fail_if_success (refine aops_known rfl ?_)); (refine aops_split ty_ok rfl rfl rfl rfl rfl rfl (fun hc => ⟨?_, ?_⟩) (fun hc => ⟨?_, ?_⟩)) <;> (try simp only [nms, reduceCtorEq] at hc) <;> (try (exfalso; omega)) <;> (try exact sdm)))) | ((fail_if_success (with_reducible show AWp _ _ _ _ _)); (fail_if_success (with_reducible show AOps _ _ _ _ _ _)); (first | (show AWp _ _ _ _ _) | (show AOps _ _ _ _ _ _))))
    rw [Int.toNat_natCast]
end Go.Proofs.YtohabohifjadgaaDoor

/- Walking by hand: operations in a given world; a store into memory that is only read elsewhere. No program. -/
namespace Go.Am
open Go.RowKit
set_option linter.unusedSimpArgs false
set_option linter.unusedVariables false

def lowA : AV → AV
  | .d (.int k n) => .d (.int k n)
  | .d (.bool b) => .d (.bool b)
  | _ => .undef
theorem lowA_rep {C C' : Ct} {y : AV} {v : Value} (h : Rep C y v) : Rep C' (lowA y) v := by
  unfold lowA
  split
  · cases h with
    | d h => cases h; exact .d (.int _ _)
  · cases h with
    | d h => cases h; exact .d (.bool _)
  · exact .undef v
section
variable {P : Program} {Γ : Env} {σ τ : St} {ty : TypeId → Option TI} {R : Exit → Act → World → Prop}

/-- An operation that leaves the world as it is, seen twice: with what is read of memory, and without. -/
theorem raw_go (hT : TyOk P ty) {a : Act} {C D : Ct} {ops rest : List Oper} {o : Oper} {p : Prop} {y : AV} (m : Models σ a C) (l : Models τ a D) (hs : τ.sz = σ.sz) (hw : wantedA ops σ o = some true) (hd : dstOk σ o.dst = true) (h : pureOp ty σ o.type o.op = some (p, y)) (hp : p)
    (k : ∀ a', Models (σ.put o.dst y) a' C → Models (τ.put o.dst (lowA y)) a' D → wpList P ops.toArray R rest a' C.w) : wpList P ops.toArray R (o :: rest) a C.w := by
  unfold wpList
  rw [if_pos (wantedA_sound m hw)]
  obtain ⟨v, hv, hr⟩ := pureOp_sound hT m h hp
  exact .inl (upon_value hv (k _ (m.put hr (dstOk_spec hd)) (l.put (lowA_rep hr) (by rw [hs]; exact dstOk_spec hd))))
theorem raw_go1 (hT : TyOk P ty) {a : Act} {C : Ct} {ops rest : List Oper} {o : Oper} {p : Prop} {y : AV} (m : Models σ a C) (hw : wantedA ops σ o = some true) (hd : dstOk σ o.dst = true) (h : pureOp ty σ o.type o.op = some (p, y)) (hp : p)
    (k : ∀ a', Models (σ.put o.dst y) a' C → wpList P ops.toArray R rest a' C.w) : wpList P ops.toArray R (o :: rest) a C.w := by
  unfold wpList
  rw [if_pos (wantedA_sound m hw)]
  obtain ⟨v, hv, hr⟩ := pureOp_sound hT m h hp
  exact .inl (upon_value hv (k _ (m.put hr (dstOk_spec hd))))
theorem raw_call {a : Act} {C : Ct} {ops rest : List Oper} {o : Oper} {c : Call} {fx : Operand} {f : FuncId} {ys : List AV} {dargs : List Dat} {S : Res → Prop} (m : Models σ a C) (hw : wantedA ops σ o = some true) (ho : o.op = .call c) (hc : c.callee = .value fx) (hf : calleeOf σ ty fx = some (f, []))
    (hy : evAll σ ty c.args.toList c.argTypes.toList = some ys) (hdat : datAll (frzAll σ ys) ys = some dargs) (hA : ACalls P Γ f dargs S) (hΓ : Γ.ok C.w)
    (k : ∀ C1, Models (frzAll σ ys) a C1 → Evo C C1 → C1.w = C.w → ∀ v r w', Below C.w.heap.size C.w w' → ResRep C.w w' C1.pr r v → S r → wpList P ops.toArray R rest (a.put o.dst v) w') : wpList P ops.toArray R (o :: rest) a C.w := by
  unfold wpList
  rw [if_pos (wantedA_sound m hw)]
  refine .inl ?_
  obtain ⟨⟨fn, hfn⟩, hcalls⟩ := hA
  obtain ⟨vs, hvl, _, hrun⟩ := run_call (P := P) m ho hc hf hfn
  have hv0 : vs = #[] := Array.eq_empty_of_size_eq_zero (by simpa using hvl)
  subst hv0
  obtain ⟨C1, m1, e1, hw1⟩ := Models.frzAll ys m
  obtain ⟨y1, y2⟩ := evAll_sound m hy
  obtain ⟨d1, d2⟩ := datAll_sound m1 hdat
  unfold Oper.wp
  rw [hrun]
  simp only [Array.append_empty]
  refine (hcalls C.w C1.pr (c.args.map a.eval) hΓ (by rw [d1, y1]; simp) (fun j x hj => ?_)).mono ?_
  · have := d2 (fun j => (c.args.toList.map a.eval).getD j undef) (fun j x hx => (y2 j x hx).mono e1) j x hj
    rw [hw1] at this
    simpa using this
  · rintro e w' ⟨v, r, rfl, hbel, hres, hR⟩
    exact k C1 m1 e1 hw1 v r w' hbel hres hR
/-- A view on memory: what some slots hold, read in some blocks. -/
def viewC (w : World) (p : Nat → Bool) : Ct := ⟨w, p, fun _ => .slice none 0 0, fun _ => false, 0⟩
theorem mk_view {a : Act} {C : Ct} (m : Models τ a C) (w : World) (p : Nat → Bool) (tms : List (Nat × AV)) (h : ∀ t x, look t tms = some x → t < τ.sz ∧ Rep (viewC w p) x (a.tmps.getD t undef)) : Models ⟨τ.sz, tms, [], 0⟩ a (viewC w p) :=
  ⟨m.defers, m.sz, fun i hi => (by cases hi), fun t x ht => h t x ht, fun i o hi => (by cases hi), fun i j o o' g hi => (by cases hi)⟩
/-- What was known stays known when only blocks from n on have turned. -/
def lowC (C : Ct) (w : World) : Ct := { C with w := w, pr := fun b => C.pr b && decide (b < C.w.heap.size) }
theorem low_evo {C : Ct} {w : World} (hB : C.B ≤ C.w.heap.size) (h : Below C.w.heap.size C.w w) : Evo C (lowC C w) :=
  ⟨h.os, h.tape, h.output, h.size, fun b hb hp => ⟨h.block b hb, by simp [lowC, hp, hb]⟩, fun _ h => h, fun _ _ => rfl, rfl, fun b hb => h.block b (Nat.lt_of_lt_of_le hb hB), fun b hb => by
    have : b < C.w.heap.size := Nat.lt_of_lt_of_le hb hB
    simp [lowC, this]⟩
theorem low_models {a : Act} {C : Ct} (m : Models σ a C) {w : World} (hB : C.B ≤ C.w.heap.size) (h : Below C.w.heap.size C.w w) : Models σ a (lowC C w) :=
  m.mono (low_evo hB h) (fun _ h => h) fun i o g hi he hg => by
    obtain ⟨h1, h2, _⟩ := (m.ob i o hi).excl he hg
    exact ⟨h.block g h1, by simp [lowC, h2]⟩
/-- One octet has turned. -/
structure Turned (w : World) (b off : Nat) (z : Int) (w' : World) : Prop where
  os : w'.os = w.os
  tape : w'.tape = w.tape
  output : w'.output = w.output
  size : w'.heap.size = w.heap.size
  other : ∀ g, g ≠ b → w'.heap[g]? = w.heap[g]?
  plain : ∀ g, plainB w' g = plainB w g
  cell : ∀ g o, w'.cell? ⟨g, o, none⟩ = if g = b ∧ o = off then some (.int .u8 z) else w.cell? ⟨g, o, none⟩
theorem raw_store (hT : TyOk P ty) {a : Act} {C : Ct} {ops rest : List Oper} {o : Oper} {t : TypeId} {x z : Operand} {ti : TI} {q zz : Int} {dq : Dat} (m : Models σ a C) (hw : wantedA ops σ o = some true) (hd : o.dst = none) (ho : o.op = .store t x z) (ht : ty t = some ti) (h1 : ti.size = 1)
    (hx : σ.ev ty 0 x = some (.at_ none dq)) (hdq : dq = .int .u8 q) (hz : σ.ev ty t z = some (.d (.int .u8 zz))) (hpl : ∀ b, C.pr b = true → plainB C.w b = true)
    (k : ∀ b off w', C.pr b = true → C.w.cell? ⟨b, off, none⟩ = some (.int .u8 q) → Turned C.w b off zz w' → wpList P ops.toArray R rest a w') : wpList P ops.toArray R (o :: rest) a C.w := by
  unfold wpList
  rw [if_pos (wantedA_sound m hw)]
  refine .inl ?_
  subst hdq
  have hrx := ev_sound m hx
  have hrz := Rep.int_inv (ev_sound m hz)
  obtain ⟨b, off, hv, hm⟩ : ∃ b off, a.eval x = .pointer (some ⟨b, off, none⟩) ∧ MemAt C.w C.pr b off (.int .u8 q) := by
    generalize a.eval x = v at hrx
    cases hrx with
    | at_ ek x b off hf hm => exact ⟨b, off, rfl, hm⟩
  obtain ⟨hp, _, u, hu, hr⟩ := hm 0 (.int .u8 q) rfl
  cases hr
  rw [Nat.add_zero] at hu
  obtain ⟨cur, bt, hheap⟩ := plainB_inv (hpl b hp)
  have hcell : cur[off]? = some (.int .u8 q) := by
    have := hu
    unfold World.cell? at this
    rw [hheap] at this
    simpa using this
  have hlt : off < cur.size := (Array.getElem?_eq_some_iff.1 hcell).1
  have hrun := run_storeAt_row (P := P) hT ht (off := off) (v := a.eval z) hheap (by rw [hrz, h1]; rfl) (by omega) (by rw [hrz]; intro u hu; simp [Value.cells] at hu; subst hu; rfl)
  have hop : (execOp a.eval o).run P C.w = .ok .skip (C.w.setRow b (cur.toList.take off ++ (a.eval z).cells.toList ++ cur.toList.drop (off + (a.eval z).cells.toList.length)).toArray) := by
    unfold execOp
    simp only [ho, Sem.run_bind, hv, hrun, Result.andThen_ok, Sem.run_pure]
  refine upon_skip hop ?_
  rw [hd]
  have hheap' := setRow_heap C.w b cur (cur.toList.take off ++ (a.eval z).cells.toList ++ cur.toList.drop (off + (a.eval z).cells.toList.length)).toArray bt (0, 0) hheap
  have hoth := fun g (hg : g ≠ b) => setRow_other C.w b g (cur.toList.take off ++ (a.eval z).cells.toList ++ cur.toList.drop (off + (a.eval z).cells.toList.length)).toArray hg
  refine k b off _ hp hu ⟨rfl, rfl, rfl, by simp, fun g hg => hoth g hg, fun g => ?_, fun g o' => ?_⟩
  · by_cases hg : g = b
    · subst hg
      rw [plainB_of hheap', plainB_of hheap]
    · unfold plainB
      rw [hoth g hg]
  · by_cases hg : g = b
    · subst hg
      unfold World.cell?
      rw [hheap', hheap, hrz]
      have hc : (Value.int IntKind.u8 zz).cells.toList = [.int .u8 zz] := rfl
      rw [hc]
      have := splice_get cur.toList [.int .u8 zz] off o' (by simp; omega)
      simp only [List.length_singleton] at this
      simp only [Option.isSome_none, Bool.false_eq_true, if_false, List.getElem?_toArray, List.length_singleton, this, true_and, Array.getElem?_toList]
      by_cases ho' : o' = off
      · subst ho'
        simp
      · rw [if_neg ho']
        split
        · rfl
        · split
          · omega
          · rfl
    · rw [if_neg (fun h => hg h.1)]
      unfold World.cell?
      rw [hoth g hg]
end
end Go.Am

/- Lists of extensions whose values lie in blocks of their own: what a store of one octet leaves. -/
namespace Go.Proofs.YtohabohifjadgaaDoor
open Go.Am Go.RowKit
set_option linter.unusedSimpArgs false
set_option linter.unusedVariables false

def pN (n : Nat) (w : World) : Nat → Bool := fun b => decide (n ≤ b) && plainB w b
theorem nw_out {w : World} {pr : Nat → Bool} {n : Nat} {l : List UInt8} {u : Value} (h : RepD w pr (.nw n none (bys l)) u) : RepD w (pN n w) (.sl none (bys l)) u := by
  cases h with
  | nw n ek xs v h hb =>
    rcases h.sl_inv with ⟨rfl, h0⟩ | ⟨b, off, spot, cap, rfl, hc, hm, hs, hf, hk⟩
    · rw [h0]
      exact .nil _
    · obtain ⟨h1, h2, h3⟩ := hb b rfl
      refine RepD.sl_mk rfl hc hm hs hf (fun k x hk' j y hj => ?_)
      obtain ⟨_, q1, u, hu, hr⟩ := hk k x hk' j y hj
      refine ⟨by simp [pN, h1, h3], q1, u, hu, flat_bys l x (List.mem_of_getElem? hk') y (List.mem_of_getElem? hj) _ _ _ _ _ hr⟩
theorem own_outN {w0 w : World} {pr : Nat → Bool} {e : TypeId} {l : List Ext} {v : Value} (h : OwnRep w0 w pr (some 3) e (xsN w0.heap.size l) v) : RepD w (pN w0.heap.size w) (.sl (some 3) (xsD l)) v := by
  obtain ⟨vals, hown, hcr⟩ := h
  have hl : (xsN w0.heap.size l).length = (xsD l).length := by simp [xsN, xsD]
  rcases hown.2 with ⟨hn, h0⟩ | ⟨g, cap, cur, hv, hb, hg, hnc, hcm, hcs, htake⟩
  · have : l = [] := List.eq_nil_of_length_eq_zero (by rw [← xsN_len w0.heap.size l]; exact h0)
    subst this
    rw [hn]
    exact .nil _
  · rw [hv]
    refine RepD.sl_mk hl (by rw [← hl]; exact hnc) hcm (fun _ => rfl) (fun x hx => ?_) (fun k x hk j y hj => ?_)
    · obtain ⟨e, _, rfl⟩ := List.mem_map.1 hx
      exact xD_fits e
    · rw [xsD, List.getElem?_map] at hk
      cases hlk : l[k]? with
      | none => rw [hlk] at hk; cases hk
      | some e' =>
        rw [hlk] at hk
        cases hk
        have hx' : (xsN w0.heap.size l)[k]? = some (xN w0.heap.size e') := by rw [xsN, List.getElem?_map, hlk]; rfl
        have key : ∃ y', (xN w0.heap.size e').cells[j]? = some y' ∧ y.one = true ∧ ∀ (pr : Nat → Bool) u, RepD w pr y' u → RepD w (pN w0.heap.size w) y u := by
          match j, hj with
          | 0, hj => cases hj; exact ⟨_, rfl, rfl, fun pr u h => flat_str _ _ _ _ _ _ h⟩
          | 1, hj => cases hj; exact ⟨_, rfl, rfl, fun pr u h => flat_bool _ _ _ _ _ _ h⟩
          | 2, hj => cases hj; exact ⟨_, rfl, rfl, fun pr u h => nw_out h⟩
          | j + 3, hj => cases hj
        obtain ⟨y', hy', h1, hw⟩ := key
        obtain ⟨hf, h2⟩ := hcr k _ hx'
        obtain ⟨u, hu, hr⟩ := h2 j y' hy'
        refine ⟨?_, h1, u, ?_, hw _ u hr⟩
        · simp only [pN, Bool.and_eq_true, decide_eq_true_eq]
          exact ⟨hb, plainB_of hg⟩
        · have := hown.cells (g := g) (by rw [hv]; rfl) _ u hu
          rw [Addr.add_lit] at this
          simpa using this
def rd1 (w : World) (b o : Nat) : UInt8 := match w.cell? ⟨b, o, none⟩ with
  | some (.int _ z) => UInt8.ofNat z.toNat
  | _ => 0
def rdV (w : World) (u : Value) (n : Nat) : List UInt8 := match u with
  | .slice (some a) _ _ => (List.range n).map fun q => rd1 w a.block (a.off + q)
  | _ => []
theorem rd1_of {w : World} {b o : Nat} {z : Int} (h : w.cell? ⟨b, o, none⟩ = some (.int .u8 z)) (h0 : 0 ≤ z) (h1 : z < 256) : w.cell? ⟨b, o, none⟩ = some (.int .u8 ((rd1 w b o).toNat : Int)) := by
  have e : rd1 w b o = UInt8.ofNat z.toNat := by rw [rd1, h]
  rw [h, e]
  have : ((UInt8.ofNat z.toNat).toNat : Int) = z := by
    rw [UInt8.toNat_ofNat']
    omega
  rw [this]
theorem sl_turn {w w' : World} {p : Nat → Bool} {u : Value} {l : List UInt8} {b off : Nat} {z : Int} (h : RepD w p (.sl none (bys l)) u) (ht : Turned w b off z w') (h0 : 0 ≤ z) (h1 : z < 256) : (rdV w' u l.length).length = l.length ∧ RepD w' p (.sl none (bys (rdV w' u l.length))) u := by
  rcases h.sl_inv with ⟨rfl, hn⟩ | ⟨g, o, spot, cap, rfl, hc, hm, hs, hf, hk⟩
  · have : l = [] := by
      cases l with
      | nil => rfl
      | cons => cases hn
    subst this
    exact ⟨rfl, .nil _⟩
  · have hl : (rdV w' (.slice (some ⟨g, o, spot⟩) (bys l).length cap) l.length).length = l.length := by simp [rdV]
    have hl2 : (bys (rdV w' (.slice (some ⟨g, o, spot⟩) (bys l).length cap) l.length)).length = (bys l).length := by rw [bys_len (rdV w' (.slice (some ⟨g, o, spot⟩) (bys l).length cap) l.length), hl, bys_len]
    refine ⟨hl, RepD.sl_mk hl2.symm (by rw [hl2]; exact hc) hm (fun h => hs (by rw [hl2] at h; exact h)) (fun x hx => ?_) (fun k x hkx j y hj => ?_)⟩
    · obtain ⟨c, _, rfl⟩ := List.mem_map.1 hx
      rfl
    · have hkl : k < l.length := by
        have := (List.getElem?_eq_some_iff.1 hkx).1
        rw [hl2, bys_len] at this
        exact this
      have hx : x = by1 (rd1 w' g (o + k)) := by
        rw [bys, List.getElem?_map, rdV, List.getElem?_map, List.getElem?_range hkl] at hkx
        cases hkx
        rfl
      subst hx
      have hkk : (bys l)[k]? = some (by1 l[k]) := by rw [bys, List.getElem?_map, List.getElem?_eq_getElem hkl]; rfl
      match j, hj with
      | 0, hj =>
        cases hj
        obtain ⟨hp, _, c, hcc, hr⟩ := hk k _ hkk 0 _ rfl
        cases hr
        refine ⟨hp, rfl, _, ?_, .int _ _⟩
        have e1 : esz none = 1 := rfl
        rw [e1, Nat.mul_one, Nat.add_zero] at hcc ⊢
        have hc' := ht.cell g (o + k)
        by_cases he : g = b ∧ o + k = off
        · rw [if_pos he] at hc'
          exact rd1_of hc' h0 h1
        · rw [if_neg he, hcc] at hc'
          have := l[k].toNat_lt
          exact rd1_of hc' (by omega) (by omega)
      | j + 1, hj => cases hj
theorem xs_turn {w w' : World} {p : Nat → Bool} {v : Value} {l : List Ext} {b off : Nat} {q z : Int} (h : RepD w p (.sl (some 3) (xsD l)) v) (hq : w.cell? ⟨b, off, none⟩ = some (.int .u8 q)) (ht : Turned w b off z w') (h0 : 0 ≤ z) (h1 : z < 256) :
    ∃ l' : List Ext, l'.map (fun x => x.v.length) = l.map (fun x => x.v.length) ∧ RepD w' p (.sl (some 3) (xsD l')) v := by
  rcases h.sl_inv with ⟨rfl, hn⟩ | ⟨g, o, spot, cap, rfl, hc, hm, hs, hf, hk⟩
  · have : l = [] := by
      cases l with
      | nil => rfl
      | cons => cases hn
    subst this
    exact ⟨[], rfl, .nil _⟩
  · have keep : ∀ g o u, w.cell? ⟨g, o, none⟩ = some u → (∀ k n, u ≠ .int k n) → w'.cell? ⟨g, o, none⟩ = some u := by
      intro g o u hu hne
      rw [ht.cell]
      by_cases he : g = b ∧ o = off
      · obtain ⟨rfl, rfl⟩ := he
        rw [hq] at hu
        cases hu
        exact absurd rfl (hne _ _)
      · rw [if_neg he]
        exact hu
    let F : Nat → Ext → Ext := fun k x => ⟨x.o, x.c, rdV w' ((w.cell? ⟨g, o + k * 3 + 2, none⟩).getD undef) x.v.length⟩
    have key : ∀ k x, l[k]? = some x → (F k x).v.length = x.v.length ∧ MemAt w' p g (o + k * 3) (xD (F k x)) := by
      intro k x hkx
      have hx' : (xsD l)[k]? = some (xD x) := by rw [xsD, List.getElem?_map, hkx]; rfl
      have hM := hk k _ hx'
      obtain ⟨p0, _, u0, c0, r0⟩ := hM 0 _ rfl
      obtain ⟨p1, _, u1, c1, r1⟩ := hM 1 _ rfl
      obtain ⟨p2, _, u2, c2, r2⟩ := hM 2 _ rfl
      have e3 : esz (some 3) = 3 := rfl
      rw [e3] at c0 c1 c2
      have hF : F k x = ⟨x.o, x.c, rdV w' u2 x.v.length⟩ := by
        show (⟨x.o, x.c, rdV w' ((w.cell? ⟨g, o + k * 3 + 2, none⟩).getD undef) x.v.length⟩ : Ext) = _
        rw [c2]
        rfl
      obtain ⟨s1, s2⟩ := sl_turn r2 ht h0 h1
      rw [hF]
      refine ⟨s1, fun j y hj => ?_⟩
      match j, hj with
      | 0, hj => cases hj; exact ⟨p0, rfl, u0, keep _ _ _ c0 (by cases r0; intro k n h; cases h), flat_str _ _ _ _ _ _ r0⟩
      | 1, hj => cases hj; exact ⟨p1, rfl, u1, keep _ _ _ c1 (by cases r1; intro k n h; cases h), flat_bool _ _ _ _ _ _ r1⟩
      | 2, hj =>
        cases hj
        refine ⟨p2, rfl, u2, keep _ _ _ c2 (fun k n h => ?_), s2⟩
        rcases r2.sl_inv with ⟨rfl, _⟩ | ⟨_, _, _, _, rfl, _⟩ <;> cases h
      | j + 3, hj => cases hj
    have hlen : (l.mapIdx F).length = l.length := by simp
    refine ⟨l.mapIdx F, ?_, RepD.sl_mk (by rw [xs_len, xs_len, hlen]) (by rw [xs_len, hlen, ← xs_len l]; exact hc) hm (fun h => hs (by rw [xs_len, hlen] at h; rw [xs_len]; exact h)) (fun x hx => ?_) (fun k x hkx => ?_)⟩
    · apply List.ext_getElem?
      intro k
      rw [List.getElem?_map, List.getElem?_map, List.getElem?_mapIdx]
      cases hkl : l[k]? with
      | none => rfl
      | some x => simp only [Option.map_some]; rw [(key k x hkl).1]
    · obtain ⟨e, _, rfl⟩ := List.mem_map.1 hx
      exact xD_fits e
    · rw [xsD, List.getElem?_map, List.getElem?_mapIdx] at hkx
      cases hkl : l[k]? with
      | none => rw [hkl] at hkx; cases hkx
      | some e =>
        rw [hkl] at hkx
        cases hkx
        exact (key k e hkl).2
theorem view_turn {sz : Nat} {lw : List Ext} {i k : Int} {a : Act} {w w' : World} {p : Nat → Bool} {b off : Nat} {q z : Int} (mv : Models ⟨sz, [(8, .d (.sl (some 3) (xsD lw))), (9, .d (.int .i64 i)), (10, .d (.int .i64 k))], [], 0⟩ a (viewC w p))
    (hq : w.cell? ⟨b, off, none⟩ = some (.int .u8 q)) (ht : Turned w b off z w') (h0 : 0 ≤ z) (h1 : z < 256) :
    ∃ lw' : List Ext, lw'.map (fun x => x.v.length) = lw.map (fun x => x.v.length) ∧ Models ⟨sz, [(8, .d (.sl (some 3) (xsD lw'))), (9, .d (.int .i64 i)), (10, .d (.int .i64 k))], [], 0⟩ a (viewC w' p) := by
  obtain ⟨t8, r8⟩ := mv.tm 8 _ rfl
  obtain ⟨t9, r9⟩ := mv.tm 9 _ rfl
  obtain ⟨t10, r10⟩ := mv.tm 10 _ rfl
  cases r8 with
  | d h8 =>
    obtain ⟨lw', e, h8'⟩ := xs_turn h8 hq ht h0 h1
    refine ⟨lw', e, mk_view mv w' p _ (fun t x hx => ?_)⟩
    rw [look_cons] at hx
    split at hx
    · rename_i e; subst e; cases hx; exact ⟨t8, .d h8'⟩
    · rw [look_cons] at hx
      split at hx
      · rename_i e; subst e; cases hx
        refine ⟨t9, ?_⟩
        cases r9 with
        | d h => exact .d (flat_int _ _ _ _ _ _ _ h)
      · rw [look_cons] at hx
        split at hx
        · rename_i e; subst e; cases hx
          refine ⟨t10, ?_⟩
          cases r10 with
          | d h => exact .d (flat_int _ _ _ _ _ _ _ h)
        · cases hx
theorem u8_wrap (n : Int) : 0 ≤ IntKind.u8.wrap n ∧ IntKind.u8.wrap n < 256 := by
  have : IntKind.u8.wrap n = n % 256 := rfl
  rw [this]
  omega
theorem below_turn {n : Nat} {w0 w w' : World} {b off : Nat} {z : Int} (h : Below n w0 w) (hb : n ≤ b) (ht : Turned w b off z w') : Below n w0 w' :=
  ⟨ht.os.trans h.os, ht.tape.trans h.tape, ht.output.trans h.output, by rw [ht.size]; exact h.size, fun k hk => (ht.other k (by omega)).trans (h.block k hk)⟩
end Go.Proofs.YtohabohifjadgaaDoor

/- The abstract machine: literals and appends to fresh slices in a head whose order is drawn. No program. -/
namespace Go.Am
open Go.RowKit
set_option linter.unusedSimpArgs false
set_option linter.unusedVariables false
section
variable {P : Program} {Γ : Env} {Q : Exit → St → Prop} {σ : St} {ty : TypeId → Option TI}

theorem below_alloc (w : World) (o : Obj) : Below w.heap.size w (w.alloc o) := ⟨rfl, rfl, rfl, by simp, fun b hb => heap_alloc_old w o hb⟩
/-- A literal without elements, in a head. -/
theorem HStep.lit0 (hT : TyOk P ty) {σm : St} {o : Oper} {id : Nat} {t e : TypeId} {ti ei : TI} (ho : o.op = .buildSlice t 0 #[]) (ht : ty t = some ti) (hde : ti.desc = .slice e) (he : ty e = some ei) : HStep P Γ σm o id (.empty ei.ek) none := by
  intro a C K R b m hid hk
  obtain ⟨j, hj, hjs, _, hjz⟩ := hT.info _ _ he
  have hu := hT.und _ _ ht
  rw [hde] at hu
  have hrun : (execOp a.eval o).run P C.w = .ok (.value (.slice (some ⟨C.w.heap.size, 0, none⟩) 0 0)) (C.w.alloc (.cells #[] e)) := by
    unfold execOp
    simp only [ho]
    exact run_value (by rw [show (#[] : Array (Nat × Operand)).map (fun x => (x.1, a.eval x.2)) = #[] from Array.eq_empty_of_size_eq_zero (by simp)]; exact run_lit0 hu hj C.w)
  have hbel := below_alloc C.w (.cells #[] e)
  refine upon_value hrun (hk _ (C.back0 (C.w.alloc (.cells #[] e))) (Ct.back0_evo b.B hbel) (fun i hi => .inl hi) (.empty _ _) (by simp) (fun g hg => ⟨hbel.block g hg, ?_⟩))
  simp [Ct.back0]
  intro h
  omega
theorem run_append_empty {t rt e : TypeId} {j : TypeInfo} (hu : P.underlying t = some (.slice e)) (hie : P.info? e = some j) (a b : Addr) (m c : Nat) (hm : 0 < m) (hbytes : m * j.bytes ≤ 140737488355328) (w : World) :
    (Builtin.append_ #[t, t] rt #[.slice (some a) 0 0, .slice (some b) m c]).run P w = (Builtin.append_ #[t, t] rt #[.slice none 0 0, .slice (some b) m c]).run P w := by
  have h0 : m ≠ 0 := by omega
  have h1 : Builtin.nextslicecap m 0 = m := by simp [Builtin.nextslicecap, hm]
  have h2 : ¬ (m * j.bytes > 2 ^ 48) := by omega
  simp [Builtin.append_, loadCells, loadCellsFrom, run_underlying hu, sizeOf, typeInfo, hie, Builtin.lenOf, Builtin.firstCells, h0, h1, h2]
theorem run_append_none0 {t rt e : TypeId} {j : TypeInfo} (hu : P.underlying t = some (.slice e)) (hie : P.info? e = some j) (a b : Option Addr) (c : Nat) (w : World) :
    (Builtin.append_ #[t, t] rt #[.slice a 0 0, .slice b 0 c]).run P w = .ok (.slice a 0 0) w := by
  cases a <;> cases b <;> simp [Builtin.append_, loadCells, loadCellsFrom, storeCells, run_underlying hu, sizeOf, typeInfo, hie, Builtin.lenOf, Builtin.firstCells]
/-- What has no room may be appended to: the result is read-only here. -/
def emptyA : AV → Option (Option Nat)
  | .nil ek => some ek
  | .empty ek => some ek
  | _ => none
theorem HStep.appE (hT : TyOk P ty) {σm : St} {o : Oper} {id : Nat} {t e : TypeId} {x z : Operand} {ti ei : TI} {y1 y2 : AV} {ek : Option Nat} {ys : List Dat} (ho : o.op = .call { callee := .builtin .append, args := #[x, z], argTypes := #[t, t] }) (ht : ty t = some ti) (hde : ti.desc = .slice e) (he : ty e = some ei)
    (hx : σm.ev ty t x = some y1) (hb : emptyA y1 = some ek) (hz : σm.ev ty t z = some y2) (hs : σm.sl y2 = some (ek, ys)) (hek : ekB ek ei.ek = true) (h0 : Nat.ble 1 ei.size = true) (hby : Nat.ble ei.bytes 128 = true) (hN : ys.length ≤ 1099511627776) : HStep P Γ σm o id (.d (.sl ek ys)) none := by
  intro a C K R b m hid hk
  have hek' := ekB_eq hek
  have hes : esz ek = ei.size := by rw [hek']; exact hT.esz he
  have hpos : 0 < esz ek := by rw [hes]; exact Nat.le_of_ble_eq_true h0
  obtain ⟨j, hj, hjs, hjb, hjz⟩ := hT.info _ _ he
  obtain ⟨hz1, _⟩ := hT.zsize _ _ he
  have hu := hT.und _ _ ht
  rw [hde] at hu
  have hble := Nat.le_of_ble_eq_true hby
  have hbytes : ys.length * j.bytes ≤ 140737488355328 := by
    have h1 : ys.length * j.bytes ≤ ys.length * 128 := Nat.mul_le_mul_left _ (by rw [hjb]; exact hble)
    omega
  obtain ⟨xa, hxv⟩ : ∃ xa, a.eval x = .slice xa 0 0 := by
    have hxr := ev_sound m hx
    generalize a.eval x = v at hxr
    unfold emptyA at hb
    split at hb
    · cases hxr; exact ⟨_, rfl⟩
    · cases hxr; exact ⟨_, rfl⟩
    · cases hb
  obtain ⟨A, cap, news, hvz, hAn, hnl, hncr, hn1, hncell⟩ := news_of (sl_sound m hs (ev_sound m hz)) hpos
  have hop : ∀ v w', (Builtin.append_ #[t, t] o.type #[a.eval x, a.eval z]).run P C.w = .ok v w' → (execOp a.eval o).run P C.w = .ok (.value v) w' := by
    intro v w' hrun
    unfold execOp
    simp only [ho]
    simp [resolve, invoke, builtin, hrun]
  rcases Nat.eq_zero_or_pos ys.length with h | h
  · have hy0 : ys = [] := List.eq_nil_of_length_eq_zero h
    subst hy0
    have hrun := run_append_none0 (rt := o.type) hu hj xa A cap C.w
    rw [hxv, hvz] at hop
    refine upon_value (hop _ _ hrun) (hk _ C (.refl C) (fun i hi => .inl hi) (.d ?_) (by simp) (fun g hg => ⟨rfl, rfl⟩))
    cases xa with
    | none => exact .nil ek
    | some ad =>
      obtain ⟨g, off, sp⟩ := ad
      exact RepD.sl_mk rfl (by simp) (by simp [maxLen]) (by simp) (by simp) (by simp)
  · cases A with
    | none => obtain ⟨_, hy⟩ := hAn rfl; rw [hy] at h; simp at h
    | some ad =>
      have hown0 : C.w.ownsRow C.w.heap.size e (esz ek) (.slice none 0 0) 0 [] := World.ownsRow_nil _ _ _ _
      obtain ⟨v', w', r1, r2, r3, _, r5⟩ := run_append_own_at (P := P) C.w C.w.heap.size t o.type e j ei.zero (esz ek) j.bytes hu hj hjz (by rw [hjs, hes]) rfl (by rw [hz1, hes]) hpos (.slice none 0 0) 0 [] hown0 ad ys.length cap news hnl (hncell ad rfl) hn1
        (by simp only [maxLen]; omega) (by rw [Nat.zero_add]; exact hbytes) (Nat.le_refl _)
      have hrun : (Builtin.append_ #[t, t] o.type #[a.eval x, a.eval z]).run P C.w = .ok v' w' := by
        rw [hxv, hvz]
        cases xa with
        | none => exact r1
        | some q => rw [run_append_empty hu hj q ad ys.length cap h hbytes]; exact r1
      have hbel : Below C.w.heap.size C.w w' := ⟨r3.os, r3.tape, r3.output, r3.size, fun g hg => r3.block g hg (by simp [Value.ownBlock])⟩
      have hbk : ∀ g, blk v' = some g → C.w.heap.size ≤ g := by
        intro g hg
        rcases r2.2 with ⟨h1, _⟩ | ⟨g', cap', cur, h1, h2, _⟩
        · rw [h1] at hg; simp [blk] at hg
        · rw [h1] at hg
          have : g' = g := by simpa [blk] using hg
          omega
      have hD : RepD w' (C.back0 w').pr (.sl ek ys) v' := by
        refine own_datum (w0 := C.w) (pr := C.pr) (e := e) ⟨news, ?_, hncr.mono fun g hg hp => ⟨hbel.block g hg, ?_⟩⟩
        · have := r2
          rw [Nat.zero_add, List.nil_append] at this
          exact this
        · have hne : blk v' ≠ some g := fun hh => by have := hbk g hh; omega
          simp [hp, hne]
      refine upon_value (hop _ _ hrun) (hk _ (C.back0 w') (Ct.back0_evo b.B hbel) (fun i hi => .inl hi) (.d hD) (by simp) (fun g hg => ⟨hbel.block g hg, ?_⟩))
      simp [Ct.back0]
      intro hh
      omega
/-- A slice of one struct, in a head. -/
theorem HStep.litA (hT : TyOk P ty) {σm : St} {o : Oper} {id : Nat} {t e : TypeId} {x : Operand} {ti ei : TI} {y : AV} {ds : List Dat} (ho : o.op = .buildSlice t 1 #[(0, x)]) (ht : ty t = some ti) (hde : ti.desc = .slice e) (he : ty e = some ei) (hek : ei.agg = true)
    (hx : σm.ev ty e x = some y) (hp : datOf σm y = some (.agg ds)) (hl : Nat.beq ds.length ei.size = true) (h1 : ds.all (·.one) = true) (h0 : Nat.ble 1 ei.size = true) (hN : Nat.ble ei.size 16777216 = true) : HStep P Γ σm o id (.ref id) (some (.row (some ei.size) e [.agg ds])) := by
  have hl' := Nat.eq_of_beq_eq_true hl
  have h0' := Nat.le_of_ble_eq_true h0
  have hN' := Nat.le_of_ble_eq_true hN
  have h1' : ∀ z ∈ ds, z.one = true := List.all_eq_true.1 h1
  intro a C K R b m hid hk
  have hB := b.B
  obtain ⟨j, hj, hjs, _, hjz⟩ := hT.info _ _ he
  obtain ⟨hz1, hz2⟩ := hT.zsize _ _ he
  have hu := hT.und _ _ ht
  rw [hde] at hu
  have hrd := datOf_sound m hp (ev_sound m hx)
  obtain ⟨v, hv⟩ : ∃ v, v = a.eval x := ⟨_, rfl⟩
  rw [← hv] at hrd
  cases hrd with
  | agg _ vs hvl _ hvr =>
    have hvs : (Value.agg vs).cells.size = j.size := by
      show vs.size = _
      rw [hvl, hl', hjs]
    have hzr := hT.zrep _ _ he
    have hzo := hT.zone _ _ he
    have hinit : CsRep C (ei.zd.map .d) ((Array.range (1 * j.size)).map (ei.zero.cells[· % ei.zero.cells.size]!)) := by
      refine ⟨by simp [hjs, hz2], ?_, ?_⟩
      · intro y hy
        obtain ⟨q, hq, rfl⟩ := List.mem_map.1 hy
        exact hzo q hq
      · intro i y hy
        rw [List.getElem?_map] at hy
        obtain ⟨q, hq, rfl⟩ := Option.map_eq_some_iff.1 hy
        have hil : i < ei.size := by rw [← hz2]; exact (List.getElem?_eq_some_iff.1 hq).1
        have e1 : ((Array.range (1 * j.size)).map (ei.zero.cells[· % ei.zero.cells.size]!)).getD i undef = ei.zero.cells.getD i undef := by
          have h2 : i < ei.zero.cells.size := by rw [hz1]; exact hil
          simp [hjs, hil, Nat.mod_eq_of_lt h2, h2]
        rw [e1]
        exact .d (hzr C.w C.pr i q hq)
    have hset := setAll_sound (c := C) 0 (ds.map .d) vs.toList 0 _ _ hinit (by simp [hvl]) (by
      intro y hy
      obtain ⟨q, hq, rfl⟩ := List.mem_map.1 hy
      exact h1' q hq) (by
      intro i y hy
      rw [List.getElem?_map] at hy
      obtain ⟨q, hq, rfl⟩ := Option.map_eq_some_iff.1 hy
      have := hvr i q hq
      simpa using Rep.d (c := C) this)
    obtain ⟨cs, hcs⟩ : ∃ cs, cs = (Value.agg vs).cells.zipIdx.foldl (fun (cs : Array Value) (x : Value × Nat) => cs.setIfInBounds (0 + x.2) x.1) ((Array.range (1 * j.size)).map (ei.zero.cells[· % ei.zero.cells.size]!)) := ⟨_, rfl⟩
    have hset' : CsRep C (setAll (ei.zd.map .d) 0 (ds.map .d)) cs := by
      rw [hcs, ← Array.foldl_toList, Array.toList_zipIdx]
      exact hset
    have hrun : (execOp a.eval o).run P C.w = .ok (.value (.slice (some ⟨C.w.heap.size, 0, none⟩) 1 1)) (C.w.alloc (.cells cs e)) := by
      unfold execOp
      simp only [ho]
      refine run_value ?_
      have := run_lit1 (v := .agg vs) hu hj hjz hvs (by rw [hjs]; omega) (by rw [hjs]; omega) C.w
      rw [← hcs] at this
      have e2 : (#[(0, x)] : Array (Nat × Operand)).map (fun (i, x) => (i, a.eval x)) = #[(0, Value.agg vs)] := by simp [← hv]
      rw [e2]
      exact this
    have hcsz : cs.size = ei.size := by
      rw [hset'.1, setAll_length, List.length_map, hz2]
    have hro : ORep (C.new id (.cells cs e) (.slice (some ⟨C.w.heap.size, 0, none⟩) 1 1)) id (.row (some ei.size) e [.agg ds]) := by
      have := new_row (C := C) hid hB (ek := some ei.size) (e := e) (xs := [.agg ds]) (vs := cs) 1 (by simp) (by simp [maxLen]) (by simp [hcsz, esz]) (by
        intro k d hk
        match k, hk with
        | 0, hk =>
          simp only [List.getElem?_cons_zero, Option.some.injEq] at hk
          subst hk
          refine ⟨⟨ds, rfl, hl', h1'⟩, fun i y hy => ?_⟩
          have hil : i < ds.length := (List.getElem?_eq_some_iff.1 hy).1
          have hlt : i < (setAll (ei.zd.map AV.d) 0 (ds.map .d)).length := by rw [setAll_length, List.length_map, hz2, ← hl']; exact hil
          have hget := List.getElem?_eq_getElem hlt
          rcases setAll_get (by simp [hz2, hl']) hget with ⟨h, _⟩ | ⟨_, _, h⟩ | ⟨h, _⟩
          · omega
          · rw [Nat.sub_zero, List.getElem?_map] at h
            have hy' : ds[i]? = some y := hy
            rw [hy'] at h
            simp only [Option.map_some, Option.some.injEq] at h
            have hrep := hset'.2.2 i _ hget
            rw [← h] at hrep
            refine ⟨cs.getD i undef, ?_, ?_⟩
            · have : i < cs.size := by rw [hcsz, ← hl']; exact hil
              simp [this]
            · cases hrep with
              | d hh => exact hh
          · simp at h
            omega)
      exact this
    refine upon_value hrun (hk _ (C.new id (.cells cs e) (.slice (some ⟨C.w.heap.size, 0, none⟩) 1 1)) (Ct.new_evo hid hB _ _) (fun i hi => (ok_or hi).imp (fun h => h) (fun h => ⟨h, rfl⟩)) (.ref _ (by simp [Ct.new]) _ (by simp [Ct.new]) rfl) (fun ao h => ?_) (fun g hg => ⟨heap_alloc_old C.w _ hg, ?_⟩))
    · cases h
      refine ⟨hro, fun g hg => ?_⟩
      simp [Ct.new, blk] at hg
      omega
    · simp only [Ct.new]
      rw [if_neg (by omega)]

theorem head_lit0 (hT : TyOk P ty) {l : List Oper} {n : Nat} {D : List Oper} {K : List Ent → Prop} {r : List Oper} {j : Nat} {acc : List Ent} {o : Oper} {t e : TypeId} {ti ei : TI} (hd : dstOk σ o.dst = true) (hw : wantedA l (minE σ n D acc o) o = some true) (ho : o.op = .buildSlice t 0 #[]) (ht : ty t = some ti) (hde : ti.desc = .slice e) (he : ty e = some ei)
    (k : HeadT P Γ l σ n D K r (j + 1) (⟨j, o.dst, .empty ei.ek, none⟩ :: acc)) : HeadT P Γ l σ n D K (o :: r) j acc :=
  ⟨.empty ei.ek, none, ⟨hd, .inl ⟨hw, HStep.lit0 hT ho ht hde he⟩⟩, k⟩
theorem head_appE (hT : TyOk P ty) {l : List Oper} {n : Nat} {D : List Oper} {K : List Ent → Prop} {r : List Oper} {j : Nat} {acc : List Ent} {o : Oper} {t e : TypeId} {x z : Operand} {ti ei : TI} {y1 y2 : AV} {ek : Option Nat} {ys : List Dat} (hd : dstOk σ o.dst = true) (hw : wantedA l (minE σ n D acc o) o = some true) (ho : o.op = .call { callee := .builtin .append, args := #[x, z], argTypes := #[t, t] }) (ht : ty t = some ti) (hde : ti.desc = .slice e) (he : ty e = some ei)
    (hx : (minE σ n D acc o).ev ty t x = some y1) (hb : emptyA y1 = some ek) (hz : (minE σ n D acc o).ev ty t z = some y2) (hs : (minE σ n D acc o).sl y2 = some (ek, ys)) (hek : ekB ek ei.ek = true) (h0 : Nat.ble 1 ei.size = true) (hby : Nat.ble ei.bytes 128 = true) (hN : ys.length ≤ 1099511627776)
    (k : HeadT P Γ l σ n D K r (j + 1) (⟨j, o.dst, .d (.sl ek ys), none⟩ :: acc)) : HeadT P Γ l σ n D K (o :: r) j acc :=
  ⟨.d (.sl ek ys), none, ⟨hd, .inl ⟨hw, HStep.appE hT ho ht hde he hx hb hz hs hek h0 hby hN⟩⟩, k⟩
theorem head_litA (hT : TyOk P ty) {l : List Oper} {n : Nat} {D : List Oper} {K : List Ent → Prop} {r : List Oper} {j : Nat} {acc : List Ent} {o : Oper} {t e : TypeId} {x : Operand} {ti ei : TI} {y : AV} {ds : List Dat} (hd : dstOk σ o.dst = true) (hw : wantedA l (minE σ n D acc o) o = some true) (ho : o.op = .buildSlice t 1 #[(0, x)]) (ht : ty t = some ti) (hde : ti.desc = .slice e) (he : ty e = some ei) (hek : ei.agg = true)
    (hx : (minE σ n D acc o).ev ty e x = some y) (hp : datOf (minE σ n D acc o) y = some (.agg ds)) (hl : Nat.beq ds.length ei.size = true) (h1 : ds.all (·.one) = true) (h0 : Nat.ble 1 ei.size = true) (hN : Nat.ble ei.size 16777216 = true)
    (k : HeadT P Γ l σ n D K r (j + 1) (⟨j, o.dst, .ref (σ.nx + j), some (.row (some ei.size) e [.agg ds])⟩ :: acc)) : HeadT P Γ l σ n D K (o :: r) j acc :=
  ⟨.ref (σ.nx + j), some (.row (some ei.size) e [.agg ds]), ⟨hd, .inl ⟨hw, HStep.litA hT ho ht hde he hek hx hp hl h1 h0 hN⟩⟩, k⟩
end
end Go.Am

/- The abstract machine: a literal of plain cells in a head whose order is drawn; it is read-only from there on. No program. -/
namespace Go.Am
open Go.RowKit
set_option linter.unusedSimpArgs false
set_option linter.unusedVariables false
section
variable {P : Program} {Γ : Env} {Q : Exit → St → Prop} {σ : St} {ty : TypeId → Option TI}

end
end Go.Am

/- The abstract machine: a drawn head that makes a box and stores into it. No program. -/
namespace Go.Am
open Go.RowKit
set_option linter.unusedSimpArgs false
set_option linter.unusedVariables false
section
variable {P : Program} {Γ : Env} {Q : Exit → St → Prop} {σ : St} {ty : TypeId → Option TI}

/-- The entry of the operation ja, with an object. -/
def phi (ja : Nat) (b : AO) (e : Ent) : Ent := match Nat.beq e.j ja with
  | true => ⟨e.j, e.dst, e.y, some b⟩
  | false => e
theorem phi_eq {ja : Nat} {b : AO} {e : Ent} (h : e.j = ja) : phi ja b e = ⟨e.j, e.dst, e.y, some b⟩ := by
  unfold phi
  rw [show Nat.beq e.j ja = true by rw [Nat.beq_eq]; exact h]
theorem phi_ne {ja : Nat} {b : AO} {e : Ent} (h : e.j ≠ ja) : phi ja b e = e := by
  unfold phi
  cases hb : Nat.beq e.j ja with
  | true => exact absurd (Nat.eq_of_beq_eq_true hb) h
  | false => rfl
theorem phi_j (ja : Nat) (b : AO) (e : Ent) : (phi ja b e).j = e.j := by
  by_cases h : e.j = ja
  · rw [phi_eq h]
  · rw [phi_ne h]
theorem phi_dst (ja : Nat) (b : AO) (e : Ent) : (phi ja b e).dst = e.dst := by
  by_cases h : e.j = ja
  · rw [phi_eq h]
  · rw [phi_ne h]
theorem HeadL.phi {l : List Oper} {n : Nat} {es : List Ent} (H : HeadL l σ n es) (ja : Nat) (b : AO) : HeadL l σ n (es.map (Am.phi ja b)) := by
  refine ⟨fun o ho => ?_, fun e he e' he' hj => ?_, fun e he => ?_, fun e he e' he' t hd hd' => ?_, H.low⟩
  · obtain ⟨e, h1, h2, h3⟩ := H.entd o ho
    exact ⟨_, List.mem_map_of_mem h1, by rw [phi_dst]; exact h2, h3⟩
  · obtain ⟨x, hx, rfl⟩ := List.mem_map.1 he
    obtain ⟨x', hx', rfl⟩ := List.mem_map.1 he'
    rw [phi_j, phi_j] at hj
    rw [H.uniq x hx x' hx' hj]
  · obtain ⟨x, hx, rfl⟩ := List.mem_map.1 he
    rw [phi_j, phi_dst]
    exact H.lt x hx
  · obtain ⟨x, hx, rfl⟩ := List.mem_map.1 he
    obtain ⟨x', hx', rfl⟩ := List.mem_map.1 he'
    rw [phi_dst] at hd hd'
    rw [H.dsts x hx x' hx' t hd hd']
/-- The store of a head into the box that its operation ja made. -/
structure StOkA (ty : TypeId → Option TI) (l : List Oper) (σ : St) (n ja : Nat) (acc : List Ent) (o : Oper) (cs cs' : List AV) : Prop where
  ex : ∃ t x z ti y off new, o.op = .store t x z ∧ ty t = some ti ∧ (minE σ n (l.take n) acc o).ev ty 0 x = some (.ptr (σ.nx + ja) off) ∧ (minE σ n (l.take n) acc o).ev ty t z = some y ∧ avCells ti.size y = some new ∧ Nat.ble (off + ti.size) cs.length = true ∧ cs' = setAll cs off new
  wait : (keepE o.after.toList acc).any (fun e => Nat.beq e.j ja) = true
/-- Behind the store. -/
def StKA (P : Program) (Γ : Env) (ty : TypeId → Option TI) (l : List Oper) (Q : Exit → St → Prop) (σ : St) (n s ja : Nat) (o : Oper) (ta : TypeId) (zs : List AV) (acc : List Ent) : Prop :=
  ∃ cs', StOkA ty l σ n ja acc o zs cs' ∧ HeadT P Γ l σ n (l.take n) (fun es => AOps P Γ l Q (l.drop n) (finE σ n (es.map (phi ja (.box ta cs'))))) ((l.take n).drop (s + 1)) (s + 1) (⟨s, none, .un, none⟩ :: acc)
/-- Behind the operations ahead of the making of the box. -/
def AlK (P : Program) (Γ : Env) (ty : TypeId → Option TI) (l : List Oper) (Q : Exit → St → Prop) (σ : St) (n s ja : Nat) (oa o : Oper) (ta : TypeId) (zs : List AV) (acc : List Ent) : Prop :=
  HeadT P Γ l σ n (l.take n) (StKA P Γ ty l Q σ n s ja o ta zs) (((l.take n).take s).drop (ja + 1)) (ja + 1) (⟨ja, oa.dst, .ptr (σ.nx + ja) 0, none⟩ :: acc)
end
end Go.Am

/- The law ExtensionKeeps: what is done with the list that With hands back touches blocks of its own only. Walked by the abstract machine and by hand. -/
namespace Go.Proofs.YtohabohifjadgaaDoor
open Go.Am Go.RowKit
set_option linter.unusedSimpArgs false
set_option linter.unusedVariables false
-- withAmZ withAmMp withAmHd

structure Stop (p : Prop) : Prop where
  out : p
theorem awp_cut {P : Program} {Γ : Env} {c : Code} {K : St → Prop} {Q : Exit → St → Prop} {σ : St} (h : AWp P Γ c (AThen (fun σ => Stop (K σ)) Q) σ) : AWp P Γ c (AThen K Q) σ := awp_mono h fun e σ hq => by
  cases e <;> first | exact hq.out | exact hq
theorem isLKeeps : IsFn Tryd.prog 3 Tryd.f3 := ⟨Tryd.func3, by decide, rfl⟩
set_option maxHeartbeats 4000000 in
theorem l_xkeeps (l : List Ext) (hB : xlB l) (x : Ext) : ACalls Tryd.prog envL 3 [.sl (some 3) (xsD l), xD x] (fun r => r = .d (.bool true)) := by
  refine acalls_of ty_ok isLKeeps rfl rfl ?_
  have eX : xD x = .agg [.str (bA x.o), .bool x.c, .sl none (bys x.v)] := rfl
  cases hf : fewXs l with
  | false =>
    have hcf := c_rxlfew (envL.at 0) l hB hf
    rw [eX]
    repeat' (first | ((with_reducible show AWp _ _ _ _ _); (first | refine awp_seq ?_ | refine awp_block ?_ | refine awp_skip ?_ | refine awp_exit ?_ | refine awp_scope ?_ | refine awp_label ?_ | refine awp_run ty_ok rfl sdm ?_ | refine awp_ret ⟨_, _, rfl, rfl, ?_⟩ | refine awp_ret ⟨_, rfl, ?_⟩ | ((refine awp_cond (ty := ty) rfl (fun hc => ?_) (fun hc => ?_)) <;> (try simp only [nms, reduceCtorEq] at hc) <;> (try (exfalso; omega))))) | ((with_reducible show AOps _ _ _ _ _ _); (first | refine aops_nil ?_ | refine aops_go ty_ok rfl rfl sdm ?_ | refine aops_gate ty_ok rfl rfl rfl sdm ?_ | refine aops_callE (ty := ty) rfl rfl rfl rfl rfl rfl rfl (c_awake22) rfl ?_ | refine aops_callE (ty := ty) rfl rfl rfl rfl rfl rfl rfl (hcf) rfl ?_ | refine aops_litE ty_ok rfl rfl rfl rfl rfl rfl rfl rfl rfl rfl rfl rfl ?_ | refine aops_litA ty_ok rfl rfl rfl rfl rfl rfl rfl rfl rfl rfl rfl rfl rfl rfl rfl rfl ?_ | refine aops_buildArr ty_ok rfl rfl rfl rfl rfl rfl rfl rfl rfl rfl ?_ | refine aops_indexArr ty_ok rfl rfl rfl rfl rfl rfl rfl rfl rfl rfl sdm ?_ | refine aops_lit0 ty_ok rfl rfl rfl rfl rfl rfl rfl ?_ | refine aops_field ty_ok rfl rfl rfl rfl rfl rfl rfl rfl rfl rfl ?_ | refine aops_cutE ty_ok rfl rfl rfl rfl rfl rfl rfl rfl rfl sdm rfl ?_ | ((fail_if_success (refine aops_known rfl ?_)); (refine aops_split ty_ok rfl rfl rfl rfl rfl rfl (fun hc => ⟨?_, ?_⟩) (fun hc => ⟨?_, ?_⟩)) <;> (try simp only [nms, reduceCtorEq] at hc) <;> (try (exfalso; omega)) <;> (try exact sdm)))) | ((fail_if_success (with_reducible show AWp _ _ _ _ _)); (fail_if_success (with_reducible show AOps _ _ _ _ _ _)); (first | (show AWp _ _ _ _ _) | (show AOps _ _ _ _ _ _))))
    all_goals rfl
  | true =>
    have hcf := c_rxlfew (envL.at 0) l hB hf
    obtain ⟨f1, f2, f3⟩ := fewXs_len hf
    have hxl := xs_len l
    cases hg : fewX x with
    | false =>
      have hcg := c_rxfew (envL.at 0) x hg
      rw [eX]
      repeat' (first | ((with_reducible show AWp _ _ _ _ _); (first | refine awp_seq ?_ | refine awp_block ?_ | refine awp_skip ?_ | refine awp_exit ?_ | refine awp_scope ?_ | refine awp_label ?_ | refine awp_run ty_ok rfl sdm ?_ | refine awp_ret ⟨_, _, rfl, rfl, ?_⟩ | refine awp_ret ⟨_, rfl, ?_⟩ | ((refine awp_cond (ty := ty) rfl (fun hc => ?_) (fun hc => ?_)) <;> (try simp only [nms, reduceCtorEq] at hc) <;> (try (exfalso; omega))))) | ((with_reducible show AOps _ _ _ _ _ _); (first | refine aops_nil ?_ | refine aops_go ty_ok rfl rfl sdm ?_ | refine aops_gate ty_ok rfl rfl rfl sdm ?_ | refine aops_callE (ty := ty) rfl rfl rfl rfl rfl rfl rfl (c_awake22) rfl ?_ | refine aops_callE (ty := ty) rfl rfl rfl rfl rfl rfl rfl (hcf) rfl ?_ | refine aops_callE (ty := ty) rfl rfl rfl rfl rfl rfl rfl (hcg) rfl ?_ | refine aops_litE ty_ok rfl rfl rfl rfl rfl rfl rfl rfl rfl rfl rfl rfl ?_ | refine aops_litA ty_ok rfl rfl rfl rfl rfl rfl rfl rfl rfl rfl rfl rfl rfl rfl rfl rfl ?_ | refine aops_buildArr ty_ok rfl rfl rfl rfl rfl rfl rfl rfl rfl rfl ?_ | refine aops_indexArr ty_ok rfl rfl rfl rfl rfl rfl rfl rfl rfl rfl sdm ?_ | refine aops_lit0 ty_ok rfl rfl rfl rfl rfl rfl rfl ?_ | refine aops_field ty_ok rfl rfl rfl rfl rfl rfl rfl rfl rfl rfl ?_ | refine aops_cutE ty_ok rfl rfl rfl rfl rfl rfl rfl rfl rfl sdm rfl ?_ | ((fail_if_success (refine aops_known rfl ?_)); (refine aops_split ty_ok rfl rfl rfl rfl rfl rfl (fun hc => ⟨?_, ?_⟩) (fun hc => ⟨?_, ?_⟩)) <;> (try simp only [nms, reduceCtorEq] at hc) <;> (try (exfalso; omega)) <;> (try exact sdm)))) | ((fail_if_success (with_reducible show AWp _ _ _ _ _)); (fail_if_success (with_reducible show AOps _ _ _ _ _ _)); (first | (show AWp _ _ _ _ _) | (show AOps _ _ _ _ _ _))))
      all_goals rfl
    | true =>
      have hcg := c_rxfew (envL.at 0) x hg
      obtain ⟨x1, x2⟩ := fewX_len hg
      rw [eX]
      repeat' (first | ((with_reducible show AWp _ _ _ _ _); (first | refine awp_seq ?_ | refine awp_block ?_ | refine awp_skip ?_ | refine awp_exit ?_ | refine awp_scope ?_ | refine awp_label ?_ | refine awp_run ty_ok rfl sdm ?_ | refine awp_ret ⟨_, _, rfl, rfl, ?_⟩ | refine awp_ret ⟨_, rfl, ?_⟩ | ((refine awp_cond (ty := ty) rfl (fun hc => ?_) (fun hc => ?_)) <;> (try simp only [nms, reduceCtorEq] at hc) <;> (try (exfalso; omega))))) | ((with_reducible show AOps _ _ _ _ _ _); (first | refine aops_nil ?_ | refine aops_go ty_ok rfl rfl sdm ?_ | refine aops_gate ty_ok rfl rfl rfl sdm ?_ | refine aops_callE (ty := ty) rfl rfl rfl rfl rfl rfl rfl (c_awake22) rfl ?_ | refine aops_callE (ty := ty) rfl rfl rfl rfl rfl rfl rfl (hcf) rfl ?_ | refine aops_callE (ty := ty) rfl rfl rfl rfl rfl rfl rfl (hcg) rfl ?_ | refine aops_litE ty_ok rfl rfl rfl rfl rfl rfl rfl rfl rfl rfl rfl rfl ?_ | refine aops_litA ty_ok rfl rfl rfl rfl rfl rfl rfl rfl rfl rfl rfl rfl rfl rfl rfl rfl ?_ | refine aops_buildArr ty_ok rfl rfl rfl rfl rfl rfl rfl rfl rfl rfl ?_ | refine aops_indexArr ty_ok rfl rfl rfl rfl rfl rfl rfl rfl rfl rfl sdm ?_ | refine aops_lit0 ty_ok rfl rfl rfl rfl rfl rfl rfl ?_ | refine aops_field ty_ok rfl rfl rfl rfl rfl rfl rfl rfl rfl rfl ?_ | refine aops_cutE ty_ok rfl rfl rfl rfl rfl rfl rfl rfl rfl sdm rfl ?_ | ((fail_if_success (refine aops_known rfl ?_)); (refine aops_split ty_ok rfl rfl rfl rfl rfl rfl (fun hc => ⟨?_, ?_⟩) (fun hc => ⟨?_, ?_⟩)) <;> (try simp only [nms, reduceCtorEq] at hc) <;> (try (exfalso; omega)) <;> (try exact sdm)))) | ((fail_if_success (with_reducible show AWp _ _ _ _ _)); (fail_if_success (with_reducible show AOps _ _ _ _ _ _)); (first | (show AWp _ _ _ _ _) | (show AOps _ _ _ _ _ _))))
      refine awp_nilrow 5 25 rfl ?_
      refine awp_loopR (G := { k : Nat // k ≤ l.length }) (fun k => ⟨Tryd.f3.ntmps, [(0, .d (.sl (some 3) (xsD l))), (3, .ptr 0 0), (5, .ref 1), (6, .d (.int .i64 k.1))], [(0, .box 25 [.d (.str (bA x.o)), .d (.bool x.c), .d (.sl none (bys x.v))]), (1, .row (some 3) 25 (xsD (l.take k.1)))], 2⟩) (fun k => l.length - k.1) ⟨0, Nat.zero_le _⟩ [(0, 0), (1, 1)]
        (SubR.mk' rfl rfl ⟨⟨_, rfl, rfl⟩, ⟨_, rfl, rfl⟩, ⟨_, rfl, rfl⟩, ⟨_, rfl, rfl⟩, trivial⟩ ⟨⟨_, _, rfl, rfl, rfl⟩, ⟨_, _, rfl, rfl, rfl⟩, trivial⟩) ?_
      rintro ⟨k, hk⟩
      dsimp only
      have hrl : (xsD (l.take k)).length ≤ 1000000 := by rw [xs_len, List.length_take]; omega
      rcases Nat.lt_or_ge k l.length with h | h
      · have hX := xs_at h
        have hcan := x_can hX
        obtain ⟨y1, y2, y3⟩ := x_fields hX
        obtain ⟨_, z2⟩ := x_size hX
        have hvl := (f3 _ (List.getElem_mem h)).2
        have z3 : (((xsD l).getD (k : Int).toNat default).cell 2).els.length ≤ 1099511627776 := by omega
        repeat' (first | ((with_reducible show AWp _ _ _ _ _); (first | refine awp_seq ?_ | refine awp_block ?_ | refine awp_skip ?_ | refine awp_exit ?_ | refine awp_scope ?_ | refine awp_label ?_ | refine awp_run ty_ok rfl sdm ?_ | refine awp_ret ⟨_, _, rfl, rfl, ?_⟩ | refine awp_ret ⟨_, rfl, ?_⟩ | ((refine awp_cond (ty := ty) rfl (fun hc => ?_) (fun hc => ?_)) <;> (try simp only [nms, reduceCtorEq] at hc) <;> (try (exfalso; omega))) | refine awp_anyM 20 22 mixed rfl (by kernel_rfl) ?_)) | ((with_reducible show AOps _ _ _ _ _ _); (first | refine aops_nil ?_ | refine aops_go ty_ok rfl rfl sdm ?_ | refine aops_gate ty_ok rfl rfl rfl sdm ?_ | refine aops_litE ty_ok rfl rfl rfl rfl rfl rfl rfl rfl rfl rfl rfl rfl ?_ | refine aops_litA ty_ok rfl rfl rfl rfl rfl rfl rfl rfl rfl rfl rfl rfl rfl rfl rfl rfl ?_ | refine aops_buildArr ty_ok rfl rfl rfl rfl rfl rfl rfl rfl rfl rfl ?_ | refine aops_indexArr ty_ok rfl rfl rfl rfl rfl rfl rfl rfl rfl rfl sdm ?_ | refine aops_lit0 ty_ok rfl rfl rfl rfl rfl rfl rfl ?_ | refine aops_field ty_ok rfl rfl rfl rfl rfl rfl rfl rfl rfl rfl ?_ | refine aops_cutE ty_ok rfl rfl rfl rfl rfl rfl rfl rfl rfl sdm rfl ?_ | ((fail_if_success (refine aops_known rfl ?_)); (refine aops_split ty_ok rfl rfl rfl rfl rfl rfl (fun hc => ⟨?_, ?_⟩) (fun hc => ⟨?_, ?_⟩)) <;> (try simp only [nms, reduceCtorEq] at hc) <;> (try (exfalso; omega)) <;> (try exact sdm)))) | ((with_reducible show HeadT _ _ _ _ _ _ _ _ _ _); (first | refine head_end ?_ | refine head_goP ty_ok rfl rfl sdm ?_ | refine head_gate ty_ok rfl rfl rfl sdm ?_ | refine head_lit0 ty_ok rfl rfl rfl rfl rfl rfl ?_ | refine head_appE ty_ok rfl rfl rfl rfl rfl rfl rfl rfl rfl rfl rfl rfl rfl sdm ?_ | refine head_litA ty_ok rfl rfl rfl rfl rfl rfl rfl rfl rfl rfl rfl rfl rfl ?_ | ((fail_if_success (refine head_known rfl ?_)); (refine head_split ty_ok rfl rfl rfl rfl (fun hc => ⟨?_, ?_⟩) (fun hc => ⟨?_, ?_⟩)) <;> (try simp only [nms, reduceCtorEq] at hc) <;> (try (exfalso; omega)) <;> (try exact sdm)))) | ((fail_if_success (with_reducible show AWp _ _ _ _ _)); (fail_if_success (with_reducible show AOps _ _ _ _ _ _)); (fail_if_success (with_reducible show HeadT _ _ _ _ _ _ _ _ _ _)); (first | (show AWp _ _ _ _ _) | (show AOps _ _ _ _ _ _))))
        refine ⟨⟨k + 1, h⟩, [(0, 0), (22, 1)], SubR.mk' rfl rfl ⟨⟨_, rfl, rfl⟩, ⟨_, rfl, rfl⟩, ⟨_, rfl, rfl⟩, ⟨_, rfl, rfl⟩, trivial⟩ ⟨⟨_, _, rfl, rfl, rfl⟩, ⟨_, _, rfl, rfl, congrArg (AO.row (some 3) 25) ?_⟩, trivial⟩, by simp only; omega⟩
        rw [List.take_succ_eq_append_getElem h, xs_app]
        exact congrArg (fun z => xsD (l.take k) ++ [z]) (hcan.symm.trans hX)
      · have hke : k = l.length := by omega
        subst hke
        rw [List.take_length]
        repeat' (first | ((with_reducible show AWp _ _ _ _ _); (first | refine awp_seq ?_ | refine awp_block ?_ | refine awp_skip ?_ | refine awp_exit ?_ | refine awp_scope ?_ | refine awp_label ?_ | refine awp_run ty_ok rfl sdm ?_ | refine awp_ret ⟨_, _, rfl, rfl, ?_⟩ | refine awp_ret ⟨_, rfl, ?_⟩ | ((refine awp_cond (ty := ty) rfl (fun hc => ?_) (fun hc => ?_)) <;> (try simp only [nms, reduceCtorEq] at hc) <;> (try (exfalso; omega))))) | ((with_reducible show AOps _ _ _ _ _ _); (first | refine aops_nil ?_ | refine aops_go ty_ok rfl rfl sdm ?_ | refine aops_gate ty_ok rfl rfl rfl sdm ?_ | refine aops_litE ty_ok rfl rfl rfl rfl rfl rfl rfl rfl rfl rfl rfl rfl ?_ | refine aops_litA ty_ok rfl rfl rfl rfl rfl rfl rfl rfl rfl rfl rfl rfl rfl rfl rfl rfl ?_ | refine aops_buildArr ty_ok rfl rfl rfl rfl rfl rfl rfl rfl rfl rfl ?_ | refine aops_indexArr ty_ok rfl rfl rfl rfl rfl rfl rfl rfl rfl rfl sdm ?_ | refine aops_lit0 ty_ok rfl rfl rfl rfl rfl rfl rfl ?_ | refine aops_field ty_ok rfl rfl rfl rfl rfl rfl rfl rfl rfl rfl ?_ | refine aops_cutE ty_ok rfl rfl rfl rfl rfl rfl rfl rfl rfl sdm rfl ?_ | ((fail_if_success (refine aops_known rfl ?_)); (refine aops_split ty_ok rfl rfl rfl rfl rfl rfl (fun hc => ⟨?_, ?_⟩) (fun hc => ⟨?_, ?_⟩)) <;> (try simp only [nms, reduceCtorEq] at hc) <;> (try (exfalso; omega)) <;> (try exact sdm)))) | ((fail_if_success (with_reducible show AWp _ _ _ _ _)); (fail_if_success (with_reducible show AOps _ _ _ _ _ _)); (first | (show AWp _ _ _ _ _) | (show AOps _ _ _ _ _ _))))
        refine awp_cut ?_
        repeat' (first | ((with_reducible show AWp _ _ _ _ _); (first | refine awp_seq ?_ | refine awp_block ?_ | refine awp_skip ?_ | refine awp_exit ?_ | refine awp_scope ?_ | refine awp_label ?_ | refine awp_run ty_ok rfl sdm ?_ | refine awp_ret ⟨_, _, rfl, rfl, ?_⟩ | refine awp_ret ⟨_, rfl, ?_⟩ | ((refine awp_cond (ty := ty) rfl (fun hc => ?_) (fun hc => ?_)) <;> (try simp only [nms, reduceCtorEq] at hc) <;> (try (exfalso; omega))) | refine awp_anyL 10 mixed rfl (by kernel_rfl) ?_)) | ((with_reducible show AOps _ _ _ _ _ _); (first | refine aops_nil ?_ | refine aops_go ty_ok rfl rfl sdm ?_ | refine aops_gate ty_ok rfl rfl rfl sdm ?_ | refine aops_litE ty_ok rfl rfl rfl rfl rfl rfl rfl rfl rfl rfl rfl rfl ?_ | refine aops_litA ty_ok rfl rfl rfl rfl rfl rfl rfl rfl rfl rfl rfl rfl rfl rfl rfl rfl ?_ | refine aops_buildArr ty_ok rfl rfl rfl rfl rfl rfl rfl rfl rfl rfl ?_ | refine aops_indexArr ty_ok rfl rfl rfl rfl rfl rfl rfl rfl rfl rfl sdm ?_ | refine aops_lit0 ty_ok rfl rfl rfl rfl rfl rfl rfl ?_ | refine aops_field ty_ok rfl rfl rfl rfl rfl rfl rfl rfl rfl rfl ?_ | refine aops_cutE ty_ok rfl rfl rfl rfl rfl rfl rfl rfl rfl sdm rfl ?_ | ((fail_if_success (refine aops_known rfl ?_)); (refine aops_split ty_ok rfl rfl rfl rfl rfl rfl (fun hc => ⟨?_, ?_⟩) (fun hc => ⟨?_, ?_⟩)) <;> (try simp only [nms, reduceCtorEq] at hc) <;> (try (exfalso; omega)) <;> (try exact sdm)))) | ((with_reducible show HeadT _ _ _ _ _ _ _ _ _ _); (first | refine head_end ?_ | refine head_goP ty_ok rfl rfl sdm ?_ | refine head_gate ty_ok rfl rfl rfl sdm ?_ | refine head_lit0 ty_ok rfl rfl rfl rfl rfl rfl ?_ | refine head_appE ty_ok rfl rfl rfl rfl rfl rfl rfl rfl rfl rfl rfl rfl rfl sdm ?_ | refine head_litA ty_ok rfl rfl rfl rfl rfl rfl rfl rfl rfl rfl rfl rfl rfl ?_ | ((fail_if_success (refine head_known rfl ?_)); (refine head_split ty_ok rfl rfl rfl rfl (fun hc => ⟨?_, ?_⟩) (fun hc => ⟨?_, ?_⟩)) <;> (try simp only [nms, reduceCtorEq] at hc) <;> (try (exfalso; omega)) <;> (try exact sdm)))) | ((fail_if_success (with_reducible show AWp _ _ _ _ _)); (fail_if_success (with_reducible show AOps _ _ _ _ _ _)); (fail_if_success (with_reducible show HeadT _ _ _ _ _ _ _ _ _ _)); (first | (show AWp _ _ _ _ _) | (show AOps _ _ _ _ _ _))))
        refine ⟨?_⟩
        refine awp_freeze [.ref 1] ?_
        refine awp_sub (σ' := ⟨Tryd.f3.ntmps, [(0, .d (.sl (some 3) (xsD l))), (3, .ptr 0 0), (5, .ref 1), (7, .ptr 11 0)], [(0, .box 25 [.d (.str (bA x.o)), .d (.bool x.c), .d (.sl none (bys x.v))]), (1, .frz (some 3) (xsD l)), (11, .box 25 [.d (.str (bA x.o)), .d (.bool x.c), .d (.sl none (bys x.v))])], 12⟩) (Sub.mk' rfl rfl ⟨rfl, rfl, rfl, rfl, trivial⟩ ⟨rfl, rfl, rfl, trivial⟩) ?_
        intro C0 a C hb he m
        refine wp_seq ?_
        refine wp_region_lit ?_
        refine raw_go1 ty_ok m rfl rfl rfl trivial (fun a1 m1 => ?_)
        refine raw_go1 ty_ok m1 rfl rfl rfl trivial (fun a2 m2 => ?_)
        have hv : ∀ y ∈ l, y.v.length ≤ 1099511627776 := fun y hy => by have := (f3 y hy).2; omega
        have hBs : C.B ≤ C.w.heap.size := (hb.evo he).B
        have hW := c_xwithN ⟨fun w => C.w.heap.size ≤ w.heap.size, 0, fun _ _ => Nat.zero_le _, fun w w' h _ _ h1 _ => Nat.le_trans h h1, 0⟩ C.w.heap.size (fun w h => h) l x (by omega) hv (by omega)
        refine raw_call (ty := ty) m2 rfl rfl rfl rfl rfl rfl hW (Nat.le_refl _) (fun C1 m3 e3 hw3 v r w' hbel hres hr => ?_)
        subst hr
        have hrep := own_outN hres
        have hpl : ∀ b, pN C.w.heap.size w' b = true → C.w.heap.size ≤ b ∧ plainB w' b = true := fun b hb => by
          simp only [pN, Bool.and_eq_true, decide_eq_true_eq] at hb
          exact hb
        generalize pN C.w.heap.size w' = p at hrep hpl
        have hLn : (wiX l x).length ≤ 1000000 := by have := wiX_len l x; omega
        have hLv : ∀ y ∈ wiX l x, y.v.length ≤ 1099511627776 := fun y hy => by
          rcases wiX_mem hy with h | h
          · exact hv y h
          · rw [h]; omega
        have mw := m3.put (dst := some 62) (.undef v) (fun d hd => by cases hd; show 62 < 97; decide)
        have mv := (mk_view m3 w' p [] (fun t z hz => by cases hz)).put (dst := some 62) (x := .d (.sl (some 3) (xsD (wiX l x)))) (v := v) (.d hrep) (fun d hd => by cases hd; show 62 < 97; decide)
        generalize a2.put (some 62) v = a3 at mw mv
        show wpList _ _ _ _ a3 w'
        refine raw_go (o := ⟨some 8, _, _, _, _, _⟩) ty_ok mv mw rfl rfl rfl rfl sdm (fun a4 mv mw => ?_)
        refine wpList_nil ?_
        have mv := mv.sub (σ' := ⟨Tryd.f3.ntmps, [(8, .d (.sl (some 3) (xsD (wiX l x))))], [], 0⟩) (Sub.mk' rfl rfl ⟨rfl, trivial⟩ trivial)
        have mw := mw.sub (σ' := ⟨Tryd.f3.ntmps, [(0, .d (.sl (some 3) (xsD l))), (3, .ptr 0 0), (5, .ref 1), (7, .ptr 11 0)], [(0, .box 25 [.d (.str (bA x.o)), .d (.bool x.c), .d (.sl none (bys x.v))]), (1, .frz (some 3) (xsD l)), (11, .box 25 [.d (.str (bA x.o)), .d (.bool x.c), .d (.sl none (bys x.v))])], 12⟩) (Sub.mk' rfl rfl ⟨rfl, rfl, rfl, rfl, trivial⟩ ⟨rfl, rfl, rfl, trivial⟩)
        show (Code.seq _ _).wp _ _ _ _
        refine wp_seq ?_
        refine wp_seq ?_
        refine wp_region_lit ?_
        refine raw_go ty_ok mv mw rfl rfl rfl rfl sdm (fun a4 mv mw => ?_)
        refine wpList_nil ?_
        have mv := mv.sub (σ' := ⟨Tryd.f3.ntmps, [(8, .d (.sl (some 3) (xsD (wiX l x)))), (9, .d (.int .i64 ((0 : Nat) : Int)))], [], 0⟩) (Sub.mk' rfl rfl ⟨rfl, rfl, trivial⟩ trivial)
        have mw := mw.sub (σ' := ⟨Tryd.f3.ntmps, [(0, .d (.sl (some 3) (xsD l))), (3, .ptr 0 0), (5, .ref 1), (7, .ptr 11 0)], [(0, .box 25 [.d (.str (bA x.o)), .d (.bool x.c), .d (.sl none (bys x.v))]), (1, .frz (some 3) (xsD l)), (11, .box 25 [.d (.str (bA x.o)), .d (.bool x.c), .d (.sl none (bys x.v))])], 12⟩) (Sub.mk' rfl rfl ⟨rfl, rfl, rfl, rfl, trivial⟩ ⟨rfl, rfl, rfl, trivial⟩)
        show (Code.block _ _).wp _ _ _ _
        refine wp_block ?_
        refine Go.Am.wp_loop_ghost (G := Nat) (fun i a w => ∃ lw : List Ext, lw.map (fun x => x.v.length) = (wiX l x).map (fun x => x.v.length) ∧ Models ⟨Tryd.f3.ntmps, [(8, .d (.sl (some 3) (xsD lw))), (9, .d (.int .i64 (i : Int)))], [], 0⟩ a (viewC w p) ∧ Models ⟨Tryd.f3.ntmps, [(0, .d (.sl (some 3) (xsD l))), (3, .ptr 0 0), (5, .ref 1), (7, .ptr 11 0)], [(0, .box 25 [.d (.str (bA x.o)), .d (.bool x.c), .d (.sl none (bys x.v))]), (1, .frz (some 3) (xsD l)), (11, .box 25 [.d (.str (bA x.o)), .d (.bool x.c), .d (.sl none (bys x.v))])], 12⟩ a C1 ∧ Below C.w.heap.size C.w w ∧ ∀ b, p b = true → C.w.heap.size ≤ b ∧ plainB w b = true) (fun i => (wiX l x).length - i) 0 ⟨wiX l x, rfl, mv, mw, hbel, hpl⟩ ?_
        rintro i a6 w6 ⟨lw, hlw, mv, mw, hbel, hpl⟩
        have hNl : lw.length = (wiX l x).length := by have := congrArg List.length hlw; simpa using this
        have hxw := xs_len lw
        refine wp_seq ?_
        refine wp_seq ?_
        refine wp_region_lit ?_
        refine raw_go ty_ok mv mw rfl rfl rfl rfl sdm (fun a4 mv mw => ?_)
        refine raw_go ty_ok mv mw rfl rfl rfl rfl sdm (fun a4 mv mw => ?_)
        refine raw_go ty_ok mv mw rfl rfl rfl rfl sdm (fun a4 mv mw => ?_)
        refine raw_go ty_ok mv mw rfl rfl rfl rfl sdm (fun a4 mv mw => ?_)
        refine wpList_nil ?_
        show (Code.cond _ _ _).wp _ _ _ _
        refine wp_cond_split (Rep.bool_inv (ev_sound (ty := ty) (t := 0) mv rfl)) (fun ht => ?_) (fun ht => ?_)
        · have hlt : i < lw.length := by have := of_decide_eq_true ht; omega
          refine wp_skip ?_
          show (Code.seq _ _).wp _ _ _ _
          refine wp_seq ?_
          refine wp_block ?_
          refine wp_seq ?_
          refine wp_region_lit ?_
          refine raw_go ty_ok mv mw rfl rfl rfl rfl sdm (fun a4 mv mw => ?_)
          refine wpList_nil ?_
          have mv := mv.sub (σ' := ⟨Tryd.f3.ntmps, [(8, .d (.sl (some 3) (xsD lw))), (9, .d (.int .i64 (i : Int))), (10, .d (.int .i64 ((0 : Nat) : Int)))], [], 0⟩) (Sub.mk' rfl rfl ⟨rfl, rfl, rfl, trivial⟩ trivial)
          have mw := mw.sub (σ' := ⟨Tryd.f3.ntmps, [(0, .d (.sl (some 3) (xsD l))), (3, .ptr 0 0), (5, .ref 1), (7, .ptr 11 0)], [(0, .box 25 [.d (.str (bA x.o)), .d (.bool x.c), .d (.sl none (bys x.v))]), (1, .frz (some 3) (xsD l)), (11, .box 25 [.d (.str (bA x.o)), .d (.bool x.c), .d (.sl none (bys x.v))])], 12⟩) (Sub.mk' rfl rfl ⟨rfl, rfl, rfl, rfl, trivial⟩ ⟨rfl, rfl, rfl, trivial⟩)
          show (Code.block _ _).wp _ _ _ _
          refine wp_block ?_
          refine Go.Am.wp_loop_ghost (G := Nat) (fun k a w => ∃ lw : List Ext, lw.map (fun x => x.v.length) = (wiX l x).map (fun x => x.v.length) ∧ Models ⟨Tryd.f3.ntmps, [(8, .d (.sl (some 3) (xsD lw))), (9, .d (.int .i64 (i : Int))), (10, .d (.int .i64 (k : Int)))], [], 0⟩ a (viewC w p) ∧ Models ⟨Tryd.f3.ntmps, [(0, .d (.sl (some 3) (xsD l))), (3, .ptr 0 0), (5, .ref 1), (7, .ptr 11 0)], [(0, .box 25 [.d (.str (bA x.o)), .d (.bool x.c), .d (.sl none (bys x.v))]), (1, .frz (some 3) (xsD l)), (11, .box 25 [.d (.str (bA x.o)), .d (.bool x.c), .d (.sl none (bys x.v))])], 12⟩ a C1 ∧ Below C.w.heap.size C.w w ∧ ∀ b, p b = true → C.w.heap.size ≤ b ∧ plainB w b = true) (fun k => ((wiX l x).map (fun x => x.v.length)).getD i 0 - k) 0 ⟨lw, hlw, mv, mw, hbel, hpl⟩ ?_
          clear mv mw hbel hpl hxw
          rintro k a7 w7 ⟨lz, hlz, mv, mw, hbel, hpl⟩
          have hzl : lz.length = lw.length := by have := congrArg List.length (hlz.trans hlw.symm); simpa using this
          have hxw := xs_len lz
          have hi : i < lz.length := by omega
          have hLi : ((wiX l x).map (fun x => x.v.length)).getD i 0 = lz[i].v.length := by rw [← hlz, List.getD_eq_getElem?_getD, List.getElem?_map, List.getElem?_eq_getElem hi]; rfl
          have hX := xs_at hi
          have hcan := x_can hX
          obtain ⟨y1, y2, y3⟩ := x_fields hX
          obtain ⟨_, z2⟩ := x_size hX
          have hvl : lz[i].v.length ≤ 1099511627776 := by
            have hi2 : i < (wiX l x).length := by omega
            rw [← hLi, List.getD_eq_getElem?_getD, List.getElem?_map, List.getElem?_eq_getElem hi2]
            exact hLv _ (List.getElem_mem hi2)
          refine wp_seq ?_
          refine wp_seq ?_
          refine wp_region_lit ?_
          refine raw_go ty_ok mv mw rfl rfl rfl rfl sdm (fun a4 mv mw => ?_)
          refine raw_go ty_ok mv mw rfl rfl rfl rfl sdm (fun a4 mv mw => ?_)
          refine raw_go ty_ok mv mw rfl rfl rfl rfl sdm (fun a4 mv mw => ?_)
          refine raw_go ty_ok mv mw rfl rfl rfl rfl sdm (fun a4 mv mw => ?_)
          refine raw_go ty_ok mv mw rfl rfl rfl rfl sdm (fun a4 mv mw => ?_)
          refine raw_go ty_ok mv mw rfl rfl rfl rfl sdm (fun a4 mv mw => ?_)
          refine raw_go ty_ok mv mw rfl rfl rfl rfl sdm (fun a4 mv mw => ?_)
          refine raw_go ty_ok mv mw rfl rfl rfl rfl sdm (fun a4 mv mw => ?_)
          refine wpList_nil ?_
          show (Code.cond _ _ _).wp _ _ _ _
          refine wp_cond_split (Rep.bool_inv (ev_sound (ty := ty) (t := 0) mv rfl)) (fun ht => ?_) (fun ht => ?_)
          · have hraw := of_decide_eq_true ht
            have hkl : k < lz[i].v.length := by
              have h9 : (k : Int) < ((lz[i].v.length : Nat) : Int) := by
                rw [← z2]
                exact hraw
              omega
            have hdq : (((((xsD lz).getD (i : Int).toNat default).cell 2).els).getD (k : Int).toNat default) = .int .u8 (((((xsD lz).getD (i : Int).toNat default).cell 2).els).getD (k : Int).toNat default).num := by
              rw [hX]
              exact (canon_bys lz[i].v _).2 (by rw [Int.toNat_natCast]; exact hkl)
            refine wp_skip ?_
            show (Code.seq _ _).wp _ _ _ _
            refine wp_seq ?_
            refine wp_block ?_
            refine wp_region_lit ?_
            refine raw_go ty_ok mv mw rfl rfl rfl rfl sdm (fun a4 mv mw => ?_)
            refine raw_go ty_ok mv mw rfl rfl rfl rfl sdm (fun a4 mv mw => ?_)
            refine raw_go ty_ok mv mw rfl rfl rfl rfl sdm (fun a4 mv mw => ?_)
            refine raw_go ty_ok mv mw rfl rfl rfl rfl sdm (fun a4 mv mw => ?_)
            refine raw_go ty_ok mv mw rfl rfl rfl rfl sdm (fun a4 mv mw => ?_)
            refine raw_go ty_ok mv mw rfl rfl rfl rfl sdm (fun a4 mv mw => ?_)
            refine raw_go ty_ok mv mw rfl rfl rfl rfl sdm (fun a4 mv mw => ?_)
            refine raw_go ty_ok mv mw rfl rfl rfl rfl sdm (fun a4 mv mw => ?_)
            refine raw_go ty_ok mv mw rfl rfl rfl rfl sdm (fun a4 mv mw => ?_)
            refine raw_go ty_ok mv mw rfl rfl rfl rfl sdm (fun a4 mv mw => ?_)
            refine raw_store ty_ok mv rfl rfl rfl rfl rfl rfl hdq rfl (fun b hb => (hpl b hb).2) (fun b off w8 hb8 hq ht8 => ?_)
            refine wpList_nil ?_
            obtain ⟨u0, u1⟩ := u8_wrap ((((((xsD lz).getD (i : Int).toNat default).cell 2).els).getD (k : Int).toNat default).num + 1)
            obtain ⟨lq, hlq, mv⟩ := view_turn (mv.sub (σ' := ⟨Tryd.f3.ntmps, [(8, .d (.sl (some 3) (xsD lz))), (9, .d (.int .i64 (i : Int))), (10, .d (.int .i64 (k : Int)))], [], 0⟩) (Sub.mk' rfl rfl ⟨rfl, rfl, rfl, trivial⟩ trivial)) hq ht8 u0 u1
            have mw := mw.sub (σ' := ⟨Tryd.f3.ntmps, [(0, .d (.sl (some 3) (xsD l))), (3, .ptr 0 0), (5, .ref 1), (7, .ptr 11 0)], [(0, .box 25 [.d (.str (bA x.o)), .d (.bool x.c), .d (.sl none (bys x.v))]), (1, .frz (some 3) (xsD l)), (11, .box 25 [.d (.str (bA x.o)), .d (.bool x.c), .d (.sl none (bys x.v))])], 12⟩) (Sub.mk' rfl rfl ⟨rfl, rfl, rfl, rfl, trivial⟩ ⟨rfl, rfl, rfl, trivial⟩)
            show Code.wp _ _ _ _ w8
            refine wp_region_lit ?_
            refine raw_go ty_ok mv mw rfl rfl rfl rfl sdm (fun a4 mv mw => ?_)
            refine raw_go ty_ok mv mw rfl rfl rfl rfl sdm (fun a4 mv mw => ?_)
            refine raw_go ty_ok mv mw rfl rfl rfl rfl sdm (fun a4 mv mw => ?_)
            refine wpList_nil ?_
            refine ⟨k + 1, ⟨lq, hlq.trans hlz, mv.sub (σ' := ⟨Tryd.f3.ntmps, [(8, .d (.sl (some 3) (xsD lq))), (9, .d (.int .i64 (i : Int))), (10, .d (.int .i64 ((k + 1 : Nat) : Int)))], [], 0⟩) (Sub.mk' rfl rfl ⟨rfl, rfl, rfl, trivial⟩ trivial), mw.sub (σ' := ⟨Tryd.f3.ntmps, [(0, .d (.sl (some 3) (xsD l))), (3, .ptr 0 0), (5, .ref 1), (7, .ptr 11 0)], [(0, .box 25 [.d (.str (bA x.o)), .d (.bool x.c), .d (.sl none (bys x.v))]), (1, .frz (some 3) (xsD l)), (11, .box 25 [.d (.str (bA x.o)), .d (.bool x.c), .d (.sl none (bys x.v))])], 12⟩) (Sub.mk' rfl rfl ⟨rfl, rfl, rfl, rfl, trivial⟩ ⟨rfl, rfl, rfl, trivial⟩), below_turn hbel (hpl b hb8).1 ht8, fun g hg => ⟨(hpl g hg).1, (ht8.plain g).trans (hpl g hg).2⟩⟩, ?_⟩
            rw [hLi]
            omega
          · refine wp_exit ?_
            show Code.wp _ _ _ _ w7
            refine wp_region_lit ?_
            refine raw_go ty_ok mv mw rfl rfl rfl rfl sdm (fun a4 mv mw => ?_)
            refine raw_go ty_ok mv mw rfl rfl rfl rfl sdm (fun a4 mv mw => ?_)
            refine raw_go ty_ok mv mw rfl rfl rfl rfl sdm (fun a4 mv mw => ?_)
            refine wpList_nil ?_
            refine ⟨i + 1, ⟨lz, hlz, mv.sub (σ' := ⟨Tryd.f3.ntmps, [(8, .d (.sl (some 3) (xsD lz))), (9, .d (.int .i64 ((i + 1 : Nat) : Int)))], [], 0⟩) (Sub.mk' rfl rfl ⟨rfl, rfl, trivial⟩ trivial), mw.sub (σ' := ⟨Tryd.f3.ntmps, [(0, .d (.sl (some 3) (xsD l))), (3, .ptr 0 0), (5, .ref 1), (7, .ptr 11 0)], [(0, .box 25 [.d (.str (bA x.o)), .d (.bool x.c), .d (.sl none (bys x.v))]), (1, .frz (some 3) (xsD l)), (11, .box 25 [.d (.str (bA x.o)), .d (.bool x.c), .d (.sl none (bys x.v))])], 12⟩) (Sub.mk' rfl rfl ⟨rfl, rfl, rfl, rfl, trivial⟩ ⟨rfl, rfl, rfl, trivial⟩), hbel, hpl⟩, ?_⟩
            omega
        · refine wp_exit ?_
          have mw := mw.sub (σ' := ⟨Tryd.f3.ntmps, [(0, .d (.sl (some 3) (xsD l))), (3, .ptr 0 0), (5, .ref 1), (7, .ptr 11 0)], [(0, .box 25 [.d (.str (bA x.o)), .d (.bool x.c), .d (.sl none (bys x.v))]), (1, .frz (some 3) (xsD l)), (11, .box 25 [.d (.str (bA x.o)), .d (.bool x.c), .d (.sl none (bys x.v))])], 12⟩) (Sub.mk' rfl rfl ⟨rfl, rfl, rfl, rfl, trivial⟩ ⟨rfl, rfl, rfl, trivial⟩)
          refine (?_ : AWp _ (envL.at 0) _ _ ⟨Tryd.f3.ntmps, [(0, .d (.sl (some 3) (xsD l))), (3, .ptr 0 0), (5, .ref 1), (7, .ptr 11 0)], [(0, .box 25 [.d (.str (bA x.o)), .d (.bool x.c), .d (.sl none (bys x.v))]), (1, .frz (some 3) (xsD l)), (11, .box 25 [.d (.str (bA x.o)), .d (.bool x.c), .d (.sl none (bys x.v))])], 12⟩) C0 _ (lowC C1 w6) hb ((he.trans e3).trans (low_evo (by rw [hw3, e3.B]; exact hBs) (by rw [hw3]; exact hbel))) (low_models mw (by rw [hw3, e3.B]; exact hBs) (by rw [hw3]; exact hbel))
          have q3 := c_bexts0 (envL.at 0) l l (by omega) (decide_eq_true rfl)
          have hE := c_bext (envL.at 0) x x (decide_eq_true rfl)
          rw [eX] at hE
          repeat' (first | ((with_reducible show AWp _ _ _ _ _); (first | refine awp_seq ?_ | refine awp_block ?_ | refine awp_skip ?_ | refine awp_exit ?_ | refine awp_scope ?_ | refine awp_label ?_ | refine awp_run ty_ok rfl sdm ?_ | refine awp_ret ⟨_, _, rfl, rfl, ?_⟩ | refine awp_ret ⟨_, rfl, ?_⟩ | ((refine awp_cond (ty := ty) rfl (fun hc => ?_) (fun hc => ?_)) <;> (try simp only [nms, reduceCtorEq] at hc) <;> (try (exfalso; omega))))) | ((with_reducible show AOps _ _ _ _ _ _); (first | refine aops_nil ?_ | refine aops_go ty_ok rfl rfl sdm ?_ | refine aops_gate ty_ok rfl rfl rfl sdm ?_ | refine aops_callE (ty := ty) rfl rfl rfl rfl rfl rfl rfl (q3) rfl ?_ | refine aops_callE (ty := ty) rfl rfl rfl rfl rfl rfl rfl (hE) rfl ?_ | refine aops_litE ty_ok rfl rfl rfl rfl rfl rfl rfl rfl rfl rfl rfl rfl ?_ | refine aops_litA ty_ok rfl rfl rfl rfl rfl rfl rfl rfl rfl rfl rfl rfl rfl rfl rfl rfl ?_ | refine aops_buildArr ty_ok rfl rfl rfl rfl rfl rfl rfl rfl rfl rfl ?_ | refine aops_indexArr ty_ok rfl rfl rfl rfl rfl rfl rfl rfl rfl rfl sdm ?_ | refine aops_lit0 ty_ok rfl rfl rfl rfl rfl rfl rfl ?_ | refine aops_field ty_ok rfl rfl rfl rfl rfl rfl rfl rfl rfl rfl ?_ | refine aops_cutE ty_ok rfl rfl rfl rfl rfl rfl rfl rfl rfl sdm rfl ?_ | ((fail_if_success (refine aops_known rfl ?_)); (refine aops_split ty_ok rfl rfl rfl rfl rfl rfl (fun hc => ⟨?_, ?_⟩) (fun hc => ⟨?_, ?_⟩)) <;> (try simp only [nms, reduceCtorEq] at hc) <;> (try (exfalso; omega)) <;> (try exact sdm)))) | ((fail_if_success (with_reducible show AWp _ _ _ _ _)); (fail_if_success (with_reducible show AOps _ _ _ _ _ _)); (first | (show AWp _ _ _ _ _) | (show AOps _ _ _ _ _ _))))
          all_goals rfl
end Go.Proofs.YtohabohifjadgaaDoor

/- The abstract machine, twenty-first part: the given statement out of a contract, where the row lists variables. No program. -/
namespace Go.Am
open Go.RowKit Go.ChangeShapes Go.WideShapes
set_option linter.unusedSimpArgs false
set_option linter.unusedVariables false

end Go.Am

/- The abstract machine: what a law is handed, opened as data, with a bound on its sizes. No program. -/
namespace Go.Am
open Go.RowKit Go.ChangeShapes Go.WideShapes Go.ChangeAt
set_option linter.unusedSimpArgs false
set_option linter.unusedVariables false

def Light {H : Type} (P : Program) (t : TypeId) (d : DataW H) : Prop := ∀ n ∈ d.weights P t, n ≤ reachBytes
def OpensQ (P : Program) (t : TypeId) {α : Type} (f : α → List Dat) (ok : α → Prop) : Prop :=
  ∀ (H : Type) (enc : TypeId × Value → H) (w : World) (fuel : Nat) (cs : List Value) (x : DataW H × List MemPlace), DataW.trod enc P w 0 (fun _ => true) true fuel t cs = some x → Light P t x.1 → ∃ a, ok a ∧ CellsAre w (f a) cs
section
variable {P : Program} {t e : TypeId} {α β : Type}
theorem OpensQ.of {f : α → List Dat} {ok : α → Prop} (h : Opens P t f ok) : OpensQ P t f ok := fun H enc w fuel cs x hx _ => h H enc w fuel cs x hx
theorem OpensQ.str (ht : P.underlying t = some .string) : OpensQ P t (fun s : ByteArray => [.str s]) (fun s => s.size ≤ reachBytes) := by
  intro H enc w fuel cs x h hw
  obtain ⟨s, rfl, rfl, hs⟩ := DataW.trod_string ht h
  refine ⟨s, ?_, cellsAre_one rfl (.str s)⟩
  have := hw s.data.toList.length (by simp [DataW.weights])
  simpa using this
theorem OpensQ.map {f : α → List Dat} {ok : α → Prop} {f' : β → List Dat} {ok' : β → Prop} (h : OpensQ P t f ok) (g : α → β) (hf : ∀ a, ok a → f' (g a) = f a) (hk : ∀ a, ok a → ok' (g a)) : OpensQ P t f' ok' := fun H enc w fuel cs x hx hw => by
  obtain ⟨a, h1, h2⟩ := h H enc w fuel cs x hx hw
  exact ⟨g a, hk a h1, by rw [hf a h1]; exact h2⟩
theorem weightsAll_mem {H : Type} {P : Program} {e : TypeId} : ∀ {l : List (DataW H)} {d : DataW H}, d ∈ l → ∀ n ∈ d.weights P e, n ∈ DataW.weightsAll P e l
  | [], d, h, n, hn => by cases h
  | x :: r, d, h, n, hn => by
    unfold DataW.weightsAll
    rw [List.mem_append]
    rcases List.mem_cons.1 h with rfl | h
    · exact .inl hn
    · exact .inr (weightsAll_mem h n hn)
theorem OpensQ.slice {ek : Option Nat} {f : α → List Dat} {ok : α → Prop} (ht : P.underlying t = some (.slice e)) (hc : P.cellsOf e = Am.esz ek) (hpos : 0 < Am.esz ek) (hby : 0 < P.bytesOf e) (he : OpensQ P e f ok) (pack : α → Dat)
    (hpack : ∀ a, (f a).length = Am.esz ek → (∀ y ∈ f a, y.one = true) → Fits ek (pack a) ∧ (pack a).cells = f a) : OpensQ P t (fun l : List α => [.sl ek (l.map pack)]) (fun l => (∀ a ∈ l, ok a) ∧ l.length ≤ reachBytes) := by
  intro H enc w fuel cs x h hw
  rcases DataW.trod_slice ht h with ⟨rfl, _⟩ | ⟨a, len, cap, elems, rest, n, _, rfl, rfl, _, hl, hm, hlen, hel, _⟩
  · exact ⟨[], by simp, cellsAre_one rfl (.nil ek)⟩
  have hwe : ∀ y ∈ elems, Light P e y.1 := fun y hy n hn => hw n (by
    simp only [DataW.weights, ht]
    exact List.mem_cons_of_mem _ (List.mem_append_left _ (weightsAll_mem (List.mem_map.2 ⟨y, hy, rfl⟩) n hn)))
  have hwl : len ≤ reachBytes := by
    have h1 := hw ((elems.map (·.1)).length * P.bytesOf e + (rest.map (·.1)).length * P.bytesOf e) (by
      simp only [DataW.weights, ht, ← Nat.add_mul]
      exact List.mem_cons_self ..)
    rw [List.length_map, hlen] at h1
    have h2 : len * 1 ≤ len * P.bytesOf e := Nat.mul_le_mul_left _ hby
    omega
  have each : ∀ i, i < len → ∃ z, ok z ∧ ∃ cs', w.cells? 0 (a.add (i * P.cellsOf e)) (P.cellsOf e) = some cs' ∧ CellsAre w (f z) cs' := by
    intro i hi
    have h1 := hel i hi
    rw [List.getElem?_eq_getElem (by omega)] at h1
    obtain ⟨cs', h2, h3⟩ := Option.bind_eq_some_iff.1 h1
    obtain ⟨z, hz, hz2⟩ := he H enc w n cs' _ h3 (hwe _ (List.getElem_mem _))
    exact ⟨z, hz, cs', h2, hz2⟩
  obtain ⟨l, hll, hq⟩ := list_of len each
  refine ⟨l, ⟨fun z hz => ?_, by omega⟩, cellsAre_one rfl ?_⟩
  · obtain ⟨i, hi⟩ := List.mem_iff_getElem?.1 hz
    exact (hq i z hi).1
  obtain ⟨b, off, spot⟩ := a
  have fit : ∀ z ∈ l, Fits ek (pack z) ∧ (pack z).cells = f z := by
    intro z hz
    obtain ⟨i, hi⟩ := List.mem_iff_getElem?.1 hz
    obtain ⟨_, cs', h1, h2, h3, _⟩ := hq i z hi
    refine hpack z ?_ h3
    rw [h2, (World.cells?_some h1).2.1, hc]
  have hsp : 0 < l.length → spot = none := by
    intro h0
    obtain ⟨_, cs', h1, _⟩ := hq 0 l[0] (List.getElem?_eq_getElem h0)
    obtain ⟨_, h3, h4⟩ := World.cells?_some h1
    have h5 := h4 0 (by rw [hc]; exact hpos)
    rw [List.getElem?_eq_getElem (by rw [h3, hc]; exact hpos)] at h5
    have h6 := World.cell?_spot h5
    simpa [Addr.add] using h6
  refine RepD.sl_mk (by simpa using hll.symm) (by simp; omega) hm (by simpa using hsp) (fun z hz => ?_) (fun k z hk j y hj => ?_)
  · obtain ⟨z', hz', rfl⟩ := List.mem_map.1 hz
    exact (fit z' hz').1
  · rw [List.getElem?_map] at hk
    obtain ⟨z', hz', rfl⟩ := Option.map_eq_some_iff.1 hk
    obtain ⟨_, cs', h1, h2, h3, h4⟩ := hq k z' hz'
    have hmem := List.mem_of_getElem? hz'
    rw [(fit z' hmem).2] at hj
    obtain ⟨_, h6, h7⟩ := World.cells?_some h1
    have hjl : j < (f z').length := (List.getElem?_eq_some_iff.1 hj).1
    have h8 := h7 j (by omega)
    have h9 : spot = none := hsp (by have := (List.getElem?_eq_some_iff.1 hz').1; omega)
    subst h9
    rw [Addr.add_lit, Addr.add_lit, List.getElem?_eq_getElem (by omega)] at h8
    refine ⟨rfl, h3 y (List.mem_of_getElem? hj), _, by rw [← h8, hc], ?_⟩
    have := h4 j y hj
    rwa [List.getD_eq_getElem?_getD, List.getElem?_eq_getElem (by omega)] at this
theorem OpensQ.bytes (ht : P.underlying t = some (.slice e)) (he : P.underlying e = some (.int .u8)) (hc : P.cellsOf e = 1) (hby : 0 < P.bytesOf e) : OpensQ P t (fun l : List UInt8 => [.sl none (bys l)]) (fun l => l.length ≤ reachBytes) :=
  OpensQ.map (OpensQ.slice (ek := none) ht hc (by decide) hby (OpensQ.of (Opens.u8 he)) by1 (fun a _ _ => ⟨rfl, rfl⟩)) (fun l => l) (fun _ _ => rfl) (fun _ h => h.2)
def OpensQF (P : Program) (off : Nat) (fs : List Field) {α : Type} (f : α → List Dat) (ok : α → Prop) : Prop :=
  ∀ (H : Type) (enc : TypeId × Value → H) (w : World) (fuel : Nat) (cs : List Value), (∀ fd ∈ fs, ∃ x, DataW.trod enc P w 0 (fun _ => true) true fuel fd.type ((cs.drop fd.offset).take (P.cellsOf fd.type)) = some x ∧ Light P fd.type x.1) →
    ∃ a, ok a ∧ CellsAre w (f a) ((cs.drop off).take (f a).length)
theorem OpensQF.one {fd : Field} {off sz : Nat} {f : α → List Dat} {ok : α → Prop} (ho : fd.offset = off) (h : OpensQ P fd.type f ok) : OpensQF P off [fd] f ok := by
  intro H enc w fuel cs hx
  obtain ⟨x, hx, hw⟩ := hx fd (by simp)
  obtain ⟨a, h1, h2⟩ := h H enc w fuel _ x hx hw
  refine ⟨a, h1, ?_⟩
  rw [ho] at h2
  have hl := h2.1
  rw [List.length_take] at hl
  have : (cs.drop off).take (f a).length = (cs.drop off).take (P.cellsOf fd.type) := by
    rw [hl]
    by_cases hle : P.cellsOf fd.type ≤ (cs.drop off).length
    · rw [Nat.min_eq_left hle]
    · rw [Nat.min_eq_right (by omega), List.take_of_length_le (Nat.le_refl _), List.take_of_length_le (by omega)]
  rw [this]
  exact h2
theorem OpensQF.cons {fd : Field} {fs : List Field} {off sz : Nat} {f : α → List Dat} {ok : α → Prop} {g : β → List Dat} {ok' : β → Prop} (ho : fd.offset = off) (hsz : ∀ a, (f a).length = sz) (h : OpensQ P fd.type f ok) (hs : OpensQF P (off + sz) fs g ok') :
    OpensQF P off (fd :: fs) (fun p : α × β => f p.1 ++ g p.2) (fun p => ok p.1 ∧ ok' p.2) := by
  intro H enc w fuel cs hx
  obtain ⟨a, h1, h2⟩ := OpensQF.one (sz := sz) ho h H enc w fuel cs (fun fd' hfd => hx fd' (by simp at hfd; simp [hfd]))
  obtain ⟨b, h3, h4⟩ := hs H enc w fuel cs (fun fd' hfd => hx fd' (by simp [hfd]))
  refine ⟨(a, b), ⟨h1, h3⟩, ?_⟩
  have e1 := h2.1
  have e2 := h4.1
  rw [hsz] at h2 e1
  have key : (cs.drop off).take (f a ++ g b).length = (cs.drop off).take sz ++ (cs.drop (off + sz)).take (g b).length := by
    rw [List.length_append, hsz, List.take_add, List.drop_drop]
  refine ⟨?_, ?_, ?_⟩
  · rw [key, List.length_append, List.length_append, ← e2, ← e1, hsz]
  · intro y hy
    rcases List.mem_append.1 hy with hy | hy
    · exact h2.2.1 y hy
    · exact h4.2.1 y hy
  · intro j y hj
    simp only at hj ⊢
    rw [key]
    rw [List.getElem?_append] at hj
    rw [List.getD_eq_getElem?_getD, List.getElem?_append]
    rw [hsz] at hj
    split at hj
    · rename_i hlt
      rw [if_pos (by omega)]
      exact h2.2.2 j y hj
    · rename_i hlt
      rw [if_neg (by omega), ← e1]
      exact h4.2.2 _ y hj
theorem OpensQ.struct {fs : Array Field} {f : α → List Dat} {ok : α → Prop} (ht : P.underlying t = some (.struct fs)) (hsz : ∀ a, (f a).length = P.cellsOf t) (h : OpensQF P 0 fs.toList f ok) : OpensQ P t f ok := by
  intro H enc w fuel cs x hx hw
  obtain ⟨xs, n, rfl, rfl, hl, hxl, hg⟩ := DataW.trod_struct ht hx
  obtain ⟨a, h1, h2⟩ := h H enc w n cs (fun fd hfd => by
    obtain ⟨i, hi⟩ := List.mem_iff_getElem?.1 hfd
    have hi' : fs[i]? = some fd := by simpa using hi
    have h3 := hg i fd hi'
    have hlt := (Array.getElem?_eq_some_iff.1 hi').1
    rw [List.getElem?_eq_getElem (by omega)] at h3
    refine ⟨_, h3, fun q hq => hw q ?_⟩
    simp only [DataW.weights, ht]
    refine DataW.weights_mem_each (j := i) (t := fd.type) (d := (xs[i]'(by omega)).1) (by simp [hi']) (by simp [show i < xs.length by omega]) q hq)
  refine ⟨a, h1, ?_⟩
  rw [hsz, List.drop_zero, ← hl, List.take_length] at h2
  exact h2

def OpensQV (P : Program) (t : TypeId) {α : Type} (f : α → Dat) (ok : α → Prop) : Prop :=
  ∀ (H : Type) (enc : TypeId × Value → H) (w : World) (base : Nat) (v : Value) (d : DataW H) (ps : List MemPlace), DataW.Trod enc P w 0 (fun _ => true) true t v d ps → Light P t d → Value.okWide P w .any base t v → ∃ a, ok a ∧ RepD w (fun _ => true) (f a) v
theorem OpensQV.of {f : α → Dat} {ok : α → Prop} (h : OpensV P t f ok) : OpensQV P t f ok := fun H enc w base v d ps hx _ hok => h H enc w base v d ps hx hok
theorem OpensQV.slice {f : α → Dat} {ok : α → Prop} (ht : P.underlying t = some (.slice e)) (h : OpensQ P t (fun a => [f a]) ok) : OpensQV P t f ok := by
  intro H enc w base v d ps ⟨fuel, hf⟩ hw hok
  obtain ⟨a, l, c, rfl⟩ := okWide_slice ht hok
  obtain ⟨a, h1, h2, h3, h4⟩ := h H enc w fuel _ _ hf hw
  exact ⟨a, h1, by simpa [Value.cells] using h4 0 (f a) rfl⟩
theorem OpensQV.struct {fs : Array Field} {f : α → List Dat} {ok : α → Prop} (ht : P.underlying t = some (.struct fs)) (h : OpensQ P t f ok) : OpensQV P t (fun a => .agg (f a)) ok := by
  intro H enc w base v d ps ⟨fuel, hf⟩ hw hok
  obtain ⟨cs, rfl, _⟩ := okWide_struct ht hok
  obtain ⟨a, h1, h2, h3, h4⟩ := h H enc w fuel _ _ hf hw
  refine ⟨a, h1, .agg _ cs (by simpa [Value.cells] using h2.symm) h3 (fun j y hj => by simpa [Value.cells] using h4 j y hj)⟩
def OpensQA (P : Program) (ts : List TypeId) {α : Type} (g : α → List Dat) (ok : α → Prop) : Prop :=
  ∀ (H : Type) (enc : TypeId × Value → H) (w : World) (base : Nat) (vs : List Value) (ds : List (DataW H)) (ps : List MemPlace), DataW.TrodAll enc P w 0 (fun _ => true) true ts vs ds ps → (∀ (j : Nat) t d, ts[j]? = some t → ds[j]? = some d → Light P t d) → (∀ (j : Nat) t v, ts[j]? = some t → vs[j]? = some v → Value.okWide P w .any base t v) →
    ∃ a, ok a ∧ (g a).length = vs.length ∧ ∀ (j : Nat) (y : Dat), (g a)[j]? = some y → RepD w (fun _ => true) y (vs.getD j undef)
theorem OpensQA.nil : OpensQA P [] (fun _ : Unit => []) (fun _ => True) := by
  intro H enc w base vs ds ps h _ _
  obtain ⟨rfl, _, _⟩ := trodAll_nil h
  exact ⟨(), trivial, rfl, by simp⟩
theorem OpensQA.cons {ts : List TypeId} {f : α → Dat} {ok : α → Prop} {g : β → List Dat} {ok' : β → Prop} (h : OpensQV P t f ok) (hs : OpensQA P ts g ok') : OpensQA P (t :: ts) (fun p : α × β => f p.1 :: g p.2) (fun p => ok p.1 ∧ ok' p.2) := by
  intro H enc w base vs ds ps ht hw hok
  obtain ⟨v, vs', d, ds', p, q, rfl, rfl, rfl, h1, h2⟩ := trodAll_cons ht
  obtain ⟨a, h3, h4⟩ := h H enc w base v d p h1 (hw 0 t d rfl rfl) (hok 0 t v rfl rfl)
  obtain ⟨b, h5, h6, h7⟩ := hs H enc w base vs' ds' q h2 (fun j t d hj hd => hw (j + 1) t d (by simpa using hj) (by simpa using hd)) (fun j t v hj hv => hok (j + 1) t v (by simpa using hj) (by simpa using hv))
  refine ⟨(a, b), ⟨h3, h5⟩, by simp [h6], fun j y hj => ?_⟩
  cases j with
  | zero => simp at hj; subst hj; simpa using h4
  | succ j => simpa using h7 j y (by simpa using hj)
end
theorem lifted_laidQ {C : Checked} {f : FuncId} {fn : Func} {s : ChangeSpec} {conds : List PathCond} {tb : TypeId} {os : Os} {H : Type} {enc : TypeId × Value → H} {laid : List (String × DataW Unit)} {Γ : Env} (own : ownKnob C.prog.godebug = none) (started : os.Started) (noInit : C.prog.inits.idxOf? f = none) (hfn : C.prog.funcs[f]? = some fn)
    (laidOut : laidOutB C.prog = true) (hts : ∀ t ∈ fn.params.toList, C.prog.readableRec t = true ∧ t < C.prog.types.size) (hres : fn.resultTypes = #[tb]) (htb : C.prog.underlying tb = some .bool) (hvars : s.vars = [])
    (hspec : ∀ (vs : List Value) (w : World) (ds : List (DataW H)) (ps : List MemPlace), DataW.TrodAll enc C.prog w 0 (fun _ => true) true fn.params.toList vs ds ps → s.fn H ds = { results := [.lit (.bool true)], args := ds })
    (witness : ∃ (w : World) (tape : Tape) (i : Input), w.os = os ∧ (w.forCall tape i).Shaped C.prog ∧ i.vars = [] ∧ Input.okWide C.prog (w.forCall tape i) .any w.heap.size f i ∧
      ((s.pre enc C.prog fn conds false (w.forCall tape i).memory i.args ∧ laidMetH C.prog laid (w.forCall tape i).memory) ∧ sizedMet enc C.prog fn (OpenSpec.ofChange s) false (w.forCall tape i).memory i.args) ∧ ({} : Assume).holds C.prog (lone (Frame.enter C.prog f i.args .normal) [] (w.forCall tape i)))
    (hΓ : ∀ W, laidMetH C.prog laid W → Γ.ok W)
    {α : Type} {g : α → List Dat} {ok : α → Prop} (hop : OpensQA C.prog fn.params.toList g ok) (hA : ∀ a, ok a → ACalls C.prog Γ f (g a) (fun r => r = .d (.bool true))) :
    ReturnsInHanded {} C os f .any (fun w args => (s.pre enc C.prog fn conds false w args ∧ laidMetH C.prog laid w) ∧ sizedMet enc C.prog fn (OpenSpec.ofChange s) false w args) (s.post enc C.prog fn false true false false) := by
  refine returnsInHanded_of_change_and (C := C) (X := fun w _ => laidMetH C.prog laid w) (fun _ _ _ hh h => laidMetH.of_heap hh h) own started noInit hfn witness ?_
  intro W base args ds gs before hval hW _ hwt hL _
  have hW' := hW
  obtain ⟨p, q, hT, hV, rfl, hfz, hnd⟩ := hW
  rw [hvars] at hV
  obtain ⟨rfl, rfl⟩ := trodVars_none hV
  obtain ⟨a, ha, hlen, hrep⟩ := hop H enc W base args.toList ds p hT (fun j t d hj hd n hn => of_decide_eq_true (List.all_eq_true.1 hwt n (DataW.weights_mem_each (j := j) (by rw [List.getElem?_append_left (List.getElem?_eq_some_iff.1 hj).1]; exact hj) (by rw [List.append_nil]; exact hd) n hn))) (fun j t v hj hv => hval j t v (by simpa using hj) (by simpa using hv))
  refine ((hA a ha).2 W (fun _ => true) args (hΓ W hL) (by simpa using hlen.symm) (fun j x hj => by simpa using hrep j x hj)).mono fun e W' ⟨v, r, he, bel, hrr, hr⟩ => ?_
  subst he
  subst hr
  have hv : v = .bool true := by
    cases hrr
    rfl
  subst hv
  obtain ⟨pa, hpa⟩ := trodAll_stay laidOut bel hts hT
  refine ⟨_, rfl, ds, [], p ++ [], [], pa, [], hW', ?_, ?_, ?_, bel.frame _, fun h => by cases h⟩
  · rw [List.append_nil, hspec _ _ _ _ hT, hres]
    exact trodAll_mk1 ⟨1, by simp [DataW.trod, Value.cells, htb]⟩
  · rw [List.append_nil, hspec _ _ _ _ hT]
    exact hpa
  · rw [List.append_nil, hspec _ _ _ _ hT, hvars]
    exact rfl
end Go.Am

/- What the laws of object identifiers are handed, opened as data. -/
namespace Go.Proofs.YtohabohifjadgaaDoor
open Go.Am Go.ChangeShapes Go.WideShapes Go.ChangeAt Go.RowKit
set_option linter.unusedSimpArgs false
set_option linter.unusedVariables false

theorem OpensV.map {P : Program} {t : TypeId} {α β : Type} {f : α → Dat} {ok : α → Prop} {f' : β → Dat} {ok' : β → Prop} (h : OpensV P t f ok) (g : α → β) (hf : ∀ a, f' (g a) = f a) (hk : ∀ a, ok a → ok' (g a)) : OpensV P t f' ok' := fun H enc w base v d ps ht hok => by
  obtain ⟨a, h1, h2⟩ := h H enc w base v d ps ht hok
  exact ⟨g a, hk a h1, by rw [hf]; exact h2⟩
theorem read_all {ts : List TypeId} (h : ts.all (fun t => Tryd.prog.readableRec t && decide (t < Tryd.prog.types.size)) = true) : ∀ t ∈ ts, Tryd.prog.readableRec t = true ∧ t < Tryd.prog.types.size := by
  intro t ht
  have := List.all_eq_true.1 h t ht
  simpa using this
end Go.Proofs.YtohabohifjadgaaDoor

/- What the laws of extensions are handed, opened as data, with sizes. -/
namespace Go.Proofs.YtohabohifjadgaaDoor
open Go.Am Go.ChangeShapes Go.WideShapes Go.ChangeAt Go.RowKit
set_option linter.unusedSimpArgs false
set_option linter.unusedVariables false

def ext3 (p : ByteArray × Bool × List UInt8) : List Dat := [.str p.1] ++ ([.bool p.2.1] ++ [.sl none (bys p.2.2)])
def ext3X (p : ByteArray × Bool × List UInt8) : Ext := ⟨p.1.data.toList, p.2.1, p.2.2⟩
theorem ext3_xD (p : ByteArray × Bool × List UInt8) : xD (ext3X p) = .agg (ext3 p) := by
  obtain ⟨s, b, l⟩ := p
  show Dat.agg [.str (bA s.data.toList), .bool b, .sl none (bys l)] = _
  rw [← bA_of]
  rfl
set_option maxRecDepth 100000 in
theorem open_ext3 : OpensQ Tryd.prog 25 ext3 (fun p => p.1.size ≤ reachBytes ∧ True ∧ p.2.2.length ≤ reachBytes) :=
  OpensQ.struct Tryd.underlying25 (by intro a; rfl)
    (OpensQF.cons (sz := 1) rfl (fun _ => rfl) (OpensQ.str Tryd.underlying9) (OpensQF.cons (sz := 1) rfl (fun _ => rfl) (OpensQ.of (Opens.bool Tryd.underlying4)) (OpensQF.one (sz := 1) rfl (OpensQ.bytes Tryd.underlying23 Tryd.underlying5 (by kernel_rfl) (by decide +kernel)))))
set_option maxRecDepth 100000 in
theorem open_ext : OpensQV Tryd.prog 25 xD (fun _ => True) := fun H enc w base v d ps hx hl hok => by
  obtain ⟨a, _, h2⟩ := OpensQV.struct Tryd.underlying25 open_ext3 H enc w base v d ps hx hl hok
  exact ⟨ext3X a, trivial, by rw [ext3_xD]; exact h2⟩
set_option maxRecDepth 100000 in
theorem open_exts : OpensQV Tryd.prog 22 (fun l : List Ext => .sl (some 3) (xsD l)) (fun l => ∀ x ∈ l, x.o.length ≤ 140737488351232 ∧ x.v.length ≤ 140737488351232) :=
  OpensQV.slice Tryd.underlying22 (OpensQ.map (OpensQ.slice (ek := some 3) Tryd.underlying22 (by kernel_rfl) (by decide) (by decide +kernel) open_ext3 (fun p => .agg (ext3 p)) (fun a _ h => ⟨⟨ext3 a, rfl, rfl, h⟩, rfl⟩)) (fun l => l.map ext3X) (fun l _ => by
      rw [xsD, List.map_map]
      exact congrArg (fun z => [Dat.sl (some 3) z]) (List.map_congr_left fun p _ => ext3_xD p)) (fun l h x hx => by
      obtain ⟨p, hp, rfl⟩ := List.mem_map.1 hx
      have h1 := h.1 p hp
      have e : p.1.data.toList.length = p.1.size := rfl
      simp only [reachBytes] at h1
      exact ⟨by show p.1.data.toList.length ≤ _; omega, h1.2.2⟩))
end Go.Proofs.YtohabohifjadgaaDoor
