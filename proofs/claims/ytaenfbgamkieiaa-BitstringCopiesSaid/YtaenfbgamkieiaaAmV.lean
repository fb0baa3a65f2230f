/- The abstract machine, twenty-second part: results that lie in new blocks only; calls that borrow rows of the caller; rows made by calls in a region whose order is drawn. No program. -/
import Derived.Test.YtaenfbgamkieiaaAmS
namespace Go.Am
open Go.RowKit
set_option linter.unusedSimpArgs false
set_option linter.unusedVariables false

/-- A datum that looks into no block. -/
def FlatD (x : Dat) : Prop := ∀ (w w' : World) (pr pr' : Nat → Bool) (v : Value), RepD w pr x v → RepD w' pr' x v
theorem flat_bool (b : Bool) : FlatD (.bool b) := fun _ _ _ _ _ h => by cases h; exact .bool b
theorem flat_int (k : IntKind) (n : Int) : FlatD (.int k n) := fun _ _ _ _ _ h => by cases h; exact .int k n
theorem flat_str (s : ByteArray) : FlatD (.str s) := fun _ _ _ _ _ h => by cases h; exact .str s
theorem flat_nilIf : FlatD .nilIf := fun _ _ _ _ _ h => by cases h; exact .nilIf
theorem flat_none (ek : Option Nat) : FlatD (.sl ek []) := fun _ _ _ _ _ h => by
  rcases h.sl_inv with ⟨rfl, _⟩ | ⟨b, off, spot, cap, rfl, hc, hm, hs, _, _⟩
  · exact .nil ek
  · exact RepD.sl_mk rfl hc hm hs (by simp) (by simp)
theorem flat_agg {cs : List Dat} (h : ∀ x ∈ cs, FlatD x) : FlatD (.agg cs) := fun _ _ _ _ _ hr => by
  cases hr with
  | agg cs vs hl h1 hr => exact .agg cs vs hl h1 fun j y hj => h y (List.mem_of_getElem? hj) _ _ _ _ _ (hr j y hj)
theorem flat_tup {cs : List Dat} (h : ∀ x ∈ cs, FlatD x) : FlatD (.tup cs) := fun _ _ _ _ _ hr => by
  cases hr with
  | tup cs vs hl hr => exact .tup cs vs hl fun j y hj => h y (List.mem_of_getElem? hj) _ _ _ _ _ (hr j y hj)
def FlatL (xs : List Dat) : Prop := ∀ x ∈ xs, ∀ y ∈ x.cells, FlatD y
theorem flat_bys (l : List UInt8) : FlatL (bys l) := by
  intro x hx y hy
  obtain ⟨b, _, rfl⟩ := List.mem_map.1 hx
  simp only [by1, Dat.cells, List.mem_singleton] at hy
  subst hy
  exact flat_int _ _

/-- THE CONTRACT of a function whose result lies in new blocks only. -/
def AFresh (P : Program) (Γ : Env) (f : FuncId) (args : List Dat) (R : Dat → Prop) : Prop :=
  (∃ fn, IsFn P f fn) ∧ ∀ (w : World) (pr : Nat → Bool) (vs : Array Value), Γ.ok w → vs.size = args.length → (∀ (j : Nat) (x : Dat), args[j]? = some x → RepD w pr x (vs.getD j undef)) →
    Calls P f vs w fun e w' => ∃ v x, e = .returned v ∧ Below w.heap.size w w' ∧ RepD w' (fun b => decide (w.heap.size ≤ b)) x v ∧ R x
theorem AFresh.of_flat {P : Program} {Γ : Env} {f : FuncId} {args : List Dat} {x : Dat} (h : ACalls P Γ f args (fun r => r = .d x)) (hx : FlatD x) : AFresh P Γ f args (fun y => y = x) :=
  ⟨h.1, fun w pr vs h1 h2 h3 => (h.2 w pr vs h1 h2 h3).mono fun e w' ⟨v, r, a, b, c, d⟩ => by
    subst d
    exact ⟨v, x, a, b, hx _ _ _ _ _ c, rfl⟩⟩
theorem AFresh.plain {P : Program} {Γ : Env} {f : FuncId} {args : List Dat} {x : Dat} (h : AFresh P Γ f args (fun y => y = x)) : ACalls P Γ f args (fun r => r = .d x) :=
  ⟨h.1, fun w pr vs h1 h2 h3 => (h.2 w pr vs h1 h2 h3).mono fun e w' ⟨v, y, a, b, c, d⟩ => by
    subst d
    exact ⟨v, .d y, a, b, c.mono fun b _ hb => ⟨rfl, by simp only [Bool.or_eq_true]; exact .inr hb⟩, rfl⟩⟩

section
variable {P : Program} {Γ : Env} {Q : Exit → St → Prop} {σ : St} {ty : TypeId → Option TI}

theorem row_out {C : Ct} {i : Nat} {ek : Option Nat} {e : TypeId} {xs : List Dat} (h : ORep C i (.row ek e xs)) (hx : FlatL xs) : RepD C.w (fun b => decide (C.B ≤ b)) (.sl ek xs) (C.ρ i) := by
  obtain ⟨_, vals, hown, hp, hcr⟩ := h
  rcases hown.2 with ⟨hn, h0⟩ | ⟨g, cap, cur, hv, hb, hg, hnc, hcm, hcs, htake⟩
  · have : xs = [] := List.eq_nil_of_length_eq_zero h0
    subst this
    rw [hn]
    exact .nil ek
  · rw [hv]
    refine RepD.sl_mk rfl hnc hcm (fun _ => rfl) (fun x hx => ?_) (fun k x hk j y hj => ?_)
    · obtain ⟨k, hk⟩ := List.mem_iff_getElem?.1 hx
      exact (hcr k x hk).1
    · obtain ⟨hf, h2⟩ := hcr k x hk
      obtain ⟨u, hu, hr⟩ := h2 j y hj
      refine ⟨by simpa using hb, hf.one y (List.mem_of_getElem? hj), u, ?_, hx x (List.mem_of_getElem? hk) y (List.mem_of_getElem? hj) _ _ _ _ _ hr⟩
      have := hown.cells (g := g) (by rw [hv]; rfl) _ u hu
      rw [Addr.add_lit] at this
      simpa using this

/-- What a walk hands back in new blocks only, and what is left to show of it. -/
def fresh0 (σ : St) : AV → Option (Dat × Prop)
  | .d x => some (x, FlatD x)
  | .nil ek => some (.sl ek [], True)
  | .ref i => match σ.obj i with
    | some (.row ek e xs) => some (.sl ek xs, FlatL xs)
    | _ => none
  | _ => none
def freshL (f : AV → Option (Dat × Prop)) : List AV → Option (List Dat × Prop)
  | [] => some ([], True)
  | y :: r => match f y, freshL f r with
    | some (x, p), some (xs, q) => some (x :: xs, p ∧ q)
    | _, _ => none
def fresh1 (σ : St) : AV → Option (Dat × Prop)
  | .agg l => match freshL (fresh0 σ) l with
    | some (xs, p) => some (.agg xs, p ∧ ∀ x ∈ xs, x.one = true)
    | none => none
  | y => fresh0 σ y
def freshR (σ : St) : AV → Option (Dat × Prop)
  | .tup l => match freshL (fresh1 σ) l with
    | some (xs, p) => some (.tup xs, p)
    | none => none
  | y => fresh1 σ y
theorem fresh0_sound {a : Act} {C : Ct} (m : Models σ a C) {y : AV} {z : Dat × Prop} (h : fresh0 σ y = some z) (hp : z.2) {v : Value} (hr : Rep C y v) : RepD C.w (fun b => decide (C.B ≤ b)) z.1 v := by
  unfold fresh0 at h
  split at h
  · cases h
    cases hr with
    | d h => exact hp _ _ _ _ _ h
  · cases h
    cases hr
    exact .nil _
  · split at h
    · rename_i ho
      cases h
      cases hr with
      | ref i hi v hv h1 =>
        subst hv
        exact row_out (m.ob _ _ ho) hp
    · cases h
  · cases h
theorem freshL_sound {f : AV → Option (Dat × Prop)} {S : Dat → Value → Prop} {T : AV → Value → Prop} (hf : ∀ y z v, f y = some z → z.2 → T y v → S z.1 v) : ∀ {l : List AV} {z : List Dat × Prop}, freshL f l = some z → z.2 → z.1.length = l.length ∧ ∀ (vs : Nat → Value), (∀ (j : Nat) (y : AV), l[j]? = some y → T y (vs j)) → ∀ (j : Nat) (x : Dat), z.1[j]? = some x → S x (vs j)
  | [], z, h, hp => by
    cases h
    exact ⟨rfl, fun vs _ j x hj => by simp at hj⟩
  | y :: r, z, h, hp => by
    unfold freshL at h
    split at h
    · rename_i x p xs q hx hq
      cases h
      obtain ⟨h1, h2⟩ := freshL_sound hf hq hp.2
      refine ⟨by simpa using h1, fun vs hv j u hj => ?_⟩
      cases j with
      | zero =>
        simp only [List.getElem?_cons_zero, Option.some.injEq] at hj
        subst hj
        exact hf y _ _ hx hp.1 (hv 0 y rfl)
      | succ j => exact h2 (fun j => vs (j + 1)) (fun j y hy => hv (j + 1) y (by simpa using hy)) j u (by simpa using hj)
    · cases h
theorem fresh1_sound {a : Act} {C : Ct} (m : Models σ a C) {y : AV} {z : Dat × Prop} (h : fresh1 σ y = some z) (hp : z.2) {v : Value} (hr : Rep C y v) : RepD C.w (fun b => decide (C.B ≤ b)) z.1 v := by
  unfold fresh1 at h
  split at h
  · split at h
    · rename_i xs p hl
      cases h
      obtain ⟨h1, h2⟩ := freshL_sound (S := fun x v => RepD C.w (fun b => decide (C.B ≤ b)) x v) (T := fun y v => Rep C y v) (fun y z v a b c => fresh0_sound m a b c) hl hp.1
      cases hr with
      | agg cs vs hl h3 hr => exact .agg _ vs (by rw [hl]; exact h1.symm) hp.2 fun j x hj => h2 (fun j => vs.getD j undef) hr j x hj
    · cases h
  · exact fresh0_sound m h hp hr
theorem freshR_sound {a : Act} {C : Ct} (m : Models σ a C) {y : AV} {z : Dat × Prop} (h : freshR σ y = some z) (hp : z.2) {v : Value} (hr : Rep C y v) : RepD C.w (fun b => decide (C.B ≤ b)) z.1 v := by
  unfold freshR at h
  split at h
  · split at h
    · rename_i xs p hl
      cases h
      obtain ⟨h1, h2⟩ := freshL_sound (S := fun x v => RepD C.w (fun b => decide (C.B ≤ b)) x v) (T := fun y v => Rep C y v) (fun y z v a b c => fresh1_sound m a b c) hl hp
      cases hr with
      | tup cs vs hl hr => exact .tup _ vs (by rw [hl]; exact h1.symm) fun j x hj => h2 (fun j => vs.getD j undef) hr j x hj
    · cases h
  · exact fresh1_sound m h hp hr

/-- The end of such a function's walk. -/
def RetOkF (ty : TypeId → Option TI) (fn : Func) (R : Dat → Prop) : Exit → St → Prop
  | .ret, σ => ∃ ys z, resultA ty σ fn.results.toList = some ys ∧ freshR σ (packA ys) = some z ∧ (z.2 ∧ R z.1)
  | .normal, σ => ∃ ys z, resultA ty σ fn.results.toList = some ys ∧ freshR σ (packA ys) = some z ∧ (z.2 ∧ R z.1)
  | _, _ => False
theorem afresh_of (hT : TyOk P ty) {f : FuncId} {fn : Func} {body : Code} {args : List Dat} {R : Dat → Prop} (hfn : IsFn P f fn) (hb : fn.body = some body) (hle : Nat.ble args.length fn.ntmps = true)
    (h : AWp P (Γ.at 0) body (RetOkF ty fn R) (entry fn.ntmps (args.map .d) [] 0)) : AFresh P Γ f args R := by
  refine ⟨⟨fn, hfn⟩, fun w pr vs hok hsz hr => calls_of_wp hfn.hf hb ?_⟩
  have m := Models.start (sz := fn.ntmps) hsz (Nat.le_of_ble_eq_true hle) hr
  have hbase : Base (Γ.at 0) ⟨w, pr, fun _ => .slice none 0 0, fun _ => false, w.heap.size⟩ := ⟨⟨hok, Γ.lim_le w hok, Nat.le_refl _⟩, fun i hi => by cases hi⟩
  refine Code.wp_mono (fun ex a' w' hh => ?_) (h _ _ _ hbase (.refl _) m)
  obtain ⟨σ', C', rfl, m', e', hq⟩ := hh
  have hbel : Below w.heap.size w C'.w := Evo.below rfl e'
  have hBB : C'.B = w.heap.size := e'.B
  cases ex <;> simp only [RetOkF] at hq
  all_goals
    obtain ⟨ys, z, h1, h2, h3, h4⟩ := hq
    obtain ⟨v, hv, hrep⟩ := run_results (P := P) hT m' h1
    have := freshR_sound m' h2 h3 hrep
    rw [hBB] at this
    exact ⟨m'.defers, v, hv, v, z.1, rfl, hbel, this, h4⟩

/-- A call that borrows: what it is handed stays the caller's own. -/
theorem aops_lend {ops rest : List Oper} {o : Oper} {c : Call} {fx : Operand} {f : FuncId} {ys : List AV} {dargs : List Dat} {x : Dat} {sz nx : Nat} {tm : List (Nat × AV)} {ob : List (Nat × AO)} (hw : wantedA ops σ o = some true) (hd : dstOk σ o.dst = true) (ho : o.op = .call c) (hc : c.callee = .value fx) (hf : calleeOf σ ty fx = some (f, []))
    (hy : evAll σ ty c.args.toList c.argTypes.toList = some ys) (hdat : datAll (frzAll σ ys) ys = some dargs) (hA : AFresh P Γ f dargs (fun y => y = x)) (hr : σ.put o.dst (.d x) = ⟨sz, tm, ob, nx⟩)
    (k : AOps P Γ ops Q rest ⟨sz, tm, ob, nx⟩) : AOps P Γ ops Q (o :: rest) σ :=
  aops_step hw fun C0 a C K R' b ev m hk => by
    obtain ⟨⟨fn, hfn⟩, hcalls⟩ := hA
    obtain ⟨vs, hvl, _, hrun⟩ := run_call (P := P) m ho hc hf hfn
    have hv0 : vs = #[] := Array.eq_empty_of_size_eq_zero (by simpa using hvl)
    subst hv0
    obtain ⟨C1, m1, e1, hw1⟩ := Models.frzAll ys m
    obtain ⟨y1, y2⟩ := evAll_sound m hy
    obtain ⟨d1, d2⟩ := datAll_sound m1 hdat
    have ev1 := ev.trans e1
    have hB1 := (b.evo ev).B
    unfold Oper.wp
    rw [hrun]
    simp only [Array.append_empty]
    rw [← hw1]
    refine (hcalls C1.w C1.pr (c.args.map a.eval) (b.evo ev1).ok (by rw [d1, y1]; simp) (fun j x hj => ?_)).mono ?_
    · have := d2 (fun j => (c.args.toList.map a.eval).getD j undef) (fun j x hx => (y2 j x hx).mono e1) j x hj
      simpa using this
    · rintro e w' ⟨v, x', rfl, hbel, hres, rfl⟩
      rw [hw1] at hbel hres
      have hres' : RepD w' (C.back0 w').pr x' v := hres.mono fun b _ hb => ⟨rfl, by simp only [Ct.back0, Bool.or_eq_true]; exact .inr hb⟩
      refine hk _ (C.back0 w') _ ((m.back0 hB1 hbel).put (v := v) (.d hres') (dstOk_spec hd)) (ev.trans (Ct.back0_evo hB1 hbel)) ?_
      rw [hr]
      exact k

/-- A call of the head that makes a row. -/
theorem HStep.callOwn {σm : St} {o : Oper} {id : Nat} {c : Call} {fx : Operand} {f : FuncId} {ys : List AV} {dargs : List Dat} {ek : Option Nat} {e : TypeId} {xs : List Dat} (ho : o.op = .call c) (hc : c.callee = .value fx) (hf : calleeOf σm ty fx = some (f, []))
    (hy : evAll σm ty c.args.toList c.argTypes.toList = some ys) (hdat : datAll σm ys = some dargs) (hA : ACalls P Γ f dargs (fun r => r = .own ek e xs)) : HStep P Γ σm o id (.ref id) (some (.row ek e xs)) := by
  intro a C K R' b m hid hk
  obtain ⟨⟨fn, hfn⟩, hcalls⟩ := hA
  obtain ⟨vs, hvl, _, hrun⟩ := run_call (P := P) m ho hc hf hfn
  have hv0 : vs = #[] := Array.eq_empty_of_size_eq_zero (by simpa using hvl)
  subst hv0
  obtain ⟨y1, y2⟩ := evAll_sound m hy
  obtain ⟨d1, d2⟩ := datAll_sound m hdat
  unfold Oper.wp
  rw [hrun, show c.args.map a.eval ++ #[] = c.args.map a.eval by simp]
  refine (hcalls C.w C.pr (c.args.map a.eval) b.ok (by simp [d1, y1]) (fun j x hj => ?_)).mono ?_
  · exact d2 (fun j => (c.args.map a.eval).getD j undef) (fun j y hy => by simpa using y2 j y hy) j x hj
  · rintro e' w' ⟨v, r, rfl, hbel, hres, rfl⟩
    obtain ⟨hv, ⟨_, _, _, hsl⟩, m2⟩ := m.back hid (show σm.nx ≤ σm.nx + id + 1 by omega) (by omega) b.B hbel hres
    refine hk v (C.back id w' v) (Ct.back_evo hid b.B hbel hv) (fun i hi => (ok_or hi).imp (fun h => h) (fun h => ⟨h, rfl⟩)) (.ref _ (by simp [Ct.back]) _ (by simp [Ct.back]) (by rw [hsl]; rfl)) (fun ao h => ?_) (fun g hg => ⟨hbel.block g hg, ?_⟩)
    · cases h
      refine ⟨m2.ob id _ (by simp [St.addAt, St.obj, look_cons]), fun g hg => ?_⟩
      have hρ : (C.back id w' v).ρ id = v := by simp [Ct.back]
      rw [hρ] at hg
      exact hv g hg
    · have hne : blk v ≠ some g := fun h => by have := hv g h; omega
      have h3 : ¬ C.w.heap.size ≤ g := by omega
      simp [Ct.back, hne, h3]
theorem head_callO {l : List Oper} {n : Nat} {D : List Oper} {K : List Ent → Prop} {r : List Oper} {j : Nat} {acc : List Ent} {o : Oper} {c : Call} {fx : Operand} {f : FuncId} {ys : List AV} {dargs : List Dat} {ek : Option Nat} {e : TypeId} {xs : List Dat} (hd : dstOk σ o.dst = true) (hw : wantedA l (minE σ n D acc o) o = some true) (ho : o.op = .call c) (hc : c.callee = .value fx)
    (hf : calleeOf (minE σ n D acc o) ty fx = some (f, [])) (hy : evAll (minE σ n D acc o) ty c.args.toList c.argTypes.toList = some ys) (hdat : datAll (minE σ n D acc o) ys = some dargs) (hA : ACalls P Γ f dargs (fun r => r = .own ek e xs))
    (k : HeadT P Γ l σ n D K r (j + 1) (⟨j, o.dst, .ref (σ.nx + j), some (.row ek e xs)⟩ :: acc)) : HeadT P Γ l σ n D K (o :: r) j acc :=
  ⟨.ref (σ.nx + j), some (.row ek e xs), ⟨hd, .inl ⟨hw, HStep.callOwn ho hc hf hy hdat hA⟩⟩, k⟩
end
end Go.Am
