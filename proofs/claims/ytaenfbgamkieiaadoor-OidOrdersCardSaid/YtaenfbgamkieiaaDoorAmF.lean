/- The abstract machine, sixth part: every operation that leaves the world as it is yields what was computed. No program. -/
import Derived.Test.YtaenfbgamkieiaaDoorAmE
namespace Go.Am
open Go.RowKit
set_option linter.unusedSimpArgs false
set_option linter.unusedVariables false

section
variable {P : Program} {ty : TypeId → Option TI}

theorem ok1_eq {x : Option AV} {p : Prop} {y : AV} (h : ok1 x = some (p, y)) : x = some y := by
  cases x <;> simp_all [ok1]

theorem lenA_sound (hT : TyOk P ty) {σ : St} {a : Act} {c : Ct} (hM : Models σ a c) {t rt : TypeId} {x y : AV} {v : Value} (h : lenA ty σ t x = some y) (hx : Rep c x v) :
    ∃ u, (Builtin.len_ #[t] rt #[v]).run P c.w = .ok u c.w ∧ Rep c y u := by
  unfold lenA at h
  split at h
  · rename_i ht
    have hu := hT.und _ _ ht
    split at h
    · cases h
      have := Rep.str_inv hx
      subst this
      exact ⟨_, by simp [Builtin.len_, run_underlying hu]; rfl, .d (.int _ _)⟩
    · cases h
  · rename_i ht
    have hu := hT.und _ _ ht
    split at h
    · rename_i hs
      cases h
      obtain ⟨a', cap, rfl, _⟩ := (sl_sound hM hs hx).len_eq
      exact ⟨_, by simp [Builtin.len_, run_underlying hu]; rfl, .d (.int _ _)⟩
    · cases h
  · cases h

theorem evO_sound {σ : St} {a : Act} {c : Ct} (hM : Models σ a c) {t : TypeId} {x : Option Operand} {y : Option AV} (h : evO σ ty t x = some y) : ORepV c y (x.map a.eval) := by
  unfold evO at h
  split at h
  · cases h; trivial
  · split at h
    · rename_i hy
      cases h
      exact ev_sound hM hy
    · cases h

theorem evAll_sound {σ : St} {a : Act} {c : Ct} (hM : Models σ a c) : ∀ {l : List Operand} {ts : List TypeId} {ys : List AV}, evAll σ ty l ts = some ys → ys.length = l.length ∧ ∀ (j : Nat) (y : AV), ys[j]? = some y → Rep c y ((l.map a.eval).getD j undef)
  | [], ts, ys, h => by
    unfold evAll at h
    cases h
    simp
  | x :: r, [], ys, h => by
    unfold evAll at h
    split at h
    · rename_i y l hy hl
      cases h
      obtain ⟨h1, h2⟩ := evAll_sound hM hl
      refine ⟨by simp [h1], fun j z hj => ?_⟩
      cases j with
      | zero => simp at hj; subst hj; simpa using ev_sound hM hy
      | succ j => simpa using h2 j z (by simpa using hj)
    · cases h
  | x :: r, t :: ts, ys, h => by
    unfold evAll at h
    split at h
    · rename_i y l hy hl
      cases h
      obtain ⟨h1, h2⟩ := evAll_sound hM hl
      refine ⟨by simp [h1], fun j z hj => ?_⟩
      cases j with
      | zero => simp at hj; subst hj; simpa using ev_sound hM hy
      | succ j => simpa using h2 j z (by simpa using hj)
    · cases h

theorem evParts_sound {σ : St} {a : Act} {c : Ct} (hM : Models σ a c) {tf : Nat → TypeId} : ∀ {l : List (Nat × Operand)} {ys : List (Nat × AV)}, evParts σ ty tf l = some ys →
    ys.length = (l.map fun (i, x) => (i, a.eval x)).length ∧ ∀ (j : Nat) (p : Nat × AV) (q : Nat × Value), ys[j]? = some p → (l.map fun (i, x) => (i, a.eval x))[j]? = some q → p.1 = q.1 ∧ Rep c p.2 q.2
  | [], ys, h => by
    unfold evParts at h
    cases h
    simp
  | (i, x) :: r, ys, h => by
    unfold evParts at h
    split at h
    · rename_i y l hy hl
      cases h
      obtain ⟨h1, h2⟩ := evParts_sound hM hl
      refine ⟨by simpa using h1, fun j p q hp hq => ?_⟩
      cases j with
      | zero =>
        simp at hp hq
        subst hp; subst hq
        exact ⟨rfl, ev_sound hM hy⟩
      | succ j => exact h2 j p q (by simpa using hp) (by simpa using hq)
    · cases h

theorem run_value {x : Sem Value} {v : Value} {w w' : World} (h : x.run P w = .ok v w') : (do pure (Next.value (← x)) : Sem Next).run P w = .ok (.value v) w' := by
  simp [Sem.run_bind, h]

theorem run_equal_if {t : TypeId} {ms : Array (String × TypeId)} (hu : P.underlying t = some (.interface ms)) (w : World) {a : Value} (b : Bool) (h : (a = .nilIface ∧ b = true) ∨ (∃ u v, a = .iface u v ∧ b = false)) : (Op.equal t a .nilIface).run P w = .ok b w := by
  have h : ∀ d : Nat, (Op.equalIn (d + 1) t a .nilIface).run P w = .ok b w := fun d => by
    rcases h with ⟨rfl, rfl⟩ | ⟨u, v, rfl, rfl⟩
    · simp only [Op.equalIn, Sem.run_bind, run_underlying hu, Result.andThen_ok]
      rfl
    · simp only [Op.equalIn, Sem.run_bind, run_underlying hu, Result.andThen_ok]
      rfl
  exact h 9999
theorem ifDat_sound (hT : TyOk P ty) {op : BinOp} {t : TypeId} {x y : Dat} {z : Bool} {yc : Bool} (h : ifDat op (ty t) yc x y = some z) {w : World} {pr : Nat → Bool} {v u : Value}
    (hx : RepD w pr x v) (hy : RepD w pr y u) (a b : Operand) (hc : yc = constB b) : (do eqGuard op t a b v u; binOp op t v u : Sem Value).run P w = .ok (.bool z) w := by
  subst hc
  unfold ifDat at h
  split at h
  · rename_i ht
    have hu := hT.und t _ ht
    split at h
    · rename_i hcb
      cases hx; cases hy
      have hg : eqGuard op t a b .nilIface .nilIface = pure () := by
        cases b <;> simp only [constB, reduceCtorEq] at hcb
        cases op <;> simp [eqGuard]
      rw [hg]
      split at h
      · cases h
        show (do pure (); (do pure (Value.bool (← Op.equal t .nilIface .nilIface)) : Sem Value)).run P w = _
        simp only [Sem.run_bind, Sem.run_pure, Result.andThen_ok, run_equal_if hu w true (.inl ⟨rfl, rfl⟩)]
      · cases h
        show (do pure (); (do pure (Value.bool (!(← Op.equal t .nilIface .nilIface))) : Sem Value)).run P w = _
        simp only [Sem.run_bind, Sem.run_pure, Result.andThen_ok, run_equal_if hu w true (.inl ⟨rfl, rfl⟩)]
        rfl
      · cases h
    · cases hx; cases hy
      rename_i tt vv
      rw [eqGuard_bare _ _ _ _ _ _ (by simp) (by simp)]
      split at h
      · cases h
        show (do pure (); (do pure (Value.bool (← Op.equal t (.iface _ _) .nilIface)) : Sem Value)).run P w = _
        simp only [Sem.run_bind, Sem.run_pure, Result.andThen_ok, run_equal_if hu w false (.inr ⟨_, _, rfl, rfl⟩)]
      · cases h
        show (do pure (); (do pure (Value.bool (!(← Op.equal t (.iface _ _) .nilIface))) : Sem Value)).run P w = _
        simp only [Sem.run_bind, Sem.run_pure, Result.andThen_ok, run_equal_if hu w false (.inr ⟨_, _, rfl, rfl⟩)]
        rfl
      · cases h
    · cases h
  · cases h
theorem pureOp_sound (hT : TyOk P ty) {σ : St} {a : Act} {c : Ct} (hM : Models σ a c) {o : Oper} {p : Prop} {y : AV} (h : pureOp ty σ o.type o.op = some (p, y)) (hp : p) :
    ∃ v, (execOp a.eval o).run P c.w = .ok (.value v) c.w ∧ Rep c y v := by
  obtain ⟨dst, op, t, pos, after, guard⟩ := o
  simp only at h
  cases op <;> simp only [pureOp, reduceCtorEq] at h
  case move x => exact ⟨_, rfl, ev_sound hM (ok1_eq h)⟩
  case assign x => exact ⟨_, rfl, ev_sound hM (ok1_eq h)⟩
  case pick cnd x z =>
    split at h
    · rename_i hc
      have := Rep.bool_inv (ev_sound hM hc)
      exact ⟨_, by simp [execOp, this, asBool], ev_sound hM (ok1_eq h)⟩
    · rename_i hc
      have := Rep.bool_inv (ev_sound hM hc)
      exact ⟨_, by simp [execOp, this, asBool], ev_sound hM (ok1_eq h)⟩
    · cases h
  case load lt x =>
    split at h
    · rename_i hy ht
      obtain ⟨q, z', hl, hq, hz⟩ := canonA_sound (c := c) h hp
      obtain ⟨u, hu, hr⟩ := loadAV_sound hT hM ht hl hq (ev_sound hM hy)
      exact ⟨u, run_value hu, hz u hr⟩
    · cases h
  case build bt parts =>
    split at h
    · rename_i fields sz b z zd ht
      split at h
      · rename_i l hl
        split at h
        · rename_i cs hcs
          cases h
          have hu := hT.und _ _ ht
          obtain ⟨j, hj, hjs, _, hjz⟩ := hT.info _ _ ht
          obtain ⟨hz1, hz2⟩ := hT.zsize _ _ ht
          obtain ⟨h1, h2⟩ := evParts_sound hM hl
          have hzr := hT.zrep _ _ ht
          have hzo := hT.zone _ _ ht
          have hcs0 : CsRep c (zd.map .d) z.cells := by
            refine ⟨by simpa using hz1.trans hz2.symm, ?_, ?_⟩
            · intro y hy
              obtain ⟨q, hq, rfl⟩ := List.mem_map.1 hy
              exact hzo q hq
            · intro j y hy
              rw [List.getElem?_map] at hy
              obtain ⟨q, hq, rfl⟩ := Option.map_eq_some_iff.1 hy
              exact .d (hzr c.w c.pr j q hq)
          obtain ⟨places, hpl⟩ : ∃ places, fields.toList.mapM (fun f => (P.info? f.type).map fun i => (f.offset, i.size)) = some places := hT.places _ _ ht fields rfl
          obtain ⟨vs', hfill, hcr⟩ := fillA_sound hT hpl l _ _ _ cs hcs0 h1 h2 hcs
          have hb : P.built bt (parts.map fun (i, x) => (i, a.eval x)).toList = some vs' := by
            have hu' : P.underlying bt = some (.struct fields) := hu
            have hjz' : j.zero = some z := hjz
            unfold Program.built
            rw [hj, hu']
            simp only [hjz', hpl]
            simpa using hfill
          exact ⟨_, run_value (run_build c.w bt _ _ hb), .agg cs vs' hcr.1 hcr.2.1 hcr.2.2⟩
        · cases h
      · cases h
    · cases h
  case binOp op xt x z yt =>
    split at h
    · rename_i hx hz
      split at h
      · rename_i hb
        cases h
        obtain ⟨r, hr, hrep⟩ := binDat_sound hT hb hp (by cases ev_sound hM hx with | d h => exact h) (by cases ev_sound hM hz with | d h => exact h) x z
        exact ⟨r, run_value hr, .d hrep⟩
      · split at h
        · rename_i hb
          cases h
          refine ⟨.bool _, run_value (ifDat_sound hT hb (by cases ev_sound hM hx with | d h => exact h) (by cases ev_sound hM hz with | d h => exact h) x z rfl), .d (.bool _)⟩
        · cases h
    · cases h
  case unOp op xt x =>
    cases op <;> simp only [reduceCtorEq] at h
    case not =>
      split at h
      · rename_i hx
        cases h
        have := Rep.bool_inv (ev_sound hM hx)
        exact ⟨_, by simp [execOp, this, Op.unary], .d (.bool _)⟩
      · cases h
    case neg =>
      split at h
      · rename_i hx
        cases h
        have := Rep.int_inv (ev_sound hM hx)
        exact ⟨_, run_value (by rw [this]; simp only [Op.unary, Op.intArith]; rfl), .d (.int _ _)⟩
      · cases h
  case convert src dst x =>
    split at h
    · rename_i hx
      obtain ⟨u, hu, hr⟩ := convA_sound hT hM h hp (ev_sound hM hx)
      exact ⟨u, run_value hu, hr⟩
    · cases h
  case makeFunc fn first captured =>
    cases fn <;> simp only [reduceCtorEq] at h
    rename_i f
    split at h
    · rename_i l hf hl
      cases h
      obtain ⟨h1, h2⟩ := evAll_sound hM hl
      have hfe : first = #[] := by
        rcases first with ⟨l⟩
        simpa using hf
      subst hfe
      refine ⟨.func (.func f) #[] (captured.map a.eval), by simp [execOp, Instr.makeFunc], ?_⟩
      refine .fn f l (captured.map a.eval) (by simp [h1]) (fun j y hj => ?_)
      have := h2 j y hj
      simpa using this
    · cases h
  case slice xt x lo hi mx =>
    split at h
    · rename_i y' l' h' m' hy hl hh hm
      have rl := evO_sound hM hl
      have rh := evO_sound hM hh
      have rm := evO_sound hM hm
      have hx := ev_sound hM hy
      split at h
      · rename_i ht
        have := Rep.str_inv hx
        simp only [sliceA] at h
        split at h
        · split at h
          · rename_i hb
            cases h
            have rm' : mx = none := by
              cases mx with
              | none => rfl
              | some q => simp [ORepV] at rm
            subst rm'
            obtain ⟨m, hrun, h1, h2, h3, h4⟩ := boundsA_sound (P := P) (isS := false) hb hp rl rh (vm := none) trivial (Nat.le_refl _) c.w
            refine ⟨_, run_value ?_, .d (.str _)⟩
            rw [this]
            exact run_slice_str hT ht rfl hrun
          · cases h
        · cases h
      · rename_i ht
        split at h
        · rename_i ei hei
          split at h
          · rename_i hek
            have hek' := ekB_eq hek
            simp only [sliceA] at h
            split at h
            · rename_i hb
              cases h
              cases hx with
              | d hd =>
                obtain ⟨av, cap, hav, hcap⟩ := hd.sl_len
                rw [hav] at hd
                obtain ⟨m, hrun, h1, h2, h3, h4⟩ := boundsA_sound (P := P) (isS := true) hb hp rl rh rm hcap c.w
                have hes := (hT.esz hei).symm
                rw [← hek'] at hes
                refine ⟨_, run_value ?_, .d (sliced_rep hd hes h1 h2 h3 h4)⟩
                rw [hav]
                exact run_slice_sl hT ht rfl hei hrun
            · cases h
          · cases h
        · cases h
      · cases h
    · cases h
  case fieldAddr s x f =>
    split at h
    · rename_i hy ht
      split at h
      · rename_i fd hfd
        split at h
        · rename_i fi hfi
          split at h
          · rename_i h0
            obtain ⟨u, hu, hr⟩ := fieldA_sound hT hM ht rfl hfd hfi (by
              intro e
              rw [e] at h0
              simp at h0) (ok1_eq h) (ev_sound hM hy)
            exact ⟨u, run_value hu, hr⟩
          · cases h
        · cases h
      · cases h
    · cases h
  case indexAddr st x ix =>
    split at h
    · rename_i hy hix ht
      split at h
      · rename_i ei hei
        have := Rep.int_inv (ev_sound hM hix)
        obtain ⟨u, hu, hr⟩ := indexA_sound hT hM ht rfl hei h hp (ev_sound hM hy)
        exact ⟨u, run_value (by rw [this]; exact hu), hr⟩
      · cases h
    · cases h
  case index xt x ix =>
    split at h
    · rename_i hy hix ht
      cases h
      have h1 := Rep.str_inv (ev_sound hM hy)
      have h2 := Rep.int_inv (ev_sound hM hix)
      have hu := hT.und _ _ ht
      rename_i s k n _ _ _ _
      obtain ⟨h3, h4⟩ := hp
      have hlt : n.toNat < s.size := by omega
      have hget : s[n.toNat]? = some (s.data.toList.getD n.toNat 0) := by
        have hlt' : n.toNat < s.data.size := hlt
        rw [getElem?_pos s n.toNat hlt]
        have e2 : s.data[n.toNat]? = some s.data[n.toNat] := Array.getElem?_eq_getElem hlt'
        simp [e2]
        rfl
      refine ⟨_, run_value ?_, .d (.int _ _)⟩
      rw [h1, h2]
      simp [Instr.index, run_underlying hu, asIntOf, h3, hget]
    · cases h
  case extract x k =>
    split at h
    · rename_i l hx
      have hxr := ev_sound hM hx
      have hk := ok1_eq h
      cases hv : a.eval x with
      | tuple vs =>
        rw [hv] at hxr
        cases hxr with
        | tup cs vs hl hr =>
          have hlt : k < vs.size := by rw [hl]; exact (List.getElem?_eq_some_iff.1 hk).1
          exact ⟨vs.getD k undef, by simp [execOp, hv, Instr.extract, hlt], hr k _ hk⟩
      | _ => rw [hv] at hxr; cases hxr
    · rename_i l hx
      have hxr := ev_sound hM hx
      split at h
      · rename_i y hk
        cases h
        cases hxr with
        | d hxr =>
          cases hv : a.eval x with
          | tuple vs =>
            rw [hv] at hxr
            cases hxr with
            | tup cs vs hl hr =>
              have hlt : k < vs.size := by rw [hl]; exact (List.getElem?_eq_some_iff.1 hk).1
              exact ⟨vs.getD k undef, by simp [execOp, hv, Instr.extract, hlt], .d (hr k _ hk)⟩
          | _ => rw [hv] at hxr; cases hxr
      · cases h
    · cases h
  case call cl =>
    split at h
    · rename_i x at_ hcl harg hat
      split at h
      · rename_i hx
        obtain ⟨callee, args, argTypes⟩ := cl
        simp only at hcl harg hat
        subst hcl
        have ha : args = #[x] := by
          rcases args with ⟨l⟩
          simpa using harg
        have ht : argTypes = #[at_] := by
          rcases argTypes with ⟨l⟩
          simpa using hat
        subst ha; subst ht
        obtain ⟨u, hu, hr⟩ := lenA_sound (rt := t) hT hM (ok1_eq h) (ev_sound hM hx)
        refine ⟨u, ?_, hr⟩
        simp [execOp, resolve, invoke, builtin, hu]
      · cases h
    · rename_i x z t1 t2 hcl harg hat
      split at h
      · rename_i hx hz
        cases h
        obtain ⟨callee, args, argTypes⟩ := cl
        simp only at hcl harg hat
        subst hcl
        have ha : args = #[x, z] := by
          rcases args with ⟨l⟩
          simpa using harg
        have ht : argTypes = #[t1, t2] := by
          rcases argTypes with ⟨l⟩
          simpa using hat
        subst ha; subst ht
        have e1 := Rep.int_inv (ev_sound hM hx)
        have e2 := Rep.int_inv (ev_sound hM hz)
        refine ⟨_, ?_, .d (.int _ _)⟩
        simp [execOp, resolve, invoke, builtin, e1, e2, Builtin.min_, Builtin.min2, minI]
      · cases h
    · rename_i x z t1 t2 hcl harg hat
      split at h
      · rename_i hx hz
        cases h
        obtain ⟨callee, args, argTypes⟩ := cl
        simp only at hcl harg hat
        subst hcl
        have ha : args = #[x, z] := by
          rcases args with ⟨l⟩
          simpa using harg
        have ht : argTypes = #[t1, t2] := by
          rcases argTypes with ⟨l⟩
          simpa using hat
        subst ha; subst ht
        have e1 := Rep.int_inv (ev_sound hM hx)
        have e2 := Rep.int_inv (ev_sound hM hz)
        refine ⟨_, ?_, .d (.int _ _)⟩
        simp [execOp, resolve, invoke, builtin, e1, e2, Builtin.max_, Builtin.max2, maxI]
      · cases h
    · cases h
end
end Go.Am
