/- The abstract machine, seventeenth part: what slices.Grow, slices.Concat, slices.Clone need: comparisons with nil, append of zeros, a row cut short, nil as a row. No program. -/
import Derived.Test.YtaenfbgamkieiaaDoorAmP
import Derived.Lib.AppendZeros
namespace Go.Am
open Go.RowKit
set_option linter.unusedSimpArgs false
set_option linter.unusedVariables false

section
variable {P : Program} {Γ : Env} {Q : Exit → St → Prop} {σ : St} {ty : TypeId → Option TI}

/-! ### nil -/
theorem run_equal_nil {t e : TypeId} (hu : P.underlying t = some (.slice e)) (a : Option Addr) (n c : Nat) (w : World) : (Op.equal t (.slice a n c) (.slice none 0 0)).run P w = .ok a.isNone w := by
  have h : ∀ d : Nat, (Op.equalIn (d + 1) t (.slice a n c) (.slice none 0 0)).run P w = .ok a.isNone w := fun d => by
    simp only [Op.equalIn, Sem.run_bind, run_underlying hu, Result.andThen_ok]
    cases a <;> rfl
  exact h 9999
theorem run_eql_nil {t e : TypeId} (hu : P.underlying t = some (.slice e)) (a : Option Addr) (n c : Nat) (w : World) : (binOp .eql t (.slice a n c) (.slice none 0 0)).run P w = .ok (.bool a.isNone) w := by
  show (do pure (Value.bool (← Op.equal t (.slice a n c) (.slice none 0 0))) : Sem Value).run P w = _
  simp only [Sem.run_bind, run_equal_nil hu, Result.andThen_ok]
  rfl
theorem run_neq_nil {t e : TypeId} (hu : P.underlying t = some (.slice e)) (a : Option Addr) (n c : Nat) (w : World) : (binOp .neq t (.slice a n c) (.slice none 0 0)).run P w = .ok (.bool (!a.isNone)) w := by
  show (do pure (Value.bool (!(← Op.equal t (.slice a n c) (.slice none 0 0)))) : Sem Value).run P w = _
  simp only [Sem.run_bind, run_equal_nil hu, Result.andThen_ok]
  rfl
/-- Is a slice nil? If so it is empty; more is not known. -/
theorem aops_isnil (hT : TyOk P ty) {ops rest : List Oper} {o : Oper} {t rt e : TypeId} {x z : Operand} {ti : TI} {y : AV} {ek ek' : Option Nat} {xs : List Dat} (hw : wantedA ops σ o = some true) (hd : dstOk σ o.dst = true) (ho : o.op = .binOp .eql t x z rt) (ht : ty t = some ti) (hde : ti.desc = .slice e)
    (hx : σ.ev ty t x = some y) (hs : σ.sl y = some (ek, xs)) (hz : σ.ev ty t z = some (.nil ek')) (k : ∀ b, (b = true → xs = []) → AOps P Γ ops Q rest (σ.put o.dst (.d (.bool b)))) : AOps P Γ ops Q (o :: rest) σ :=
  aops_step hw fun C0 a C K R b ev m hk => by
    obtain ⟨A, cap, hv, h1, h2, h3, h4, h5⟩ := sl_sound m hs (ev_sound m hx)
    have hzv : a.eval z = .slice none 0 0 := by
      have := ev_sound m hz
      generalize a.eval z = v at this
      cases this
      rfl
    have hu := hT.und _ _ ht
    rw [hde] at hu
    have hrun : (execOp a.eval o).run P C.w = .ok (.value (.bool A.isNone)) C.w := by
      unfold execOp
      simp only [ho, hv, hzv]
      refine run_value ?_
      rw [eqGuard_bare _ _ _ _ _ _ (by simp) (by simp)]
      simp only [Sem.run_bind, Sem.run_pure, Result.andThen_ok, run_eql_nil hu]
    refine upon_value hrun (hk _ C _ (m.put (.d (.bool _)) (dstOk_spec hd)) ev (k A.isNone (fun hn => ?_)))
    cases A with
    | none =>
      have := h4 rfl
      exact List.eq_nil_of_length_eq_zero (by omega)
    | some ad => simp at hn
theorem aops_notnil (hT : TyOk P ty) {ops rest : List Oper} {o : Oper} {t rt e : TypeId} {x z : Operand} {ti : TI} {y : AV} {ek ek' : Option Nat} {xs : List Dat} (hw : wantedA ops σ o = some true) (hd : dstOk σ o.dst = true) (ho : o.op = .binOp .neq t x z rt) (ht : ty t = some ti) (hde : ti.desc = .slice e)
    (hx : σ.ev ty t x = some y) (hs : σ.sl y = some (ek, xs)) (hz : σ.ev ty t z = some (.nil ek')) (k : ∀ b, (b = false → xs = []) → AOps P Γ ops Q rest (σ.put o.dst (.d (.bool b)))) : AOps P Γ ops Q (o :: rest) σ :=
  aops_step hw fun C0 a C K R b ev m hk => by
    obtain ⟨A, cap, hv, h1, h2, h3, h4, h5⟩ := sl_sound m hs (ev_sound m hx)
    have hzv : a.eval z = .slice none 0 0 := by
      have := ev_sound m hz
      generalize a.eval z = v at this
      cases this
      rfl
    have hu := hT.und _ _ ht
    rw [hde] at hu
    have hrun : (execOp a.eval o).run P C.w = .ok (.value (.bool (!A.isNone))) C.w := by
      unfold execOp
      simp only [ho, hv, hzv]
      refine run_value ?_
      rw [eqGuard_bare _ _ _ _ _ _ (by simp) (by simp)]
      simp only [Sem.run_bind, Sem.run_pure, Result.andThen_ok, run_neq_nil hu]
    refine upon_value hrun (hk _ C _ (m.put (.d (.bool _)) (dstOk_spec hd)) ev (k (!A.isNone) (fun hn => ?_)))
    cases A with
    | none =>
      have := h4 rfl
      exact List.eq_nil_of_length_eq_zero (by omega)
    | some ad => simp at hn

theorem eval_nil {a : Act} {C : Ct} (m : Models σ a C) {t : TypeId} {x : Operand} {ek : Option Nat} (hx : σ.ev ty t x = some (.nil ek)) : a.eval x = .slice none 0 0 := by
  have := ev_sound m hx
  generalize a.eval x = v at this
  cases this
  rfl
theorem aops_capnil (hT : TyOk P ty) {ops rest : List Oper} {o : Oper} {t e : TypeId} {x : Operand} {ti : TI} {ek : Option Nat} (hw : wantedA ops σ o = some true) (hd : dstOk σ o.dst = true) (ho : o.op = .call { callee := .builtin .cap, args := #[x], argTypes := #[t] }) (ht : ty t = some ti) (hde : ti.desc = .slice e)
    (hx : σ.ev ty t x = some (.nil ek)) (k : AOps P Γ ops Q rest (σ.put o.dst (.d (.int .i64 0)))) : AOps P Γ ops Q (o :: rest) σ :=
  aops_step hw fun C0 a C K R b ev m hk => by
    have hv := eval_nil m hx
    have hu := hT.und _ _ ht
    rw [hde] at hu
    have hrun : (execOp a.eval o).run P C.w = .ok (.value (.int .i64 0)) C.w := by
      unfold execOp
      simp only [ho]
      simp [resolve, invoke, builtin, hv, Builtin.cap_, run_underlying hu, goInt]
    exact upon_value hrun (hk _ C _ (m.put (.d (.int _ _)) (dstOk_spec hd)) ev k)

/-- A value that is no object yet is taken up as one. -/
def Ct.reg (C : Ct) (id : Nat) (v : Value) : Ct := { C with ρ := fun i => if i = id then v else C.ρ i, ok := fun i => C.ok i || Nat.beq i id }
theorem Ct.reg_evo {C : Ct} {id : Nat} (hid : C.ok id = false) (v : Value) : Evo C (C.reg id v) :=
  ⟨rfl, rfl, rfl, Nat.le_refl _, fun _ _ h => ⟨rfl, h⟩, fun i hi => by simp [Ct.reg, hi], fun i hi => by simp only [Ct.reg]; rw [if_neg (ok_ne hid hi)], rfl, fun _ _ => rfl, fun _ _ => rfl⟩
theorem Models.nilrow {a : Act} {C : Ct} (m : Models σ a C) (ek : Option Nat) (e : TypeId) : Models (σ.add none (.row ek e [])) a (C.reg σ.nx (.slice none 0 0)) := by
  refine m.addAt (Ct.reg_evo m.fresh _) σ.nx (σ.nx + 1) none _ (by simp) (fun i hi => ok_or hi) (Nat.le_succ _) (Nat.lt_succ_self _) ?_ (fun j oj g hj he _ hg => ?_)
  · refine ⟨by simp [Ct.reg], [], ?_, ?_, by intro k x hk; simp at hk⟩
    · simp only [Ct.reg, if_true]
      exact World.ownsRow_nil _ _ _ _
    · simp [Ct.reg, blk]
  · obtain ⟨h1, h2, _⟩ := (m.ob j oj hj).excl he hg
    exact ⟨rfl, h2, by simp [Ct.reg, blk]⟩
theorem Models.nilput {a : Act} {C : Ct} (m : Models σ a C) {s : Nat} {ek : Option Nat} (hs : σ.get s = some (.nil ek)) (e : TypeId) : Models ((σ.add none (.row ek e [])).put (some s) (.ref σ.nx)) a (C.reg σ.nx (.slice none 0 0)) := by
  have m' := m.nilrow ek e
  obtain ⟨h1, h2⟩ := m.tm s _ hs
  have hv : a.tmps.getD s undef = .slice none 0 0 := by
    generalize a.tmps.getD s undef = v at h2
    cases h2
    rfl
  have hp := m'.put (dst := some s) (x := .ref σ.nx) (v := .slice none 0 0) (.ref σ.nx (by simp [Ct.reg]) _ (by simp [Ct.reg]) rfl) (fun d hd => by cases hd; exact h1)
  have ha : a.put (some s) (.slice none 0 0) = a := by
    have hlt : s < a.tmps.size := by rw [m.sz]; exact h1
    cases a with
    | mk tmps defers =>
      simp only [Act.put]
      congr 1
      apply Array.ext
      · simp only [Array.size_setIfInBounds]
      · intro i h3 h4
        by_cases hi : s = i
        · subst hi
          have h5 : s < tmps.size := h4
          have hv' : tmps[s] = .slice none 0 0 := by simpa [h5] using hv
          simp [hv']
        · exact Array.getElem_setIfInBounds_ne h4 hi
  rw [ha] at hp
  exact hp
theorem aops_nilrow (s : Nat) (e : TypeId) {ops rest : List Oper} {ek : Option Nat} (hs : σ.get s = some (.nil ek)) (k : AOps P Γ ops Q rest ((σ.add none (.row ek e [])).put (some s) (.ref σ.nx))) : AOps P Γ ops Q rest σ := fun C0 a C b ev m =>
  k C0 a (C.reg σ.nx (.slice none 0 0)) b (ev.trans (Ct.reg_evo m.fresh _)) (m.nilput hs e)
theorem awp_nilrow (s : Nat) (e : TypeId) {c : Code} {ek : Option Nat} (hs : σ.get s = some (.nil ek)) (k : AWp P Γ c Q ((σ.add none (.row ek e [])).put (some s) (.ref σ.nx))) : AWp P Γ c Q σ := fun C0 a C b ev m =>
  k C0 a (C.reg σ.nx (.slice none 0 0)) b (ev.trans (Ct.reg_evo m.fresh _)) (m.nilput hs e)

/-! ### Rows -/
/-- append(nil, make([]T, n)...). -/
theorem aops_zeros (hT : TyOk P ty) {ops rest : List Oper} {o : Oper} {t tn e : TypeId} {x z : Operand} {ti tni ei : TI} {kn kq : IntKind} {n : Int} {ek : Option Nat} (hw : wantedA ops σ o = some true) (hd : dstOk σ o.dst = true)
    (ho : o.op = .call { callee := .builtin .append, args := #[x, z], argTypes := #[t, tn] }) (ht : ty t = some ti) (hde : ti.desc = .slice e) (he : ty e = some ei) (htn : ty tn = some tni) (hdn : tni.desc = .int kq)
    (hx : σ.ev ty t x = some (.nil ek)) (hz : σ.ev ty tn z = some (.d (.int kn n))) (h0 : Nat.ble 1 ei.size = true) (hby : Nat.ble ei.bytes 128 = true) (hn : 0 < n) (hN : n ≤ 1099511627776)
    (k : AOps P Γ ops Q rest ((σ.add none (.row ei.ek e (List.replicate n.toNat ei.zdat))).put o.dst (.ref σ.nx))) : AOps P Γ ops Q (o :: rest) σ :=
  aops_step hw fun C0 a C K R b ev m hk => by
    have hB := (b.evo ev).B
    have hes := hT.esz he
    obtain ⟨j, hj, hjs, hjb, hjz⟩ := hT.info _ _ he
    obtain ⟨hz1, hz2⟩ := hT.zsize _ _ he
    have hu := hT.und _ _ ht
    rw [hde] at hu
    have hun := hT.und _ _ htn
    rw [hdn] at hun
    have hx' := eval_nil m hx
    have hz' := Rep.int_inv (ev_sound m hz)
    have hble := Nat.le_of_ble_eq_true hby
    have hnn : ((n.toNat : Nat) : Int) = n := by omega
    have hbytes : n.toNat * j.bytes ≤ 281474976710656 := by
      have h1 : n.toNat * j.bytes ≤ n.toNat * 128 := Nat.mul_le_mul_left _ (by rw [hjb]; exact hble)
      omega
    have hpos : 0 < j.size := by rw [hjs]; exact Nat.le_of_ble_eq_true h0
    have hr := Lib.run_append_nil_zeros (P := P) C.w t tn o.type e j ei.zero kn kq hu hun hj hjz n.toNat (by omega) hpos (by omega) hbytes
    rw [hnn] at hr
    obtain ⟨cap, hcap⟩ : ∃ cap, cap = grownCap C.w n.toNat 0 e := ⟨_, rfl⟩
    rw [← hcap] at hr
    have hge : n.toNat ≤ cap := by rw [hcap]; exact grownCap_ge C.w _ _ _
    have hmx : cap ≤ maxLen := by rw [hcap]; exact grownCap_le_maxLen C.w n.toNat 0 e (by simp only [maxLen]; omega)
    have hop : (execOp a.eval o).run P C.w = .ok (.value (.slice (some ⟨C.w.heap.size, 0, none⟩) n.toNat cap)) (C.w.drew.alloc (.cells (Builtin.zeroCells ei.zero.cells n.toNat ++ Builtin.zeroCells ei.zero.cells (cap - n.toNat)) e)) := by
      unfold execOp
      simp only [ho]
      simp [resolve, invoke, builtin, hx', hz', hr]
    have md : Models σ a C.draw := m.mono C.draw_evo (fun i hi => hi) (fun i o g hi he hg => ⟨rfl, ((m.ob i o hi).excl he hg).2.1⟩)
    have hzs : ∀ q, (Builtin.zeroCells ei.zero.cells q).size = q * ei.size := fun q => by simp [Builtin.zeroCells, hz1]
    have hlr : (List.replicate n.toNat ei.zdat).length = n.toNat := by simp
    have hrow : ORep (C.draw.new σ.nx (.cells (Builtin.zeroCells ei.zero.cells n.toNat ++ Builtin.zeroCells ei.zero.cells (cap - n.toNat)) e) (.slice (some ⟨C.w.heap.size, 0, none⟩) n.toNat cap)) σ.nx (.row ei.ek e (List.replicate n.toNat ei.zdat)) := by
      have := new_row (C := C.draw) md.fresh hB (ek := ei.ek) (e := e) (xs := List.replicate n.toNat ei.zdat) (vs := Builtin.zeroCells ei.zero.cells n.toNat ++ Builtin.zeroCells ei.zero.cells (cap - n.toNat)) cap (by simpa using hge) hmx
        (by rw [Array.size_append, hzs, hzs, hes, ← Nat.add_mul]; congr 1; omega) (by
        intro k x hkx
        rw [List.getElem?_replicate] at hkx
        split at hkx
        · rename_i hlt
          cases hkx
          refine ⟨zdat_fits hT he, fun j y hj => ?_⟩
          rw [zdat_cells hT he] at hj
          have hjl : j < ei.size := by rw [← hz2]; exact (List.getElem?_eq_some_iff.1 hj).1
          refine ⟨ei.zero.cells.getD j undef, ?_, hT.zrep _ _ he _ _ j y hj⟩
          have hlt2 : k * ei.size + j < n.toNat * ei.size := mul_lt_of hlt hjl
          have hmod : (k * ei.size + j) % ei.zero.cells.size = j := by rw [hz1, Nat.mul_comm, Nat.mul_add_mod]; exact Nat.mod_eq_of_lt hjl
          have hjz' : j < ei.zero.cells.size := by rw [hz1]; exact hjl
          show (Builtin.zeroCells ei.zero.cells n.toNat ++ Builtin.zeroCells ei.zero.cells (cap - n.toNat))[k * esz ei.ek + j]? = _
          rw [hes, Array.getElem?_append_left (by rw [hzs]; exact hlt2)]
          have hlt3 : k * ei.size + j < n.toNat * ei.zero.cells.size := by rw [hz1]; exact hlt2
          simp only [Builtin.zeroCells]
          simp [hlt3, hmod, hjz']
        · cases hkx)
      rw [hlr] at this
      exact this
    have m' := md.new hB _ _ rfl _ hrow
    refine upon_value hop (hk _ (C.draw.new _ _ _) _ (m'.put (v := .slice (some ⟨C.w.heap.size, 0, none⟩) n.toNat cap) ?_ (dstOk_spec hd)) ((ev.trans C.draw_evo).trans (Ct.new_evo md.fresh hB _ _)) k)
    exact .ref _ (by simp [Ct.new]) _ (by simp [Ct.new]) rfl

/-- x[:h] of a row of one's own. -/
theorem aops_cut (hT : TyOk P ty) {ops rest : List Oper} {o : Oper} {t e : TypeId} {x z : Operand} {ti ei : TI} {i : Nat} {ek : Option Nat} {e' : TypeId} {xs : List Dat} {kq : IntKind} {h : Int} (hw : wantedA ops σ o = some true) (hd : dstOk σ o.dst = true) (ho : o.op = .slice t x none (some z) none) (ht : ty t = some ti) (hde : ti.desc = .slice e) (he : ty e = some ei)
    (hx : σ.ev ty t x = some (.ref i)) (hob : σ.obj i = some (.row ek e' xs)) (hz : σ.ev ty 0 z = some (.d (.int kq h))) (h0 : 0 ≤ h) (hh : h ≤ xs.length)
    (k : AOps P Γ ops Q rest ((σ.add (some i) (.row ek e' (xs.take h.toNat))).put o.dst (.ref σ.nx))) : AOps P Γ ops Q (o :: rest) σ :=
  aops_step hw fun C0 a C K R b ev m hk => by
    have hz' := Rep.int_inv (ev_sound m hz)
    have hB := (b.evo ev).B
    have hxr := ev_sound m hx
    have hor := m.ob i _ hob
    obtain ⟨hi, vals, hown, hp, hcr⟩ := hor
    have hvx : a.eval x = C.ρ i := by
      generalize a.eval x = v at hxr
      cases hxr with
      | ref i hi v hv h1 => exact hv
    obtain ⟨A, cap, hv, hlc, hA⟩ : ∃ A cap, C.ρ i = .slice A xs.length cap ∧ xs.length ≤ cap ∧ (∀ ad, A = some ad → ad.off = 0 ∧ ad.spot = none) := by
      rcases hown.2 with ⟨hn, h0'⟩ | ⟨g, cap, cur, hv, _, _, hnc, _⟩
      · exact ⟨none, 0, by rw [hn, h0'], by omega, by simp⟩
      · exact ⟨_, cap, hv, hnc, fun ad had => by cases had; exact ⟨rfl, rfl⟩⟩
    have hb : (Instr.sliceBounds true xs.length cap none (some (.int kq h)) none).run P C.w = .ok (0, h.toNat, cap) C.w := by
      simp [Instr.sliceBounds, run_sliceBound, h0, (by omega : h ≤ (cap : Int))]
    have hrun : (execOp a.eval o).run P C.w = .ok (.value (.slice A h.toNat cap)) C.w := by
      unfold execOp
      simp only [ho, hvx, hv, hz', Option.map_none, Option.map_some]
      refine run_value ?_
      rw [run_slice_sl hT ht hde he hb]
      have hAe : (if cap = 0 then A else A.map (·.add (0 * ei.size))) = A := by
        split
        · rfl
        · cases A with
          | none => rfl
          | some ad =>
            obtain ⟨h3, h4⟩ := hA ad rfl
            obtain ⟨ab, ao, asp⟩ := ad
            simp only at h3 h4
            subst h3 h4
            simp [Addr.add_lit]
      rw [hAe]
      simp
    have hle : (xs.take h.toNat).length = h.toNat := by simp; omega
    have e1 := Ct.reg_evo (C := C) m.fresh (.slice A h.toNat cap)
    have m' : Models (σ.add (some i) (.row ek e' (xs.take h.toNat))) a (C.reg σ.nx (.slice A h.toNat cap)) := by
      refine m.addAt e1 σ.nx (σ.nx + 1) (some i) _ (fun j hj => by cases hj; exact hi) (fun i hi => ok_or hi) (Nat.le_succ _) (Nat.lt_succ_self _) ?_ (fun j oj g hj hje hkj hg => ?_)
      · refine ⟨by simp [Ct.reg], vals.take (h.toNat * esz ek), ?_, ?_, ?_⟩
        · simp only [Ct.reg, if_true, hle]
          refine ⟨?_, ?_⟩
          · rw [List.length_take, hown.1]
            exact Nat.min_eq_left (Nat.mul_le_mul_right _ (by omega))
          · rcases hown.2 with ⟨hn, h0'⟩ | ⟨g, cap', cur, hv', hb', hg, hnc, hcm, hcs, htake⟩
            · rw [hv] at hn
              simp only [Value.slice.injEq] at hn
              obtain ⟨rfl, _, rfl⟩ := hn
              exact .inl ⟨by rw [show h.toNat = 0 by omega], by omega⟩
            · rw [hv] at hv'
              simp only [Value.slice.injEq] at hv'
              obtain ⟨rfl, _, rfl⟩ := hv'
              refine .inr ⟨g, cap, cur, rfl, hb', hg, by omega, hcm, hcs, ?_⟩
              rw [← htake, List.take_take]
              congr 1
              exact (Nat.min_eq_left (Nat.mul_le_mul_right _ (by omega))).symm
        · simp only [Ct.reg, if_true]
          intro g hg
          have : blk (C.ρ i) = some g := by rw [hv]; cases A <;> exact hg
          exact hp g this
        · intro k q hkq
          rw [List.getElem?_take] at hkq
          split at hkq
          · rename_i hlt
            obtain ⟨h1, h2⟩ := hcr k q hkq
            refine ⟨h1, fun j y hj => ?_⟩
            obtain ⟨u, hu, hr⟩ := h2 j y hj
            refine ⟨u, ?_, hr⟩
            have hjl : j < esz ek := by rw [← h1.len]; exact (List.getElem?_eq_some_iff.1 hj).1
            show (vals.take (h.toNat * esz ek))[k * esz ek + j]? = _
            rw [List.getElem?_take, if_pos (mul_lt_of hlt hjl)]
            exact hu
          · cases hkq
      · obtain ⟨h1, h2, _⟩ := (m.ob j oj hj).excl hje hg
        refine ⟨rfl, h2, ?_⟩
        simp only [Ct.reg, if_true]
        intro h3
        have h4 : blk (C.ρ i) = some g := by rw [hv]; cases A <;> exact h3
        have := m.apart i j _ oj g hob hj rfl hje h4 hg
        rw [this] at hkj
        exact hkj rfl
    refine upon_value hrun (hk _ (C.reg σ.nx (.slice A h.toNat cap)) _ (m'.put (v := .slice A h.toNat cap) ?_ (dstOk_spec hd)) (ev.trans e1) k)
    exact .ref _ (by simp [Ct.reg]) _ (by simp [Ct.reg]) rfl
/-- nil[:0]. -/
theorem aops_cutnil (hT : TyOk P ty) {ops rest : List Oper} {o : Oper} {t e : TypeId} {x z : Operand} {ti ei : TI} {ek : Option Nat} {kq : IntKind} (hw : wantedA ops σ o = some true) (hd : dstOk σ o.dst = true) (ho : o.op = .slice t x none (some z) none) (ht : ty t = some ti) (hde : ti.desc = .slice e) (he : ty e = some ei)
    (hx : σ.ev ty t x = some (.nil ek)) (hz : σ.ev ty 0 z = some (.d (.int kq 0))) (k : AOps P Γ ops Q rest (σ.put o.dst (.nil ek))) : AOps P Γ ops Q (o :: rest) σ :=
  aops_step hw fun C0 a C K R b ev m hk => by
    have hz' := Rep.int_inv (ev_sound m hz)
    have hx' := eval_nil m hx
    have hb : (Instr.sliceBounds true 0 0 none (some (.int kq 0)) none).run P C.w = .ok (0, 0, 0) C.w := by
      simp [Instr.sliceBounds, run_sliceBound]
    have hrun : (execOp a.eval o).run P C.w = .ok (.value (.slice none 0 0)) C.w := by
      unfold execOp
      simp only [ho, hx', hz', Option.map_none, Option.map_some]
      refine run_value ?_
      rw [run_slice_sl hT ht hde he hb]
      simp
    exact upon_value hrun (hk _ C _ (m.put (.nil ek) (dstOk_spec hd)) ev k)
end
end Go.Am
