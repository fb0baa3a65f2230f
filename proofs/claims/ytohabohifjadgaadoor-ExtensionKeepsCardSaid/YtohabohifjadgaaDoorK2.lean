/- Part 2 of the texts of this proof: an abstract machine for walks, the walks of the functions, plain laws. Each part says in its own first lines what is proved there. -/
import Derived.Test.YtohabohifjadgaaDoorK1
import Derived.Lib.AppendZeros
import Derived.ProofKit
import Derived.OpenShut
import Derived.ShutString
import Derived.ChangeOld
import Derived.Below
import Derived.Carry
import Derived.Lib.ItoaNum
import Derived.Lib.ParseIntB
import Derived.Lib.Bytealg
import Derived.Test.YtohabohifjadgaaDoorRows
import Derived.Laws.StructEq
import Derived.Sort.Row
import Derived.Shelf.SlicesE.Reverse
import Derived.Lib.Join
import Derived.LaidMore
import Derived.Lib.LaidTab
import Derived.MakeChecks
import Derived.Shelf.Strconv.Itoa3
import Derived.Shelf.Utf8.RuneCount
import Derived.Shelf.Strconv.Itoa0
import Derived.Shelf.Strconv.Itoa1
import Derived.Shelf.LaysM
import Derived.Shelf.Strconv.Itoa2
import Derived.Ground.MpProg
import Derived.Shelf.Pu.ParseUintPublic10
import Derived.Shelf.Pu.ErrVarParseUint
import Derived.Shelf.Strings.Search1
import Derived.Shelf.Strings.Search2
import Derived.Shelf.Strings.Search3
import Derived.Shelf.Strings.Count
import Derived.Shelf.Strings.Shaped
import Derived.Shelf.Strings.Split
import Derived.Shelf.Strings.SplitShaped
import Derived.Shelf.Unicode.DecodeSlow
import Derived.Shelf.Unicode.DecodeAny
import Derived.Test.YtohabohifjadgaaDoorProg
import Derived.Lib.Walk
import Derived.Lib.ItoaMem
import Derived.BigCall
import Derived.BigGuard
import Derived.BigFrame
import Derived.Lib.AppendIntMem

/- The abstract machine, seventeenth part: what slices.Grow, slices.Concat, slices.Clone need: comparisons with nil, append of zeros, a row cut short, nil as a row. No program. -/
namespace Go.Am
open Go.RowKit
set_option linter.unusedSimpArgs false
set_option linter.unusedVariables false

section
variable {P : Program} {Γ : Env} {Q : Exit → St → Prop} {σ : St} {ty : TypeId → Option TI}

/-! ### nil -/
theorem run_equal_nil {t e : TypeId} (hu : P.underlying t = some (.slice e)) (a : Option Addr) (n c : Nat) (w : World) : (Op.equal t (.slice a n c) (.slice none 0 0)).run P w = .ok a.isNone w := by
  have h : ∀ d : Nat, (Op.equalIn (d + 1) t (.slice a n c) (.slice none 0 0)).run P w = .ok a.isNone w := fun d => by
    simp only [Op.equalIn, Sem.run_bind, run_underlying hu, Result.andThen_ok]
    cases a <;> rfl
  exact h 9999
theorem run_eql_nil {t e : TypeId} (hu : P.underlying t = some (.slice e)) (a : Option Addr) (n c : Nat) (w : World) : (binOp .eql t (.slice a n c) (.slice none 0 0)).run P w = .ok (.bool a.isNone) w := by
  show (do pure (Value.bool (← Op.equal t (.slice a n c) (.slice none 0 0))) : Sem Value).run P w = _
  simp only [Sem.run_bind, run_equal_nil hu, Result.andThen_ok]
  rfl
/-- Is a slice nil? If so it is empty; more is not known. -/
theorem aops_isnil (hT : TyOk P ty) {ops rest : List Oper} {o : Oper} {t rt e : TypeId} {x z : Operand} {ti : TI} {y : AV} {ek ek' : Option Nat} {xs : List Dat} (hw : wantedA ops σ o = some true) (hd : dstOk σ o.dst = true) (ho : o.op = .binOp .eql t x z rt) (ht : ty t = some ti) (hde : ti.desc = .slice e)
    (hx : σ.ev ty t x = some y) (hs : σ.sl y = some (ek, xs)) (hz : σ.ev ty t z = some (.nil ek')) (k : ∀ b, (b = true → xs = []) → AOps P Γ ops Q rest (σ.put o.dst (.d (.bool b)))) : AOps P Γ ops Q (o :: rest) σ :=
  aops_step hw fun C0 a C K R b ev m hk => by
    obtain ⟨A, cap, hv, h1, h2, h3, h4, h5⟩ := sl_sound m hs (ev_sound m hx)
    have hzv : a.eval z = .slice none 0 0 := by
      have := ev_sound m hz
      generalize a.eval z = v at this
      cases this
      rfl
    have hu := hT.und _ _ ht
    rw [hde] at hu
    have hrun : (execOp a.eval o).run P C.w = .ok (.value (.bool A.isNone)) C.w := by
      unfold execOp
      simp only [ho, hv, hzv]
      refine run_value ?_
      rw [eqGuard_bare _ _ _ _ _ _ (by simp) (by simp)]
      simp only [Sem.run_bind, Sem.run_pure, Result.andThen_ok, run_eql_nil hu]
    refine upon_value hrun (hk _ C _ (m.put (.d (.bool _)) (dstOk_spec hd)) ev (k A.isNone (fun hn => ?_)))
    cases A with
    | none =>
      have := h4 rfl
      exact List.eq_nil_of_length_eq_zero (by omega)
    | some ad => simp at hn
theorem eval_nil {a : Act} {C : Ct} (m : Models σ a C) {t : TypeId} {x : Operand} {ek : Option Nat} (hx : σ.ev ty t x = some (.nil ek)) : a.eval x = .slice none 0 0 := by
  have := ev_sound m hx
  generalize a.eval x = v at this
  cases this
  rfl
theorem aops_capnil (hT : TyOk P ty) {ops rest : List Oper} {o : Oper} {t e : TypeId} {x : Operand} {ti : TI} {ek : Option Nat} (hw : wantedA ops σ o = some true) (hd : dstOk σ o.dst = true) (ho : o.op = .call { callee := .builtin .cap, args := #[x], argTypes := #[t] }) (ht : ty t = some ti) (hde : ti.desc = .slice e)
    (hx : σ.ev ty t x = some (.nil ek)) (k : AOps P Γ ops Q rest (σ.put o.dst (.d (.int .i64 0)))) : AOps P Γ ops Q (o :: rest) σ :=
  aops_step hw fun C0 a C K R b ev m hk => by
    have hv := eval_nil m hx
    have hu := hT.und _ _ ht
    rw [hde] at hu
    have hrun : (execOp a.eval o).run P C.w = .ok (.value (.int .i64 0)) C.w := by
      unfold execOp
      simp only [ho]
      simp [resolve, invoke, builtin, hv, Builtin.cap_, run_underlying hu, goInt]
    exact upon_value hrun (hk _ C _ (m.put (.d (.int _ _)) (dstOk_spec hd)) ev k)

/-- A value that is no object yet is taken up as one. -/
def Ct.reg (C : Ct) (id : Nat) (v : Value) : Ct := { C with ρ := fun i => if i = id then v else C.ρ i, ok := fun i => C.ok i || Nat.beq i id }
theorem Ct.reg_evo {C : Ct} {id : Nat} (hid : C.ok id = false) (v : Value) : Evo C (C.reg id v) :=
  ⟨rfl, rfl, rfl, Nat.le_refl _, fun _ _ h => ⟨rfl, h⟩, fun i hi => by simp [Ct.reg, hi], fun i hi => by simp only [Ct.reg]; rw [if_neg (ok_ne hid hi)], rfl, fun _ _ => rfl, fun _ _ => rfl⟩
theorem Models.nilrow {a : Act} {C : Ct} (m : Models σ a C) (ek : Option Nat) (e : TypeId) : Models (σ.add none (.row ek e [])) a (C.reg σ.nx (.slice none 0 0)) := by
  refine m.addAt (Ct.reg_evo m.fresh _) σ.nx (σ.nx + 1) none _ (by simp) (fun i hi => ok_or hi) (Nat.le_succ _) (Nat.lt_succ_self _) ?_ (fun j oj g hj he _ hg => ?_)
  · refine ⟨by simp [Ct.reg], [], ?_, ?_, by intro k x hk; simp at hk⟩
    · simp only [Ct.reg, if_true]
      exact World.ownsRow_nil _ _ _ _
    · simp [Ct.reg, blk]
  · obtain ⟨h1, h2, _⟩ := (m.ob j oj hj).excl he hg
    exact ⟨rfl, h2, by simp [Ct.reg, blk]⟩
theorem Models.nilput {a : Act} {C : Ct} (m : Models σ a C) {s : Nat} {ek : Option Nat} (hs : σ.get s = some (.nil ek)) (e : TypeId) : Models ((σ.add none (.row ek e [])).put (some s) (.ref σ.nx)) a (C.reg σ.nx (.slice none 0 0)) := by
  have m' := m.nilrow ek e
  obtain ⟨h1, h2⟩ := m.tm s _ hs
  have hv : a.tmps.getD s undef = .slice none 0 0 := by
    generalize a.tmps.getD s undef = v at h2
    cases h2
    rfl
  have hp := m'.put (dst := some s) (x := .ref σ.nx) (v := .slice none 0 0) (.ref σ.nx (by simp [Ct.reg]) _ (by simp [Ct.reg]) rfl) (fun d hd => by cases hd; exact h1)
  have ha : a.put (some s) (.slice none 0 0) = a := by
    have hlt : s < a.tmps.size := by rw [m.sz]; exact h1
    cases a with
    | mk tmps defers =>
      simp only [Act.put]
      congr 1
      apply Array.ext
      · simp only [Array.size_setIfInBounds]
      · intro i h3 h4
        by_cases hi : s = i
        · subst hi
          have h5 : s < tmps.size := h4
          have hv' : tmps[s] = .slice none 0 0 := by simpa [h5] using hv
          simp [hv']
        · exact Array.getElem_setIfInBounds_ne h4 hi
  rw [ha] at hp
  exact hp
theorem aops_nilrow (s : Nat) (e : TypeId) {ops rest : List Oper} {ek : Option Nat} (hs : σ.get s = some (.nil ek)) (k : AOps P Γ ops Q rest ((σ.add none (.row ek e [])).put (some s) (.ref σ.nx))) : AOps P Γ ops Q rest σ := fun C0 a C b ev m =>
  k C0 a (C.reg σ.nx (.slice none 0 0)) b (ev.trans (Ct.reg_evo m.fresh _)) (m.nilput hs e)
theorem awp_nilrow (s : Nat) (e : TypeId) {c : Code} {ek : Option Nat} (hs : σ.get s = some (.nil ek)) (k : AWp P Γ c Q ((σ.add none (.row ek e [])).put (some s) (.ref σ.nx))) : AWp P Γ c Q σ := fun C0 a C b ev m =>
  k C0 a (C.reg σ.nx (.slice none 0 0)) b (ev.trans (Ct.reg_evo m.fresh _)) (m.nilput hs e)

/-! ### Rows -/
/-- append(nil, make([]T, n)...). -/
theorem aops_zeros (hT : TyOk P ty) {ops rest : List Oper} {o : Oper} {t tn e : TypeId} {x z : Operand} {ti tni ei : TI} {kn kq : IntKind} {n : Int} {ek : Option Nat} (hw : wantedA ops σ o = some true) (hd : dstOk σ o.dst = true)
    (ho : o.op = .call { callee := .builtin .append, args := #[x, z], argTypes := #[t, tn] }) (ht : ty t = some ti) (hde : ti.desc = .slice e) (he : ty e = some ei) (htn : ty tn = some tni) (hdn : tni.desc = .int kq)
    (hx : σ.ev ty t x = some (.nil ek)) (hz : σ.ev ty tn z = some (.d (.int kn n))) (h0 : Nat.ble 1 ei.size = true) (hby : Nat.ble ei.bytes 128 = true) (hn : 0 < n) (hN : n ≤ 1099511627776)
    (k : AOps P Γ ops Q rest ((σ.add none (.row ei.ek e (List.replicate n.toNat ei.zdat))).put o.dst (.ref σ.nx))) : AOps P Γ ops Q (o :: rest) σ :=
  aops_step hw fun C0 a C K R b ev m hk => by
    have hB := (b.evo ev).B
    have hes := hT.esz he
    obtain ⟨j, hj, hjs, hjb, hjz⟩ := hT.info _ _ he
    obtain ⟨hz1, hz2⟩ := hT.zsize _ _ he
    have hu := hT.und _ _ ht
    rw [hde] at hu
    have hun := hT.und _ _ htn
    rw [hdn] at hun
    have hx' := eval_nil m hx
    have hz' := Rep.int_inv (ev_sound m hz)
    have hble := Nat.le_of_ble_eq_true hby
    have hnn : ((n.toNat : Nat) : Int) = n := by omega
    have hbytes : n.toNat * j.bytes ≤ 281474976710656 := by
      have h1 : n.toNat * j.bytes ≤ n.toNat * 128 := Nat.mul_le_mul_left _ (by rw [hjb]; exact hble)
      omega
    have hpos : 0 < j.size := by rw [hjs]; exact Nat.le_of_ble_eq_true h0
    have hr := Lib.run_append_nil_zeros (P := P) C.w t tn o.type e j ei.zero kn kq hu hun hj hjz n.toNat (by omega) hpos (by omega) hbytes
    rw [hnn] at hr
    obtain ⟨cap, hcap⟩ : ∃ cap, cap = grownCap C.w n.toNat 0 e := ⟨_, rfl⟩
    rw [← hcap] at hr
    have hge : n.toNat ≤ cap := by rw [hcap]; exact grownCap_ge C.w _ _ _
    have hmx : cap ≤ maxLen := by rw [hcap]; exact grownCap_le_maxLen C.w n.toNat 0 e (by simp only [maxLen]; omega)
    have hop : (execOp a.eval o).run P C.w = .ok (.value (.slice (some ⟨C.w.heap.size, 0, none⟩) n.toNat cap)) (C.w.drew.alloc (.cells (Builtin.zeroCells ei.zero.cells n.toNat ++ Builtin.zeroCells ei.zero.cells (cap - n.toNat)) e)) := by
      unfold execOp
      simp only [ho]
      simp [resolve, invoke, builtin, hx', hz', hr]
    have md : Models σ a C.draw := m.mono C.draw_evo (fun i hi => hi) (fun i o g hi he hg => ⟨rfl, ((m.ob i o hi).excl he hg).2.1⟩)
    have hzs : ∀ q, (Builtin.zeroCells ei.zero.cells q).size = q * ei.size := fun q => by simp [Builtin.zeroCells, hz1]
    have hlr : (List.replicate n.toNat ei.zdat).length = n.toNat := by simp
    have hrow : ORep (C.draw.new σ.nx (.cells (Builtin.zeroCells ei.zero.cells n.toNat ++ Builtin.zeroCells ei.zero.cells (cap - n.toNat)) e) (.slice (some ⟨C.w.heap.size, 0, none⟩) n.toNat cap)) σ.nx (.row ei.ek e (List.replicate n.toNat ei.zdat)) := by
      have := new_row (C := C.draw) md.fresh hB (ek := ei.ek) (e := e) (xs := List.replicate n.toNat ei.zdat) (vs := Builtin.zeroCells ei.zero.cells n.toNat ++ Builtin.zeroCells ei.zero.cells (cap - n.toNat)) cap (by simpa using hge) hmx
        (by rw [Array.size_append, hzs, hzs, hes, ← Nat.add_mul]; congr 1; omega) (by
        intro k x hkx
        rw [List.getElem?_replicate] at hkx
        split at hkx
        · rename_i hlt
          cases hkx
          refine ⟨zdat_fits hT he, fun j y hj => ?_⟩
          rw [zdat_cells hT he] at hj
          have hjl : j < ei.size := by rw [← hz2]; exact (List.getElem?_eq_some_iff.1 hj).1
          refine ⟨ei.zero.cells.getD j undef, ?_, hT.zrep _ _ he _ _ j y hj⟩
          have hlt2 : k * ei.size + j < n.toNat * ei.size := mul_lt_of hlt hjl
          have hmod : (k * ei.size + j) % ei.zero.cells.size = j := by rw [hz1, Nat.mul_comm, Nat.mul_add_mod]; exact Nat.mod_eq_of_lt hjl
          have hjz' : j < ei.zero.cells.size := by rw [hz1]; exact hjl
          show (Builtin.zeroCells ei.zero.cells n.toNat ++ Builtin.zeroCells ei.zero.cells (cap - n.toNat))[k * esz ei.ek + j]? = _
          rw [hes, Array.getElem?_append_left (by rw [hzs]; exact hlt2)]
          have hlt3 : k * ei.size + j < n.toNat * ei.zero.cells.size := by rw [hz1]; exact hlt2
          simp only [Builtin.zeroCells]
          simp [hlt3, hmod, hjz']
        · cases hkx)
      rw [hlr] at this
      exact this
    have m' := md.new hB _ _ rfl _ hrow
    refine upon_value hop (hk _ (C.draw.new _ _ _) _ (m'.put (v := .slice (some ⟨C.w.heap.size, 0, none⟩) n.toNat cap) ?_ (dstOk_spec hd)) ((ev.trans C.draw_evo).trans (Ct.new_evo md.fresh hB _ _)) k)
    exact .ref _ (by simp [Ct.new]) _ (by simp [Ct.new]) rfl

/-- x[:h] of a row of one's own. -/
theorem aops_cut (hT : TyOk P ty) {ops rest : List Oper} {o : Oper} {t e : TypeId} {x z : Operand} {ti ei : TI} {i : Nat} {ek : Option Nat} {e' : TypeId} {xs : List Dat} {kq : IntKind} {h : Int} (hw : wantedA ops σ o = some true) (hd : dstOk σ o.dst = true) (ho : o.op = .slice t x none (some z) none) (ht : ty t = some ti) (hde : ti.desc = .slice e) (he : ty e = some ei)
    (hx : σ.ev ty t x = some (.ref i)) (hob : σ.obj i = some (.row ek e' xs)) (hz : σ.ev ty 0 z = some (.d (.int kq h))) (h0 : 0 ≤ h) (hh : h ≤ xs.length)
    (k : AOps P Γ ops Q rest ((σ.add (some i) (.row ek e' (xs.take h.toNat))).put o.dst (.ref σ.nx))) : AOps P Γ ops Q (o :: rest) σ :=
  aops_step hw fun C0 a C K R b ev m hk => by
    have hz' := Rep.int_inv (ev_sound m hz)
    have hB := (b.evo ev).B
    have hxr := ev_sound m hx
    have hor := m.ob i _ hob
    obtain ⟨hi, vals, hown, hp, hcr⟩ := hor
    have hvx : a.eval x = C.ρ i := by
      generalize a.eval x = v at hxr
      cases hxr with
      | ref i hi v hv h1 => exact hv
    obtain ⟨A, cap, hv, hlc, hA⟩ : ∃ A cap, C.ρ i = .slice A xs.length cap ∧ xs.length ≤ cap ∧ (∀ ad, A = some ad → ad.off = 0 ∧ ad.spot = none) := by
      rcases hown.2 with ⟨hn, h0'⟩ | ⟨g, cap, cur, hv, _, _, hnc, _⟩
      · exact ⟨none, 0, by rw [hn, h0'], by omega, by simp⟩
      · exact ⟨_, cap, hv, hnc, fun ad had => by cases had; exact ⟨rfl, rfl⟩⟩
    have hb : (Instr.sliceBounds true xs.length cap none (some (.int kq h)) none).run P C.w = .ok (0, h.toNat, cap) C.w := by
      simp [Instr.sliceBounds, run_sliceBound, h0, (by omega : h ≤ (cap : Int))]
    have hrun : (execOp a.eval o).run P C.w = .ok (.value (.slice A h.toNat cap)) C.w := by
      unfold execOp
      simp only [ho, hvx, hv, hz', Option.map_none, Option.map_some]
      refine run_value ?_
      rw [run_slice_sl hT ht hde he hb]
      have hAe : (if cap = 0 then A else A.map (·.add (0 * ei.size))) = A := by
        split
        · rfl
        · cases A with
          | none => rfl
          | some ad =>
            obtain ⟨h3, h4⟩ := hA ad rfl
            obtain ⟨ab, ao, asp⟩ := ad
            simp only at h3 h4
            subst h3 h4
            simp [Addr.add_lit]
      rw [hAe]
      simp
    have hle : (xs.take h.toNat).length = h.toNat := by simp; omega
    have e1 := Ct.reg_evo (C := C) m.fresh (.slice A h.toNat cap)
    have m' : Models (σ.add (some i) (.row ek e' (xs.take h.toNat))) a (C.reg σ.nx (.slice A h.toNat cap)) := by
      refine m.addAt e1 σ.nx (σ.nx + 1) (some i) _ (fun j hj => by cases hj; exact hi) (fun i hi => ok_or hi) (Nat.le_succ _) (Nat.lt_succ_self _) ?_ (fun j oj g hj hje hkj hg => ?_)
      · refine ⟨by simp [Ct.reg], vals.take (h.toNat * esz ek), ?_, ?_, ?_⟩
        · simp only [Ct.reg, if_true, hle]
          refine ⟨?_, ?_⟩
          · rw [List.length_take, hown.1]
            exact Nat.min_eq_left (Nat.mul_le_mul_right _ (by omega))
          · rcases hown.2 with ⟨hn, h0'⟩ | ⟨g, cap', cur, hv', hb', hg, hnc, hcm, hcs, htake⟩
            · rw [hv] at hn
              simp only [Value.slice.injEq] at hn
              obtain ⟨rfl, _, rfl⟩ := hn
              exact .inl ⟨by rw [show h.toNat = 0 by omega], by omega⟩
            · rw [hv] at hv'
              simp only [Value.slice.injEq] at hv'
              obtain ⟨rfl, _, rfl⟩ := hv'
              refine .inr ⟨g, cap, cur, rfl, hb', hg, by omega, hcm, hcs, ?_⟩
              rw [← htake, List.take_take]
              congr 1
              exact (Nat.min_eq_left (Nat.mul_le_mul_right _ (by omega))).symm
        · simp only [Ct.reg, if_true]
          intro g hg
          have : blk (C.ρ i) = some g := by rw [hv]; cases A <;> exact hg
          exact hp g this
        · intro k q hkq
          rw [List.getElem?_take] at hkq
          split at hkq
          · rename_i hlt
            obtain ⟨h1, h2⟩ := hcr k q hkq
            refine ⟨h1, fun j y hj => ?_⟩
            obtain ⟨u, hu, hr⟩ := h2 j y hj
            refine ⟨u, ?_, hr⟩
            have hjl : j < esz ek := by rw [← h1.len]; exact (List.getElem?_eq_some_iff.1 hj).1
            show (vals.take (h.toNat * esz ek))[k * esz ek + j]? = _
            rw [List.getElem?_take, if_pos (mul_lt_of hlt hjl)]
            exact hu
          · cases hkq
      · obtain ⟨h1, h2, _⟩ := (m.ob j oj hj).excl hje hg
        refine ⟨rfl, h2, ?_⟩
        simp only [Ct.reg, if_true]
        intro h3
        have h4 : blk (C.ρ i) = some g := by rw [hv]; cases A <;> exact h3
        have := m.apart i j _ oj g hob hj rfl hje h4 hg
        rw [this] at hkj
        exact hkj rfl
    refine upon_value hrun (hk _ (C.reg σ.nx (.slice A h.toNat cap)) _ (m'.put (v := .slice A h.toNat cap) ?_ (dstOk_spec hd)) (ev.trans e1) k)
    exact .ref _ (by simp [Ct.reg]) _ (by simp [Ct.reg]) rfl
/-- nil[:0]. -/
theorem aops_cutnil (hT : TyOk P ty) {ops rest : List Oper} {o : Oper} {t e : TypeId} {x z : Operand} {ti ei : TI} {ek : Option Nat} {kq : IntKind} (hw : wantedA ops σ o = some true) (hd : dstOk σ o.dst = true) (ho : o.op = .slice t x none (some z) none) (ht : ty t = some ti) (hde : ti.desc = .slice e) (he : ty e = some ei)
    (hx : σ.ev ty t x = some (.nil ek)) (hz : σ.ev ty 0 z = some (.d (.int kq 0))) (k : AOps P Γ ops Q rest (σ.put o.dst (.nil ek))) : AOps P Γ ops Q (o :: rest) σ :=
  aops_step hw fun C0 a C K R b ev m hk => by
    have hz' := Rep.int_inv (ev_sound m hz)
    have hx' := eval_nil m hx
    have hb : (Instr.sliceBounds true 0 0 none (some (.int kq 0)) none).run P C.w = .ok (0, 0, 0) C.w := by
      simp [Instr.sliceBounds, run_sliceBound]
    have hrun : (execOp a.eval o).run P C.w = .ok (.value (.slice none 0 0)) C.w := by
      unfold execOp
      simp only [ho, hx', hz', Option.map_none, Option.map_some]
      refine run_value ?_
      rw [run_slice_sl hT ht hde he hb]
      simp
    exact upon_value hrun (hk _ C _ (m.put (.nil ek) (dstOk_spec hd)) ev k)
end
end Go.Am

/- The abstract machine, eighteenth part: what a law is handed, opened as data; the given statement out of a contract. No program. -/
namespace Go.Am
open Go.RowKit Go.ChangeShapes Go.WideShapes
set_option linter.unusedSimpArgs false
set_option linter.unusedVariables false

/-- Cells that are read as data. -/
def CellsAre (w : World) (ds : List Dat) (cs : List Value) : Prop := ds.length = cs.length ∧ (∀ y ∈ ds, y.one = true) ∧ ∀ (j : Nat) (y : Dat), ds[j]? = some y → RepD w (fun _ => true) y (cs.getD j undef)
/-- What the cells of a value of a type can be. -/
def Opens (P : Program) (t : TypeId) {α : Type} (f : α → List Dat) (ok : α → Prop) : Prop :=
  ∀ (H : Type) (enc : TypeId × Value → H) (w : World) (fuel : Nat) (cs : List Value) (x : DataW H × List MemPlace), DataW.trod enc P w 0 (fun _ => true) true fuel t cs = some x → ∃ a, ok a ∧ CellsAre w (f a) cs

section
variable {P : Program} {t e : TypeId} {α β : Type}

theorem cellsAre_one {w : World} {y : Dat} {v : Value} (h1 : y.one = true) (h : RepD w (fun _ => true) y v) : CellsAre w [y] [v] := by
  refine ⟨rfl, by simpa using h1, fun j z hj => ?_⟩
  cases j with
  | zero => simp at hj; subst hj; simpa using h
  | succ j => simp at hj
theorem Opens.int {k : IntKind} (ht : P.underlying t = some (.int k)) : Opens P t (fun n : Int => [.int k n]) (fun n => (Lit.int k n).wf = true) := by
  intro H enc w fuel cs x h
  obtain ⟨n, rfl, _, hw⟩ := DataW.trod_int ht h
  exact ⟨n, hw, cellsAre_one rfl (.int k n)⟩
theorem Opens.u8 (ht : P.underlying t = some (.int .u8)) : Opens P t (fun n : UInt8 => [by1 n]) (fun _ => True) := by
  intro H enc w fuel cs x h
  obtain ⟨n, rfl, _, hw⟩ := DataW.trod_int ht h
  have hr : 0 ≤ n ∧ n ≤ 255 := by simpa [Lit.wf, IntKind.min, IntKind.max, IntKind.signed, IntKind.bits] using hw
  refine ⟨UInt8.ofNat n.toNat, trivial, cellsAre_one rfl ?_⟩
  have : ((UInt8.ofNat n.toNat).toNat : Int) = n := by
    simp [UInt8.toNat_ofNat']
    omega
  simp only [by1, this]
  exact .int .u8 n
theorem Opens.bool (ht : P.underlying t = some .bool) : Opens P t (fun b : Bool => [.bool b]) (fun _ => True) := by
  intro H enc w fuel cs x h
  obtain ⟨b, rfl, _⟩ := DataW.trod_bool ht h
  exact ⟨b, trivial, cellsAre_one rfl (.bool b)⟩
theorem Opens.str (ht : P.underlying t = some .string) : Opens P t (fun s : ByteArray => [.str s]) (fun s => s.size ≤ maxLen) := by
  intro H enc w fuel cs x h
  obtain ⟨s, rfl, _, hs⟩ := DataW.trod_string ht h
  exact ⟨s, hs, cellsAre_one rfl (.str s)⟩
theorem list_of {Q : Nat → α → Prop} : ∀ (n : Nat), (∀ i, i < n → ∃ a, Q i a) → ∃ l : List α, l.length = n ∧ ∀ i a, l[i]? = some a → Q i a
  | 0, _ => ⟨[], rfl, by simp⟩
  | n + 1, h => by
    obtain ⟨l, hl, hq⟩ := list_of n (fun i hi => h i (by omega))
    obtain ⟨a, ha⟩ := h n (by omega)
    refine ⟨l ++ [a], by simp [hl], fun i b hb => ?_⟩
    rw [List.getElem?_append] at hb
    split at hb
    · exact hq i b hb
    · have : i - l.length = 0 := by
        have := (List.getElem?_eq_some_iff.1 hb).1
        simp at this
        omega
      rw [this] at hb
      simp at hb
      subst hb
      rw [show i = n by omega]
      exact ha
theorem Opens.slice {ek : Option Nat} {f : α → List Dat} {ok : α → Prop} (ht : P.underlying t = some (.slice e)) (hc : P.cellsOf e = Am.esz ek) (hpos : 0 < Am.esz ek) (he : Opens P e f ok) (pack : α → Dat)
    (hpack : ∀ a, (f a).length = Am.esz ek → (∀ y ∈ f a, y.one = true) → Fits ek (pack a) ∧ (pack a).cells = f a) : Opens P t (fun l : List α => [.sl ek (l.map pack)]) (fun l => (∀ a ∈ l, ok a) ∧ l.length ≤ maxLen) := by
  intro H enc w fuel cs x h
  rcases DataW.trod_slice ht h with ⟨rfl, _⟩ | ⟨a, len, cap, elems, rest, n, _, rfl, _, _, hl, hm, hlen, hel, _⟩
  · exact ⟨[], by simp, cellsAre_one rfl (.nil ek)⟩
  have each : ∀ i, i < len → ∃ z, ok z ∧ ∃ cs', w.cells? 0 (a.add (i * P.cellsOf e)) (P.cellsOf e) = some cs' ∧ CellsAre w (f z) cs' := by
    intro i hi
    have h1 := hel i hi
    rw [List.getElem?_eq_getElem (by omega)] at h1
    obtain ⟨cs', h2, h3⟩ := Option.bind_eq_some_iff.1 h1
    obtain ⟨z, hz, hz2⟩ := he H enc w n cs' _ h3
    exact ⟨z, hz, cs', h2, hz2⟩
  obtain ⟨l, hll, hq⟩ := list_of len each
  refine ⟨l, ⟨fun z hz => ?_, by omega⟩, cellsAre_one rfl ?_⟩
  · obtain ⟨i, hi⟩ := List.mem_iff_getElem?.1 hz
    exact (hq i z hi).1
  obtain ⟨b, off, spot⟩ := a
  have fit : ∀ z ∈ l, Fits ek (pack z) ∧ (pack z).cells = f z := by
    intro z hz
    obtain ⟨i, hi⟩ := List.mem_iff_getElem?.1 hz
    obtain ⟨_, cs', h1, h2, h3, _⟩ := hq i z hi
    refine hpack z ?_ h3
    rw [h2, (World.cells?_some h1).2.1, hc]
  have hsp : 0 < l.length → spot = none := by
    intro h0
    obtain ⟨_, cs', h1, _⟩ := hq 0 l[0] (List.getElem?_eq_getElem h0)
    obtain ⟨_, h3, h4⟩ := World.cells?_some h1
    have h5 := h4 0 (by rw [hc]; exact hpos)
    rw [List.getElem?_eq_getElem (by rw [h3, hc]; exact hpos)] at h5
    have h6 := World.cell?_spot h5
    simpa [Addr.add] using h6
  refine RepD.sl_mk (by simpa using hll.symm) (by simp; omega) hm (by simpa using hsp) (fun z hz => ?_) (fun k z hk j y hj => ?_)
  · obtain ⟨z', hz', rfl⟩ := List.mem_map.1 hz
    exact (fit z' hz').1
  · rw [List.getElem?_map] at hk
    obtain ⟨z', hz', rfl⟩ := Option.map_eq_some_iff.1 hk
    obtain ⟨_, cs', h1, h2, h3, h4⟩ := hq k z' hz'
    have hmem := List.mem_of_getElem? hz'
    rw [(fit z' hmem).2] at hj
    obtain ⟨_, h6, h7⟩ := World.cells?_some h1
    have hjl : j < (f z').length := (List.getElem?_eq_some_iff.1 hj).1
    have h8 := h7 j (by omega)
    have h9 : spot = none := hsp (by have := (List.getElem?_eq_some_iff.1 hz').1; omega)
    subst h9
    rw [Addr.add_lit, Addr.add_lit, List.getElem?_eq_getElem (by omega)] at h8
    refine ⟨rfl, h3 y (List.mem_of_getElem? hj), _, by rw [← h8, hc], ?_⟩
    have := h4 j y hj
    rwa [List.getD_eq_getElem?_getD, List.getElem?_eq_getElem (by omega)] at this
theorem Opens.weak {f : α → List Dat} {ok ok' : α → Prop} (h : Opens P t f ok) (hk : ∀ a, ok a → ok' a) : Opens P t f ok' := fun H enc w fuel cs x hx => by
  obtain ⟨a, h1, h2⟩ := h H enc w fuel cs x hx
  exact ⟨a, hk a h1, h2⟩
theorem Opens.map {f : α → List Dat} {ok : α → Prop} {f' : β → List Dat} {ok' : β → Prop} (h : Opens P t f ok) (g : α → β) (hf : ∀ a, f' (g a) = f a) (hk : ∀ a, ok a → ok' (g a)) : Opens P t f' ok' := fun H enc w fuel cs x hx => by
  obtain ⟨a, h1, h2⟩ := h H enc w fuel cs x hx
  exact ⟨g a, hk a h1, by rw [hf]; exact h2⟩
/-- Bytes. -/
theorem Opens.bytes (ht : P.underlying t = some (.slice e)) (he : P.underlying e = some (.int .u8)) (hc : P.cellsOf e = 1) : Opens P t (fun l : List UInt8 => [.sl none (bys l)]) (fun l => l.length ≤ maxLen) :=
  (Opens.slice (ek := none) ht hc (by decide) (Opens.u8 he) by1 (fun a _ _ => ⟨rfl, rfl⟩)).weak fun a h => h.2
theorem Opens.strs (ht : P.underlying t = some (.slice e)) (he : P.underlying e = some .string) (hc : P.cellsOf e = 1) : Opens P t (fun l : List ByteArray => [.sl none (l.map .str)]) (fun l => (∀ s ∈ l, s.size ≤ maxLen) ∧ l.length ≤ maxLen) :=
  Opens.slice (ek := none) ht hc (by decide) (Opens.str he) .str (fun a _ _ => ⟨rfl, rfl⟩)
theorem Opens.ints {k : IntKind} (ht : P.underlying t = some (.slice e)) (he : P.underlying e = some (.int k)) (hc : P.cellsOf e = 1) : Opens P t (fun l : List Int => [.sl none (l.map (.int k))]) (fun l => (∀ n ∈ l, (Lit.int k n).wf = true) ∧ l.length ≤ maxLen) :=
  Opens.slice (ek := none) ht hc (by decide) (Opens.int he) (.int k) (fun a _ _ => ⟨rfl, rfl⟩)

/-! ### Structs: the fields in a row -/
def OpensF (P : Program) (off : Nat) (fs : List Field) {α : Type} (f : α → List Dat) (ok : α → Prop) : Prop :=
  ∀ (H : Type) (enc : TypeId × Value → H) (w : World) (fuel : Nat) (cs : List Value), (∀ fd ∈ fs, ∃ x, DataW.trod enc P w 0 (fun _ => true) true fuel fd.type ((cs.drop fd.offset).take (P.cellsOf fd.type)) = some x) →
    ∃ a, ok a ∧ CellsAre w (f a) ((cs.drop off).take (f a).length)
theorem OpensF.one {fd : Field} {off sz : Nat} {f : α → List Dat} {ok : α → Prop} (ho : fd.offset = off) (h : Opens P fd.type f ok) : OpensF P off [fd] f ok := by
  intro H enc w fuel cs hx
  obtain ⟨x, hx⟩ := hx fd (by simp)
  obtain ⟨a, h1, h2⟩ := h H enc w fuel _ x hx
  refine ⟨a, h1, ?_⟩
  rw [ho] at h2
  have hl := h2.1
  rw [List.length_take] at hl
  have : (cs.drop off).take (f a).length = (cs.drop off).take (P.cellsOf fd.type) := by
    rw [hl]
    by_cases hle : P.cellsOf fd.type ≤ (cs.drop off).length
    · rw [Nat.min_eq_left hle]
    · rw [Nat.min_eq_right (by omega), List.take_of_length_le (Nat.le_refl _), List.take_of_length_le (by omega)]
  rw [this]
  exact h2
theorem OpensF.cons {fd : Field} {fs : List Field} {off sz : Nat} {f : α → List Dat} {ok : α → Prop} {g : β → List Dat} {ok' : β → Prop} (ho : fd.offset = off) (hsz : ∀ a, (f a).length = sz) (h : Opens P fd.type f ok) (hs : OpensF P (off + sz) fs g ok') :
    OpensF P off (fd :: fs) (fun p : α × β => f p.1 ++ g p.2) (fun p => ok p.1 ∧ ok' p.2) := by
  intro H enc w fuel cs hx
  obtain ⟨a, h1, h2⟩ := OpensF.one (sz := sz) ho h H enc w fuel cs (fun fd' hfd => hx fd' (by simp at hfd; simp [hfd]))
  obtain ⟨b, h3, h4⟩ := hs H enc w fuel cs (fun fd' hfd => hx fd' (by simp [hfd]))
  refine ⟨(a, b), ⟨h1, h3⟩, ?_⟩
  have e1 := h2.1
  have e2 := h4.1
  rw [hsz] at h2 e1
  have key : (cs.drop off).take (f a ++ g b).length = (cs.drop off).take sz ++ (cs.drop (off + sz)).take (g b).length := by
    rw [List.length_append, hsz, List.take_add, List.drop_drop]
  refine ⟨?_, ?_, ?_⟩
  · rw [key, List.length_append, List.length_append, ← e2, ← e1, hsz]
  · intro y hy
    rcases List.mem_append.1 hy with hy | hy
    · exact h2.2.1 y hy
    · exact h4.2.1 y hy
  · intro j y hj
    simp only at hj ⊢
    rw [key]
    rw [List.getElem?_append] at hj
    rw [List.getD_eq_getElem?_getD, List.getElem?_append]
    rw [hsz] at hj
    split at hj
    · rename_i hlt
      rw [if_pos (by omega)]
      exact h2.2.2 j y hj
    · rename_i hlt
      rw [if_neg (by omega), ← e1]
      exact h4.2.2 _ y hj
theorem Opens.struct {fs : Array Field} {f : α → List Dat} {ok : α → Prop} (ht : P.underlying t = some (.struct fs)) (hsz : ∀ a, (f a).length = P.cellsOf t) (h : OpensF P 0 fs.toList f ok) : Opens P t f ok := by
  intro H enc w fuel cs x hx
  obtain ⟨xs, n, rfl, _, hl, hxl, hg⟩ := DataW.trod_struct ht hx
  obtain ⟨a, h1, h2⟩ := h H enc w n cs (fun fd hfd => by
    obtain ⟨i, hi⟩ := List.mem_iff_getElem?.1 hfd
    have hi' : fs[i]? = some fd := by simpa using hi
    have h3 := hg i fd hi'
    have hlt := (Array.getElem?_eq_some_iff.1 hi').1
    rw [List.getElem?_eq_getElem (by omega)] at h3
    exact ⟨_, h3⟩)
  refine ⟨a, h1, ?_⟩
  rw [hsz, List.drop_zero, ← hl, List.take_length] at h2
  exact h2

/-! ### What a call is handed -/
def OpensA (P : Program) (ts : List TypeId) {α : Type} (g : α → List Dat) (ok : α → Prop) : Prop :=
  ∀ (H : Type) (enc : TypeId × Value → H) (w : World) (base : Nat) (vs : List Value) (ds : List (DataW H)) (ps : List MemPlace), DataW.TrodAll enc P w 0 (fun _ => true) true ts vs ds ps → (∀ (j : Nat) t v, ts[j]? = some t → vs[j]? = some v → Value.okWide P w .any base t v) →
    ∃ a, ok a ∧ (g a).length = vs.length ∧ ∀ (j : Nat) (y : Dat), (g a)[j]? = some y → RepD w (fun _ => true) y (vs.getD j undef)
theorem OpensA.nil : OpensA P [] (fun _ : Unit => []) (fun _ => True) := by
  intro H enc w base vs ds ps h _
  obtain ⟨rfl, _, _⟩ := trodAll_nil h
  exact ⟨(), trivial, rfl, by simp⟩
/-- A type whose values are one value, and what that value is. -/
def OpensV (P : Program) (t : TypeId) {α : Type} (f : α → Dat) (ok : α → Prop) : Prop :=
  ∀ (H : Type) (enc : TypeId × Value → H) (w : World) (base : Nat) (v : Value) (d : DataW H) (ps : List MemPlace), DataW.Trod enc P w 0 (fun _ => true) true t v d ps → Value.okWide P w .any base t v → ∃ a, ok a ∧ RepD w (fun _ => true) (f a) v
theorem OpensV.cell {f : α → Dat} {ok : α → Prop} (h : Opens P t (fun a => [f a]) ok) (hv : ∀ w base v, Value.okWide P w .any base t v → v.cells = #[v]) : OpensV P t f ok := by
  intro H enc w base v d ps ⟨fuel, hf⟩ hok
  rw [hv w base v hok] at hf
  obtain ⟨a, h1, h2, h3, h4⟩ := h H enc w fuel _ _ hf
  exact ⟨a, h1, by simpa using h4 0 (f a) rfl⟩
theorem OpensV.int {k : IntKind} (ht : P.underlying t = some (.int k)) : OpensV P t (fun n : Int => .int k n) (fun n => (Lit.int k n).wf = true) := .cell (.int ht) fun w base v h => by obtain ⟨n, rfl⟩ := okWide_int ht h; rfl
theorem OpensV.u8 (ht : P.underlying t = some (.int .u8)) : OpensV P t (fun n : UInt8 => by1 n) (fun _ => True) := .cell (.u8 ht) fun w base v h => by obtain ⟨n, rfl⟩ := okWide_int ht h; rfl
theorem OpensV.bool (ht : P.underlying t = some .bool) : OpensV P t (fun n : Bool => .bool n) (fun _ => True) := .cell (.bool ht) fun w base v h => by obtain ⟨n, rfl⟩ := okWide_bool ht h; rfl
theorem OpensV.str (ht : P.underlying t = some .string) : OpensV P t (fun s : ByteArray => .str s) (fun s => s.size ≤ maxLen) := .cell (.str ht) fun w base v h => by obtain ⟨n, rfl⟩ := okWide_string ht h; rfl
theorem OpensV.slice {f : α → Dat} {ok : α → Prop} (ht : P.underlying t = some (.slice e)) (h : Opens P t (fun a => [f a]) ok) : OpensV P t f ok := .cell h fun w base v h => by obtain ⟨a, l, c, rfl⟩ := okWide_slice ht h; rfl
theorem OpensV.bytes (ht : P.underlying t = some (.slice e)) (he : P.underlying e = some (.int .u8)) (hc : P.cellsOf e = 1) : OpensV P t (fun l : List UInt8 => .sl none (bys l)) (fun l => l.length ≤ maxLen) := .slice ht (.bytes ht he hc)
theorem OpensV.struct {fs : Array Field} {f : α → List Dat} {ok : α → Prop} (ht : P.underlying t = some (.struct fs)) (h : Opens P t f ok) : OpensV P t (fun a => .agg (f a)) ok := by
  intro H enc w base v d ps ⟨fuel, hf⟩ hok
  obtain ⟨cs, rfl, _⟩ := okWide_struct ht hok
  obtain ⟨a, h1, h2, h3, h4⟩ := h H enc w fuel _ _ hf
  refine ⟨a, h1, .agg _ cs (by simpa [Value.cells] using h2.symm) h3 (fun j y hj => by simpa [Value.cells] using h4 j y hj)⟩
theorem OpensA.cons {ts : List TypeId} {f : α → Dat} {ok : α → Prop} {g : β → List Dat} {ok' : β → Prop} (h : OpensV P t f ok) (hs : OpensA P ts g ok') : OpensA P (t :: ts) (fun p : α × β => f p.1 :: g p.2) (fun p => ok p.1 ∧ ok' p.2) := by
  intro H enc w base vs ds ps ht hok
  obtain ⟨v, vs', d, ds', p, q, rfl, rfl, rfl, h1, h2⟩ := trodAll_cons ht
  obtain ⟨a, h3, h4⟩ := h H enc w base v d p h1 (hok 0 t v rfl rfl)
  obtain ⟨b, h5, h6, h7⟩ := hs H enc w base vs' ds' q h2 (fun j t v hj hv => hok (j + 1) t v (by simpa using hj) (by simpa using hv))
  refine ⟨(a, b), ⟨h3, h5⟩, by simp [h6], fun j y hj => ?_⟩
  cases j with
  | zero => simp at hj; subst hj; simpa using h4
  | succ j => simpa using h7 j y (by simpa using hj)

/-! ### The statement -/
theorem trodAll_stay {H : Type} {enc : TypeId × Value → H} (hl : laidOutB P = true) {W W' : World} (hb : Below W.heap.size W W') : ∀ {ts : List TypeId} {vs : List Value} {ds : List (DataW H)} {ps : List MemPlace}, (∀ t ∈ ts, P.readableRec t = true ∧ t < P.types.size) →
    DataW.TrodAll enc P W 0 (fun _ => true) true ts vs ds ps → ∃ ps', DataW.TrodAll enc P W' 0 (fun b => decide (b < W.heap.size)) true ts vs ds ps'
  | [], vs, ds, ps, _, h => by
    obtain ⟨rfl, rfl, rfl⟩ := trodAll_nil h
    exact ⟨[], trodAll_mk0⟩
  | t :: ts, vs, ds, ps, hr, h => by
    obtain ⟨v, vs', d, ds', p, q, rfl, rfl, rfl, h1, h2⟩ := trodAll_cons h
    obtain ⟨ps', h3⟩ := trodAll_stay hl hb (fun t ht => hr t (List.mem_cons_of_mem _ ht)) h2
    obtain ⟨hr1, hr2⟩ := hr t (List.mem_cons_self ..)
    have lt : ∀ x ∈ p, x.block < W.heap.size := by obtain ⟨m, hm⟩ := h1; exact DataW.trod_lt m _ _ _ hm
    exact ⟨_, trodAll_cons_mk (Below.trod hl hr1 hr2 h1 hb lt) h3⟩

end
end Go.Am

/- The abstract machine, nineteenth part: rules for walks that go by themselves: calls with one result, guards that part the ways. No program. -/
namespace Go.Am
open Go.RowKit
set_option linter.unusedSimpArgs false
set_option linter.unusedVariables false

section
variable {P : Program} {Γ : Env} {Q : Exit → St → Prop} {σ : St} {ty : TypeId → Option TI}

def frz1N : St → AV → St
  | ⟨sz, tm, ob, nx⟩, .ref i => match look i ob with
    | some (.row ek e xs) => ⟨sz, tm, (i, .frz ek xs) :: ob, nx⟩
    | _ => ⟨sz, tm, ob, nx⟩
  | ⟨sz, tm, ob, nx⟩, _ => ⟨sz, tm, ob, nx⟩
def frzLN : St → List AV → St
  | ⟨sz, tm, ob, nx⟩, [] => ⟨sz, tm, ob, nx⟩
  | ⟨sz, tm, ob, nx⟩, x :: r => frzLN (frz1N ⟨sz, tm, ob, nx⟩ x) r
def frzAN : St → AV → St
  | ⟨sz, tm, ob, nx⟩, .agg cs => frzLN ⟨sz, tm, ob, nx⟩ cs
  | ⟨sz, tm, ob, nx⟩, x => frz1N ⟨sz, tm, ob, nx⟩ x
def frzN : St → List AV → St
  | ⟨sz, tm, ob, nx⟩, [] => ⟨sz, tm, ob, nx⟩
  | ⟨sz, tm, ob, nx⟩, x :: r => frzN (frzAN ⟨sz, tm, ob, nx⟩ x) r
theorem frz1N_eq (σ : St) (x : AV) : frz1N σ x = frz1 σ x := by
  obtain ⟨sz, tm, ob, nx⟩ := σ
  cases x with
  | ref i =>
    simp only [frz1N, frz1, St.obj]
    cases look i ob with
    | none => rfl
    | some o => cases o <;> rfl
  | _ => rfl
theorem frzLN_eq : ∀ (l : List AV) (σ : St), frzLN σ l = frzL σ l
  | [], σ => by cases σ; rfl
  | x :: r, σ => by
    rw [frzL, ← frzLN_eq r, ← frz1N_eq]
    cases σ; rfl
theorem frzAN_eq (σ : St) (x : AV) : frzAN σ x = frzA σ x := by
  obtain ⟨sz, tm, ob, nx⟩ := σ
  cases x with
  | agg cs => exact frzLN_eq cs _
  | _ => simp only [frzAN, frzA]; exact frz1N_eq _ _
theorem frzN_eq : ∀ (l : List AV) (σ : St), frzN σ l = frzAll σ l
  | [], σ => by cases σ; rfl
  | x :: r, σ => by
    rw [frzAll, ← frzN_eq r, ← frzAN_eq]
    cases σ; rfl
def resOf (σ : St) (ys : List AV) (dst : Option Tmp) (r : Res) : St := match frzN σ ys with
  | ⟨sz, tm, ob, nx⟩ => match r with
    | .d x => put' ⟨sz, tm, ob, nx⟩ dst (.d x)
    | .own ek e xs => addPut ⟨sz, tm, ob, nx⟩ none (.row ek e xs) dst .ref
    | .ownT ek e xs rest => addPut ⟨sz, tm, ob, nx⟩ none (.row ek e xs) dst (fun i => .tup (.ref i :: rest.map .d))
theorem resOf_eq (σ : St) (ys : List AV) (dst : Option Tmp) (r : Res) : resOf σ ys dst r = (frzAll σ ys).res dst r := by
  rw [← frzN_eq]
  unfold resOf
  split
  rename_i h
  rw [h]
  cases r <;> cases dst <;> rfl

/-- A call whose contract names its one result. -/
theorem aops_callE {ops rest : List Oper} {o : Oper} {c : Call} {fx : Operand} {f : FuncId} {ys : List AV} {dargs : List Dat} {r0 : Res} {sz nx : Nat} {tm : List (Nat × AV)} {ob : List (Nat × AO)} (hw : wantedA ops σ o = some true) (hd : dstOk σ o.dst = true) (ho : o.op = .call c) (hc : c.callee = .value fx) (hf : calleeOf σ ty fx = some (f, []))
    (hy : evAll σ ty c.args.toList c.argTypes.toList = some ys) (hdat : datAll (frzAll σ ys) ys = some dargs) (hA : ACalls P Γ f dargs (fun r => r = r0)) (hr : resOf σ ys o.dst r0 = ⟨sz, tm, ob, nx⟩)
    (k : AOps P Γ ops Q rest ⟨sz, tm, ob, nx⟩) : AOps P Γ ops Q (o :: rest) σ :=
  aops_call hw hd ho hc hf hy hdat hA fun r h => by
    subst h
    rw [← resOf_eq, hr]
    exact k
theorem head_callE {l : List Oper} {n : Nat} {D : List Oper} {K : List Ent → Prop} {r : List Oper} {j : Nat} {acc : List Ent} {o : Oper} {c : Call} {fx : Operand} {f : FuncId} {ys : List AV} {dargs : List Dat} {r0 : Res} {x : Dat} (hd : dstOk σ o.dst = true) (hw : wantedA l (minE σ n D acc o) o = some true) (ho : o.op = .call c) (hc : c.callee = .value fx)
    (hf : calleeOf (minE σ n D acc o) ty fx = some (f, [])) (hy : evAll (minE σ n D acc o) ty c.args.toList c.argTypes.toList = some ys) (hdat : datAll (minE σ n D acc o) ys = some dargs) (hA : ACalls P Γ f dargs (fun r => r = r0)) (hx : r0.dat = x)
    (k : HeadT P Γ l σ n D K r (j + 1) (⟨j, o.dst, .d x, none⟩ :: acc)) : HeadT P Γ l σ n D K (o :: r) j acc :=
  head_call (ty := ty) x hd hw ho hc hf hy hdat hA (fun r h => by rw [h]; exact hx) k

theorem aops_cutE (hT : TyOk P ty) {ops rest : List Oper} {o : Oper} {t e : TypeId} {x z : Operand} {ti ei : TI} {i : Nat} {ek : Option Nat} {e' : TypeId} {xs : List Dat} {kq : IntKind} {h : Int} {sz nx : Nat} {tm : List (Nat × AV)} {ob : List (Nat × AO)} (hw : wantedA ops σ o = some true) (hd : dstOk σ o.dst = true) (ho : o.op = .slice t x none (some z) none) (ht : ty t = some ti) (hde : ti.desc = .slice e) (he : ty e = some ei)
    (hx : σ.ev ty t x = some (.ref i)) (hob : σ.obj i = some (.row ek e' xs)) (hz : σ.ev ty 0 z = some (.d (.int kq h))) (hh : 0 ≤ h ∧ h ≤ xs.length) (hr : addPut σ (some i) (.row ek e' (xs.take h.toNat)) o.dst .ref = ⟨sz, tm, ob, nx⟩)
    (k : AOps P Γ ops Q rest ⟨sz, tm, ob, nx⟩) : AOps P Γ ops Q (o :: rest) σ :=
  aops_cut hT hw hd ho ht hde he hx hob hz hh.1 hh.2 (by rw [addPut_eq] at hr; rw [hr]; exact k)
/-- Ops that go on; at least one. -/
theorem aops_go (hT : TyOk P ty) {ops l r : List Oper} {q : Prop} {σ' : St} (h : runA ty ops [] l True σ = (q, r, σ')) (hp : Nat.blt r.length l.length = true) (hq : q) (k : AOps P Γ ops Q r σ') : AOps P Γ ops Q l σ := aops_runA hT h hq k
/-- The guard is known. -/
theorem aops_gate (hT : TyOk P ty) {ops rest r : List Oper} {o : Oper} {j : Nat} {want : Bool} {q : Prop} {σ' : St} (hg : o.guard = some (j, want)) (h : runA ty ops [j] (o :: rest) True σ = (q, r, σ')) (hp : Nat.blt r.length (o :: rest).length = true) (hq : q) (k : AOps P Γ ops Q r σ') : AOps P Γ ops Q (o :: rest) σ := aops_runA hT h hq k
/-- The guard parts the ways. -/
theorem aops_split (hT : TyOk P ty) {ops rest r1 r2 : List Oper} {o oj : Oper} {j t : Nat} {want b : Bool} {q1 q2 : Prop} {σ1 σ2 : St} (hg : o.guard = some (j, want)) (hj : ops[j]? = some oj) (ht : oj.dst = some t) (hv : σ.get t = some (.d (.bool b)))
    (e1 : runA ty ops [j] (o :: rest) True (put' σ (some t) (.d (.bool true))) = (q1, r1, σ1)) (e2 : runA ty ops [j] (o :: rest) True (put' σ (some t) (.d (.bool false))) = (q2, r2, σ2))
    (h1 : b = true → q1 ∧ AOps P Γ ops Q r1 σ1) (h2 : b = false → q2 ∧ AOps P Γ ops Q r2 σ2) : AOps P Γ ops Q (o :: rest) σ :=
  aops_guard hg hj ht hv (fun hb => by rw [← put'_eq]; exact aops_runA hT e1 (h1 hb).1 (h1 hb).2) (fun hb => by rw [← put'_eq]; exact aops_runA hT e2 (h2 hb).1 (h2 hb).2)

/-- A region whose order is drawn: all but the last operation in whatever order. -/
theorem awp_anyL (n : Nat) {id : Nat} {l : List Oper} (hm : P.follows .mixedOrders = true) (hl : Nat.beq l.length (n + 1) = true) (hB : drawnB l n = true) (h : HeadT P Γ l σ n (l.take n) (fun es => AOps P Γ l Q (l.drop n) (finE σ n es)) (l.take n) 0 []) : AWp P Γ (.region id l.toArray true) Q σ := awp_any n hm hB h

theorem awp_anyM (n len : Nat) {id : Nat} {l : List Oper} (hm : P.follows .mixedOrders = true) (hl : Nat.beq l.length len = true) (hB : drawnB l n = true) (h : HeadT P Γ l σ n (l.take n) (fun es => AOps P Γ l Q (l.drop n) (finE σ n es)) (l.take n) 0 []) : AWp P Γ (.region id l.toArray true) Q σ := awp_any n hm hB h
/-- (To ask whether a guard is known.) -/
theorem aops_known {ops rest : List Oper} {o : Oper} (h : wantedA ops σ o = some true) (k : AOps P Γ ops Q (o :: rest) σ) : AOps P Γ ops Q (o :: rest) σ := k
theorem head_known {l : List Oper} {n : Nat} {D : List Oper} {K : List Ent → Prop} {r : List Oper} {o : Oper} {j : Nat} {acc : List Ent} (h : wantedA l (minE σ n D acc o) o = some true) (k : HeadT P Γ l σ n D K (o :: r) j acc) : HeadT P Γ l σ n D K (o :: r) j acc := k

def entV (j : Nat) : List Ent → Option AV
  | [] => none
  | e :: r => match Nat.beq e.j j with
    | true => some e.y
    | false => entV j r
def setB (j : Nat) (v : Bool) : List Ent → List Ent
  | [] => []
  | ⟨i, d, y, ob⟩ :: r => match Nat.beq i j with
    | true => ⟨i, d, .d (.bool v), ob⟩ :: r
    | false => ⟨i, d, y, ob⟩ :: setB j v r
theorem setB_same {j : Nat} {b : Bool} : ∀ {acc : List Ent}, entV j acc = some (.d (.bool b)) → setB j b acc = acc
  | [], h => rfl
  | ⟨i, d, y, ob⟩ :: r, h => by
    unfold entV at h
    unfold setB
    split at h
    · rename_i hb
      simp only at hb
      simp only [hb]
      cases h
      rfl
    · rename_i hb
      simp only at hb
      simp only [hb]
      rw [setB_same h]
theorem head_goP (hT : TyOk P ty) {l : List Oper} {n : Nat} {D : List Oper} {K : List Ent → Prop} {r : List Oper} {j : Nat} {acc : List Ent} {q : Prop} {r' : List Oper} {j' : Nat} {acc' : List Ent} (h : runH ty l [] σ n D r j acc True = (q, r', j', acc')) (hp : Nat.blt r'.length r.length = true) (hq : q) (k : HeadT P Γ l σ n D K r' j' acc') : HeadT P Γ l σ n D K r j acc := head_run hT h hq k
theorem head_gate (hT : TyOk P ty) {l : List Oper} {n : Nat} {D : List Oper} {K : List Ent → Prop} {r : List Oper} {o : Oper} {j j0 : Nat} {want : Bool} {acc : List Ent} {q : Prop} {r' : List Oper} {j' : Nat} {acc' : List Ent} (hg : o.guard = some (j0, want)) (h : runH ty l [j0] σ n D (o :: r) j acc True = (q, r', j', acc')) (hp : Nat.blt r'.length (o :: r).length = true) (hq : q) (k : HeadT P Γ l σ n D K r' j' acc') : HeadT P Γ l σ n D K (o :: r) j acc := head_run hT h hq k
theorem head_split (hT : TyOk P ty) {l : List Oper} {n : Nat} {D : List Oper} {K : List Ent → Prop} {r : List Oper} {o : Oper} {j j0 : Nat} {want b : Bool} {acc : List Ent} {q1 q2 : Prop} {r1 r2 : List Oper} {i1 i2 : Nat} {acc1 acc2 : List Ent} (hg : o.guard = some (j0, want)) (hv : entV j0 acc = some (.d (.bool b)))
    (e1 : runH ty l [j0] σ n D (o :: r) j (setB j0 true acc) True = (q1, r1, i1, acc1)) (e2 : runH ty l [j0] σ n D (o :: r) j (setB j0 false acc) True = (q2, r2, i2, acc2))
    (h1 : b = true → q1 ∧ HeadT P Γ l σ n D K r1 i1 acc1) (h2 : b = false → q2 ∧ HeadT P Γ l σ n D K r2 i2 acc2) : HeadT P Γ l σ n D K (o :: r) j acc := by
  rw [← setB_same hv]
  cases b with
  | true => exact head_run hT e1 (h1 rfl).1 (h1 rfl).2
  | false => exact head_run hT e2 (h2 rfl).1 (h2 rfl).2
end

theorem fits_str (s : ByteArray) : Fits none (.str s) ↔ True := iff_true_intro rfl
theorem fits_int (k : IntKind) (n : Int) : Fits none (.int k n) ↔ True := iff_true_intro rfl
theorem fits_bool (b : Bool) : Fits none (.bool b) ↔ True := iff_true_intro rfl
theorem fits_sl (ek : Option Nat) (xs : List Dat) : Fits none (.sl ek xs) ↔ True := iff_true_intro rfl
theorem fits_agg (m : Nat) (cs : List Dat) : Fits (some m) (.agg cs) ↔ cs.length = m ∧ cs.all (·.one) = true := by
  constructor
  · rintro ⟨cs', h, h1, h2⟩
    cases h
    exact ⟨h1, List.all_eq_true.2 h2⟩
  · rintro ⟨h1, h2⟩
    exact ⟨cs, rfl, h1, List.all_eq_true.1 h2⟩
/-! ### Reading -/
end Go.Am

/- Strings in pieces, numerals, arcs: plain Lean. No program. -/
namespace Go.Am
set_option linter.unusedSimpArgs false
set_option linter.unusedVariables false

def bA (l : List UInt8) : ByteArray := ⟨l.toArray⟩
def sD (l : List UInt8) : Dat := .str (bA l)
def strs (l : List (List UInt8)) : List Dat := l.map sD
theorem fits_sD (l : List UInt8) : Fits none (sD l) ↔ True := iff_true_intro rfl
theorem strs_len (l : List (List UInt8)) : (strs l).length = l.length := by simp [strs]
def u32s (l : List Nat) : List Dat := l.map fun n : Nat => .int .u32 (n : Int)
theorem u32s_len (l : List Nat) : (u32s l).length = l.length := by simp [u32s]
def u64s (l : List Nat) : List Dat := l.map fun n : Nat => .int .u64 (n : Int)
theorem u64s_len (l : List Nat) : (u64s l).length = l.length := by simp [u64s]
theorem bA_size (l : List UInt8) : (bA l).size = l.length := by simp [bA, ByteArray.size]
theorem ba_size_mk (a : Array UInt8) : (ByteArray.mk a).size = a.size := rfl
theorem bA_list (l : List UInt8) : (bA l).data.toList = l := by simp [bA]
theorem bA_of (s : ByteArray) : s = bA s.data.toList := by cases s; simp [bA]
theorem bA_inj {x y : List UInt8} : bA x = bA y ↔ x = y := by
  constructor
  · intro h
    have := congrArg (fun z => z.data.toList) h
    simpa [bA] using this
  · rintro rfl; rfl
theorem bA_ext (l : List UInt8) (a b : Nat) : (bA l).extract a b = bA (cutL l a b) := by
  apply ByteArray.ext
  simp only [bA, cutL, ByteArray.data_extract, List.extract_toArray, List.extract_eq_take_drop, List.drop_take]
theorem canon_strs (l : List (List UInt8)) (n : Nat) : ((strs l).getD n default = Dat.str ((strs l).getD n default).txt) ↔ n < l.length := by
  by_cases h : n < l.length
  · simp [strs, List.getElem?_eq_getElem h, h, sD, Dat.txt]
  · simp [strs, List.getElem?_eq_none (Nat.le_of_not_lt h), h, default]
theorem txt_strs (l : List (List UInt8)) (n : Nat) : ((strs l).getD n default).txt = bA (l.getD n []) := by
  by_cases h : n < l.length
  · simp [strs, List.getElem?_eq_getElem h, sD, Dat.txt]
  · simp [strs, List.getElem?_eq_none (Nat.le_of_not_lt h), default, Dat.txt, bA]
theorem canon_u32s (l : List Nat) (n : Nat) : ((u32s l).getD n default = Dat.int .u32 ((u32s l).getD n default).num) ↔ n < l.length := by
  by_cases h : n < l.length
  · simp [u32s, List.getElem?_eq_getElem h, h, Dat.num]
  · simp [u32s, List.getElem?_eq_none (Nat.le_of_not_lt h), h, default]
theorem num_u32s (l : List Nat) (n : Nat) : ((u32s l).getD n default).num = ((l.getD n 0 : Nat) : Int) := by
  by_cases h : n < l.length
  · simp [u32s, List.getElem?_eq_getElem h, Dat.num]
  · simp [u32s, List.getElem?_eq_none (Nat.le_of_not_lt h), default, Dat.num]
theorem canon_u64s (l : List Nat) (n : Nat) : ((u64s l).getD n default = Dat.int .u64 ((u64s l).getD n default).num) ↔ n < l.length := by
  by_cases h : n < l.length
  · simp [u64s, List.getElem?_eq_getElem h, h, Dat.num]
  · simp [u64s, List.getElem?_eq_none (Nat.le_of_not_lt h), h, default]
/-! ### Pieces between dots -/
def splitL : List UInt8 → List (List UInt8)
  | [] => [[]]
  | c :: r => if c = 46 then [] :: splitL r else (match splitL r with
    | p :: ps => (c :: p) :: ps
    | [] => [[c]])
theorem splitL_ne (l : List UInt8) : splitL l ≠ [] := by
  cases l with
  | nil => simp [splitL]
  | cons c r =>
    simp only [splitL]
    split
    · simp
    · split <;> simp
theorem splitL_len (l : List UInt8) : (splitL l).length = Lib.countByte l 46 + 1 := by
  induction l with
  | nil => rfl
  | cons c r ih =>
    simp only [splitL]
    unfold Lib.countByte at *
    by_cases h : c = 46
    · subst h
      simp [ih]
    · rw [if_neg h, List.count_cons_of_ne h]
      split
      · rename_i p ps hp
        rw [hp] at ih
        simpa using ih
      · rename_i hp
        exact absurd hp (splitL_ne r)
theorem count_le (l : List UInt8) : Lib.countByte l 46 ≤ l.length := List.count_le_length
theorem index_spec (l : List UInt8) : (Lib.indexByte l 46 = -1 ∧ Lib.countByte l 46 = 0 ∧ splitL l = [l]) ∨ ∃ m : Nat, Lib.indexByte l 46 = m ∧ m < l.length ∧ 0 < Lib.countByte l 46 ∧ splitL l = l.take m :: splitL (l.drop (m + 1)) := by
  induction l with
  | nil => exact .inl ⟨rfl, rfl, rfl⟩
  | cons c r ih =>
    by_cases h : c = 46
    · subst h
      exact .inr ⟨0, by simp [Lib.indexByte], by simp, by simp [Lib.countByte], by simp [splitL]⟩
    · rcases ih with ⟨h1, h2, h3⟩ | ⟨m, h1, h2, h3, h4⟩
      · refine .inl ⟨by simp [Lib.indexByte, h, h1], ?_, by simp [splitL, h, h3]⟩
        unfold Lib.countByte at *
        rw [List.count_cons_of_ne h]
        exact h2
      · refine .inr ⟨m + 1, ?_, by simp; omega, ?_, by simp [splitL, h, h4]⟩
        · have : ¬ (m : Int) = -1 := by omega
          simp [Lib.indexByte, h, h1, this]
        · unfold Lib.countByte at *
          rw [List.count_cons_of_ne h]
          exact h3
theorem splitL_drop (l : List UInt8) : ∀ p ∈ splitL l, p.length ≤ l.length := by
  induction l with
  | nil => simp [splitL]
  | cons c r ih =>
    intro p hp
    simp only [splitL] at hp
    split at hp
    · rcases List.mem_cons.1 hp with rfl | hp
      · simp
      · have := ih p hp
        simp
        omega
    · split at hp
      · rename_i q qs hq
        rw [hq] at ih
        rcases List.mem_cons.1 hp with rfl | hp
        · have := ih q (List.mem_cons_self ..)
          simp
          omega
        · have := ih p (List.mem_cons_of_mem _ hp)
          simp
          omega
      · simp at hp
        subst hp
        simp
end Go.Am

/- The abstract machine, twenty-third part: the rules of the automatic walk with their side proofs built in, so that texts stay short. No program. -/
namespace Go.Am
open Go.RowKit
set_option linter.unusedSimpArgs false
set_option linter.unusedVariables false

def natI (l : List Nat) : List Int := l.map Int.ofNat
theorem natI_len (x : List Nat) : (natI x).length = x.length := by simp [natI]
/-- The same list of equations that the side proofs lean on, as one. -/
theorem szs : (∀ l : List UInt8, (bys l).length = l.length) ∧ (∀ l : List Int, (ints l).length = l.length) ∧ (∀ l : List (List UInt8), (byss l).length = l.length) ∧ (∀ l : List Nat, (natI l).length = l.length) ∧ (∀ l : List (List UInt8), (strs l).length = l.length) ∧
    (∀ l : List Nat, (u32s l).length = l.length) ∧ (∀ l : List Nat, (u64s l).length = l.length) ∧ (∀ l : List UInt8, (bA l).size = l.length) ∧ (∀ a : Array UInt8, (ByteArray.mk a).size = a.size) ∧ (∀ a b : ByteArray, (a ++ b).size = a.size + b.size) ∧
    (∀ n : Nat, ((n : Int)).toNat = n) ∧ (∀ (α : Type) (a b : List α), (a ++ b).length = a.length + b.length) ∧ (∀ (α : Type) (x : α) (l : List α), (x :: l).length = l.length + 1) ∧ (∀ α : Type, ([] : List α).length = 0) ∧ (∀ (α : Type) (n : Nat) (x : α), (List.replicate n x).length = n) ∧
    (∀ (α : Type) (n : Nat) (l : List α), (l.take n).length = min n l.length) ∧ (∀ (α : Type) (n : Nat) (l : List α), (l.drop n).length = l.length - n) ∧ (∀ (α : Type) (n : Nat) (x : α) (l : List α), (l.set n x).length = l.length) ∧ (∀ (α : Type) (l : List α), l.reverse.length = l.length) ∧ (∀ (α β : Type) (f : α → β) (l : List α), (l.map f).length = l.length) ∧ (∀ (α : Type) (l : List α), l.toArray.size = l.length) :=
  ⟨bys_len, ints_len, byss_len, natI_len, strs_len, u32s_len, u64s_len, bA_size, ba_size_mk, fun _ _ => ByteArray.size_append, Int.toNat_natCast, fun _ _ _ => List.length_append, fun _ _ _ => List.length_cons, fun _ => rfl, fun _ _ _ => List.length_replicate, fun _ _ _ => List.length_take, fun _ _ _ => List.length_drop, fun _ _ _ _ => List.length_set, fun _ _ => List.length_reverse, fun _ _ _ _ => List.length_map _, fun _ _ => List.size_toArray⟩
theorem cns : (∀ (l : List UInt8) (n : Nat), ((bys l).getD n default = Dat.int .u8 ((bys l).getD n default).num) ↔ n < l.length) ∧ (∀ (l : List Int) (n : Nat), ((ints l).getD n default = Dat.int .i64 ((ints l).getD n default).num) ↔ n < l.length) ∧ (∀ (l : List (List UInt8)) (n : Nat), ((byss l).getD n default = Dat.sl none ((byss l).getD n default).els) ↔ n < l.length) ∧
    (∀ (l : List (List UInt8)) (n : Nat), ((strs l).getD n default = Dat.str ((strs l).getD n default).txt) ↔ n < l.length) ∧ (∀ (l : List Nat) (n : Nat), ((u32s l).getD n default = Dat.int .u32 ((u32s l).getD n default).num) ↔ n < l.length) ∧ (∀ (l : List Nat) (n : Nat), ((u64s l).getD n default = Dat.int .u64 ((u64s l).getD n default).num) ↔ n < l.length) ∧
    (∀ l, Fits none (sD l) ↔ True) ∧ (∀ s, Fits none (.str s) ↔ True) ∧ (∀ k n, Fits none (.int k n) ↔ True) ∧ (∀ b, Fits none (.bool b) ↔ True) ∧ (∀ ek xs, Fits none (.sl ek xs) ↔ True) ∧ (∀ m cs, Fits (some m) (.agg cs) ↔ cs.length = m ∧ cs.all (·.one) = true) :=
  ⟨canon_bys, canon_ints, canon_byss, canon_strs, canon_u32s, canon_u64s, fits_sD, fits_str, fits_int, fits_bool, fits_sl, fits_agg⟩
/-- What a test says. -/
theorem nms : (∀ (p : Prop) [Decidable p], (decide p = true) = p) ∧ (∀ (p : Prop) [Decidable p], (decide p = false) ↔ ¬p) ∧ (∀ b : Bool, ((!b) = true) = (b = false)) ∧ (∀ b : Bool, ((!b) = false) = (b = true)) ∧ (∀ b : Bool, (¬b = true) = (b = false)) ∧ (∀ b : Bool, (¬b = false) = (b = true)) ∧ ((!true) = false) ∧ ((!false) = true) ∧
    (∀ a b : Int, ((a == b) = true) ↔ a = b) ∧ (∀ a b : Int, ((a == b) = false) ↔ a ≠ b) ∧ (∀ a b : Int, ((a != b) = true) ↔ a ≠ b) ∧ (∀ a b : Int, ((a != b) = false) ↔ a = b) ∧ (∀ a b : Bool, ((a == b) = true) ↔ a = b) ∧ (∀ a b : Bool, ((a == b) = false) ↔ a ≠ b) ∧ (∀ a b : Bool, ((a != b) = true) ↔ a ≠ b) ∧ (∀ a b : Bool, ((a != b) = false) ↔ a = b) ∧
    (∀ (α : Type) (a b : α), (a ≠ b) = ¬(a = b)) ∧ (∀ p : Prop, [Decidable p] → ((¬¬p) ↔ p)) ∧ (∀ a b : Int, (a > b) ↔ b < a) ∧ (∀ a b : Int, (a ≥ b) ↔ b ≤ a) ∧ (∀ a b : Int, (¬a < b) ↔ b ≤ a) ∧ (∀ a b : Int, (¬a ≤ b) ↔ b < a) ∧ (∀ a b : Bool, ((a && b) = true) ↔ (a = true ∧ b = true)) ∧ (∀ a b : Bool, ((a || b) = true) ↔ (a = true ∨ b = true)) ∧ (∀ a b : Bool, ((a && b) = false) ↔ (a = false ∨ b = false)) ∧ (∀ a b : Bool, ((a || b) = false) ↔ (a = false ∧ b = false)) ∧
    (¬True ↔ False) ∧ (¬False ↔ True) ∧ (∀ a : Prop, (a ∧ True) = a) ∧ (∀ a : Prop, (True ∧ a) = a) ∧ (∀ a : Prop, (a ∧ False) = False) ∧ (∀ a : Prop, (False ∧ a) = False) ∧ (∀ a : Prop, (a ∨ True) = True) ∧ (∀ a : Prop, (True ∨ a) = True) ∧ (∀ a : Prop, (a ∨ False) = a) ∧ (∀ a : Prop, (False ∨ a) = a) ∧
    (∀ (α : Type) (x : α) (l : List α), (x :: l).length = l.length + 1) ∧ (∀ α : Type, ([] : List α).length = 0) ∧ (∀ l : List UInt8, (bys l).length = l.length) ∧ (∀ l : List Int, (ints l).length = l.length) ∧ (∀ l : List (List UInt8), (byss l).length = l.length) ∧ (∀ l : List Nat, (natI l).length = l.length) ∧ (∀ l : List (List UInt8), (strs l).length = l.length) ∧ (∀ l : List Nat, (u32s l).length = l.length) ∧ (∀ l : List Nat, (u64s l).length = l.length) ∧ (∀ l : List UInt8, (bA l).size = l.length) :=
  ⟨fun p _ => decide_eq_true_eq, fun p _ => decide_eq_false_iff_not, by simp, by simp, by simp, by simp, rfl, rfl, by simp, by simp, by simp, by simp, by simp, by simp, by simp, by simp,
   fun _ _ _ => rfl, fun p _ => Decidable.not_not, fun _ _ => Iff.rfl, fun _ _ => Iff.rfl, fun _ _ => Int.not_lt, fun _ _ => Int.not_le, by simp, by simp, by simp, by simp,
   by simp, by simp, by simp, by simp, by simp, by simp, by simp, by simp, by simp, by simp, fun _ _ _ => List.length_cons, fun _ => rfl, bys_len, ints_len, byss_len, natI_len, strs_len, u32s_len, u64s_len, bA_size⟩
/-- A side proof. -/
theorem sd {q : Prop} (h : q := by first | (simp only [and_true, true_and]; done) | (simp only [and_true, true_and, szs, cns]; omega) | omega | ((repeat' (first | exact True.intro | apply And.intro)) <;> first | assumption | omega | (simp only [szs, cns]; omega))) : q := h
end Go.Am

/- The table of the types of this seat, and that it is right: written by program (mkty.py). -/
namespace Go.Proofs.YtohabohifjadgaaDoor
open Go.Am
set_option linter.unusedSimpArgs false
set_option linter.unusedVariables false

def tyL : List (Nat × TI) := [
  (2, ⟨.int .i64, 1, 8, .int .i64 0, [.int .i64 0]⟩),
  (3, ⟨.int .i64, 1, 8, .int .i64 0, [.int .i64 0]⟩),
  (4, ⟨.bool, 1, 1, .bool false, [.bool false]⟩),
  (5, ⟨.int .u8, 1, 1, .int .u8 0, [.int .u8 0]⟩),
  (6, ⟨.int .u8, 1, 1, .int .u8 0, [.int .u8 0]⟩),
  (7, ⟨.struct #[{ name := "x", type := 2, offset := 0, embedded := false, tag := "", pkgPath := "runtime", byteOffset := 0 }, { name := "y", type := 3, offset := 1, embedded := false, tag := "", pkgPath := "runtime", byteOffset := 8 }, { name := "signed", type := 4, offset := 2, embedded := false, tag := "", pkgPath := "runtime", byteOffset := 16 }, { name := "code", type := 6, offset := 3, embedded := false, tag := "", pkgPath := "runtime", byteOffset := 17 }], 4, 24, .agg #[.int .i64 0, .int .i64 0, .bool false, .int .u8 0], [.int .i64 0, .int .i64 0, .bool false, .int .u8 0]⟩),
  (8, ⟨.struct #[{ name := "x", type := 2, offset := 0, embedded := false, tag := "", pkgPath := "runtime", byteOffset := 0 }, { name := "y", type := 3, offset := 1, embedded := false, tag := "", pkgPath := "runtime", byteOffset := 8 }, { name := "signed", type := 4, offset := 2, embedded := false, tag := "", pkgPath := "runtime", byteOffset := 16 }, { name := "code", type := 6, offset := 3, embedded := false, tag := "", pkgPath := "runtime", byteOffset := 17 }], 4, 24, .agg #[.int .i64 0, .int .i64 0, .bool false, .int .u8 0], [.int .i64 0, .int .i64 0, .bool false, .int .u8 0]⟩),
  (9, ⟨.string, 1, 16, .string ⟨#[]⟩, [.str ⟨#[]⟩]⟩),
  (10, ⟨.string, 1, 16, .string ⟨#[]⟩, [.str ⟨#[]⟩]⟩),
  (11, ⟨.string, 1, 16, .string ⟨#[]⟩, [.str ⟨#[]⟩]⟩),
  (12, ⟨.int .u64, 1, 8, .int .u64 0, [.int .u64 0]⟩),
  (13, ⟨.struct #[{ name := "msg", type := 9, offset := 0, embedded := false, tag := "", pkgPath := "runtime", byteOffset := 0 }, { name := "addr", type := 12, offset := 1, embedded := false, tag := "", pkgPath := "runtime", byteOffset := 16 }], 2, 24, .agg #[.string ⟨#[]⟩, .int .u64 0], [.str ⟨#[]⟩, .int .u64 0]⟩),
  (14, ⟨.struct #[{ name := "msg", type := 9, offset := 0, embedded := false, tag := "", pkgPath := "runtime", byteOffset := 0 }, { name := "addr", type := 12, offset := 1, embedded := false, tag := "", pkgPath := "runtime", byteOffset := 16 }], 2, 24, .agg #[.string ⟨#[]⟩, .int .u64 0], [.str ⟨#[]⟩, .int .u64 0]⟩),
  (20, ⟨.interface #[], 1, 16, .nilIface, [.nilIf]⟩),
  (21, ⟨.int .i32, 1, 4, .int .i32 0, [.int .i32 0]⟩),
  (22, ⟨.slice 25, 1, 24, .slice none 0 0, [.sl (some 3) []]⟩),
  (23, ⟨.slice 5, 1, 24, .slice none 0 0, [.sl none []]⟩),
  (24, ⟨.struct #[{ name := "OID", type := 9, offset := 0, embedded := false, tag := "", pkgPath := "", byteOffset := 0 }, { name := "Critical", type := 4, offset := 1, embedded := false, tag := "", pkgPath := "", byteOffset := 16 }, { name := "Value", type := 23, offset := 2, embedded := false, tag := "", pkgPath := "", byteOffset := 24 }], 3, 48, .agg #[.string ⟨#[]⟩, .bool false, .slice none 0 0], [.str ⟨#[]⟩, .bool false, .sl none []]⟩),
  (25, ⟨.struct #[{ name := "OID", type := 9, offset := 0, embedded := false, tag := "", pkgPath := "", byteOffset := 0 }, { name := "Critical", type := 4, offset := 1, embedded := false, tag := "", pkgPath := "", byteOffset := 16 }, { name := "Value", type := 23, offset := 2, embedded := false, tag := "", pkgPath := "", byteOffset := 24 }], 3, 48, .agg #[.string ⟨#[]⟩, .bool false, .slice none 0 0], [.str ⟨#[]⟩, .bool false, .sl none []]⟩),
  (33, ⟨.int .i64, 1, 8, .int .i64 0, [.int .i64 0]⟩),
  (41, ⟨.slice 23, 1, 24, .slice none 0 0, [.sl none []]⟩),
  (48, ⟨.slice 51, 1, 24, .slice none 0 0, [.sl none []]⟩),
  (51, ⟨.int .u32, 1, 4, .int .u32 0, [.int .u32 0]⟩),
  (52, ⟨.int .u64, 1, 8, .int .u64 0, [.int .u64 0]⟩),
  (57, ⟨.slice 9, 1, 24, .slice none 0 0, [.sl none []]⟩),
  (59, ⟨.int .u64, 1, 8, .int .u64 0, [.int .u64 0]⟩),
  (60, ⟨.interface #[("Error", 115)], 1, 16, .nilIface, [.nilIf]⟩),
  (61, ⟨.interface #[("Error", 115)], 1, 16, .nilIface, [.nilIf]⟩),
  (75, ⟨.int .i64, 1, 8, .int .i64 0, [.int .i64 0]⟩),
  (82, ⟨.array 24 5, 24, 24, .agg #[.int .u8 0, .int .u8 0, .int .u8 0, .int .u8 0, .int .u8 0, .int .u8 0, .int .u8 0, .int .u8 0, .int .u8 0, .int .u8 0, .int .u8 0, .int .u8 0, .int .u8 0, .int .u8 0, .int .u8 0, .int .u8 0, .int .u8 0, .int .u8 0, .int .u8 0, .int .u8 0, .int .u8 0, .int .u8 0, .int .u8 0, .int .u8 0], [.int .u8 0, .int .u8 0, .int .u8 0, .int .u8 0, .int .u8 0, .int .u8 0, .int .u8 0, .int .u8 0, .int .u8 0, .int .u8 0, .int .u8 0, .int .u8 0, .int .u8 0, .int .u8 0, .int .u8 0, .int .u8 0, .int .u8 0, .int .u8 0, .int .u8 0, .int .u8 0, .int .u8 0, .int .u8 0, .int .u8 0, .int .u8 0]⟩),
  (92, ⟨.struct #[{ name := "Func", type := 9, offset := 0, embedded := false, tag := "", pkgPath := "", byteOffset := 0 }, { name := "Num", type := 9, offset := 1, embedded := false, tag := "", pkgPath := "", byteOffset := 16 }, { name := "Err", type := 61, offset := 2, embedded := false, tag := "", pkgPath := "", byteOffset := 32 }], 3, 48, .agg #[.string ⟨#[]⟩, .string ⟨#[]⟩, .nilIface], [.str ⟨#[]⟩, .str ⟨#[]⟩, .nilIf]⟩),
  (93, ⟨.struct #[{ name := "Func", type := 9, offset := 0, embedded := false, tag := "", pkgPath := "", byteOffset := 0 }, { name := "Num", type := 9, offset := 1, embedded := false, tag := "", pkgPath := "", byteOffset := 16 }, { name := "Err", type := 61, offset := 2, embedded := false, tag := "", pkgPath := "", byteOffset := 32 }], 3, 48, .agg #[.string ⟨#[]⟩, .string ⟨#[]⟩, .nilIface], [.str ⟨#[]⟩, .str ⟨#[]⟩, .nilIf]⟩),
  (97, ⟨.array 20 59, 20, 160, .agg #[.int .u64 0, .int .u64 0, .int .u64 0, .int .u64 0, .int .u64 0, .int .u64 0, .int .u64 0, .int .u64 0, .int .u64 0, .int .u64 0, .int .u64 0, .int .u64 0, .int .u64 0, .int .u64 0, .int .u64 0, .int .u64 0, .int .u64 0, .int .u64 0, .int .u64 0, .int .u64 0], [.int .u64 0, .int .u64 0, .int .u64 0, .int .u64 0, .int .u64 0, .int .u64 0, .int .u64 0, .int .u64 0, .int .u64 0, .int .u64 0, .int .u64 0, .int .u64 0, .int .u64 0, .int .u64 0, .int .u64 0, .int .u64 0, .int .u64 0, .int .u64 0, .int .u64 0, .int .u64 0]⟩),
  (103, ⟨.struct #[{ name := "s", type := 9, offset := 0, embedded := false, tag := "", pkgPath := "errors", byteOffset := 0 }], 1, 16, .agg #[.string ⟨#[]⟩], [.str ⟨#[]⟩]⟩),
  (104, ⟨.struct #[{ name := "s", type := 9, offset := 0, embedded := false, tag := "", pkgPath := "errors", byteOffset := 0 }], 1, 16, .agg #[.string ⟨#[]⟩], [.str ⟨#[]⟩]⟩),
  (107, ⟨.struct #[{ name := "lo", type := 5, offset := 0, embedded := false, tag := "", pkgPath := "unicode/utf8", byteOffset := 0 }, { name := "hi", type := 5, offset := 1, embedded := false, tag := "", pkgPath := "unicode/utf8", byteOffset := 1 }], 2, 2, .agg #[.int .u8 0, .int .u8 0], [.int .u8 0, .int .u8 0]⟩),
  (108, ⟨.struct #[{ name := "lo", type := 5, offset := 0, embedded := false, tag := "", pkgPath := "unicode/utf8", byteOffset := 0 }, { name := "hi", type := 5, offset := 1, embedded := false, tag := "", pkgPath := "unicode/utf8", byteOffset := 1 }], 2, 2, .agg #[.int .u8 0, .int .u8 0], [.int .u8 0, .int .u8 0]⟩),
  (109, ⟨.array 16 108, 32, 32, .agg #[.int .u8 0, .int .u8 0, .int .u8 0, .int .u8 0, .int .u8 0, .int .u8 0, .int .u8 0, .int .u8 0, .int .u8 0, .int .u8 0, .int .u8 0, .int .u8 0, .int .u8 0, .int .u8 0, .int .u8 0, .int .u8 0, .int .u8 0, .int .u8 0, .int .u8 0, .int .u8 0, .int .u8 0, .int .u8 0, .int .u8 0, .int .u8 0, .int .u8 0, .int .u8 0, .int .u8 0, .int .u8 0, .int .u8 0, .int .u8 0, .int .u8 0, .int .u8 0], [.int .u8 0, .int .u8 0, .int .u8 0, .int .u8 0, .int .u8 0, .int .u8 0, .int .u8 0, .int .u8 0, .int .u8 0, .int .u8 0, .int .u8 0, .int .u8 0, .int .u8 0, .int .u8 0, .int .u8 0, .int .u8 0, .int .u8 0, .int .u8 0, .int .u8 0, .int .u8 0, .int .u8 0, .int .u8 0, .int .u8 0, .int .u8 0, .int .u8 0, .int .u8 0, .int .u8 0, .int .u8 0, .int .u8 0, .int .u8 0, .int .u8 0, .int .u8 0]⟩),
  (113, ⟨.array 32 5, 32, 32, .agg #[.int .u8 0, .int .u8 0, .int .u8 0, .int .u8 0, .int .u8 0, .int .u8 0, .int .u8 0, .int .u8 0, .int .u8 0, .int .u8 0, .int .u8 0, .int .u8 0, .int .u8 0, .int .u8 0, .int .u8 0, .int .u8 0, .int .u8 0, .int .u8 0, .int .u8 0, .int .u8 0, .int .u8 0, .int .u8 0, .int .u8 0, .int .u8 0, .int .u8 0, .int .u8 0, .int .u8 0, .int .u8 0, .int .u8 0, .int .u8 0, .int .u8 0, .int .u8 0], [.int .u8 0, .int .u8 0, .int .u8 0, .int .u8 0, .int .u8 0, .int .u8 0, .int .u8 0, .int .u8 0, .int .u8 0, .int .u8 0, .int .u8 0, .int .u8 0, .int .u8 0, .int .u8 0, .int .u8 0, .int .u8 0, .int .u8 0, .int .u8 0, .int .u8 0, .int .u8 0, .int .u8 0, .int .u8 0, .int .u8 0, .int .u8 0, .int .u8 0, .int .u8 0, .int .u8 0, .int .u8 0, .int .u8 0, .int .u8 0, .int .u8 0, .int .u8 0]⟩),
  (114, ⟨.array 64 5, 64, 64, .agg #[.int .u8 0, .int .u8 0, .int .u8 0, .int .u8 0, .int .u8 0, .int .u8 0, .int .u8 0, .int .u8 0, .int .u8 0, .int .u8 0, .int .u8 0, .int .u8 0, .int .u8 0, .int .u8 0, .int .u8 0, .int .u8 0, .int .u8 0, .int .u8 0, .int .u8 0, .int .u8 0, .int .u8 0, .int .u8 0, .int .u8 0, .int .u8 0, .int .u8 0, .int .u8 0, .int .u8 0, .int .u8 0, .int .u8 0, .int .u8 0, .int .u8 0, .int .u8 0, .int .u8 0, .int .u8 0, .int .u8 0, .int .u8 0, .int .u8 0, .int .u8 0, .int .u8 0, .int .u8 0, .int .u8 0, .int .u8 0, .int .u8 0, .int .u8 0, .int .u8 0, .int .u8 0, .int .u8 0, .int .u8 0, .int .u8 0, .int .u8 0, .int .u8 0, .int .u8 0, .int .u8 0, .int .u8 0, .int .u8 0, .int .u8 0, .int .u8 0, .int .u8 0, .int .u8 0, .int .u8 0, .int .u8 0, .int .u8 0, .int .u8 0, .int .u8 0], [.int .u8 0, .int .u8 0, .int .u8 0, .int .u8 0, .int .u8 0, .int .u8 0, .int .u8 0, .int .u8 0, .int .u8 0, .int .u8 0, .int .u8 0, .int .u8 0, .int .u8 0, .int .u8 0, .int .u8 0, .int .u8 0, .int .u8 0, .int .u8 0, .int .u8 0, .int .u8 0, .int .u8 0, .int .u8 0, .int .u8 0, .int .u8 0, .int .u8 0, .int .u8 0, .int .u8 0, .int .u8 0, .int .u8 0, .int .u8 0, .int .u8 0, .int .u8 0, .int .u8 0, .int .u8 0, .int .u8 0, .int .u8 0, .int .u8 0, .int .u8 0, .int .u8 0, .int .u8 0, .int .u8 0, .int .u8 0, .int .u8 0, .int .u8 0, .int .u8 0, .int .u8 0, .int .u8 0, .int .u8 0, .int .u8 0, .int .u8 0, .int .u8 0, .int .u8 0, .int .u8 0, .int .u8 0, .int .u8 0, .int .u8 0, .int .u8 0, .int .u8 0, .int .u8 0, .int .u8 0, .int .u8 0, .int .u8 0, .int .u8 0, .int .u8 0]⟩),
  (122, ⟨.int .u8, 1, 1, .int .u8 0, [.int .u8 0]⟩),
  (123, ⟨.int .u8, 1, 1, .int .u8 0, [.int .u8 0]⟩),
  (125, ⟨.int .i32, 1, 4, .int .i32 0, [.int .i32 0]⟩),
  (126, ⟨.int .i32, 1, 4, .int .i32 0, [.int .i32 0]⟩)]
def ty (t : TypeId) : Option TI := Am.look t tyL

theorem tyi2 : (Tryd.prog.info? 2).map (fun j => (j.size, j.bytes, j.zero)) = some (1, 8, some (.int .i64 0)) := by kernel_rfl
theorem tyi3 : (Tryd.prog.info? 3).map (fun j => (j.size, j.bytes, j.zero)) = some (1, 8, some (.int .i64 0)) := by kernel_rfl
theorem tyi4 : (Tryd.prog.info? 4).map (fun j => (j.size, j.bytes, j.zero)) = some (1, 1, some (.bool false)) := by kernel_rfl
theorem tyi5 : (Tryd.prog.info? 5).map (fun j => (j.size, j.bytes, j.zero)) = some (1, 1, some (.int .u8 0)) := by kernel_rfl
theorem tyi6 : (Tryd.prog.info? 6).map (fun j => (j.size, j.bytes, j.zero)) = some (1, 1, some (.int .u8 0)) := by kernel_rfl
theorem tyi7 : (Tryd.prog.info? 7).map (fun j => (j.size, j.bytes, j.zero)) = some (4, 24, some (.agg #[.int .i64 0, .int .i64 0, .bool false, .int .u8 0])) := by kernel_rfl
theorem tyi8 : (Tryd.prog.info? 8).map (fun j => (j.size, j.bytes, j.zero)) = some (4, 24, some (.agg #[.int .i64 0, .int .i64 0, .bool false, .int .u8 0])) := by kernel_rfl
theorem tyi9 : (Tryd.prog.info? 9).map (fun j => (j.size, j.bytes, j.zero)) = some (1, 16, some (.string ⟨#[]⟩)) := by kernel_rfl
theorem tyi10 : (Tryd.prog.info? 10).map (fun j => (j.size, j.bytes, j.zero)) = some (1, 16, some (.string ⟨#[]⟩)) := by kernel_rfl
theorem tyi11 : (Tryd.prog.info? 11).map (fun j => (j.size, j.bytes, j.zero)) = some (1, 16, some (.string ⟨#[]⟩)) := by kernel_rfl
theorem tyi12 : (Tryd.prog.info? 12).map (fun j => (j.size, j.bytes, j.zero)) = some (1, 8, some (.int .u64 0)) := by kernel_rfl
theorem tyi13 : (Tryd.prog.info? 13).map (fun j => (j.size, j.bytes, j.zero)) = some (2, 24, some (.agg #[.string ⟨#[]⟩, .int .u64 0])) := by kernel_rfl
theorem tyi14 : (Tryd.prog.info? 14).map (fun j => (j.size, j.bytes, j.zero)) = some (2, 24, some (.agg #[.string ⟨#[]⟩, .int .u64 0])) := by kernel_rfl
theorem tyi20 : (Tryd.prog.info? 20).map (fun j => (j.size, j.bytes, j.zero)) = some (1, 16, some (.nilIface)) := by kernel_rfl
theorem tyi21 : (Tryd.prog.info? 21).map (fun j => (j.size, j.bytes, j.zero)) = some (1, 4, some (.int .i32 0)) := by kernel_rfl
theorem tyi22 : (Tryd.prog.info? 22).map (fun j => (j.size, j.bytes, j.zero)) = some (1, 24, some (.slice none 0 0)) := by kernel_rfl
theorem tyi23 : (Tryd.prog.info? 23).map (fun j => (j.size, j.bytes, j.zero)) = some (1, 24, some (.slice none 0 0)) := by kernel_rfl
theorem tyi24 : (Tryd.prog.info? 24).map (fun j => (j.size, j.bytes, j.zero)) = some (3, 48, some (.agg #[.string ⟨#[]⟩, .bool false, .slice none 0 0])) := by kernel_rfl
theorem tyi25 : (Tryd.prog.info? 25).map (fun j => (j.size, j.bytes, j.zero)) = some (3, 48, some (.agg #[.string ⟨#[]⟩, .bool false, .slice none 0 0])) := by kernel_rfl
theorem tyi33 : (Tryd.prog.info? 33).map (fun j => (j.size, j.bytes, j.zero)) = some (1, 8, some (.int .i64 0)) := by kernel_rfl
theorem tyi41 : (Tryd.prog.info? 41).map (fun j => (j.size, j.bytes, j.zero)) = some (1, 24, some (.slice none 0 0)) := by kernel_rfl
theorem tyi48 : (Tryd.prog.info? 48).map (fun j => (j.size, j.bytes, j.zero)) = some (1, 24, some (.slice none 0 0)) := by kernel_rfl
theorem tyi51 : (Tryd.prog.info? 51).map (fun j => (j.size, j.bytes, j.zero)) = some (1, 4, some (.int .u32 0)) := by kernel_rfl
theorem tyi52 : (Tryd.prog.info? 52).map (fun j => (j.size, j.bytes, j.zero)) = some (1, 8, some (.int .u64 0)) := by kernel_rfl
theorem tyi57 : (Tryd.prog.info? 57).map (fun j => (j.size, j.bytes, j.zero)) = some (1, 24, some (.slice none 0 0)) := by kernel_rfl
theorem tyi59 : (Tryd.prog.info? 59).map (fun j => (j.size, j.bytes, j.zero)) = some (1, 8, some (.int .u64 0)) := by kernel_rfl
theorem tyi60 : (Tryd.prog.info? 60).map (fun j => (j.size, j.bytes, j.zero)) = some (1, 16, some (.nilIface)) := by kernel_rfl
theorem tyi61 : (Tryd.prog.info? 61).map (fun j => (j.size, j.bytes, j.zero)) = some (1, 16, some (.nilIface)) := by kernel_rfl
theorem tyi75 : (Tryd.prog.info? 75).map (fun j => (j.size, j.bytes, j.zero)) = some (1, 8, some (.int .i64 0)) := by kernel_rfl
theorem tyi82 : (Tryd.prog.info? 82).map (fun j => (j.size, j.bytes, j.zero)) = some (24, 24, some (.agg #[.int .u8 0, .int .u8 0, .int .u8 0, .int .u8 0, .int .u8 0, .int .u8 0, .int .u8 0, .int .u8 0, .int .u8 0, .int .u8 0, .int .u8 0, .int .u8 0, .int .u8 0, .int .u8 0, .int .u8 0, .int .u8 0, .int .u8 0, .int .u8 0, .int .u8 0, .int .u8 0, .int .u8 0, .int .u8 0, .int .u8 0, .int .u8 0])) := by kernel_rfl
theorem tyi92 : (Tryd.prog.info? 92).map (fun j => (j.size, j.bytes, j.zero)) = some (3, 48, some (.agg #[.string ⟨#[]⟩, .string ⟨#[]⟩, .nilIface])) := by kernel_rfl
theorem tyi93 : (Tryd.prog.info? 93).map (fun j => (j.size, j.bytes, j.zero)) = some (3, 48, some (.agg #[.string ⟨#[]⟩, .string ⟨#[]⟩, .nilIface])) := by kernel_rfl
theorem tyi97 : (Tryd.prog.info? 97).map (fun j => (j.size, j.bytes, j.zero)) = some (20, 160, some (.agg #[.int .u64 0, .int .u64 0, .int .u64 0, .int .u64 0, .int .u64 0, .int .u64 0, .int .u64 0, .int .u64 0, .int .u64 0, .int .u64 0, .int .u64 0, .int .u64 0, .int .u64 0, .int .u64 0, .int .u64 0, .int .u64 0, .int .u64 0, .int .u64 0, .int .u64 0, .int .u64 0])) := by kernel_rfl
theorem tyi103 : (Tryd.prog.info? 103).map (fun j => (j.size, j.bytes, j.zero)) = some (1, 16, some (.agg #[.string ⟨#[]⟩])) := by kernel_rfl
theorem tyi104 : (Tryd.prog.info? 104).map (fun j => (j.size, j.bytes, j.zero)) = some (1, 16, some (.agg #[.string ⟨#[]⟩])) := by kernel_rfl
theorem tyi107 : (Tryd.prog.info? 107).map (fun j => (j.size, j.bytes, j.zero)) = some (2, 2, some (.agg #[.int .u8 0, .int .u8 0])) := by kernel_rfl
theorem tyi108 : (Tryd.prog.info? 108).map (fun j => (j.size, j.bytes, j.zero)) = some (2, 2, some (.agg #[.int .u8 0, .int .u8 0])) := by kernel_rfl
theorem tyi109 : (Tryd.prog.info? 109).map (fun j => (j.size, j.bytes, j.zero)) = some (32, 32, some (.agg #[.int .u8 0, .int .u8 0, .int .u8 0, .int .u8 0, .int .u8 0, .int .u8 0, .int .u8 0, .int .u8 0, .int .u8 0, .int .u8 0, .int .u8 0, .int .u8 0, .int .u8 0, .int .u8 0, .int .u8 0, .int .u8 0, .int .u8 0, .int .u8 0, .int .u8 0, .int .u8 0, .int .u8 0, .int .u8 0, .int .u8 0, .int .u8 0, .int .u8 0, .int .u8 0, .int .u8 0, .int .u8 0, .int .u8 0, .int .u8 0, .int .u8 0, .int .u8 0])) := by kernel_rfl
theorem tyi113 : (Tryd.prog.info? 113).map (fun j => (j.size, j.bytes, j.zero)) = some (32, 32, some (.agg #[.int .u8 0, .int .u8 0, .int .u8 0, .int .u8 0, .int .u8 0, .int .u8 0, .int .u8 0, .int .u8 0, .int .u8 0, .int .u8 0, .int .u8 0, .int .u8 0, .int .u8 0, .int .u8 0, .int .u8 0, .int .u8 0, .int .u8 0, .int .u8 0, .int .u8 0, .int .u8 0, .int .u8 0, .int .u8 0, .int .u8 0, .int .u8 0, .int .u8 0, .int .u8 0, .int .u8 0, .int .u8 0, .int .u8 0, .int .u8 0, .int .u8 0, .int .u8 0])) := by kernel_rfl
theorem tyi114 : (Tryd.prog.info? 114).map (fun j => (j.size, j.bytes, j.zero)) = some (64, 64, some (.agg #[.int .u8 0, .int .u8 0, .int .u8 0, .int .u8 0, .int .u8 0, .int .u8 0, .int .u8 0, .int .u8 0, .int .u8 0, .int .u8 0, .int .u8 0, .int .u8 0, .int .u8 0, .int .u8 0, .int .u8 0, .int .u8 0, .int .u8 0, .int .u8 0, .int .u8 0, .int .u8 0, .int .u8 0, .int .u8 0, .int .u8 0, .int .u8 0, .int .u8 0, .int .u8 0, .int .u8 0, .int .u8 0, .int .u8 0, .int .u8 0, .int .u8 0, .int .u8 0, .int .u8 0, .int .u8 0, .int .u8 0, .int .u8 0, .int .u8 0, .int .u8 0, .int .u8 0, .int .u8 0, .int .u8 0, .int .u8 0, .int .u8 0, .int .u8 0, .int .u8 0, .int .u8 0, .int .u8 0, .int .u8 0, .int .u8 0, .int .u8 0, .int .u8 0, .int .u8 0, .int .u8 0, .int .u8 0, .int .u8 0, .int .u8 0, .int .u8 0, .int .u8 0, .int .u8 0, .int .u8 0, .int .u8 0, .int .u8 0, .int .u8 0, .int .u8 0])) := by kernel_rfl
theorem tyi122 : (Tryd.prog.info? 122).map (fun j => (j.size, j.bytes, j.zero)) = some (1, 1, some (.int .u8 0)) := by kernel_rfl
theorem tyi123 : (Tryd.prog.info? 123).map (fun j => (j.size, j.bytes, j.zero)) = some (1, 1, some (.int .u8 0)) := by kernel_rfl
theorem tyi125 : (Tryd.prog.info? 125).map (fun j => (j.size, j.bytes, j.zero)) = some (1, 4, some (.int .i32 0)) := by kernel_rfl
theorem tyi126 : (Tryd.prog.info? 126).map (fun j => (j.size, j.bytes, j.zero)) = some (1, 4, some (.int .i32 0)) := by kernel_rfl
theorem tyf2 : TyFact Tryd.prog 2 ⟨.int .i64, 1, 8, .int .i64 0, [.int .i64 0]⟩ :=
  TyFact.mk' Tryd.underlying2 tyi2 (fun _ => rfl) rfl rfl rfl (fun w pr => ⟨.int _ _, trivial⟩) rfl (fun fields h => by cases h)
theorem tyf3 : TyFact Tryd.prog 3 ⟨.int .i64, 1, 8, .int .i64 0, [.int .i64 0]⟩ :=
  TyFact.mk' Tryd.underlying3 tyi3 (fun _ => rfl) rfl rfl rfl (fun w pr => ⟨.int _ _, trivial⟩) rfl (fun fields h => by cases h)
theorem tyf4 : TyFact Tryd.prog 4 ⟨.bool, 1, 1, .bool false, [.bool false]⟩ :=
  TyFact.mk' Tryd.underlying4 tyi4 (fun _ => rfl) rfl rfl rfl (fun w pr => ⟨.bool _, trivial⟩) rfl (fun fields h => by cases h)
theorem tyf5 : TyFact Tryd.prog 5 ⟨.int .u8, 1, 1, .int .u8 0, [.int .u8 0]⟩ :=
  TyFact.mk' Tryd.underlying5 tyi5 (fun _ => rfl) rfl rfl rfl (fun w pr => ⟨.int _ _, trivial⟩) rfl (fun fields h => by cases h)
theorem tyf6 : TyFact Tryd.prog 6 ⟨.int .u8, 1, 1, .int .u8 0, [.int .u8 0]⟩ :=
  TyFact.mk' Tryd.underlying6 tyi6 (fun _ => rfl) rfl rfl rfl (fun w pr => ⟨.int _ _, trivial⟩) rfl (fun fields h => by cases h)
theorem tyf7 : TyFact Tryd.prog 7 ⟨.struct #[{ name := "x", type := 2, offset := 0, embedded := false, tag := "", pkgPath := "runtime", byteOffset := 0 }, { name := "y", type := 3, offset := 1, embedded := false, tag := "", pkgPath := "runtime", byteOffset := 8 }, { name := "signed", type := 4, offset := 2, embedded := false, tag := "", pkgPath := "runtime", byteOffset := 16 }, { name := "code", type := 6, offset := 3, embedded := false, tag := "", pkgPath := "runtime", byteOffset := 17 }], 4, 24, .agg #[.int .i64 0, .int .i64 0, .bool false, .int .u8 0], [.int .i64 0, .int .i64 0, .bool false, .int .u8 0]⟩ :=
  TyFact.mk' Tryd.underlying7 tyi7 (fun h => by cases h) rfl rfl rfl (fun w pr => ⟨.int _ _, .int _ _, .bool _, .int _ _, trivial⟩) rfl (fun fields h => by cases h; exact ⟨[(0, 1), (1, 1), (2, 1), (3, 1)], by kernel_rfl⟩)
theorem tyf8 : TyFact Tryd.prog 8 ⟨.struct #[{ name := "x", type := 2, offset := 0, embedded := false, tag := "", pkgPath := "runtime", byteOffset := 0 }, { name := "y", type := 3, offset := 1, embedded := false, tag := "", pkgPath := "runtime", byteOffset := 8 }, { name := "signed", type := 4, offset := 2, embedded := false, tag := "", pkgPath := "runtime", byteOffset := 16 }, { name := "code", type := 6, offset := 3, embedded := false, tag := "", pkgPath := "runtime", byteOffset := 17 }], 4, 24, .agg #[.int .i64 0, .int .i64 0, .bool false, .int .u8 0], [.int .i64 0, .int .i64 0, .bool false, .int .u8 0]⟩ :=
  TyFact.mk' Tryd.underlying8 tyi8 (fun h => by cases h) rfl rfl rfl (fun w pr => ⟨.int _ _, .int _ _, .bool _, .int _ _, trivial⟩) rfl (fun fields h => by cases h; exact ⟨[(0, 1), (1, 1), (2, 1), (3, 1)], by kernel_rfl⟩)
theorem tyf9 : TyFact Tryd.prog 9 ⟨.string, 1, 16, .string ⟨#[]⟩, [.str ⟨#[]⟩]⟩ :=
  TyFact.mk' Tryd.underlying9 tyi9 (fun _ => rfl) rfl rfl rfl (fun w pr => ⟨.str _, trivial⟩) rfl (fun fields h => by cases h)
theorem tyf10 : TyFact Tryd.prog 10 ⟨.string, 1, 16, .string ⟨#[]⟩, [.str ⟨#[]⟩]⟩ :=
  TyFact.mk' Tryd.underlying10 tyi10 (fun _ => rfl) rfl rfl rfl (fun w pr => ⟨.str _, trivial⟩) rfl (fun fields h => by cases h)
theorem tyf11 : TyFact Tryd.prog 11 ⟨.string, 1, 16, .string ⟨#[]⟩, [.str ⟨#[]⟩]⟩ :=
  TyFact.mk' Tryd.underlying11 tyi11 (fun _ => rfl) rfl rfl rfl (fun w pr => ⟨.str _, trivial⟩) rfl (fun fields h => by cases h)
theorem tyf12 : TyFact Tryd.prog 12 ⟨.int .u64, 1, 8, .int .u64 0, [.int .u64 0]⟩ :=
  TyFact.mk' Tryd.underlying12 tyi12 (fun _ => rfl) rfl rfl rfl (fun w pr => ⟨.int _ _, trivial⟩) rfl (fun fields h => by cases h)
theorem tyf13 : TyFact Tryd.prog 13 ⟨.struct #[{ name := "msg", type := 9, offset := 0, embedded := false, tag := "", pkgPath := "runtime", byteOffset := 0 }, { name := "addr", type := 12, offset := 1, embedded := false, tag := "", pkgPath := "runtime", byteOffset := 16 }], 2, 24, .agg #[.string ⟨#[]⟩, .int .u64 0], [.str ⟨#[]⟩, .int .u64 0]⟩ :=
  TyFact.mk' Tryd.underlying13 tyi13 (fun h => by cases h) rfl rfl rfl (fun w pr => ⟨.str _, .int _ _, trivial⟩) rfl (fun fields h => by cases h; exact ⟨[(0, 1), (1, 1)], by kernel_rfl⟩)
theorem tyf14 : TyFact Tryd.prog 14 ⟨.struct #[{ name := "msg", type := 9, offset := 0, embedded := false, tag := "", pkgPath := "runtime", byteOffset := 0 }, { name := "addr", type := 12, offset := 1, embedded := false, tag := "", pkgPath := "runtime", byteOffset := 16 }], 2, 24, .agg #[.string ⟨#[]⟩, .int .u64 0], [.str ⟨#[]⟩, .int .u64 0]⟩ :=
  TyFact.mk' Tryd.underlying14 tyi14 (fun h => by cases h) rfl rfl rfl (fun w pr => ⟨.str _, .int _ _, trivial⟩) rfl (fun fields h => by cases h; exact ⟨[(0, 1), (1, 1)], by kernel_rfl⟩)
theorem tyf20 : TyFact Tryd.prog 20 ⟨.interface #[], 1, 16, .nilIface, [.nilIf]⟩ :=
  TyFact.mk' Tryd.underlying20 tyi20 (fun _ => rfl) rfl rfl rfl (fun w pr => ⟨.nilIf, trivial⟩) rfl (fun fields h => by cases h)
theorem tyf21 : TyFact Tryd.prog 21 ⟨.int .i32, 1, 4, .int .i32 0, [.int .i32 0]⟩ :=
  TyFact.mk' Tryd.underlying21 tyi21 (fun _ => rfl) rfl rfl rfl (fun w pr => ⟨.int _ _, trivial⟩) rfl (fun fields h => by cases h)
theorem tyf22 : TyFact Tryd.prog 22 ⟨.slice 25, 1, 24, .slice none 0 0, [.sl (some 3) []]⟩ :=
  TyFact.mk' Tryd.underlying22 tyi22 (fun _ => rfl) rfl rfl rfl (fun w pr => ⟨.nil _, trivial⟩) rfl (fun fields h => by cases h)
theorem tyf23 : TyFact Tryd.prog 23 ⟨.slice 5, 1, 24, .slice none 0 0, [.sl none []]⟩ :=
  TyFact.mk' Tryd.underlying23 tyi23 (fun _ => rfl) rfl rfl rfl (fun w pr => ⟨.nil _, trivial⟩) rfl (fun fields h => by cases h)
theorem tyf24 : TyFact Tryd.prog 24 ⟨.struct #[{ name := "OID", type := 9, offset := 0, embedded := false, tag := "", pkgPath := "", byteOffset := 0 }, { name := "Critical", type := 4, offset := 1, embedded := false, tag := "", pkgPath := "", byteOffset := 16 }, { name := "Value", type := 23, offset := 2, embedded := false, tag := "", pkgPath := "", byteOffset := 24 }], 3, 48, .agg #[.string ⟨#[]⟩, .bool false, .slice none 0 0], [.str ⟨#[]⟩, .bool false, .sl none []]⟩ :=
  TyFact.mk' Tryd.underlying24 tyi24 (fun h => by cases h) rfl rfl rfl (fun w pr => ⟨.str _, .bool _, .nil _, trivial⟩) rfl (fun fields h => by cases h; exact ⟨[(0, 1), (1, 1), (2, 1)], by kernel_rfl⟩)
theorem tyf25 : TyFact Tryd.prog 25 ⟨.struct #[{ name := "OID", type := 9, offset := 0, embedded := false, tag := "", pkgPath := "", byteOffset := 0 }, { name := "Critical", type := 4, offset := 1, embedded := false, tag := "", pkgPath := "", byteOffset := 16 }, { name := "Value", type := 23, offset := 2, embedded := false, tag := "", pkgPath := "", byteOffset := 24 }], 3, 48, .agg #[.string ⟨#[]⟩, .bool false, .slice none 0 0], [.str ⟨#[]⟩, .bool false, .sl none []]⟩ :=
  TyFact.mk' Tryd.underlying25 tyi25 (fun h => by cases h) rfl rfl rfl (fun w pr => ⟨.str _, .bool _, .nil _, trivial⟩) rfl (fun fields h => by cases h; exact ⟨[(0, 1), (1, 1), (2, 1)], by kernel_rfl⟩)
theorem tyf33 : TyFact Tryd.prog 33 ⟨.int .i64, 1, 8, .int .i64 0, [.int .i64 0]⟩ :=
  TyFact.mk' Tryd.underlying33 tyi33 (fun _ => rfl) rfl rfl rfl (fun w pr => ⟨.int _ _, trivial⟩) rfl (fun fields h => by cases h)
theorem tyf41 : TyFact Tryd.prog 41 ⟨.slice 23, 1, 24, .slice none 0 0, [.sl none []]⟩ :=
  TyFact.mk' Tryd.underlying41 tyi41 (fun _ => rfl) rfl rfl rfl (fun w pr => ⟨.nil _, trivial⟩) rfl (fun fields h => by cases h)
theorem tyf48 : TyFact Tryd.prog 48 ⟨.slice 51, 1, 24, .slice none 0 0, [.sl none []]⟩ :=
  TyFact.mk' Tryd.underlying48 tyi48 (fun _ => rfl) rfl rfl rfl (fun w pr => ⟨.nil _, trivial⟩) rfl (fun fields h => by cases h)
theorem tyf51 : TyFact Tryd.prog 51 ⟨.int .u32, 1, 4, .int .u32 0, [.int .u32 0]⟩ :=
  TyFact.mk' Tryd.underlying51 tyi51 (fun _ => rfl) rfl rfl rfl (fun w pr => ⟨.int _ _, trivial⟩) rfl (fun fields h => by cases h)
theorem tyf52 : TyFact Tryd.prog 52 ⟨.int .u64, 1, 8, .int .u64 0, [.int .u64 0]⟩ :=
  TyFact.mk' Tryd.underlying52 tyi52 (fun _ => rfl) rfl rfl rfl (fun w pr => ⟨.int _ _, trivial⟩) rfl (fun fields h => by cases h)
theorem tyf57 : TyFact Tryd.prog 57 ⟨.slice 9, 1, 24, .slice none 0 0, [.sl none []]⟩ :=
  TyFact.mk' Tryd.underlying57 tyi57 (fun _ => rfl) rfl rfl rfl (fun w pr => ⟨.nil _, trivial⟩) rfl (fun fields h => by cases h)
theorem tyf59 : TyFact Tryd.prog 59 ⟨.int .u64, 1, 8, .int .u64 0, [.int .u64 0]⟩ :=
  TyFact.mk' Tryd.underlying59 tyi59 (fun _ => rfl) rfl rfl rfl (fun w pr => ⟨.int _ _, trivial⟩) rfl (fun fields h => by cases h)
theorem tyf60 : TyFact Tryd.prog 60 ⟨.interface #[("Error", 115)], 1, 16, .nilIface, [.nilIf]⟩ :=
  TyFact.mk' Tryd.underlying60 tyi60 (fun _ => rfl) rfl rfl rfl (fun w pr => ⟨.nilIf, trivial⟩) rfl (fun fields h => by cases h)
theorem tyf61 : TyFact Tryd.prog 61 ⟨.interface #[("Error", 115)], 1, 16, .nilIface, [.nilIf]⟩ :=
  TyFact.mk' Tryd.underlying61 tyi61 (fun _ => rfl) rfl rfl rfl (fun w pr => ⟨.nilIf, trivial⟩) rfl (fun fields h => by cases h)
theorem tyf75 : TyFact Tryd.prog 75 ⟨.int .i64, 1, 8, .int .i64 0, [.int .i64 0]⟩ :=
  TyFact.mk' Tryd.underlying75 tyi75 (fun _ => rfl) rfl rfl rfl (fun w pr => ⟨.int _ _, trivial⟩) rfl (fun fields h => by cases h)
theorem tyf82 : TyFact Tryd.prog 82 ⟨.array 24 5, 24, 24, .agg #[.int .u8 0, .int .u8 0, .int .u8 0, .int .u8 0, .int .u8 0, .int .u8 0, .int .u8 0, .int .u8 0, .int .u8 0, .int .u8 0, .int .u8 0, .int .u8 0, .int .u8 0, .int .u8 0, .int .u8 0, .int .u8 0, .int .u8 0, .int .u8 0, .int .u8 0, .int .u8 0, .int .u8 0, .int .u8 0, .int .u8 0, .int .u8 0], [.int .u8 0, .int .u8 0, .int .u8 0, .int .u8 0, .int .u8 0, .int .u8 0, .int .u8 0, .int .u8 0, .int .u8 0, .int .u8 0, .int .u8 0, .int .u8 0, .int .u8 0, .int .u8 0, .int .u8 0, .int .u8 0, .int .u8 0, .int .u8 0, .int .u8 0, .int .u8 0, .int .u8 0, .int .u8 0, .int .u8 0, .int .u8 0]⟩ :=
  TyFact.mk' Tryd.underlying82 tyi82 (fun h => by cases h) rfl rfl rfl (fun w pr => ⟨.int _ _, .int _ _, .int _ _, .int _ _, .int _ _, .int _ _, .int _ _, .int _ _, .int _ _, .int _ _, .int _ _, .int _ _, .int _ _, .int _ _, .int _ _, .int _ _, .int _ _, .int _ _, .int _ _, .int _ _, .int _ _, .int _ _, .int _ _, .int _ _, trivial⟩) rfl (fun fields h => by cases h)
theorem tyf92 : TyFact Tryd.prog 92 ⟨.struct #[{ name := "Func", type := 9, offset := 0, embedded := false, tag := "", pkgPath := "", byteOffset := 0 }, { name := "Num", type := 9, offset := 1, embedded := false, tag := "", pkgPath := "", byteOffset := 16 }, { name := "Err", type := 61, offset := 2, embedded := false, tag := "", pkgPath := "", byteOffset := 32 }], 3, 48, .agg #[.string ⟨#[]⟩, .string ⟨#[]⟩, .nilIface], [.str ⟨#[]⟩, .str ⟨#[]⟩, .nilIf]⟩ :=
  TyFact.mk' Tryd.underlying92 tyi92 (fun h => by cases h) rfl rfl rfl (fun w pr => ⟨.str _, .str _, .nilIf, trivial⟩) rfl (fun fields h => by cases h; exact ⟨[(0, 1), (1, 1), (2, 1)], by kernel_rfl⟩)
theorem tyf93 : TyFact Tryd.prog 93 ⟨.struct #[{ name := "Func", type := 9, offset := 0, embedded := false, tag := "", pkgPath := "", byteOffset := 0 }, { name := "Num", type := 9, offset := 1, embedded := false, tag := "", pkgPath := "", byteOffset := 16 }, { name := "Err", type := 61, offset := 2, embedded := false, tag := "", pkgPath := "", byteOffset := 32 }], 3, 48, .agg #[.string ⟨#[]⟩, .string ⟨#[]⟩, .nilIface], [.str ⟨#[]⟩, .str ⟨#[]⟩, .nilIf]⟩ :=
  TyFact.mk' Tryd.underlying93 tyi93 (fun h => by cases h) rfl rfl rfl (fun w pr => ⟨.str _, .str _, .nilIf, trivial⟩) rfl (fun fields h => by cases h; exact ⟨[(0, 1), (1, 1), (2, 1)], by kernel_rfl⟩)
theorem tyf97 : TyFact Tryd.prog 97 ⟨.array 20 59, 20, 160, .agg #[.int .u64 0, .int .u64 0, .int .u64 0, .int .u64 0, .int .u64 0, .int .u64 0, .int .u64 0, .int .u64 0, .int .u64 0, .int .u64 0, .int .u64 0, .int .u64 0, .int .u64 0, .int .u64 0, .int .u64 0, .int .u64 0, .int .u64 0, .int .u64 0, .int .u64 0, .int .u64 0], [.int .u64 0, .int .u64 0, .int .u64 0, .int .u64 0, .int .u64 0, .int .u64 0, .int .u64 0, .int .u64 0, .int .u64 0, .int .u64 0, .int .u64 0, .int .u64 0, .int .u64 0, .int .u64 0, .int .u64 0, .int .u64 0, .int .u64 0, .int .u64 0, .int .u64 0, .int .u64 0]⟩ :=
  TyFact.mk' Tryd.underlying97 tyi97 (fun h => by cases h) rfl rfl rfl (fun w pr => ⟨.int _ _, .int _ _, .int _ _, .int _ _, .int _ _, .int _ _, .int _ _, .int _ _, .int _ _, .int _ _, .int _ _, .int _ _, .int _ _, .int _ _, .int _ _, .int _ _, .int _ _, .int _ _, .int _ _, .int _ _, trivial⟩) rfl (fun fields h => by cases h)
theorem tyf103 : TyFact Tryd.prog 103 ⟨.struct #[{ name := "s", type := 9, offset := 0, embedded := false, tag := "", pkgPath := "errors", byteOffset := 0 }], 1, 16, .agg #[.string ⟨#[]⟩], [.str ⟨#[]⟩]⟩ :=
  TyFact.mk' Tryd.underlying103 tyi103 (fun h => by cases h) rfl rfl rfl (fun w pr => ⟨.str _, trivial⟩) rfl (fun fields h => by cases h; exact ⟨[(0, 1)], by kernel_rfl⟩)
theorem tyf104 : TyFact Tryd.prog 104 ⟨.struct #[{ name := "s", type := 9, offset := 0, embedded := false, tag := "", pkgPath := "errors", byteOffset := 0 }], 1, 16, .agg #[.string ⟨#[]⟩], [.str ⟨#[]⟩]⟩ :=
  TyFact.mk' Tryd.underlying104 tyi104 (fun h => by cases h) rfl rfl rfl (fun w pr => ⟨.str _, trivial⟩) rfl (fun fields h => by cases h; exact ⟨[(0, 1)], by kernel_rfl⟩)
theorem tyf107 : TyFact Tryd.prog 107 ⟨.struct #[{ name := "lo", type := 5, offset := 0, embedded := false, tag := "", pkgPath := "unicode/utf8", byteOffset := 0 }, { name := "hi", type := 5, offset := 1, embedded := false, tag := "", pkgPath := "unicode/utf8", byteOffset := 1 }], 2, 2, .agg #[.int .u8 0, .int .u8 0], [.int .u8 0, .int .u8 0]⟩ :=
  TyFact.mk' Tryd.underlying107 tyi107 (fun h => by cases h) rfl rfl rfl (fun w pr => ⟨.int _ _, .int _ _, trivial⟩) rfl (fun fields h => by cases h; exact ⟨[(0, 1), (1, 1)], by kernel_rfl⟩)
theorem tyf108 : TyFact Tryd.prog 108 ⟨.struct #[{ name := "lo", type := 5, offset := 0, embedded := false, tag := "", pkgPath := "unicode/utf8", byteOffset := 0 }, { name := "hi", type := 5, offset := 1, embedded := false, tag := "", pkgPath := "unicode/utf8", byteOffset := 1 }], 2, 2, .agg #[.int .u8 0, .int .u8 0], [.int .u8 0, .int .u8 0]⟩ :=
  TyFact.mk' Tryd.underlying108 tyi108 (fun h => by cases h) rfl rfl rfl (fun w pr => ⟨.int _ _, .int _ _, trivial⟩) rfl (fun fields h => by cases h; exact ⟨[(0, 1), (1, 1)], by kernel_rfl⟩)
theorem tyf109 : TyFact Tryd.prog 109 ⟨.array 16 108, 32, 32, .agg #[.int .u8 0, .int .u8 0, .int .u8 0, .int .u8 0, .int .u8 0, .int .u8 0, .int .u8 0, .int .u8 0, .int .u8 0, .int .u8 0, .int .u8 0, .int .u8 0, .int .u8 0, .int .u8 0, .int .u8 0, .int .u8 0, .int .u8 0, .int .u8 0, .int .u8 0, .int .u8 0, .int .u8 0, .int .u8 0, .int .u8 0, .int .u8 0, .int .u8 0, .int .u8 0, .int .u8 0, .int .u8 0, .int .u8 0, .int .u8 0, .int .u8 0, .int .u8 0], [.int .u8 0, .int .u8 0, .int .u8 0, .int .u8 0, .int .u8 0, .int .u8 0, .int .u8 0, .int .u8 0, .int .u8 0, .int .u8 0, .int .u8 0, .int .u8 0, .int .u8 0, .int .u8 0, .int .u8 0, .int .u8 0, .int .u8 0, .int .u8 0, .int .u8 0, .int .u8 0, .int .u8 0, .int .u8 0, .int .u8 0, .int .u8 0, .int .u8 0, .int .u8 0, .int .u8 0, .int .u8 0, .int .u8 0, .int .u8 0, .int .u8 0, .int .u8 0]⟩ :=
  TyFact.mk' Tryd.underlying109 tyi109 (fun h => by cases h) rfl rfl rfl (fun w pr => ⟨.int _ _, .int _ _, .int _ _, .int _ _, .int _ _, .int _ _, .int _ _, .int _ _, .int _ _, .int _ _, .int _ _, .int _ _, .int _ _, .int _ _, .int _ _, .int _ _, .int _ _, .int _ _, .int _ _, .int _ _, .int _ _, .int _ _, .int _ _, .int _ _, .int _ _, .int _ _, .int _ _, .int _ _, .int _ _, .int _ _, .int _ _, .int _ _, trivial⟩) rfl (fun fields h => by cases h)
theorem tyf113 : TyFact Tryd.prog 113 ⟨.array 32 5, 32, 32, .agg #[.int .u8 0, .int .u8 0, .int .u8 0, .int .u8 0, .int .u8 0, .int .u8 0, .int .u8 0, .int .u8 0, .int .u8 0, .int .u8 0, .int .u8 0, .int .u8 0, .int .u8 0, .int .u8 0, .int .u8 0, .int .u8 0, .int .u8 0, .int .u8 0, .int .u8 0, .int .u8 0, .int .u8 0, .int .u8 0, .int .u8 0, .int .u8 0, .int .u8 0, .int .u8 0, .int .u8 0, .int .u8 0, .int .u8 0, .int .u8 0, .int .u8 0, .int .u8 0], [.int .u8 0, .int .u8 0, .int .u8 0, .int .u8 0, .int .u8 0, .int .u8 0, .int .u8 0, .int .u8 0, .int .u8 0, .int .u8 0, .int .u8 0, .int .u8 0, .int .u8 0, .int .u8 0, .int .u8 0, .int .u8 0, .int .u8 0, .int .u8 0, .int .u8 0, .int .u8 0, .int .u8 0, .int .u8 0, .int .u8 0, .int .u8 0, .int .u8 0, .int .u8 0, .int .u8 0, .int .u8 0, .int .u8 0, .int .u8 0, .int .u8 0, .int .u8 0]⟩ :=
  TyFact.mk' Tryd.underlying113 tyi113 (fun h => by cases h) rfl rfl rfl (fun w pr => ⟨.int _ _, .int _ _, .int _ _, .int _ _, .int _ _, .int _ _, .int _ _, .int _ _, .int _ _, .int _ _, .int _ _, .int _ _, .int _ _, .int _ _, .int _ _, .int _ _, .int _ _, .int _ _, .int _ _, .int _ _, .int _ _, .int _ _, .int _ _, .int _ _, .int _ _, .int _ _, .int _ _, .int _ _, .int _ _, .int _ _, .int _ _, .int _ _, trivial⟩) rfl (fun fields h => by cases h)
theorem tyf114 : TyFact Tryd.prog 114 ⟨.array 64 5, 64, 64, .agg #[.int .u8 0, .int .u8 0, .int .u8 0, .int .u8 0, .int .u8 0, .int .u8 0, .int .u8 0, .int .u8 0, .int .u8 0, .int .u8 0, .int .u8 0, .int .u8 0, .int .u8 0, .int .u8 0, .int .u8 0, .int .u8 0, .int .u8 0, .int .u8 0, .int .u8 0, .int .u8 0, .int .u8 0, .int .u8 0, .int .u8 0, .int .u8 0, .int .u8 0, .int .u8 0, .int .u8 0, .int .u8 0, .int .u8 0, .int .u8 0, .int .u8 0, .int .u8 0, .int .u8 0, .int .u8 0, .int .u8 0, .int .u8 0, .int .u8 0, .int .u8 0, .int .u8 0, .int .u8 0, .int .u8 0, .int .u8 0, .int .u8 0, .int .u8 0, .int .u8 0, .int .u8 0, .int .u8 0, .int .u8 0, .int .u8 0, .int .u8 0, .int .u8 0, .int .u8 0, .int .u8 0, .int .u8 0, .int .u8 0, .int .u8 0, .int .u8 0, .int .u8 0, .int .u8 0, .int .u8 0, .int .u8 0, .int .u8 0, .int .u8 0, .int .u8 0], [.int .u8 0, .int .u8 0, .int .u8 0, .int .u8 0, .int .u8 0, .int .u8 0, .int .u8 0, .int .u8 0, .int .u8 0, .int .u8 0, .int .u8 0, .int .u8 0, .int .u8 0, .int .u8 0, .int .u8 0, .int .u8 0, .int .u8 0, .int .u8 0, .int .u8 0, .int .u8 0, .int .u8 0, .int .u8 0, .int .u8 0, .int .u8 0, .int .u8 0, .int .u8 0, .int .u8 0, .int .u8 0, .int .u8 0, .int .u8 0, .int .u8 0, .int .u8 0, .int .u8 0, .int .u8 0, .int .u8 0, .int .u8 0, .int .u8 0, .int .u8 0, .int .u8 0, .int .u8 0, .int .u8 0, .int .u8 0, .int .u8 0, .int .u8 0, .int .u8 0, .int .u8 0, .int .u8 0, .int .u8 0, .int .u8 0, .int .u8 0, .int .u8 0, .int .u8 0, .int .u8 0, .int .u8 0, .int .u8 0, .int .u8 0, .int .u8 0, .int .u8 0, .int .u8 0, .int .u8 0, .int .u8 0, .int .u8 0, .int .u8 0, .int .u8 0]⟩ :=
  TyFact.mk' Tryd.underlying114 tyi114 (fun h => by cases h) rfl rfl rfl (fun w pr => ⟨.int _ _, .int _ _, .int _ _, .int _ _, .int _ _, .int _ _, .int _ _, .int _ _, .int _ _, .int _ _, .int _ _, .int _ _, .int _ _, .int _ _, .int _ _, .int _ _, .int _ _, .int _ _, .int _ _, .int _ _, .int _ _, .int _ _, .int _ _, .int _ _, .int _ _, .int _ _, .int _ _, .int _ _, .int _ _, .int _ _, .int _ _, .int _ _, .int _ _, .int _ _, .int _ _, .int _ _, .int _ _, .int _ _, .int _ _, .int _ _, .int _ _, .int _ _, .int _ _, .int _ _, .int _ _, .int _ _, .int _ _, .int _ _, .int _ _, .int _ _, .int _ _, .int _ _, .int _ _, .int _ _, .int _ _, .int _ _, .int _ _, .int _ _, .int _ _, .int _ _, .int _ _, .int _ _, .int _ _, .int _ _, trivial⟩) rfl (fun fields h => by cases h)
theorem tyf122 : TyFact Tryd.prog 122 ⟨.int .u8, 1, 1, .int .u8 0, [.int .u8 0]⟩ :=
  TyFact.mk' Tryd.underlying122 tyi122 (fun _ => rfl) rfl rfl rfl (fun w pr => ⟨.int _ _, trivial⟩) rfl (fun fields h => by cases h)
theorem tyf123 : TyFact Tryd.prog 123 ⟨.int .u8, 1, 1, .int .u8 0, [.int .u8 0]⟩ :=
  TyFact.mk' Tryd.underlying123 tyi123 (fun _ => rfl) rfl rfl rfl (fun w pr => ⟨.int _ _, trivial⟩) rfl (fun fields h => by cases h)
theorem tyf125 : TyFact Tryd.prog 125 ⟨.int .i32, 1, 4, .int .i32 0, [.int .i32 0]⟩ :=
  TyFact.mk' Tryd.underlying125 tyi125 (fun _ => rfl) rfl rfl rfl (fun w pr => ⟨.int _ _, trivial⟩) rfl (fun fields h => by cases h)
theorem tyf126 : TyFact Tryd.prog 126 ⟨.int .i32, 1, 4, .int .i32 0, [.int .i32 0]⟩ :=
  TyFact.mk' Tryd.underlying126 tyi126 (fun _ => rfl) rfl rfl rfl (fun w pr => ⟨.int _ _, trivial⟩) rfl (fun fields h => by cases h)
theorem ty_ok : TyOk Tryd.prog ty := Am.tyOk_of (P := Tryd.prog) (l := tyL) ⟨tyf2, tyf3, tyf4, tyf5, tyf6, tyf7, tyf8, tyf9, tyf10, tyf11, tyf12, tyf13, tyf14, tyf20, tyf21, tyf22, tyf23, tyf24, tyf25, tyf33, tyf41, tyf48, tyf51, tyf52, tyf57, tyf59, tyf60, tyf61, tyf75, tyf82, tyf92, tyf93, tyf97, tyf103, tyf104, tyf107, tyf108, tyf109, tyf113, tyf114, tyf122, tyf123, tyf125, tyf126, trivial⟩
theorem own : ownKnob Tryd.prog.godebug = none := by kernel_rfl
theorem laidOut : laidOutB Tryd.prog = true := by kernel_rfl
theorem mixed : Tryd.prog.follows .mixedOrders = true := by kernel_rfl
end Go.Proofs.YtohabohifjadgaaDoor

/- Functions of Go's library and of package cretulabase, walked by the abstract machine. -/
namespace Go.Proofs.YtohabohifjadgaaDoor
open Go.Am
set_option linter.unusedSimpArgs false
set_option linter.unusedVariables false

theorem isBytes : IsFn Tryd.prog 11 Tryd.f11 := ⟨Tryd.func11, by decide, rfl⟩
theorem c_bytes (Γ : Env) (x y : List UInt8) : ACalls Tryd.prog Γ 11 [.sl none (bys x), .sl none (bys y)] (fun r => r = .d (.bool (decide (x = y)))) := by
  refine acalls_of ty_ok isBytes rfl rfl ?_
  refine awp_reg ty_ok rfl sd ?_
  refine awp_reg ty_ok rfl ?_ ?_
  · simp only [and_true, true_and]
    exact ⟨bys_u8 _, bys_u8 _⟩
  refine awp_ret ⟨_, _, rfl, rfl, ?_⟩
  simp only [strOf_eq]

theorem isClone : IsFn Tryd.prog 22 Tryd.f22 := ⟨Tryd.func22, by decide, rfl⟩
theorem c_clone (Γ : Env) (x : List UInt8) (hx : x.length ≤ 1099511627776) : ACalls Tryd.prog Γ 22 [.sl none (bys x)] (fun r => r = .own none 5 (bys x)) := by
  refine acalls_of ty_ok isClone rfl rfl ?_
  refine awp_reg ty_ok rfl sd ?_
  refine awp_seq ?_
  refine awp_regs ty_ok rfl sd ?_
  refine aops_isnil ty_ok rfl rfl rfl rfl rfl rfl rfl rfl (fun b hb => ?_)
  refine aops_nil ?_
  refine awp_cond (ty := ty) rfl (fun hc => ?_) (fun hc => ?_)
  · refine awp_reg ty_ok rfl sd ?_
    refine awp_nilrow 2 5 rfl ?_
    refine awp_ret ⟨_, _, rfl, rfl, ?_⟩
    rw [hb hc]
    rfl
  · refine awp_skip ?_
    refine awp_reg ty_ok rfl sd ?_
    refine awp_ret ⟨_, _, rfl, rfl, ?_⟩
    rfl

def sumL (l : List (List UInt8)) : Nat := (l.map List.length).sum
theorem sumL_take (l : List (List UInt8)) (n : Nat) (h : n < l.length) : sumL (l.take (n + 1)) = sumL (l.take n) + l[n].length := by
  unfold sumL
  rw [List.take_succ_eq_append_getElem h, List.map_append, List.sum_append]
  simp
theorem sumL_le (l : List (List UInt8)) (n : Nat) : sumL (l.take n) ≤ sumL l := by
  have : sumL l = sumL (l.take n) + sumL (l.drop n) := by
    unfold sumL
    rw [← List.sum_append, ← List.map_append, List.take_append_drop]
  omega
theorem sumL_flat (l : List (List UInt8)) : l.flatten.length = sumL l := by simp [sumL, List.length_flatten]

theorem isGrow : IsFn Tryd.prog 34 Tryd.f34 := ⟨Tryd.func34, by decide, rfl⟩
theorem isConcat : IsFn Tryd.prog 27 Tryd.f27 := ⟨Tryd.func27, by decide, rfl⟩
theorem c_concat (Γ : Env) (ps : List (List UInt8)) (h1 : ps.length ≤ 1099511627776) (h2 : sumL ps ≤ 1099511627776) : ACalls Tryd.prog Γ 27 [.sl none (byss ps)] (fun r => r = .own none 5 (bys ps.flatten)) := by
  refine acalls_of ty_ok isConcat rfl rfl ?_
  repeat (first | refine awp_reg ty_ok rfl sd ?_ | refine awp_seq ?_ | refine awp_all ty_ok rfl sd ?_ | refine awp_block ?_ | refine awp_skip ?_ | refine awp_exit ?_)
  refine awp_loop (G := { k : Nat // k ≤ ps.length }) (fun k => ⟨Tryd.f27.ntmps, [(0, .d (.sl none (byss ps))), (3, .d (.int .i64 (sumL (ps.take k.1)))), (9, .d (.sl none (byss ps))), (10, .d (.int .i64 ps.length)), (11, .d (.int .i64 k.1))], [], 0⟩) (fun k => ps.length - k.1) ⟨0, Nat.zero_le _⟩ (Sub.mk' rfl rfl ⟨rfl, rfl, rfl, congrArg (fun z : Nat => some (AV.d (Dat.int IntKind.i64 z))) (byss_len ps), rfl, trivial⟩ trivial) ?_
  rintro ⟨k, hk⟩
  repeat (first | refine awp_reg ty_ok rfl sd ?_ | refine awp_seq ?_ | refine awp_all ty_ok rfl sd ?_ | refine awp_block ?_ | refine awp_skip ?_ | refine awp_exit ?_)
  refine awp_cond (ty := ty) rfl (fun hc => ?_) (fun hc => ?_)
  · have hk1 : k < ps.length := by simpa using hc
    repeat (first | refine awp_reg ty_ok rfl sd ?_ | refine awp_seq ?_ | refine awp_all ty_ok rfl sd ?_ | refine awp_block ?_ | refine awp_skip ?_ | refine awp_exit ?_)
    have he : ((byss ps).getD k default).els = bys ps[k] := by
      rw [els_byss]
      simp [hk1]
    simp only [Int.toNat_natCast, he]
    have hs := sumL_take ps k hk1
    have hs2 := sumL_le ps (k + 1)
    repeat (first | refine awp_reg ty_ok rfl sd ?_ | refine awp_seq ?_ | refine awp_all ty_ok rfl sd ?_ | refine awp_block ?_ | refine awp_skip ?_ | refine awp_exit ?_)
    refine awp_cond (ty := ty) rfl (fun hc => ?_) (fun hc => ?_)
    · exfalso
      simp at hc
      omega
    repeat (first | refine awp_reg ty_ok rfl sd ?_ | refine awp_seq ?_ | refine awp_all ty_ok rfl sd ?_ | refine awp_block ?_ | refine awp_skip ?_ | refine awp_exit ?_)
    refine ⟨⟨k + 1, hk1⟩, Sub.mk' rfl rfl ⟨rfl, congrArg (fun z => some (AV.d (Dat.int IntKind.i64 z))) (by rw [hs, bys_len]; simp), rfl, rfl, rfl, trivial⟩ trivial, by simp only; omega⟩
  · simp at hc
    repeat (first | refine awp_reg ty_ok rfl sd ?_ | refine awp_seq ?_ | refine awp_all ty_ok rfl sd ?_ | refine awp_block ?_ | refine awp_skip ?_ | refine awp_exit ?_)
    have hke : k = ps.length := by omega
    subst hke
    rw [List.take_length]
    refine awp_mono (Q := fun e σ => e = .normal ∧ ∃ m, SubR 0 m σ ⟨Tryd.f27.ntmps, [(0, .d (.sl none (byss ps))), (6, .ref 0)], [(0, .row none 5 [])], 1⟩) ?_ ?_
    · by_cases h0 : sumL ps = 0
      · refine awp_run ty_ok rfl sd ?_
        refine aops_inline ty_ok rfl rfl rfl rfl rfl rfl isGrow rfl rfl ?_
        repeat (first | refine awp_reg ty_ok rfl sd ?_ | refine awp_seq ?_ | refine awp_all ty_ok rfl sd ?_ | refine awp_block ?_ | refine awp_skip ?_ | refine awp_exit ?_)
        refine awp_cond (ty := ty) rfl (fun hc => ?_) (fun hc => ?_)
        · exfalso
          simp at hc
          omega
        repeat (first | refine awp_reg ty_ok rfl sd ?_ | refine awp_seq ?_ | refine awp_all ty_ok rfl sd ?_ | refine awp_block ?_ | refine awp_skip ?_ | refine awp_exit ?_)
        refine awp_run ty_ok rfl sd ?_
        refine aops_capnil ty_ok rfl rfl rfl rfl rfl rfl ?_
        refine aops_run ty_ok [] rfl sd ?_
        refine aops_nil ?_
        repeat (first | refine awp_reg ty_ok rfl sd ?_ | refine awp_seq ?_ | refine awp_all ty_ok rfl sd ?_ | refine awp_block ?_ | refine awp_skip ?_ | refine awp_exit ?_)
        refine awp_cond (ty := ty) rfl (fun hc => ?_) (fun hc => ?_)
        · exfalso
          simp at hc
          omega
        repeat (first | refine awp_reg ty_ok rfl sd ?_ | refine awp_seq ?_ | refine awp_all ty_ok rfl sd ?_ | refine awp_block ?_ | refine awp_skip ?_ | refine awp_exit ?_)
        refine awp_ret ⟨_, rfl, ?_⟩
        refine aops_run ty_ok [] rfl sd ?_
        refine aops_nilrow 6 5 rfl ?_
        refine aops_nil ?_
        exact ⟨rfl, [(0, 0)], SubR.mk' rfl rfl ⟨⟨_, rfl, rfl⟩, ⟨_, rfl, rfl⟩, trivial⟩ ⟨⟨_, _, rfl, rfl, rfl⟩, trivial⟩⟩
      · refine awp_run ty_ok rfl sd ?_
        refine aops_inline ty_ok rfl rfl rfl rfl rfl rfl isGrow rfl rfl ?_
        repeat (first | refine awp_reg ty_ok rfl sd ?_ | refine awp_seq ?_ | refine awp_all ty_ok rfl sd ?_ | refine awp_block ?_ | refine awp_skip ?_ | refine awp_exit ?_)
        refine awp_cond (ty := ty) rfl (fun hc => ?_) (fun hc => ?_)
        · exfalso
          simp at hc
          omega
        repeat (first | refine awp_reg ty_ok rfl sd ?_ | refine awp_seq ?_ | refine awp_all ty_ok rfl sd ?_ | refine awp_block ?_ | refine awp_skip ?_ | refine awp_exit ?_)
        refine awp_run ty_ok rfl sd ?_
        refine aops_capnil ty_ok rfl rfl rfl rfl rfl rfl ?_
        refine aops_run ty_ok [] rfl sd ?_
        refine aops_nil ?_
        repeat (first | refine awp_reg ty_ok rfl sd ?_ | refine awp_seq ?_ | refine awp_all ty_ok rfl sd ?_ | refine awp_block ?_ | refine awp_skip ?_ | refine awp_exit ?_)
        refine awp_cond (ty := ty) rfl (fun hc => ?_) (fun hc => ?_)
        · repeat (first | refine awp_reg ty_ok rfl sd ?_ | refine awp_seq ?_ | refine awp_all ty_ok rfl sd ?_ | refine awp_block ?_ | refine awp_skip ?_ | refine awp_exit ?_)
          refine awp_run ty_ok rfl sd ?_
          refine aops_capnil ty_ok rfl rfl rfl rfl rfl rfl ?_
          refine aops_cutnil ty_ok rfl rfl rfl rfl rfl rfl rfl rfl ?_
          refine aops_run ty_ok [] rfl sd ?_
          refine aops_zeros ty_ok rfl rfl rfl rfl rfl rfl rfl rfl rfl rfl rfl rfl (by simp; omega) (by simp; omega) ?_
          refine aops_run ty_ok [] rfl sd ?_
          refine aops_cut ty_ok rfl rfl rfl rfl rfl rfl rfl rfl rfl (by simp) (by simp) ?_
          refine aops_run ty_ok [] rfl sd ?_
          refine aops_nil ?_
          repeat (first | refine awp_reg ty_ok rfl sd ?_ | refine awp_seq ?_ | refine awp_all ty_ok rfl sd ?_ | refine awp_block ?_ | refine awp_skip ?_ | refine awp_exit ?_)
          refine awp_ret ⟨_, rfl, ?_⟩
          refine aops_run ty_ok [] rfl sd ?_
          refine aops_nil ?_
          exact ⟨rfl, [(1, 0)], SubR.mk' rfl rfl ⟨⟨_, rfl, rfl⟩, ⟨_, rfl, rfl⟩, trivial⟩ ⟨⟨_, _, rfl, rfl, rfl⟩, trivial⟩⟩
        · exfalso
          simp at hc
          omega
    · rintro _ σ ⟨rfl, m, hs⟩
      refine awp_ren m hs ?_
      repeat (first | refine awp_reg ty_ok rfl sd ?_ | refine awp_seq ?_ | refine awp_all ty_ok rfl sd ?_ | refine awp_block ?_ | refine awp_skip ?_ | refine awp_exit ?_)
      refine awp_loopR (G := { k : Nat // k ≤ ps.length }) (fun k => ⟨Tryd.f27.ntmps, [(6, .ref 0), (25, .d (.sl none (byss ps))), (26, .d (.int .i64 ps.length)), (27, .d (.int .i64 k.1))], [(0, .row none 5 (bys (ps.take k.1).flatten))], 1⟩) (fun k => ps.length - k.1) ⟨0, Nat.zero_le _⟩ [(0, 0)]
        (SubR.mk' rfl rfl ⟨⟨_, rfl, rfl⟩, ⟨_, rfl, rfl⟩, ⟨_, rfl, congrArg (fun z : Nat => AV.d (Dat.int IntKind.i64 z)) (byss_len ps)⟩, ⟨_, rfl, rfl⟩, trivial⟩ ⟨⟨_, _, rfl, rfl, rfl⟩, trivial⟩) ?_
      rintro ⟨k, hk⟩
      repeat (first | refine awp_reg ty_ok rfl sd ?_ | refine awp_seq ?_ | refine awp_all ty_ok rfl sd ?_ | refine awp_block ?_ | refine awp_skip ?_ | refine awp_exit ?_)
      refine awp_cond (ty := ty) rfl (fun hc => ?_) (fun hc => ?_)
      · have hk1 : k < ps.length := by simpa using hc
        repeat (first | refine awp_reg ty_ok rfl sd ?_ | refine awp_seq ?_ | refine awp_all ty_ok rfl sd ?_ | refine awp_block ?_ | refine awp_skip ?_ | refine awp_exit ?_)
        have he : ((byss ps).getD k default).els = bys ps[k] := by
          rw [els_byss]
          simp [hk1]
        simp only [Int.toNat_natCast, he]
        have hs := sumL_take ps k hk1
        have hs2 := sumL_le ps (k + 1)
        have hfl := sumL_flat (ps.take k)
        repeat (first | refine awp_reg ty_ok rfl sd ?_ | refine awp_seq ?_ | refine awp_all ty_ok rfl sd ?_ | refine awp_block ?_ | refine awp_skip ?_ | refine awp_exit ?_)
        refine ⟨⟨k + 1, hk1⟩, [(1, 0)], SubR.mk' rfl rfl ⟨⟨_, rfl, rfl⟩, ⟨_, rfl, rfl⟩, ⟨_, rfl, rfl⟩, ⟨_, rfl, rfl⟩, trivial⟩ ⟨⟨_, _, rfl, rfl, congrArg (AO.row none 5) ?_⟩, trivial⟩, by simp only; omega⟩
        rw [List.take_succ_eq_append_getElem hk1, List.flatten_append, bys_app]
        simp
      · have hke : k = ps.length := by
          simp at hc
          omega
        subst hke
        repeat (first | refine awp_reg ty_ok rfl sd ?_ | refine awp_seq ?_ | refine awp_all ty_ok rfl sd ?_ | refine awp_block ?_ | refine awp_skip ?_ | refine awp_exit ?_)
        refine awp_ret ⟨_, _, rfl, rfl, ?_⟩
        simp
end Go.Proofs.YtohabohifjadgaaDoor

/- The abstract machine, twenty-second part: results that lie in new blocks only; calls that borrow rows of the caller; rows made by calls in a region whose order is drawn. No program. -/
namespace Go.Am
open Go.RowKit
set_option linter.unusedSimpArgs false
set_option linter.unusedVariables false

/-- A datum that looks into no block. -/
def FlatD (x : Dat) : Prop := ∀ (w w' : World) (pr pr' : Nat → Bool) (v : Value), RepD w pr x v → RepD w' pr' x v
theorem flat_bool (b : Bool) : FlatD (.bool b) := fun _ _ _ _ _ h => by cases h; exact .bool b
theorem flat_int (k : IntKind) (n : Int) : FlatD (.int k n) := fun _ _ _ _ _ h => by cases h; exact .int k n
theorem flat_str (s : ByteArray) : FlatD (.str s) := fun _ _ _ _ _ h => by cases h; exact .str s
def FlatL (xs : List Dat) : Prop := ∀ x ∈ xs, ∀ y ∈ x.cells, FlatD y
theorem flat_bys (l : List UInt8) : FlatL (bys l) := by
  intro x hx y hy
  obtain ⟨b, _, rfl⟩ := List.mem_map.1 hx
  simp only [by1, Dat.cells, List.mem_singleton] at hy
  subst hy
  exact flat_int _ _

/-- THE CONTRACT of a function whose result lies in new blocks only. -/
def AFresh (P : Program) (Γ : Env) (f : FuncId) (args : List Dat) (R : Dat → Prop) : Prop :=
  (∃ fn, IsFn P f fn) ∧ ∀ (w : World) (pr : Nat → Bool) (vs : Array Value), Γ.ok w → vs.size = args.length → (∀ (j : Nat) (x : Dat), args[j]? = some x → RepD w pr x (vs.getD j undef)) →
    Calls P f vs w fun e w' => ∃ v x, e = .returned v ∧ Below w.heap.size w w' ∧ RepD w' (fun b => decide (w.heap.size ≤ b)) x v ∧ R x
theorem AFresh.of_flat {P : Program} {Γ : Env} {f : FuncId} {args : List Dat} {x : Dat} (h : ACalls P Γ f args (fun r => r = .d x)) (hx : FlatD x) : AFresh P Γ f args (fun y => y = x) :=
  ⟨h.1, fun w pr vs h1 h2 h3 => (h.2 w pr vs h1 h2 h3).mono fun e w' ⟨v, r, a, b, c, d⟩ => by
    subst d
    exact ⟨v, x, a, b, hx _ _ _ _ _ c, rfl⟩⟩
theorem AFresh.plain {P : Program} {Γ : Env} {f : FuncId} {args : List Dat} {x : Dat} (h : AFresh P Γ f args (fun y => y = x)) : ACalls P Γ f args (fun r => r = .d x) :=
  ⟨h.1, fun w pr vs h1 h2 h3 => (h.2 w pr vs h1 h2 h3).mono fun e w' ⟨v, y, a, b, c, d⟩ => by
    subst d
    exact ⟨v, .d y, a, b, c.mono fun b _ hb => ⟨rfl, by simp only [Bool.or_eq_true]; exact .inr hb⟩, rfl⟩⟩

section
variable {P : Program} {Γ : Env} {Q : Exit → St → Prop} {σ : St} {ty : TypeId → Option TI}

theorem row_out {C : Ct} {i : Nat} {ek : Option Nat} {e : TypeId} {xs : List Dat} (h : ORep C i (.row ek e xs)) (hx : FlatL xs) : RepD C.w (fun b => decide (C.B ≤ b)) (.sl ek xs) (C.ρ i) := by
  obtain ⟨_, vals, hown, hp, hcr⟩ := h
  rcases hown.2 with ⟨hn, h0⟩ | ⟨g, cap, cur, hv, hb, hg, hnc, hcm, hcs, htake⟩
  · have : xs = [] := List.eq_nil_of_length_eq_zero h0
    subst this
    rw [hn]
    exact .nil ek
  · rw [hv]
    refine RepD.sl_mk rfl hnc hcm (fun _ => rfl) (fun x hx => ?_) (fun k x hk j y hj => ?_)
    · obtain ⟨k, hk⟩ := List.mem_iff_getElem?.1 hx
      exact (hcr k x hk).1
    · obtain ⟨hf, h2⟩ := hcr k x hk
      obtain ⟨u, hu, hr⟩ := h2 j y hj
      refine ⟨by simpa using hb, hf.one y (List.mem_of_getElem? hj), u, ?_, hx x (List.mem_of_getElem? hk) y (List.mem_of_getElem? hj) _ _ _ _ _ hr⟩
      have := hown.cells (g := g) (by rw [hv]; rfl) _ u hu
      rw [Addr.add_lit] at this
      simpa using this

/-- What a walk hands back in new blocks only, and what is left to show of it. -/
def fresh0 (σ : St) : AV → Option (Dat × Prop)
  | .d x => some (x, FlatD x)
  | .nil ek => some (.sl ek [], True)
  | .ref i => match σ.obj i with
    | some (.row ek e xs) => some (.sl ek xs, FlatL xs)
    | some (.frz ek xs) => some (.sl ek xs, FlatL xs)
    | _ => none
  | _ => none
def freshL (f : AV → Option (Dat × Prop)) : List AV → Option (List Dat × Prop)
  | [] => some ([], True)
  | y :: r => match f y, freshL f r with
    | some (x, p), some (xs, q) => some (x :: xs, p ∧ q)
    | _, _ => none
def fresh1 (σ : St) : AV → Option (Dat × Prop)
  | .agg l => match freshL (fresh0 σ) l with
    | some (xs, p) => some (.agg xs, p ∧ ∀ x ∈ xs, x.one = true)
    | none => none
  | y => fresh0 σ y
def freshR (σ : St) : AV → Option (Dat × Prop)
  | .tup l => match freshL (fresh1 σ) l with
    | some (xs, p) => some (.tup xs, p)
    | none => none
  | y => fresh1 σ y
/-- The end of such a function's walk. -/
def RetOkF (ty : TypeId → Option TI) (fn : Func) (R : Dat → Prop) : Exit → St → Prop
  | .ret, σ => ∃ ys z, resultA ty σ fn.results.toList = some ys ∧ freshR σ (packA ys) = some z ∧ (z.2 ∧ R z.1)
  | .normal, σ => ∃ ys z, resultA ty σ fn.results.toList = some ys ∧ freshR σ (packA ys) = some z ∧ (z.2 ∧ R z.1)
  | _, _ => False
/-- A call that borrows: what it is handed stays the caller's own. -/
theorem aops_lend {ops rest : List Oper} {o : Oper} {c : Call} {fx : Operand} {f : FuncId} {ys : List AV} {dargs : List Dat} {x : Dat} {sz nx : Nat} {tm : List (Nat × AV)} {ob : List (Nat × AO)} (hw : wantedA ops σ o = some true) (hd : dstOk σ o.dst = true) (ho : o.op = .call c) (hc : c.callee = .value fx) (hf : calleeOf σ ty fx = some (f, []))
    (hy : evAll σ ty c.args.toList c.argTypes.toList = some ys) (hdat : datAll (frzAll σ ys) ys = some dargs) (hA : AFresh P Γ f dargs (fun y => y = x)) (hr : σ.put o.dst (.d x) = ⟨sz, tm, ob, nx⟩)
    (k : AOps P Γ ops Q rest ⟨sz, tm, ob, nx⟩) : AOps P Γ ops Q (o :: rest) σ :=
  aops_step hw fun C0 a C K R' b ev m hk => by
    obtain ⟨⟨fn, hfn⟩, hcalls⟩ := hA
    obtain ⟨vs, hvl, _, hrun⟩ := run_call (P := P) m ho hc hf hfn
    have hv0 : vs = #[] := Array.eq_empty_of_size_eq_zero (by simpa using hvl)
    subst hv0
    obtain ⟨C1, m1, e1, hw1⟩ := Models.frzAll ys m
    obtain ⟨y1, y2⟩ := evAll_sound m hy
    obtain ⟨d1, d2⟩ := datAll_sound m1 hdat
    have ev1 := ev.trans e1
    have hB1 := (b.evo ev).B
    unfold Oper.wp
    rw [hrun]
    simp only [Array.append_empty]
    rw [← hw1]
    refine (hcalls C1.w C1.pr (c.args.map a.eval) (b.evo ev1).ok (by rw [d1, y1]; simp) (fun j x hj => ?_)).mono ?_
    · have := d2 (fun j => (c.args.toList.map a.eval).getD j undef) (fun j x hx => (y2 j x hx).mono e1) j x hj
      simpa using this
    · rintro e w' ⟨v, x', rfl, hbel, hres, rfl⟩
      rw [hw1] at hbel hres
      have hres' : RepD w' (C.back0 w').pr x' v := hres.mono fun b _ hb => ⟨rfl, by simp only [Ct.back0, Bool.or_eq_true]; exact .inr hb⟩
      refine hk _ (C.back0 w') _ ((m.back0 hB1 hbel).put (v := v) (.d hres') (dstOk_spec hd)) (ev.trans (Ct.back0_evo hB1 hbel)) ?_
      rw [hr]
      exact k

end
end Go.Am

/- The abstract machine, twenty-fourth part: slice literals of slices of one's own; structs of two integers held against each other. No program. -/
namespace Go.Am
open Go.RowKit
set_option linter.unusedSimpArgs false
set_option linter.unusedVariables false
section
variable {P : Program} {Γ : Env} {Q : Exit → St → Prop} {σ : St} {ty : TypeId → Option TI}
def litVs (σ : St) (ty : TypeId → Option TI) (e : TypeId) : List (Nat × Operand) → List AV
  | [] => []
  | (_, x) :: r => match σ.ev ty e x with
    | some y => y :: litVs σ ty e r
    | none => litVs σ ty e r
/-- A slice literal; the slices in it become read-only. -/
theorem aops_litE (hT : TyOk P ty) {ops rest : List Oper} {o : Oper} {t e : TypeId} {n : Nat} {parts : Array (Nat × Operand)} {ti ei : TI} {ds : List Dat} {sz nx : Nat} {tm : List (Nat × AV)} {ob : List (Nat × AO)} {sz' nx' : Nat} {tm' : List (Nat × AV)} {ob' : List (Nat × AO)} (ho : o.op = .buildSlice t n parts) (ht : ty t = some ti) (hde : ti.desc = .slice e) (he : ty e = some ei)
    (hek : ei.agg = false) (hf : frzN σ (litVs σ ty e parts.toList) = ⟨sz, tm, ob, nx⟩) (hw : wantedA ops ⟨sz, tm, ob, nx⟩ o = some true) (hd : dstOk ⟨sz, tm, ob, nx⟩ o.dst = true) (hp : litParts ⟨sz, tm, ob, nx⟩ ty e 0 parts.toList = some ds) (hn : Nat.beq n ds.length = true) (hN : Nat.ble n 16777216 = true)
    (hr : addPut ⟨sz, tm, ob, nx⟩ none (.row none e ds) o.dst .ref = ⟨sz', tm', ob', nx'⟩) (k : AOps P Γ ops Q rest ⟨sz', tm', ob', nx'⟩) : AOps P Γ ops Q (o :: rest) σ :=
  aops_freeze (litVs σ ty e parts.toList) (by
    rw [← frzN_eq, hf]
    refine aops_lit hT hw hd ho ht hde he hek hp hn hN ?_
    rw [← addPut_eq (d := o.dst) (x := .ref), hr]
    exact k)

/-- A type of structs of two integers. -/
structure EqInts (P : Program) (t : TypeId) : Prop where
  guard : P.eqGuardType P.depth t = false
  eq : ∀ (w : World) (a b c d : Int), (Op.equal t (.agg #[.int .i64 a, .int .i64 b]) (.agg #[.int .i64 c, .int .i64 d])).run P w = .ok (decide (a = c ∧ b = d)) w
/-- No goto leaves. -/
def ANoGoto (Q : Exit → St → Prop) : Exit → St → Prop
  | .goto _, _ => False
  | e, σ => Q e σ
theorem awp_scope {c : Code} (h : AWp P Γ c (ANoGoto Q) σ) : AWp P Γ (.scope c) Q σ := fun C0 a C hB hE m => wp_scope_straight (Code.wp_mono (fun e a' w' ⟨σ', C', h1, h2, h3, h4⟩ => by
  cases e with
  | goto l => exact h4.elim
  | _ => exact ⟨σ', C', h1, h2, h3, h4⟩) (h C0 a C hB hE m))
theorem awp_label {l : Nat} (h : Q .normal σ) : AWp P Γ (.label l) Q σ := fun C0 a C hB hE m => wp_label ⟨σ, C, rfl, m, hE, h⟩
end
end Go.Am

/- Tags, lengths, elements in octets: plain Lean. No program. -/
namespace Go.Am
set_option linter.unusedSimpArgs false
set_option linter.unusedVariables false

/-- A result, or a code and an offset. -/
inductive Ex (α : Type) where
  | bad (c o : Nat)
  | ok (a : α)

/-! ### Numbers in octets -/
def minT : Nat → Nat → List UInt8
  | 0, n => [UInt8.ofNat n]
  | k + 1, n => if n < 256 then [UInt8.ofNat n] else minT k (n / 256) ++ [UInt8.ofNat n]
def minF (n : Nat) : List UInt8 := minT 7 n
def beT : Nat → List UInt8 → Nat
  | a, [] => a
  | a, x :: r => beT (a * 256 + x.toNat) r
def beF (l : List UInt8) : Nat := beT 0 l
theorem minT_len (k n : Nat) : (minT k n).length ≤ k + 1 := by
  induction k generalizing n with
  | zero => simp [minT]
  | succ k ih =>
    rw [minT]
    split
    · simp
    · have := ih (n / 256)
      simp
      omega
theorem minF_len (n : Nat) : (minF n).length ≤ 8 := minT_len 7 n
theorem toNat_ofNat (n : Nat) : (UInt8.ofNat n).toNat = n % 256 := by simp

/-- Length octets. -/
def lenB (n : Nat) : List UInt8 := if n < 128 then minF n else UInt8.ofNat (128 + (minF n).length) :: minF n
theorem minT_up {k n : Nat} (h : 256 ≤ n) : minT (k + 1) n = minT k (n / 256) ++ [UInt8.ofNat n] := by
  rw [minT, if_neg (by omega)]
theorem minT_lo {k n : Nat} (h : n < 256) : minT (k + 1) n = [UInt8.ofNat n] := by
  rw [minT, if_pos h]
theorem lenB_len (n : Nat) : (lenB n).length ≤ 9 := by
  rw [lenB]
  have := minF_len n
  split
  · omega
  · simp; omega
/-- Length octets, read: the length, and how many they are. -/
def rlF : List UInt8 → Ex (Nat × Nat)
  | [] => .bad 1 0
  | x :: r => if x.toNat < 128 then .ok (x.toNat, 1) else if x.toNat = 128 ∨ 132 < x.toNat then .bad 4 0 else if r.length < x.toNat - 128 then .bad 1 (r.length + 1)
    else if (r.headD 0).toNat = 0 ∨ beF (r.take (x.toNat - 128)) < 128 ∨ 2147483647 < beF (r.take (x.toNat - 128)) then .bad 4 0 else .ok (beF (r.take (x.toNat - 128)), x.toNat - 127)
/-! ### Elements -/
/-- An element: identifier octet, contents octets. -/
def putF (x : UInt8) (c : List UInt8) : List UInt8 := x :: (lenB c.length ++ c)
/-- How many octets go before the contents. -/
def hsz (c : List UInt8) : Nat := 1 + (lenB c.length).length
theorem putF_len (x : UInt8) (c : List UInt8) : (putF x c).length = hsz c + c.length := by simp [putF, hsz]; omega
theorem hsz_le (c : List UInt8) : hsz c ≤ 10 := by have := lenB_len c.length; simp [hsz]; omega
/-- Identifier and length octets, read: the identifier octet, the length, how many they are. -/
def hdF : List UInt8 → Ex (UInt8 × Nat × Nat)
  | [] => .bad 1 0
  | x :: r => if x.toNat % 32 = 31 then .bad 3 0 else match rlF r with
    | .bad c o => .bad c (o + 1)
    | .ok (n, s) => .ok (x, n, 1 + s)
/-- An element within octets: identifier octet, where it starts, where its contents start, where it ends. -/
structure El where
  x : UInt8
  st : Nat
  bd : Nat
  en : Nat
def cut (b : List UInt8) (i j : Nat) : List UInt8 := (b.take j).drop i
def nxF (b : List UInt8) (i j : Nat) : Ex El := match hdF (cut b i j) with
  | .bad c o => .bad c (o + i)
  | .ok (x, n, s) => if j - i - s < n then .bad 1 j else .ok ⟨x, i, i + s, i + s + n⟩
/-! ### Lists -/
def mapX {α β : Type} (f : α → Ex β) : List α → Ex (List β)
  | [] => .ok []
  | a :: r => match f a with
    | .bad c o => .bad c o
    | .ok b => match mapX f r with
      | .bad c o => .bad c o
      | .ok l => .ok (b :: l)
/-! ### Elements in a row -/
def goodT (t : UInt8 × List UInt8) : Prop := t.1.toNat % 32 ≠ 31 ∧ t.2.length ≤ 2147483647
def catF : List (UInt8 × List UInt8) → List UInt8
  | [] => []
  | t :: r => putF t.1 t.2 ++ catF r
def elsF : Nat → List (UInt8 × List UInt8) → List El
  | _, [] => []
  | i, t :: r => ⟨t.1, i, i + hsz t.2, i + hsz t.2 + t.2.length⟩ :: elsF (i + hsz t.2 + t.2.length) r
def lsT (b : List UInt8) (j : Nat) : Nat → Nat → Ex (List El)
  | 0, _ => .ok []
  | k + 1, i => if i < j then match nxF b i j with
    | .bad c o => .bad c o
    | .ok e => match lsT b j k e.en with
      | .bad c o => .bad c o
      | .ok l => .ok (e :: l) else .ok []
def lsF (b : List UInt8) (i j : Nat) : Ex (List El) := lsT b j (j - i) i
end Go.Am

/- One element, the elements of a constructed one, what encodings have in common; trees of elements: plain Lean. No program. -/
namespace Go.Am
set_option linter.unusedSimpArgs false
set_option linter.unusedVariables false

def isB (x : UInt8) (cls : Nat) (con : Bool) (num : Nat) : Bool := decide (x.toNat / 64 = cls ∧ x.toNat / 32 % 2 = (if con then 1 else 0) ∧ x.toNat % 32 = num)
def onF (b : List UInt8) : Ex El := match nxF b 0 b.length with
  | .bad c o => .bad c o
  | .ok e => if e.en < b.length then .bad 2 e.en else .ok e
/-- The elements in a constructed one. -/
def ptF (b : List UInt8) (cls num : Nat) : Ex (List El) := match onF b with
  | .bad c o => .bad c o
  | .ok e => if isB e.x cls true num = true then lsF b e.bd e.en else .bad 3 0
/-! ### Trees -/
def clsD (x : UInt8) : Dat := .int .i64 (x.toNat / 64 : Nat)
def numD (x : UInt8) : Dat := .int .i64 (x.toNat % 32 : Nat)
def conB (x : UInt8) : Bool := decide (x.toNat / 32 % 2 = 1)
def nodeD (x : UInt8) (c : List UInt8) (ks : List Dat) : Dat := .agg [clsD x, numD x, .bool (conB x), .sl none (bys c), .sl (some 5) ks]
/-- Trees within a depth, and their octets. -/
inductive Tr : Nat → Dat → List UInt8 → Prop where
  | prim (d : Nat) (x : UInt8) (c : List UInt8) (hx : x.toNat % 32 ≠ 31) (hc : conB x = false) (hl : c.length ≤ 2147483647) : Tr (d + 1) (nodeD x c []) (putF x c)
  | cons (d : Nat) (x : UInt8) (ks : List Dat) (bs : List (List UInt8)) (hx : x.toNat % 32 ≠ 31) (hc : conB x = true) (hl : bs.flatten.length ≤ 2147483647) (hn : ks.length = bs.length) (h : ∀ (i : Nat) (k : Dat) (b : List UInt8), ks[i]? = some k → bs[i]? = some b → Tr d k b) : Tr (d + 1) (nodeD x [] ks) (putF x bs.flatten)
/-- The kids, one after the other: the first that fails, at its offset. -/
def kdT (rd : List UInt8 → Ex (Dat × Nat)) (hs : Nat) (c : List UInt8) : Nat → Nat → Ex (List Dat)
  | 0, _ => .ok []
  | k + 1, i => if i < c.length then match rd (c.drop i) with
    | .bad e o => .bad e (hs + i + o)
    | .ok (n, s) => match kdT rd hs c k (i + s) with
      | .bad e o => .bad e o
      | .ok l => .ok (n :: l) else .ok []
/-- A tree, read: the node, how many octets. -/
def rdF : Nat → List UInt8 → Ex (Dat × Nat)
  | 0, _ => .bad 5 0
  | d + 1, b => match hdF b with
    | .bad c o => .bad c o
    | .ok (x, n, s) => if b.length - s < n then .bad 1 b.length else match conB x with
      | false => .ok (nodeD x (cut b s (s + n)) [], s + n)
      | true => match kdT (rdF d) s (cut b s (s + n)) n 0 with
        | .bad c o => .bad c o
        | .ok ks => .ok (nodeD x [] ks, s + n)
theorem Tr.pos {d : Nat} {n : Dat} {b : List UInt8} (h : Tr d n b) : 0 < b.length := by
  cases h <;> simp [putF]
theorem Tr.up {d : Nat} {n : Dat} {b : List UInt8} (h : Tr d n b) : Tr (d + 1) n b := by
  induction h with
  | prim d x c hx hc hl => exact .prim _ x c hx hc hl
  | cons d x ks bs hx hc hl hn h ih => exact .cons _ x ks bs hx hc hl hn ih
theorem Tr.more {d e : Nat} {n : Dat} {b : List UInt8} (h : Tr d n b) : Tr (d + e) n b := by
  induction e with
  | zero => exact h
  | succ e ih => exact ih.up
/-- The whole of the octets is one tree. -/
def wiF (d : Nat) (b : List UInt8) : Ex Dat := match rdF d b with
  | .bad c o => .bad c o
  | .ok (n, s) => if s < b.length then .bad 2 s else .ok n
/-- Primitive elements in a row, as nodes. -/
def primD (t : UInt8 × List UInt8) : Dat := nodeD t.1 t.2 []
theorem Tr.seq {d : Nat} {x : UInt8} {ts : List (UInt8 × List UInt8)} (hx : x.toNat % 32 ≠ 31) (hc : conB x = true) (hl : (catF ts).length ≤ 2147483647) (hg : ∀ t ∈ ts, goodT t) (hp : ∀ t ∈ ts, conB t.1 = false) : Tr (d + 2) (nodeD x [] (ts.map primD)) (putF x (catF ts)) := by
  have e : catF ts = (ts.map fun t => putF t.1 t.2).flatten := by
    clear hl hg hp
    induction ts with
    | nil => rfl
    | cons t r ih => simp [catF, ih]
  rw [e] at hl ⊢
  refine .cons (d + 1) x _ _ hx hc hl (by simp) (fun i k b hk hb => ?_)
  rw [List.getElem?_map] at hk hb
  cases ht : ts[i]? with
  | none => rw [ht] at hk; cases hk
  | some t =>
    rw [ht] at hk hb
    cases hk
    cases hb
    have hm := List.mem_of_getElem? ht
    exact .prim d t.1 t.2 (hg t hm).1 (hp t hm) (hg t hm).2
end Go.Am

/- Bit strings, in plain Lean: no program. -/
namespace Go.Am
set_option linter.unusedSimpArgs false
set_option linter.unusedVariables false

/-- Is a bit string valid? -/
def valF (x : List UInt8) (u : Int) : Bool := match x with
  | [] => decide (u = 0)
  | _ => decide (0 ≤ u ∧ u ≤ 7 ∧ (x.getD (x.length - 1) 0).toNat % 2 ^ u.toNat = 0)
/-- A part of a byte string. -/
def cutB (l : List UInt8) (i j : Nat) : List UInt8 := (l.take j).drop i
theorem wrap_u8 (u : Int) (h0 : 0 ≤ u) (h7 : u ≤ 255) : IntKind.u8.wrap u = ((UInt8.ofNat u.toNat).toNat : Int) := by
  rw [IntKind.wrap_u8]
  simp
  omega
/-- The bit string of contents octets, and the code. -/
def decF (c : List UInt8) : List UInt8 × Int × Int := match c with
  | [] => ([], 0, 6)
  | b :: x => match valF x b.toNat with
    | true => (x, (b.toNat : Int), 0)
    | false => ([], 0, 6)

def lenF (x : List UInt8) (u : Int) : Int := match valF x u with
  | true => 8 * (x.length : Int) - u
  | false => 0
def atF (x : List UInt8) (u i : Int) : Bool := decide (0 ≤ i) && decide (i < lenF x u) && (x.getD (i / 8).toNat 0).toNat.testBit (7 - i % 8).toNat
/-! ### Members -/
def memF (n : Nat) : List Nat := (List.range 64).filter fun i => n.testBit i
def memTo (n i : Nat) : List Nat := (List.range i).filter fun i => n.testBit i
def memI (n : Int) : List Int := natI (memF n.toNat)
end Go.Am

/- Named bits, in plain Lean: no program. -/
namespace Go.Am
set_option linter.unusedSimpArgs false
set_option linter.unusedVariables false

/-- Byte number j of the bits ms. -/
def byteP (ms : List Nat) (j : Nat) : Nat := (ms.map fun m => if m / 8 = j then 2 ^ (7 - m % 8) else 0).sum
/-- Increasing. -/
def Inc (ms : List Nat) : Prop := ms.Pairwise (· < ·)
/-- The contents octets of the bits r ++ [m]; of the first so many of them. -/
def outP (ms : List Nat) (m : Nat) : List UInt8 := UInt8.ofNat (7 - m % 8) :: (List.range (m / 8 + 1)).map fun j => UInt8.ofNat (byteP ms j)
/-! ### Sets out of bit strings -/
def setTo (f : Nat → Bool) : Nat → Nat
  | 0 => 0
  | k + 1 => setTo f k + (match f k with
    | true => 2 ^ k
    | false => 0)
end Go.Am

/- The abstract machine, twentieth part: a callee that turns the bytes of a row of the caller's around. No program. -/
namespace Go.Am
open Go.RowKit Go.Sort
set_option linter.unusedSimpArgs false
set_option linter.unusedVariables false

def encB (b : UInt8) : Value := .int .u8 b.toNat
theorem mapBlock_set (w : World) (g : Nat) (cur : Array Value) (e : TypeId) (fr : Nat × Nat) (f : Array Value → Array Value) (h : w.heap[g]? = some (.cells cur e fr)) : mapBlock w g f = w.setRow g (f cur) := by
  unfold mapBlock World.setRow
  congr 1
  apply Array.ext_getElem?
  intro k
  simp only [Array.getElem?_modify]
  by_cases hk : g = k
  · subst hk
    simp only [if_true, h, Option.map_some, onCells]
  · simp [hk]
theorem putCells_get (d : Array UInt8) (c : Array Value) (k : Nat) (hk : k < c.size) : (putCells encB 0 d c)[k]? = some (if k < d.size then encB d[k]! else c[k]) := by
  unfold putCells
  rw [Array.getElem?_mapIdx]
  simp [hk]

section
variable {P : Program} {Γ : Env} {Q : Exit → St → Prop} {σ : St} {ty : TypeId → Option TI}

/-- What a function does that turns bytes around. -/
structure TurnsAround (P : Program) (f : FuncId) : Prop where
  fn : ∃ fn, IsFn P f fn
  at_ : ∀ (blk cap : Nat) (zs : List UInt8) (w : World), Holds encB w blk 0 zs.toArray → zs.length ≤ 1099511627776 → Calls P f #[.slice (some ⟨blk, 0, none⟩) zs.length cap] w fun e w' => e = .returned (.tuple #[]) ∧ ∃ n, w' = putRow encB (Sort.ahead w n) blk 0 zs.reverse.toArray
  nil : ∀ (a : Option Addr) (cap : Nat) (w : World), Calls P f #[.slice a 0 cap] w fun e w' => e = .returned (.tuple #[]) ∧ w' = w

theorem aops_around {ops rest : List Oper} {o : Oper} {c : Call} {fx : Operand} {f : FuncId} {i : Nat} {e : TypeId} {l : List UInt8} {sz nx : Nat} {tm : List (Nat × AV)} {ob : List (Nat × AO)} (hw : wantedA ops σ o = some true) (hd : dstOk σ o.dst = true) (ho : o.op = .call c) (hc : c.callee = .value fx) (hf : calleeOf σ ty fx = some (f, []))
    (hy : evAll σ ty c.args.toList c.argTypes.toList = some [.ref i]) (hob : σ.obj i = some (.row none e (bys l))) (hT : TurnsAround P f) (hl : l.length ≤ 1099511627776) (hr : put' (setO' σ i (.row none e (bys l.reverse))) o.dst (.tup []) = ⟨sz, tm, ob, nx⟩)
    (k : AOps P Γ ops Q rest ⟨sz, tm, ob, nx⟩) : AOps P Γ ops Q (o :: rest) σ :=
  aops_step hw fun C0 a C K R b ev m hk => by
    rw [← hr] at k
    obtain ⟨fn, hfn⟩ := hT.fn
    obtain ⟨vs, hvl, _, hrun⟩ := run_call (P := P) m ho hc hf hfn
    have hv0 : vs = #[] := Array.eq_empty_of_size_eq_zero (by simpa using hvl)
    subst hv0
    obtain ⟨y1, y2⟩ := evAll_sound m hy
    have hsz : c.args.size = 1 := by simpa using y1.symm
    have hrep : Rep C (.ref i) ((c.args.map a.eval).getD 0 undef) := by simpa using y2 0 (.ref i) rfl
    obtain ⟨hi, vals, hown, hp, hcr⟩ := m.ob i _ hob
    have hargs : c.args.map a.eval ++ #[] = #[C.ρ i] := by
      generalize hA : c.args.map a.eval = A at hrep
      have hs : A.size = 1 := by rw [← hA]; simpa using hsz
      have : A.getD 0 undef = C.ρ i := by
        generalize A.getD 0 undef = z at hrep
        cases hrep with
        | ref i hi v hv h1 => exact hv
      rw [Array.append_empty]
      apply Array.ext
      · simpa using hs
      · intro j h1 h2
        have hj : j = 0 := by omega
        subst hj
        simpa [h1] using this
    unfold Oper.wp
    rw [hrun, hargs]
    rcases hown.2 with ⟨hn, h0⟩ | ⟨g, cap, cur, hρ, hB, hheap, hnc, hcm, hcs, htake⟩
    · have hl0 : l = [] := by
        rw [bys_len] at h0
        exact List.length_eq_zero_iff.1 h0
      subst hl0
      rw [hn]
      refine (hT.nil none 0 C.w).mono fun e' w' ⟨he, hw'⟩ => ?_
      subst he; subst hw'
      have m1 : Models (setO' σ i (.row none e (bys ([] : List UInt8).reverse))) a C := by
        refine m.sub ⟨?_, ?_, ?_, ?_⟩
        · cases σ; rfl
        · cases σ; rfl
        · cases σ; exact fun t x h => h
        · intro j oj hj
          rw [setO'_eq, St.obj, St.setO, look_cons] at hj
          split at hj
          · rename_i hij
            subst hij
            cases hj
            exact hob
          · exact hj
      have m2 := m1.put (dst := o.dst) (v := .tuple #[]) (.tup [] #[] rfl (by simp)) (by
        have : (setO' σ i (.row none e (bys ([] : List UInt8).reverse))).sz = σ.sz := by cases σ; rfl
        rw [this]
        exact dstOk_spec hd)
      rw [← put'_eq] at m2
      exact hk _ C _ m2 ev k
    · have hbl : blk (C.ρ i) = some g := by rw [hρ]; rfl
      have hpg := hp g hbl
      rw [bys_len] at hnc htake
      have hcur : ∀ j, j < l.length → cur[j]? = some (encB (l.getD j 0)) := by
        intro j hj
        obtain ⟨_, h2⟩ := hcr j (by1 l[j]) (by simp [bys, hj])
        obtain ⟨u, hu, hru⟩ := h2 0 (by1 l[j]) rfl
        cases hru
        have h3 : vals[j]? = some (.int .u8 l[j].toNat) := by simpa [Am.esz] using hu
        rw [← htake] at h3
        rw [List.getElem?_take] at h3
        split at h3
        · simp only [Array.getElem?_toList] at h3
          rw [h3, List.getD_eq_getElem?_getD, List.getElem?_eq_getElem hj]
          rfl
        · cases h3
      have hHolds : Holds encB C.w g 0 l.toArray := by
        intro j hj
        have hj' : j < l.length := by simpa using hj
        have h1 := hcur j hj'
        have h2 : (l.toArray)[j]! = l.getD j 0 := by
          rw [getElem!_pos _ j hj, List.getD_eq_getElem?_getD, List.getElem?_eq_getElem hj']
          simp
        rw [h2, Nat.zero_add]
        exact ⟨by simp [World.cell?, hheap, h1], by simp [World.frozen?, hheap]⟩
      have hlen : (bys l).length = l.length := bys_len l
      rw [hρ, hlen]
      refine (hT.at_ g cap l C.w hHolds hl).mono fun e' w' ⟨he, n, hw'⟩ => ?_
      subst he
      have hw2 : w' = Sort.ahead (C.w.setRow g (putCells encB 0 l.reverse.toArray cur)) n := by
        rw [hw']
        unfold putRow
        rw [mapBlock_set (Sort.ahead C.w n) g cur e (0, 0) _ hheap]
        rfl
      have hcap : l.length ≤ cur.size := by
        rw [hcs]
        simpa [Am.esz] using hnc
      have m' := m.turn (o' := .row none e (bys l.reverse)) (cs := putCells encB 0 l.reverse.toArray cur) hob rfl hbl rfl (by
        refine ⟨hi, (putCells encB 0 l.reverse.toArray cur).toList.take l.length, ⟨?_, .inr ⟨g, cap, putCells encB 0 l.reverse.toArray cur, ?_, hB, setRow_heap C.w g cur _ e (0, 0) hheap, by simpa [bys_len] using hnc, hcm, by simpa [putCells] using hcs, ?_⟩⟩, hp, ?_⟩
        · simp [putCells, bys_len, Am.esz]
          omega
        · show C.ρ i = _
          rw [hρ]
          simp [bys_len]
        · simp [bys_len, Am.esz]
        · intro k' x' hk'
          have hkl : k' < l.length := by
            have := (List.getElem?_eq_some_iff.1 hk').1
            simpa [bys_len] using this
          have hx : x' = by1 (l.reverse[k']'(by simpa using hkl)) := by
            have : (bys l.reverse)[k']? = some (by1 (l.reverse[k']'(by simpa using hkl))) := by simp [bys, hkl]
            rw [this] at hk'
            exact (Option.some.inj hk').symm
          subst hx
          refine ⟨rfl, fun j q hj => ?_⟩
          cases j with
          | succ j => simp [Dat.cells, by1] at hj
          | zero =>
            have hq : q = by1 (l.reverse[k']'(by simpa using hkl)) := by simpa [Dat.cells, by1] using hj.symm
            subst hq
            refine ⟨encB (l.reverse[k']'(by simpa using hkl)), ?_, .int _ _⟩
            have h1 := putCells_get l.reverse.toArray cur k' (by omega)
            have h2 : k' < l.reverse.toArray.size := by simpa using hkl
            rw [if_pos h2, getElem!_pos _ k' h2] at h1
            show ((putCells encB 0 l.reverse.toArray cur).toList.take l.length)[k' * 1 + 0]? = _
            rw [Nat.mul_one, Nat.add_zero, List.getElem?_take, if_pos hkl, Array.getElem?_toList, h1]
            rfl)
      have e1 := Ct.turn_evo (C := C) (cs := putCells encB 0 l.reverse.toArray cur) hpg hB
      have e2 : Evo (C.turn (C.w.setRow g (putCells encB 0 l.reverse.toArray cur))) (C.turn w') := by
        rw [hw2]
        exact ⟨rfl, rfl, rfl, Nat.le_refl _, fun _ _ h => ⟨rfl, h⟩, fun _ h => h, fun _ _ => rfl, rfl, fun _ _ => rfl, fun _ _ => rfl⟩
      have m2 := m'.mono e2 (fun i hi => hi) (fun j oj g' hj he' hg' => by
        refine ⟨?_, ((m'.ob j oj hj).excl he' hg').2.1⟩
        rw [hw2]
        rfl)
      have m3 := m2.put (dst := o.dst) (v := .tuple #[]) (.tup [] #[] rfl (by simp)) (by
        have : (σ.setO i (.row none e (bys l.reverse))).sz = σ.sz := by cases σ; rfl
        rw [this]
        exact dstOk_spec hd)
      rw [← put'_eq, ← setO'_eq] at m3
      exact hk _ (C.turn w') _ m3 ((ev.trans e1).trans e2) k

/-! ### A nil slice in a variable with an address becomes a row of its own -/
theorem Models.swapO {a : Act} {C : Ct} (m : Models σ a C) {i : Nat} {o o' : AO} (ho : σ.obj i = some o) (hex : o'.excl = true → o.excl = true) (hn : ORep C i o') : Models (σ.setO i o') a C := by
  refine ⟨m.defers, m.sz, m.nx, m.tm, fun j oj hj => ?_, fun j k oj ok g hj hk hej hek hgj hgk => ?_⟩
  · rw [St.obj, St.setO, look_cons] at hj
    split at hj
    · rename_i h
      subst h
      cases hj
      exact hn
    · exact m.ob j oj hj
  · rw [St.obj, St.setO, look_cons] at hj hk
    split at hj
    · rename_i h1
      subst h1
      cases hj
      split at hk
      · rename_i h2
        exact h2
      · exact m.apart _ _ _ _ g ho hk (hex hej) hek hgj hgk
    · split at hk
      · rename_i h2
        subst h2
        cases hk
        exact m.apart _ _ _ _ g hj ho hej (hex hek) hgj hgk
      · exact m.apart _ _ _ _ g hj hk hej hek hgj hgk
theorem Models.nilcell {a : Act} {C : Ct} (m : Models σ a C) {i j : Nat} {t : TypeId} {cs : List AV} {ek : Option Nat} (hi : σ.obj i = some (.box t cs)) (hlt : i < σ.nx) (hj : cs[j]? = some (.nil ek)) (e : TypeId) :
    Models ((σ.add none (.row ek e [])).setO i (.box t (cs.set j (.ref σ.nx)))) a (C.reg σ.nx (.slice none 0 0)) := by
  have m' := m.nilrow ek e
  have ho : (σ.add none (.row ek e [])).obj i = some (.box t cs) := by
    show look i ((σ.nx, AO.row ek e []) :: σ.ob) = _
    rw [look_cons, if_neg (by omega)]
    exact hi
  refine m'.swapO ho (fun _ => rfl) ?_
  obtain ⟨h1, g, cur, h2, h3, h4, h5, h6, h7, h8⟩ := m'.ob i _ ho
  refine ⟨h1, g, cur, h2, h3, h4, h5, by simpa using h6, fun y hy => ?_, fun k y hk => ?_⟩
  · rcases List.mem_or_eq_of_mem_set hy with hy | rfl
    · exact h7 y hy
    · rfl
  · rw [List.getElem?_set] at hk
    split at hk
    · rename_i hjk
      subst hjk
      split at hk
      · cases hk
        have := h8 j _ hj
        generalize cur.getD j undef = v at this
        cases this
        exact .ref _ (by simp [Ct.reg]) _ (by simp [Ct.reg]) rfl
      · cases hk
    · exact h8 k y hk
theorem aops_nilcell (i j : Nat) (e : TypeId) {ops rest : List Oper} {t : TypeId} {cs : List AV} {ek : Option Nat} {sz nx : Nat} {tm : List (Nat × AV)} {ob : List (Nat × AO)} (hi : σ.obj i = some (.box t cs)) (hlt : Nat.blt i σ.nx = true) (hj : cs[j]? = some (.nil ek)) (hr : setO' (addPut σ none (.row ek e []) none .ref) i (.box t (cs.set j (.ref σ.nx))) = ⟨sz, tm, ob, nx⟩)
    (k : AOps P Γ ops Q rest ⟨sz, tm, ob, nx⟩) : AOps P Γ ops Q rest σ := fun C0 a C b ev m => by
  rw [← hr, setO'_eq, addPut_eq] at k
  exact k C0 a (C.reg σ.nx (.slice none 0 0)) b (ev.trans (Ct.reg_evo m.fresh _)) (m.nilcell hi (by simpa [Nat.blt_eq] using hlt) hj e)
/-! ### A read-only row, taken as data -/
end
end Go.Am

/- slices.Reverse at bytes: the shelf's contract, laid at this dump; a callee that turns bytes around. -/
namespace Go.Proofs.YtohabohifjadgaaDoor
open Go.Am Go.RowKit Go.Sort Go.Shelf
set_option linter.unusedSimpArgs false
set_option linter.unusedVariables false

def revRen : Go.Shelf.Ren := ⟨fun | 35 => 25 | n => n, fun | 0 => 0 | 3 => 3 | 4 => 4 | 22 => 23 | 23 => 5 | n => n, fun n => n⟩
theorem revLays : Go.Proofs.SlLaysE.n35 Tryd.prog revRen := {
  mixed := mixed
  f35 := ⟨Tryd.f25.name, by decide, Tryd.func25.trans (congrArg some (by kernel_rfl))⟩
  t0 := Tryd.underlying0
  a0 := Tryd.isAgg0
  z0 := Tryd.sizeOf0
  v0 := Tryd.zeroValue0
  t3 := Tryd.underlying3
  a3 := Tryd.isAgg3
  z3 := Tryd.sizeOf3
  v3 := Tryd.zeroValue3
  t4 := Tryd.underlying4
  a4 := Tryd.isAgg4
  z4 := Tryd.sizeOf4
  v4 := Tryd.zeroValue4
  t22 := Tryd.underlying23
  a22 := Tryd.isAgg23
  z22 := Tryd.sizeOf23
  v22 := Tryd.zeroValue23
  a23 := Tryd.isAgg5
  z23 := Tryd.sizeOf5 }
theorem isReverse : IsFn Tryd.prog 25 Tryd.f25 := ⟨Tryd.func25, by decide, rfl⟩
theorem turns : TurnsAround Tryd.prog 25 where
  fn := ⟨_, isReverse⟩
  at_ := fun blk cap zs w hH hl => AnyE.slices_Reverse revLays encB (fun _ => rfl) blk 0 cap zs w hH (by omega)
  nil := fun a cap w => AnyE.slices_Reverse_empty revLays a cap w
end Go.Proofs.YtohabohifjadgaaDoor

/- Elements, written: functions of packages cursor, tlv, element and of their references. Walked by the abstract machine. -/
namespace Go.Proofs.YtohabohifjadgaaDoor
open Go.Am
set_option linter.unusedSimpArgs false
set_option linter.unusedVariables false

/-! ### Digits -/
theorem wrap8 (n : Nat) : IntKind.u8.wrap (n : Int) = ((UInt8.ofNat n).toNat : Int) := by
  rw [IntKind.wrap_u8, toNat_ofNat]
  omega
theorem shr8_u64 (n : Nat) : shft .shr .u64 (n : Int) 8 = ((n / 256 : Nat) : Int) := by
  show Int.fdiv (n : Int) (2 ^ (min (8 : Int).toNat IntKind.u64.bits)) = _
  rw [show (2 : Int) ^ (min (8 : Int).toNat IntKind.u64.bits) = 256 by decide, Int.fdiv_eq_ediv_of_nonneg _ (by omega)]
  omega
def rsT : Nat → Nat → List UInt8
  | 0, _ => []
  | k + 1, n => if n = 0 then [] else UInt8.ofNat n :: rsT k (n / 256)
theorem rsT_zero (k : Nat) : rsT k 0 = [] := by cases k <;> simp [rsT]
theorem minT_rs (k n : Nat) : minT k n = (UInt8.ofNat n :: rsT k (n / 256)).reverse := by
  induction k generalizing n with
  | zero => rfl
  | succ k ih =>
    by_cases h : n < 256
    · rw [minT_lo h, show n / 256 = 0 by omega, rsT_zero]
      rfl
    · rw [minT_up (by omega), ih, rsT, if_neg (by omega)]
      simp
theorem isMinimal : IsFn Tryd.prog 39 Tryd.f39 := ⟨Tryd.func39, by decide, rfl⟩
theorem c_minimal (Γ : Env) (n : Nat) (hn : n < 18446744073709551616) : ACalls Tryd.prog Γ 39 [.int .u64 n] (fun r => r = .own none 5 (bys (minF n))) := by
  refine acalls_of ty_ok isMinimal rfl rfl ?_
  repeat' (first | ((with_reducible show AWp _ _ _ _ _); (first | refine awp_seq ?_ | refine awp_block ?_ | refine awp_skip ?_ | refine awp_exit ?_ | refine awp_scope ?_ | refine awp_label ?_ | refine awp_run ty_ok rfl sd ?_ | refine awp_ret ⟨_, _, rfl, rfl, ?_⟩ | refine awp_ret ⟨_, rfl, ?_⟩ | ((refine awp_cond (ty := ty) rfl (fun hc => ?_) (fun hc => ?_)) <;> (try simp only [nms, reduceCtorEq] at hc) <;> (try (exfalso; omega))))) | ((with_reducible show AOps _ _ _ _ _ _); (first | refine aops_nil ?_ | refine aops_go ty_ok rfl rfl sd ?_ | refine aops_gate ty_ok rfl rfl rfl sd ?_ | refine aops_litE ty_ok rfl rfl rfl rfl rfl rfl rfl rfl rfl rfl rfl rfl ?_ | refine aops_cutE ty_ok rfl rfl rfl rfl rfl rfl rfl rfl rfl sd rfl ?_ | ((fail_if_success (refine aops_known rfl ?_)); (refine aops_split ty_ok rfl rfl rfl rfl rfl rfl (fun hc => ⟨?_, ?_⟩) (fun hc => ⟨?_, ?_⟩)) <;> (try simp only [nms, reduceCtorEq] at hc) <;> (try (exfalso; omega)) <;> (try exact sd)))) | ((fail_if_success (with_reducible show AWp _ _ _ _ _)); (fail_if_success (with_reducible show AOps _ _ _ _ _ _)); (first | (show AWp _ _ _ _ _) | (show AOps _ _ _ _ _ _))))
  refine awp_loopR (G := { p : List UInt8 × Nat // ∃ k, k ≤ 7 ∧ p.2 < 256 ^ k ∧ p.1.length + k ≤ 8 ∧ (p.1 ++ rsT k p.2).reverse = minF n }) (fun p => ⟨Tryd.f39.ntmps, [(0, .d (.int .u64 p.1.2)), (3, .ref 0)], [(0, .row none 5 (bys p.1.1))], 1⟩) (fun p => p.1.2) ⟨([UInt8.ofNat n], n / 256), 7, by omega, by simp only; omega, by simp, by rw [minF, minT_rs]; rfl⟩ [(0, 0)]
    (SubR.mk' rfl rfl ⟨⟨_, rfl, congrArg (fun z : Int => AV.d (Dat.int IntKind.u64 z)) (shr8_u64 n)⟩, ⟨_, rfl, rfl⟩, trivial⟩ ⟨⟨_, _, rfl, rfl, congrArg (fun z : Int => AO.row none 5 [Dat.int .u8 z]) (wrap8 n)⟩, trivial⟩) ?_
  rintro ⟨⟨l, m⟩, k, hk, hm, hl, hr⟩
  dsimp only at hm hl hr ⊢
  by_cases h0 : m = 0
  · subst h0
    rw [rsT_zero, List.append_nil] at hr
    repeat' (first | ((with_reducible show AWp _ _ _ _ _); (first | refine awp_seq ?_ | refine awp_block ?_ | refine awp_skip ?_ | refine awp_exit ?_ | refine awp_scope ?_ | refine awp_label ?_ | refine awp_run ty_ok rfl sd ?_ | refine awp_ret ⟨_, _, rfl, rfl, ?_⟩ | refine awp_ret ⟨_, rfl, ?_⟩ | ((refine awp_cond (ty := ty) rfl (fun hc => ?_) (fun hc => ?_)) <;> (try simp only [nms, reduceCtorEq] at hc) <;> (try (exfalso; omega))))) | ((with_reducible show AOps _ _ _ _ _ _); (first | refine aops_nil ?_ | refine aops_go ty_ok rfl rfl sd ?_ | refine aops_gate ty_ok rfl rfl rfl sd ?_ | refine aops_around (ty := ty) rfl rfl rfl rfl rfl rfl rfl (turns) sd rfl ?_ | refine aops_litE ty_ok rfl rfl rfl rfl rfl rfl rfl rfl rfl rfl rfl rfl ?_ | refine aops_cutE ty_ok rfl rfl rfl rfl rfl rfl rfl rfl rfl sd rfl ?_ | ((fail_if_success (refine aops_known rfl ?_)); (refine aops_split ty_ok rfl rfl rfl rfl rfl rfl (fun hc => ⟨?_, ?_⟩) (fun hc => ⟨?_, ?_⟩)) <;> (try simp only [nms, reduceCtorEq] at hc) <;> (try (exfalso; omega)) <;> (try exact sd)))) | ((fail_if_success (with_reducible show AWp _ _ _ _ _)); (fail_if_success (with_reducible show AOps _ _ _ _ _ _)); (first | (show AWp _ _ _ _ _) | (show AOps _ _ _ _ _ _))))
    rw [hr]
  · obtain ⟨k, rfl⟩ : ∃ k', k = k' + 1 := ⟨k - 1, by cases k with | zero => simp at hm; omega | succ k => rfl⟩
    rw [rsT, if_neg h0] at hr
    repeat' (first | ((with_reducible show AWp _ _ _ _ _); (first | refine awp_seq ?_ | refine awp_block ?_ | refine awp_skip ?_ | refine awp_exit ?_ | refine awp_scope ?_ | refine awp_label ?_ | refine awp_run ty_ok rfl sd ?_ | refine awp_ret ⟨_, _, rfl, rfl, ?_⟩ | refine awp_ret ⟨_, rfl, ?_⟩ | ((refine awp_cond (ty := ty) rfl (fun hc => ?_) (fun hc => ?_)) <;> (try simp only [nms, reduceCtorEq] at hc) <;> (try (exfalso; omega))))) | ((with_reducible show AOps _ _ _ _ _ _); (first | refine aops_nil ?_ | refine aops_go ty_ok rfl rfl sd ?_ | refine aops_gate ty_ok rfl rfl rfl sd ?_ | refine aops_litE ty_ok rfl rfl rfl rfl rfl rfl rfl rfl rfl rfl rfl rfl ?_ | refine aops_cutE ty_ok rfl rfl rfl rfl rfl rfl rfl rfl rfl sd rfl ?_ | ((fail_if_success (refine aops_known rfl ?_)); (refine aops_split ty_ok rfl rfl rfl rfl rfl rfl (fun hc => ⟨?_, ?_⟩) (fun hc => ⟨?_, ?_⟩)) <;> (try simp only [nms, reduceCtorEq] at hc) <;> (try (exfalso; omega)) <;> (try exact sd)))) | ((fail_if_success (with_reducible show AWp _ _ _ _ _)); (fail_if_success (with_reducible show AOps _ _ _ _ _ _)); (first | (show AWp _ _ _ _ _) | (show AOps _ _ _ _ _ _))))
    refine ⟨⟨(l ++ [UInt8.ofNat m], m / 256), k, by omega, ?_, ?_, ?_⟩, [(2, 0)], SubR.mk' rfl rfl ⟨⟨_, rfl, congrArg (fun z : Int => AV.d (Dat.int IntKind.u64 z)) (shr8_u64 m)⟩, ⟨_, rfl, rfl⟩, trivial⟩ ⟨⟨_, _, rfl, rfl, congrArg (AO.row none 5) ?_⟩, trivial⟩, ?_⟩
    · simp only
      rw [Nat.pow_succ] at hm
      omega
    · simp
      omega
    · simpa using hr
    · rw [wrap8, bys_app]
      rfl
    · simp only
      omega
/-! ### Length octets -/
theorem wrap_u64_nat (n : Nat) (h : n < 18446744073709551616) : IntKind.u64.wrap (n : Int) = n := by rw [IntKind.wrap_u64]; omega
theorem isLength : IsFn Tryd.prog 33 Tryd.f33 := ⟨Tryd.func33, by decide, rfl⟩
theorem c_length (Γ : Env) (n : Nat) (hn : n ≤ 2147483647) : ACalls Tryd.prog Γ 33 [.int .i64 n] (fun r => r = .ownT none 5 (bys (lenB n)) [.int .i64 0]) := by
  refine acalls_of ty_ok isLength rfl rfl ?_
  have hc1 := c_minimal (Γ.at 0) n (by omega)
  rw [← wrap_u64_nat n (by omega)] at hc1
  have hl := minF_len n
  repeat' (first | ((with_reducible show AWp _ _ _ _ _); (first | refine awp_seq ?_ | refine awp_block ?_ | refine awp_skip ?_ | refine awp_exit ?_ | refine awp_scope ?_ | refine awp_label ?_ | refine awp_run ty_ok rfl sd ?_ | refine awp_ret ⟨_, _, rfl, rfl, ?_⟩ | refine awp_ret ⟨_, rfl, ?_⟩ | ((refine awp_cond (ty := ty) rfl (fun hc => ?_) (fun hc => ?_)) <;> (try simp only [nms, reduceCtorEq] at hc) <;> (try (exfalso; omega))))) | ((with_reducible show AOps _ _ _ _ _ _); (first | refine aops_nil ?_ | refine aops_go ty_ok rfl rfl sd ?_ | refine aops_gate ty_ok rfl rfl rfl sd ?_ | refine aops_callE (ty := ty) rfl rfl rfl rfl rfl rfl rfl (hc1) rfl ?_ | refine aops_litE ty_ok rfl rfl rfl rfl rfl rfl rfl rfl rfl rfl rfl rfl ?_ | refine aops_cutE ty_ok rfl rfl rfl rfl rfl rfl rfl rfl rfl sd rfl ?_ | ((fail_if_success (refine aops_known rfl ?_)); (refine aops_split ty_ok rfl rfl rfl rfl rfl rfl (fun hc => ⟨?_, ?_⟩) (fun hc => ⟨?_, ?_⟩)) <;> (try simp only [nms, reduceCtorEq] at hc) <;> (try (exfalso; omega)) <;> (try exact sd)))) | ((fail_if_success (with_reducible show AWp _ _ _ _ _)); (fail_if_success (with_reducible show AOps _ _ _ _ _ _)); (first | (show AWp _ _ _ _ _) | (show AOps _ _ _ _ _ _))))
  · rw [lenB, if_pos (by omega)]
  · rw [lenB, if_neg (by omega), bys_len, show (128 : Int) + ((minF n).length : Int) = ((128 + (minF n).length : Nat) : Int) by omega, wrap8]
    rfl
/-! ### Elements -/
def idB (cls : Nat) (con : Bool) (num : Nat) : UInt8 := UInt8.ofNat (cls * 64 + (if con then 32 else 0) + num)
theorem id_bits : ∀ (c : Fin 4) (n : Fin 31) , IntKind.u8.wrap (bits .or .i64 (shft .shl .i64 (c.val : Int) 6) (n.val : Int)) = ((c.val * 64 + n.val : Nat) : Int) ∧ bits .or .u8 ((c.val * 64 + n.val : Nat) : Int) 32 = ((c.val * 64 + 32 + n.val : Nat) : Int) := by decide +kernel
theorem isIdentifier : IsFn Tryd.prog 32 Tryd.f32 := ⟨Tryd.func32, by decide, rfl⟩
theorem c_ident (Γ : Env) (cls num : Nat) (con : Bool) (hc : cls ≤ 3) (hn : num ≤ 30) : ACalls Tryd.prog Γ 32 [.int .i64 cls, .bool con, .int .i64 num] (fun r => r = .d (.tup [.int .u8 (idB cls con num).toNat, .int .i64 0])) := by
  refine acalls_of ty_ok isIdentifier rfl rfl ?_
  obtain ⟨h1, h2⟩ := id_bits ⟨cls, by omega⟩ ⟨num, by omega⟩
  simp only at h1 h2
  cases con with
  | true =>
    repeat' (first | ((with_reducible show AWp _ _ _ _ _); (first | refine awp_seq ?_ | refine awp_block ?_ | refine awp_skip ?_ | refine awp_exit ?_ | refine awp_scope ?_ | refine awp_label ?_ | refine awp_run ty_ok rfl sd ?_ | refine awp_ret ⟨_, _, rfl, rfl, ?_⟩ | refine awp_ret ⟨_, rfl, ?_⟩ | ((refine awp_cond (ty := ty) rfl (fun hc => ?_) (fun hc => ?_)) <;> (try simp only [nms, reduceCtorEq] at hc) <;> (try (exfalso; omega))))) | ((with_reducible show AOps _ _ _ _ _ _); (first | refine aops_nil ?_ | refine aops_go ty_ok rfl rfl sd ?_ | refine aops_gate ty_ok rfl rfl rfl sd ?_ | refine aops_litE ty_ok rfl rfl rfl rfl rfl rfl rfl rfl rfl rfl rfl rfl ?_ | refine aops_cutE ty_ok rfl rfl rfl rfl rfl rfl rfl rfl rfl sd rfl ?_ | ((fail_if_success (refine aops_known rfl ?_)); (refine aops_split ty_ok rfl rfl rfl rfl rfl rfl (fun hc => ⟨?_, ?_⟩) (fun hc => ⟨?_, ?_⟩)) <;> (try simp only [nms, reduceCtorEq] at hc) <;> (try (exfalso; omega)) <;> (try exact sd)))) | ((fail_if_success (with_reducible show AWp _ _ _ _ _)); (fail_if_success (with_reducible show AOps _ _ _ _ _ _)); (first | (show AWp _ _ _ _ _) | (show AOps _ _ _ _ _ _))))
    rw [h1, h2, idB, toNat_ofNat]
    simp only [if_true]
    rw [Nat.mod_eq_of_lt (by omega)]
  | false =>
    repeat' (first | ((with_reducible show AWp _ _ _ _ _); (first | refine awp_seq ?_ | refine awp_block ?_ | refine awp_skip ?_ | refine awp_exit ?_ | refine awp_scope ?_ | refine awp_label ?_ | refine awp_run ty_ok rfl sd ?_ | refine awp_ret ⟨_, _, rfl, rfl, ?_⟩ | refine awp_ret ⟨_, rfl, ?_⟩ | ((refine awp_cond (ty := ty) rfl (fun hc => ?_) (fun hc => ?_)) <;> (try simp only [nms, reduceCtorEq] at hc) <;> (try (exfalso; omega))))) | ((with_reducible show AOps _ _ _ _ _ _); (first | refine aops_nil ?_ | refine aops_go ty_ok rfl rfl sd ?_ | refine aops_gate ty_ok rfl rfl rfl sd ?_ | refine aops_litE ty_ok rfl rfl rfl rfl rfl rfl rfl rfl rfl rfl rfl rfl ?_ | refine aops_cutE ty_ok rfl rfl rfl rfl rfl rfl rfl rfl rfl sd rfl ?_ | ((fail_if_success (refine aops_known rfl ?_)); (refine aops_split ty_ok rfl rfl rfl rfl rfl rfl (fun hc => ⟨?_, ?_⟩) (fun hc => ⟨?_, ?_⟩)) <;> (try simp only [nms, reduceCtorEq] at hc) <;> (try (exfalso; omega)) <;> (try exact sd)))) | ((fail_if_success (with_reducible show AWp _ _ _ _ _)); (fail_if_success (with_reducible show AOps _ _ _ _ _ _)); (first | (show AWp _ _ _ _ _) | (show AOps _ _ _ _ _ _))))
    rw [h1, idB, toNat_ofNat]
    simp only [Bool.false_eq_true, if_false, Nat.add_zero]
    rw [Nat.mod_eq_of_lt (by omega)]
theorem isTEncode : IsFn Tryd.prog 26 Tryd.f26 := ⟨Tryd.func26, by decide, rfl⟩
theorem c_tenc (Γ : Env) (cls num : Nat) (con : Bool) (c : List UInt8) (hc : cls ≤ 3) (hn : num ≤ 30) (hl : c.length ≤ 2147483647) : ACalls Tryd.prog Γ 26 [.int .i64 cls, .bool con, .int .i64 num, .sl none (bys c)] (fun r => r = .ownT none 5 (bys (putF (idB cls con num) c)) [.int .i64 0]) := by
  refine acalls_of ty_ok isTEncode rfl rfl ?_
  have hc2 := c_length (Γ.at 0) c.length hl
  rw [← bys_len c] at hc2
  have h5 := lenB_len c.length
  have hc3 := c_concat (Γ.at 0) [[idB cls con num], lenB (bys c).length, c] (by simp) (by rw [bys_len]; simp [sumL]; omega)
  repeat' (first | ((with_reducible show AWp _ _ _ _ _); (first | refine awp_seq ?_ | refine awp_block ?_ | refine awp_skip ?_ | refine awp_exit ?_ | refine awp_scope ?_ | refine awp_label ?_ | refine awp_run ty_ok rfl sd ?_ | refine awp_ret ⟨_, _, rfl, rfl, ?_⟩ | refine awp_ret ⟨_, rfl, ?_⟩ | ((refine awp_cond (ty := ty) rfl (fun hc => ?_) (fun hc => ?_)) <;> (try simp only [nms, reduceCtorEq] at hc) <;> (try (exfalso; omega))))) | ((with_reducible show AOps _ _ _ _ _ _); (first | refine aops_nil ?_ | refine aops_go ty_ok rfl rfl sd ?_ | refine aops_gate ty_ok rfl rfl rfl sd ?_ | refine aops_callE (ty := ty) rfl rfl rfl rfl rfl rfl rfl (c_ident _ cls num con hc hn) rfl ?_ | refine aops_callE (ty := ty) rfl rfl rfl rfl rfl rfl rfl (hc2) rfl ?_ | refine aops_callE (ty := ty) rfl rfl rfl rfl rfl rfl rfl (hc3) rfl ?_ | refine aops_litE ty_ok rfl rfl rfl rfl rfl rfl rfl rfl rfl rfl rfl rfl ?_ | refine aops_cutE ty_ok rfl rfl rfl rfl rfl rfl rfl rfl rfl sd rfl ?_ | ((fail_if_success (refine aops_known rfl ?_)); (refine aops_split ty_ok rfl rfl rfl rfl rfl rfl (fun hc => ⟨?_, ?_⟩) (fun hc => ⟨?_, ?_⟩)) <;> (try simp only [nms, reduceCtorEq] at hc) <;> (try (exfalso; omega)) <;> (try exact sd)))) | ((fail_if_success (with_reducible show AWp _ _ _ _ _)); (fail_if_success (with_reducible show AOps _ _ _ _ _ _)); (first | (show AWp _ _ _ _ _) | (show AOps _ _ _ _ _ _))))
  simp [putF, bys_len]
theorem isWrap : IsFn Tryd.prog 17 Tryd.f17 := ⟨Tryd.func17, by decide, rfl⟩
theorem c_wrap (Γ : Env) (cls num : Nat) (con : Bool) (ps : List (List UInt8)) (hc : cls ≤ 3) (hn : num ≤ 30) (hp : ps.length ≤ 1099511627776) (hl : ps.flatten.length ≤ 2147483647) : ACalls Tryd.prog Γ 17 [.int .i64 cls, .bool con, .int .i64 num, .sl none (byss ps)] (fun r => r = .ownT none 5 (bys (putF (idB cls con num) ps.flatten)) [.int .i64 0]) := by
  refine acalls_of ty_ok isWrap rfl rfl ?_
  repeat' (first | ((with_reducible show AWp _ _ _ _ _); (first | refine awp_seq ?_ | refine awp_block ?_ | refine awp_skip ?_ | refine awp_exit ?_ | refine awp_scope ?_ | refine awp_label ?_ | refine awp_run ty_ok rfl sd ?_ | refine awp_ret ⟨_, _, rfl, rfl, ?_⟩ | refine awp_ret ⟨_, rfl, ?_⟩ | ((refine awp_cond (ty := ty) rfl (fun hc => ?_) (fun hc => ?_)) <;> (try simp only [nms, reduceCtorEq] at hc) <;> (try (exfalso; omega))))) | ((with_reducible show AOps _ _ _ _ _ _); (first | refine aops_nil ?_ | refine aops_go ty_ok rfl rfl sd ?_ | refine aops_gate ty_ok rfl rfl rfl sd ?_ | refine aops_callE (ty := ty) rfl rfl rfl rfl rfl rfl rfl (c_concat _ ps hp (by rw [← sumL_flat]; omega)) rfl ?_ | refine aops_callE (ty := ty) rfl rfl rfl rfl rfl rfl rfl (c_tenc _ cls num con ps.flatten hc hn hl) rfl ?_ | refine aops_litE ty_ok rfl rfl rfl rfl rfl rfl rfl rfl rfl rfl rfl rfl ?_ | refine aops_cutE ty_ok rfl rfl rfl rfl rfl rfl rfl rfl rfl sd rfl ?_ | ((fail_if_success (refine aops_known rfl ?_)); (refine aops_split ty_ok rfl rfl rfl rfl rfl rfl (fun hc => ⟨?_, ?_⟩) (fun hc => ⟨?_, ?_⟩)) <;> (try simp only [nms, reduceCtorEq] at hc) <;> (try (exfalso; omega)) <;> (try exact sd)))) | ((fail_if_success (with_reducible show AWp _ _ _ _ _)); (fail_if_success (with_reducible show AOps _ _ _ _ _ _)); (first | (show AWp _ _ _ _ _) | (show AOps _ _ _ _ _ _))))
  rfl
theorem isSequence : IsFn Tryd.prog 19 Tryd.f19 := ⟨Tryd.func19, by decide, rfl⟩
theorem c_sequence (Γ : Env) (ps : List (List UInt8)) (hp : ps.length ≤ 1099511627776) (hl : ps.flatten.length ≤ 2147483647) : ACalls Tryd.prog Γ 19 [.sl none (byss ps)] (fun r => r = .ownT none 5 (bys (putF 48 ps.flatten)) [.int .i64 0]) := by
  refine acalls_of ty_ok isSequence rfl rfl ?_
  repeat' (first | ((with_reducible show AWp _ _ _ _ _); (first | refine awp_seq ?_ | refine awp_block ?_ | refine awp_skip ?_ | refine awp_exit ?_ | refine awp_scope ?_ | refine awp_label ?_ | refine awp_run ty_ok rfl sd ?_ | refine awp_ret ⟨_, _, rfl, rfl, ?_⟩ | refine awp_ret ⟨_, rfl, ?_⟩ | ((refine awp_cond (ty := ty) rfl (fun hc => ?_) (fun hc => ?_)) <;> (try simp only [nms, reduceCtorEq] at hc) <;> (try (exfalso; omega))))) | ((with_reducible show AOps _ _ _ _ _ _); (first | refine aops_nil ?_ | refine aops_go ty_ok rfl rfl sd ?_ | refine aops_gate ty_ok rfl rfl rfl sd ?_ | refine aops_callE (ty := ty) rfl rfl rfl rfl rfl rfl rfl (c_wrap _ 0 16 true ps (by omega) (by omega) hp hl) rfl ?_ | refine aops_litE ty_ok rfl rfl rfl rfl rfl rfl rfl rfl rfl rfl rfl rfl ?_ | refine aops_cutE ty_ok rfl rfl rfl rfl rfl rfl rfl rfl rfl sd rfl ?_ | ((fail_if_success (refine aops_known rfl ?_)); (refine aops_split ty_ok rfl rfl rfl rfl rfl rfl (fun hc => ⟨?_, ?_⟩) (fun hc => ⟨?_, ?_⟩)) <;> (try simp only [nms, reduceCtorEq] at hc) <;> (try (exfalso; omega)) <;> (try exact sd)))) | ((fail_if_success (with_reducible show AWp _ _ _ _ _)); (fail_if_success (with_reducible show AOps _ _ _ _ _ _)); (first | (show AWp _ _ _ _ _) | (show AOps _ _ _ _ _ _))))
  rfl
end Go.Proofs.YtohabohifjadgaaDoor

/- The abstract machine, twenty-fifth part: a region whose order is drawn, with one store among its head: to an object that the head does not look at. No program. -/
namespace Go.Am
open Go.RowKit
set_option linter.unusedSimpArgs false
set_option linter.unusedVariables false
section
variable {P : Program} {Γ : Env} {Q : Exit → St → Prop} {σ : St} {ty : TypeId → Option TI}
/-- What is known of the entries of a head, whatever they do. -/
structure HeadL (l : List Oper) (σ : St) (n : Nat) (es : List Ent) : Prop where
  entd : ∀ o ∈ l.take n, ∃ e ∈ es, e.dst = o.dst ∧ dstOk σ o.dst = true
  uniq : ∀ e ∈ es, ∀ e' ∈ es, e.j = e'.j → e = e'
  lt : ∀ e ∈ es, e.j < n ∧ ∃ o, l[e.j]? = some o ∧ e.dst = o.dst
  dsts : ∀ e ∈ es, ∀ e' ∈ es, ∀ t, e.dst = some t → e'.dst = some t → e = e'
  low : ∀ i o, σ.obj i = some o → i < σ.nx
theorem HeadL.setO {l : List Oper} {n i : Nat} {es : List Ent} {o : AO} (H : HeadL l σ n es) (hi : i < σ.nx) : HeadL l (σ.setO i o) n es :=
  ⟨H.entd, H.uniq, H.lt, H.dsts, fun k ok hk => by
    have h1 : look k ((i, o) :: σ.ob) = some ok := hk
    rw [look_cons] at h1
    split at h1
    · rename_i h
      rw [← h]
      exact hi
    · exact H.low k ok h1⟩
theorem HeadL.mem {l : List Oper} {n : Nat} {es : List Ent} (H : HeadL l σ n es) {e : Ent} (he : e ∈ es) : ∃ o ∈ l.take n, e.dst = o.dst := by
  obtain ⟨h1, o, h2, h3⟩ := H.lt e he
  refine ⟨o, List.mem_of_getElem? (i := e.j) ?_, h3⟩
  rw [List.getElem?_take, if_pos h1]
  exact h2
theorem HeadL.start {l : List Oper} {n : Nat} {es : List Ent} (H : HeadL l σ n es) {a : Act} {C : Ct} (m : Models σ a C) : Models (stE σ n (l.take n) []) a C :=
  m.weak rfl (Nat.le_add_right _ _) (fun t x ht => by
    rcases look_veil ht with ⟨h1, o, h2, h3⟩ | ⟨h1, _⟩
    · obtain ⟨e, _, _, h6⟩ := H.entd o h2
      rw [h3] at h6
      exact .inr ⟨h1, by simpa [dstOk, Nat.blt_eq] using h6⟩
    · exact .inl h1) (fun i o hi => hi)
theorem HeadL.less {l : List Oper} {n : Nat} {es done es' : List Ent} (H : HeadL l σ n es) {a : Act} {C : Ct} (hd : ∀ e ∈ done, e ∈ es) (hs : ∀ e ∈ es', e ∈ done) (m : Models (stE σ n (l.take n) done) a C) : Models (stE σ n (l.take n) es') a C :=
  m.weak rfl (Nat.le_refl _) (fun t x ht => by
    rcases look_tmOf ht with ⟨e, h1, h2, h3⟩ | ⟨h1, _⟩
    · left
      rw [← h3]
      exact tmOf_hit h2 (hs e h1) (fun e' he' hd' => H.dsts e' (hd e' he') e (hd e (hs e h1)) t hd' h2)
    · rcases look_veil h1 with ⟨h1, o, h2, h3⟩ | ⟨h1, h2⟩
      · obtain ⟨e, _, _, h6⟩ := H.entd o h2
        rw [h3] at h6
        exact .inr ⟨h1, by simpa [dstOk, Nat.blt_eq, stE] using h6⟩
      · left
        show look t (tmOf done (veil (l.take n) σ.tm)) = some x
        rw [tmOf_miss, veil_miss h2]
        · exact h1
        · intro e he
          obtain ⟨o, ho, h3⟩ := H.mem (hd e he)
          rw [h3]
          exact h2 o ho) (fun i o hi => by
    rcases look_obOf hi with ⟨e, h1, rfl, h3⟩ | h1
    · exact obOf_hit h3 (hs e h1) (fun e' he' hj => H.uniq e' (hd e' he') e (hd e (hs e h1)) hj)
    · show look i (obOf σ.nx done σ.ob) = some o
      rw [obOf_low (H.low i o h1)]
      exact h1)
theorem HeadL.fin {l : List Oper} {n : Nat} {es done : List Ent} (H : HeadL l σ n es) {a : Act} {C : Ct} (hd : ∀ e ∈ done, e ∈ es) (hs : ∀ e ∈ es, e ∈ done) (m : Models (stE σ n (l.take n) done) a C) : Models (finE σ n es) a C :=
  m.weak rfl (Nat.le_refl _) (fun t x ht => by
    left
    rcases look_tmOf ht with ⟨e, h1, h2, h3⟩ | ⟨h1, h2⟩
    · rw [← h3]
      exact tmOf_hit h2 (hs e h1) (fun e' he' hd' => H.dsts e' (hd e' he') e h1 t hd' h2)
    · show look t (tmOf done (veil (l.take n) σ.tm)) = some x
      rw [tmOf_miss (fun e he => h2 e (hd e he)), veil_miss]
      · exact h1
      · intro o ho
        obtain ⟨e, he, h4, _⟩ := H.entd o ho
        rw [← h4]
        exact h2 e he) (fun i o hi => by
    rcases look_obOf hi with ⟨e, h1, rfl, h3⟩ | h1
    · exact obOf_hit h3 (hs e h1) (fun e' he' hj => H.uniq e' (hd e' he') e h1 hj)
    · show look i (obOf σ.nx done σ.ob) = some o
      rw [obOf_low (H.low i o h1)]
      exact h1)

/-- The store of a head, and what it needs. -/
structure StOk (ty : TypeId → Option TI) (l : List Oper) (σ : St) (n : Nat) (acc : List Ent) (o : Oper) (i : Nat) (bt : TypeId) (cs cs' : List AV) : Prop where
  ex : ∃ t x z ti y off new, o.op = .store t x z ∧ ty t = some ti ∧ (minE (σ.setO i .dead) n (l.take n) acc o).ev ty 0 x = some (.ptr i off) ∧ (minE (σ.setO i .dead) n (l.take n) acc o).ev ty t z = some y ∧ avCells ti.size y = some new ∧ Nat.ble (off + ti.size) cs.length = true ∧ cs' = setAll cs off new
/-- Behind the operations ahead of the store. -/
def StK (P : Program) (Γ : Env) (ty : TypeId → Option TI) (l : List Oper) (Q : Exit → St → Prop) (σ σ0 : St) (n s i : Nat) (o : Oper) (bt : TypeId) (cs : List AV) (acc : List Ent) : Prop :=
  ∃ cs', StOk ty l σ n acc o i bt cs cs' ∧ HeadT P Γ l σ0 n (l.take n) (fun es => AOps P Γ l Q (l.drop n) (finE (setO' σ i (.box bt cs')) n es)) ((l.take n).drop (s + 1)) (s + 1) (⟨s, none, .un, none⟩ :: acc)
end
end Go.Am

/- Elements, read: functions of packages tlv and element. Walked by the abstract machine. -/
namespace Go.Proofs.YtohabohifjadgaaDoor
open Go.Am
set_option linter.unusedSimpArgs false
set_option linter.unusedVariables false

/-- What an identifier octet says. -/
def idD (x : UInt8) : Dat := if x.toNat % 32 = 31 then .tup [.int .i64 0, .bool false, .int .i64 0, .int .i64 3] else .tup [clsD x, .bool (conB x), numD x, .int .i64 0]
def errD (c o : Nat) : Dat := .agg [.int .i64 c, .int .i64 o]
def rlD : Ex (Nat × Nat) → Dat
  | .bad c o => .tup [.int .i64 0, .int .i64 0, errD c o]
  | .ok (n, s) => .tup [.int .i64 n, .int .i64 s, errD 0 0]
/-! ### Headers -/
def hdrD (x : UInt8) (n s : Nat) : Dat := .agg [clsD x, numD x, .bool (conB x), .int .i64 n, .int .i64 s]
def hdr0 : Dat := .agg [.int .i64 0, .int .i64 0, .bool false, .int .i64 0, .int .i64 0]
def hdD : Ex (UInt8 × Nat × Nat) → Dat
  | .bad c o => .tup [hdr0, errD c o]
  | .ok (x, n, s) => .tup [hdrD x n s, errD 0 0]
/-! ### Elements -/
def elD (e : El) : Dat := .agg [clsD e.x, numD e.x, .bool (conB e.x), .int .i64 e.st, .int .i64 e.bd, .int .i64 e.en]
def el0 : Dat := .agg [.int .i64 0, .int .i64 0, .bool false, .int .i64 0, .int .i64 0, .int .i64 0]
def exD : Ex El → Dat
  | .bad c o => .tup [el0, errD c o]
  | .ok e => .tup [elD e, errD 0 0]
end Go.Proofs.YtohabohifjadgaaDoor

/- Functions of package cretulabase that the laws ask; named bits of a key usage. Walked by the abstract machine. -/
namespace Go.Proofs.YtohabohifjadgaaDoor
open Go.Am
set_option linter.unusedSimpArgs false
set_option linter.unusedVariables false

theorem c_bytes_eq (Γ : Env) (x y : List UInt8) (h : x = y) : ACalls Tryd.prog Γ 11 [.sl none (bys x), .sl none (bys y)] (fun r => r = .d (.bool true)) := by
  have := c_bytes Γ x y
  rwa [decide_eq_true h] at this
def witF (c o n : Int) : Bool := decide ((c = 0 ∧ o = 0) ∨ (c > 0 ∧ 0 ≤ o ∧ o ≤ n))
end Go.Proofs.YtohabohifjadgaaDoor

/- Functions of package bitstring, walked by the abstract machine. -/
namespace Go.Proofs.YtohabohifjadgaaDoor
open Go.Am
set_option linter.unusedSimpArgs false
set_option linter.unusedVariables false

def bitsD (x : List UInt8) (u : Int) : Dat := .agg [.sl none (bys x), .int .i64 u]
end Go.Proofs.YtohabohifjadgaaDoor

/- Encode and Decode of bit strings, walked by the abstract machine. -/
namespace Go.Proofs.YtohabohifjadgaaDoor
open Go.Am
set_option linter.unusedSimpArgs false
set_option linter.unusedVariables false

def encR (x : List UInt8) (u : Int) (r : Res) : Prop := (valF x u = true → r = .ownT none 5 (bys (UInt8.ofNat u.toNat :: x)) [.int .i64 0]) ∧ (valF x u = false → r = .d (.tup [.sl none [], .int .i64 8]))
def decD (c : List UInt8) : Dat := .tup [bitsD (decF c).1 (decF c).2.1, .int .i64 (decF c).2.2]
end Go.Proofs.YtohabohifjadgaaDoor

/- Len and At of bit strings, walked by the abstract machine. -/
namespace Go.Proofs.YtohabohifjadgaaDoor
open Go.Am
set_option linter.unusedSimpArgs false
set_option linter.unusedVariables false

end Go.Proofs.YtohabohifjadgaaDoor

/- At of the reference, members of sets, walked by the abstract machine. -/
namespace Go.Proofs.YtohabohifjadgaaDoor
open Go.Am
set_option linter.unusedSimpArgs false
set_option linter.unusedVariables false

end Go.Proofs.YtohabohifjadgaaDoor

/- At of the reference, Ints, walked by the abstract machine. -/
namespace Go.Proofs.YtohabohifjadgaaDoor
open Go.Am
set_option linter.unusedSimpArgs false
set_option linter.unusedVariables false

end Go.Proofs.YtohabohifjadgaaDoor

/- EncodeNamed, walked by the abstract machine. -/
namespace Go.Proofs.YtohabohifjadgaaDoor
open Go.Am
set_option linter.unusedSimpArgs false
set_option linter.unusedVariables false

def badF (n k : Int) : Bool := decide (k < 1 ∨ k > 32 ∨ n < 0 ∨ ¬ n.toNat < 2 ^ k.toNat)
def encNR (n k : Int) (r : Res) : Prop := (badF n k = true → r = .d (.tup [.sl none [], .int .i64 9])) ∧ (badF n k = false → memF n.toNat = [] → r = .ownT none 5 (bys [0]) [.int .i64 0]) ∧
  (badF n k = false → ∀ q m, memF n.toNat = q ++ [m] → r = .ownT none 5 (bys (outP (q ++ [m]) m)) [.int .i64 0])

end Go.Proofs.YtohabohifjadgaaDoor

/- EncodeNamed of the reference, walked by the abstract machine. -/
namespace Go.Proofs.YtohabohifjadgaaDoor
open Go.Am
set_option linter.unusedSimpArgs false
set_option linter.unusedVariables false

end Go.Proofs.YtohabohifjadgaaDoor

/- DecodeNamed, walked by the abstract machine. -/
namespace Go.Proofs.YtohabohifjadgaaDoor
open Go.Am
set_option linter.unusedSimpArgs false
set_option linter.unusedVariables false

def bitF (x : List UInt8) (u : Int) (i : Nat) : Bool := atF x u i
/-- The set of contents octets, and the code. -/
def dnF (c : List UInt8) (k : Int) : Int × Int := match decide (k < 1 ∨ k > 32) with
  | true => (0, 9)
  | false => match decide ((decF c).2.2 ≠ 0 ∨ lenF (decF c).1 (decF c).2.1 > k ∨ (lenF (decF c).1 (decF c).2.1 > 0 ∧ atF (decF c).1 (decF c).2.1 (lenF (decF c).1 (decF c).2.1 - 1) = false)) with
    | true => (0, 6)
    | false => ((setTo (bitF (decF c).1 (decF c).2.1) (lenF (decF c).1 (decF c).2.1).toNat : Int), 0)
end Go.Proofs.YtohabohifjadgaaDoor

/- DecodeNamed of the reference, walked by the abstract machine. -/
namespace Go.Proofs.YtohabohifjadgaaDoor
open Go.Am
set_option linter.unusedSimpArgs false
set_option linter.unusedVariables false

/-- The contents octets of a set. -/
def namF (S : Nat) : List UInt8 := match (memF S).getLast? with
  | none => [0]
  | some m => outP (memF S) m
def encRes (n k : Int) : Res := match badF n k with
  | true => .d (.tup [.sl none [], .int .i64 9])
  | false => .ownT none 5 (bys (namF n.toNat)) [.int .i64 0]
def rdnF (c : List UInt8) (k : Int) : Int × Int := match decide (k < 1 ∨ k > 32) with
  | true => (0, 9)
  | false => match decide (namF (setTo (bitF (decF c).1 (decF c).2.1) k.toNat) = c) with
    | true => ((setTo (bitF (decF c).1 (decF c).2.1) k.toNat : Int), 0)
    | false => (0, 6)
end Go.Proofs.YtohabohifjadgaaDoor

/- Sets of named bits: contents octets and sets are one to one. Plain Lean over the functions of the walks. -/
namespace Go.Proofs.YtohabohifjadgaaDoor
open Go.Am
set_option linter.unusedSimpArgs false
set_option linter.unusedVariables false

end Go.Proofs.YtohabohifjadgaaDoor

/- Key usages: functions of package usage and of its reference. Walked by the abstract machine. -/
namespace Go.Proofs.YtohabohifjadgaaDoor
open Go.Am
set_option linter.unusedSimpArgs false
set_option linter.unusedVariables false

def keyV (n : Int) : Bool := decide (1 ≤ n ∧ n ≤ 511)
/-- The encoding of a key usage. -/
def keyF (S : Nat) : List UInt8 := putF 3 (namF S)
def keyR (n : Int) : Res := match keyV n with
  | true => .ownT none 5 (bys (keyF n.toNat)) [.int .i64 0]
  | false => .d (.tup [.sl none [], .int .i64 8])
/-- A key usage, parsed. -/
def pkF (b : List UInt8) : Ex Nat := match onF b with
  | .bad c o => .bad c o
  | .ok e => match isB e.x 0 false 3 with
    | false => .bad 3 0
    | true => match dnF (cut b e.bd e.en) 9 with
      | (s, c) => if c ≠ 0 ∨ s = 0 then .bad 6 e.bd else .ok s.toNat
def pkD : Ex Nat → Dat
  | .bad c o => .tup [.int .i64 0, errD c o]
  | .ok S => .tup [.int .i64 S, errD 0 0]
end Go.Proofs.YtohabohifjadgaaDoor

/- Key usages: what is parsed and what is marshalled are one to one; the reference's ParseKey; Allows. -/
namespace Go.Proofs.YtohabohifjadgaaDoor
open Go.Am
set_option linter.unusedSimpArgs false
set_option linter.unusedVariables false

def rpkD : Ex Nat → Dat
  | .bad c o => .tup [.int .i64 0, .bool false]
  | .ok S => .tup [.int .i64 S, .bool true]
/-! ### Allows -/
def allB (u n : Nat) : Bool := (List.range 9).all fun i => !n.testBit i || u.testBit i
def allF (u n : Int) : Bool := keyV u && keyV n && allB u.toNat n.toNat
/-! ### Allows of the reference -/
def allT (k u n : Nat) : Bool := (List.range k).all fun i => !n.testBit i || u.testBit i
end Go.Proofs.YtohabohifjadgaaDoor

/- Arcs and their numerals: plain Lean. No program. -/
namespace Go.Am
open Go.Lib (decDigits)
set_option linter.unusedSimpArgs false
set_option linter.unusedVariables false

def digB (c : UInt8) : Bool := decide (48 ≤ c.toNat ∧ c.toNat ≤ 57)
def dv (acc : Nat) : List UInt8 → Nat
  | [] => acc
  | c :: r => dv (acc * 10 + (c.toNat - 48)) r
theorem dv_ge : ∀ (l : List UInt8) (acc : Nat), acc ≤ dv acc l
  | [], acc => Nat.le_refl _
  | c :: r, acc => Nat.le_trans (by omega) (dv_ge r _)
theorem dv_app : ∀ (l : List UInt8) (acc : Nat) (c : UInt8), dv acc (l ++ [c]) = dv acc l * 10 + (c.toNat - 48)
  | [], acc, c => rfl
  | x :: r, acc, c => dv_app r _ c
theorem dec_small {n : Nat} (h : n < 10) : decDigits n = [UInt8.ofNat (48 + n)] := by rw [Lib.decDigits, dif_pos h]
theorem dec_big {n : Nat} (h : ¬ n < 10) : decDigits n = decDigits (n / 10) ++ [UInt8.ofNat (48 + n % 10)] := by rw [Lib.decDigits, dif_neg h]
theorem dig_nat {d : Nat} (h : d < 10) : (UInt8.ofNat (48 + d)).toNat = 48 + d := by
  simp [UInt8.toNat_ofNat']
  omega
theorem dec_dig (n : Nat) : ∀ c ∈ decDigits n, digB c = true := by
  induction n using Nat.strongRecOn with
  | _ n ih =>
    by_cases h : n < 10
    · rw [dec_small h]
      intro c hc
      simp only [List.mem_singleton] at hc
      subst hc
      simp only [digB, dig_nat h, decide_eq_true_eq]
      omega
    · rw [dec_big h]
      intro c hc
      rcases List.mem_append.1 hc with hc | hc
      · exact ih (n / 10) (by omega) c hc
      · simp only [List.mem_singleton] at hc
        subst hc
        simp only [digB, dig_nat (show n % 10 < 10 by omega), decide_eq_true_eq]
        omega
theorem dv_one (a : Nat) (c : UInt8) : dv a [c] = a * 10 + (c.toNat - 48) := rfl
theorem dv_single (n : Nat) (x : UInt8) (l : List UInt8) (hl : l = [x]) (h : x.toNat = 48 + n) : dv 0 l = n := by
  subst hl
  rw [dv_one, h]
  omega
theorem dv_snoc (k d : Nat) (l r : List UInt8) (x : UInt8) (hl : l = r ++ [x]) (hr : dv 0 r = k) (h : x.toNat = 48 + d) : dv 0 l = k * 10 + d := by
  subst hl
  rw [dv_app, hr, h]
  omega
theorem dec_dv (n : Nat) : dv 0 (decDigits n) = n := by
  induction n using Nat.strongRecOn with
  | _ n ih =>
    by_cases h : n < 10
    · exact dv_single n _ _ (dec_small h) (dig_nat h)
    · have := dv_snoc (n / 10) (n % 10) _ _ _ (dec_big h) (ih (n / 10) (by omega)) (dig_nat (show n % 10 < 10 by omega))
      omega
theorem dec_ne (n : Nat) : decDigits n ≠ [] := by
  by_cases h : n < 10
  · rw [dec_small h]; simp
  · rw [dec_big h]; simp
/-- The value that is read from digits, as far as it fits. -/
def valD (acc : Nat) : List UInt8 → Option Nat
  | [] => some acc
  | c :: r => match digB c && decide (acc ≤ 4294967295) with
    | true => valD (acc * 10 + (c.toNat - 48)) r
    | false => none
theorem valD_dv : ∀ (l : List UInt8) (acc : Nat), (∀ c ∈ l, digB c = true) → dv acc l ≤ 4294967295 → valD acc l = some (dv acc l)
  | [], acc, _, _ => rfl
  | c :: r, acc, h, hM => by
    have h1 := h c (List.mem_cons_self ..)
    have h2 := dv_ge r (acc * 10 + (c.toNat - 48))
    have h3 : dv acc (c :: r) = dv (acc * 10 + (c.toNat - 48)) r := rfl
    have h4 : decide (acc ≤ 4294967295) = true := decide_eq_true (by omega)
    simp only [valD, h1, h4, Bool.and_self]
    exact valD_dv r _ (fun c hc => h c (List.mem_cons_of_mem _ hc)) (by omega)
theorem parse_dv : ∀ (l : List UInt8) (acc : Nat), (∀ c ∈ l, digB c = true) → dv acc l ≤ 4294967295 → Lib.parseUintM 4294967295 acc l = .ok (dv acc l)
  | [], acc, _, _ => rfl
  | c :: r, acc, h, hM => by
    have h1 := h c (List.mem_cons_self ..)
    have h2 := dv_ge r (acc * 10 + (c.toNat - 48))
    have h3 : dv acc (c :: r) = dv (acc * 10 + (c.toNat - 48)) r := rfl
    simp only [digB, decide_eq_true_eq] at h1
    unfold Lib.parseUintM
    rw [if_pos h1, if_neg (by omega), if_neg (by omega)]
    exact parse_dv r _ (fun c hc => h c (List.mem_cons_of_mem _ hc)) (by omega)
theorem parse_le : ∀ (l : List UInt8) (acc u : Nat), acc ≤ 4294967295 → Lib.parseUintM 4294967295 acc l = .ok u → u ≤ 4294967295
  | [], acc, u, h, hp => by
    simp only [Lib.parseUintM, Lib.NumEnd.ok.injEq] at hp
    omega
  | c :: r, acc, u, h, hp => by
    unfold Lib.parseUintM at hp
    split at hp
    · split at hp
      · cases hp
      · split at hp
        · cases hp
        · exact parse_le r _ u (by omega) hp
    · cases hp
theorem parse32_le {l : List UInt8} {u : Nat} (h : Lib.parseUintB 32 l = .ok u) : u ≤ 4294967295 := by
  unfold Lib.parseUintB at h
  split at h
  · cases h
  · exact parse_le l 0 u (by omega) h

/-- The arc whose numeral it is. -/
def arcF (p : List UInt8) : Option Nat := match valD 0 p with
  | some n => match decide (p ≠ []) && decide (n ≤ 4294967295) && decide (decDigits n = p) with
    | true => some n
    | false => none
  | none => none
theorem arcF_some {p : List UInt8} {n : Nat} : arcF p = some n ↔ n ≤ 4294967295 ∧ decDigits n = p := by
  constructor
  · intro h
    unfold arcF at h
    split at h
    · split at h
      · rename_i hb
        cases h
        simp only [Bool.and_eq_true, decide_eq_true_eq] at hb
        exact ⟨hb.1.2, hb.2⟩
      · cases h
    · cases h
  · rintro ⟨h1, rfl⟩
    unfold arcF
    rw [valD_dv _ 0 (dec_dig n) (by rw [dec_dv]; exact h1), dec_dv]
    have e1 : decide (decDigits n ≠ []) = true := decide_eq_true (dec_ne n)
    have e2 : decide (n ≤ 4294967295) = true := decide_eq_true h1
    simp only [e1, e2, decide_true, Bool.and_self]
theorem parse_dec {n : Nat} (h : n ≤ 4294967295) : Lib.parseUintB 32 (decDigits n) = .ok n := by
  unfold Lib.parseUintB
  rw [if_neg (dec_ne n)]
  have := parse_dv (decDigits n) 0 (dec_dig n) (by rw [dec_dv]; exact h)
  rwa [dec_dv] at this
theorem arcF_parse (p : List UInt8) : arcF p = match Lib.parseUintB 32 p with
    | .ok u => (match decide (decDigits u = p) with
      | true => some u
      | false => none)
    | _ => none := by
  cases h : arcF p with
  | some n =>
    obtain ⟨h1, h2⟩ := arcF_some.1 h
    rw [← h2, parse_dec h1]
    simp
  | none =>
    cases hp : Lib.parseUintB 32 p with
    | ok u =>
      simp only
      split
      · rename_i hd
        have := arcF_some.2 ⟨parse32_le hp, of_decide_eq_true hd⟩
        rw [h] at this
        cases this
      · rfl
    | _ => rfl

def rightF : List Nat → Bool
  | x :: y :: _ => (decide (x < 2) && decide (y < 40)) || (decide (x = 2) && decide (y ≤ 4294967215))
  | _ => false
/-- The arcs of a string. -/
def okF (s : List UInt8) : Option (List Nat) := match (splitL s).mapM arcF with
  | some a => match rightF a with
    | true => some a
    | false => none
  | none => none

theorem mapM_snoc {α β : Type} {f : α → Option β} : ∀ (l : List α) (x : α), (l ++ [x]).mapM f = match l.mapM f, f x with
    | some a, some b => some (a ++ [b])
    | _, _ => none
  | [], x => by
    simp only [List.nil_append, List.mapM_cons, List.mapM_nil]
    cases f x <;> rfl
  | y :: l, x => by
    simp only [List.cons_append, List.mapM_cons, mapM_snoc l x]
    cases f y with
    | none => rfl
    | some b =>
      cases l.mapM f with
      | none => rfl
      | some a => cases f x <;> rfl
theorem mapM_none_of {α β : Type} {f : α → Option β} : ∀ {l : List α} {x : α}, x ∈ l → f x = none → l.mapM f = none
  | y :: l, x, h, hf => by
    rw [List.mapM_cons]
    rcases List.mem_cons.1 h with rfl | h
    · rw [hf]; rfl
    · cases f y with
      | none => rfl
      | some b => rw [mapM_none_of h hf]; rfl
theorem mapM_arcs : ∀ {l : List (List UInt8)} {a : List Nat}, l.mapM arcF = some a → l = a.map decDigits ∧ ∀ n ∈ a, n ≤ 4294967295
  | [], a, h => by cases h; simp
  | p :: l, a, h => by
    rw [List.mapM_cons] at h
    cases hp : arcF p with
    | none => rw [hp] at h; cases h
    | some n =>
      cases hl : l.mapM arcF with
      | none => rw [hp, hl] at h; cases h
      | some b =>
        rw [hp, hl] at h
        cases h
        obtain ⟨h1, h2⟩ := mapM_arcs hl
        obtain ⟨h3, h4⟩ := arcF_some.1 hp
        refine ⟨by rw [h1, ← h4]; rfl, fun m hm => ?_⟩
        rcases List.mem_cons.1 hm with rfl | hm
        · exact h3
        · exact h2 m hm
/-- Pieces with dots between them. -/
def joinD : List (List UInt8) → List UInt8
  | [] => []
  | [p] => p
  | p :: q :: r => p ++ 46 :: joinD (q :: r)
theorem joinD_splitL (s : List UInt8) : joinD (splitL s) = s := by
  induction s with
  | nil => rfl
  | cons c r ih =>
    simp only [splitL]
    by_cases h : c = 46
    · subst h
      rw [if_pos rfl]
      cases hs : splitL r with
      | nil => exact absurd hs (splitL_ne r)
      | cons p ps =>
        rw [hs] at ih
        rw [joinD, ih]
        rfl
    · rw [if_neg h]
      cases hs : splitL r with
      | nil => exact absurd hs (splitL_ne r)
      | cons p ps =>
        rw [hs] at ih
        cases ps with
        | nil => simp only [joinD] at ih ⊢; rw [ih]
        | cons q qs => simp only [joinD] at ih ⊢; rw [← ih]; rfl
def textF (a : List Nat) : List UInt8 := joinD (a.map decDigits)
theorem okF_text {s : List UInt8} {a : List Nat} (h : okF s = some a) : textF a = s ∧ rightF a = true ∧ ∀ n ∈ a, n ≤ 4294967295 := by
  unfold okF at h
  split at h
  · rename_i b hb
    split at h
    · rename_i hr
      cases h
      obtain ⟨h1, h2⟩ := mapM_arcs hb
      exact ⟨by rw [textF, ← h1, joinD_splitL], hr, h2⟩
    · cases h
  · cases h
end Go.Am

/- What the listed variables of Go's library hold: an environment for the walks. -/
namespace Go.Proofs.YtohabohifjadgaaDoor
open Go.Am
set_option linter.unusedSimpArgs false
set_option linter.unusedVariables false

def theLaid := Rows.extensionKeepsRow.laid
def LaidOk (w : World) : Prop := 3 ≤ w.heap.size ∧ Lib.TabIs Tryd.prog w "internal/strconv.uint64pow10" .u64 Lib.pow10Tab ∧ (∃ t p, w.var? Tryd.prog "strconv.ErrSyntax" = some #[.iface t p]) ∧ (∃ t p, w.var? Tryd.prog "strconv.ErrRange" = some #[.iface t p])
theorem var_stable {P : Program} {n : String} {g : Nat} (hg : P.globalNamed n = some g) {w w' : World} (h : w'.heap[g]? = w.heap[g]?) : w'.var? P n = w.var? P n := by
  simp only [World.var?, hg, Option.bind_some, h]
theorem var_lt {P : Program} {n : String} {g : Nat} {c : Array Value} (hg : P.globalNamed n = some g) {w : World} (h : w.var? P n = some c) : g < w.heap.size := by
  rcases Nat.lt_or_ge g w.heap.size with h1 | h1
  · exact h1
  · simp only [World.var?, hg, Option.bind_some, Array.getElem?_eq_none h1] at h
    cases h
def envL : Env where
  ok := LaidOk
  lim := 3
  lim_le := fun w h => h.1
  stable := fun w w' h _ _ hs hb => by
    refine ⟨Nat.le_trans h.1 hs, ?_, ?_, ?_⟩
    · have := h.2.1
      unfold Lib.TabIs at this ⊢
      rw [var_stable (g := 2) (by kernel_rfl) (hb 2 (by omega))]
      exact this
    · rw [var_stable (g := 0) (by kernel_rfl) (hb 0 (by omega))]
      exact h.2.2.1
    · rw [var_stable (g := 1) (by kernel_rfl) (hb 1 (by omega))]
      exact h.2.2.2
  L := 0
theorem iface_of {H : Type} {enc : TypeId × Value → H} {P : Program} {w : World} {t : TypeId} {ms : Array (String × TypeId)} {fuel : Nat} {cs : Array Value} {nm : String} {d : DataW H} {p : List MemPlace} (hi : P.underlying t = some (.interface ms))
    (h : DataW.trod enc P w 0 (fun _ => true) false fuel t cs.toList = some (.iface nm d, p)) : ∃ u v, cs = #[.iface u v] := by
  obtain ⟨cs⟩ := cs
  cases fuel with
  | zero => simp [DataW.trod] at h
  | succ n =>
    unfold DataW.trod at h
    rw [hi] at h
    split at h <;> simp_all
theorem laid_ok {W : World} (h : laidMetH Tryd.prog theLaid W) : LaidOk W := by
  unfold theLaid at h
  rw [MakeChecks.laidMetH_plain _ _ _ (by kernel_rfl)] at h
  obtain ⟨ps, hv, _⟩ := h
  obtain ⟨g1, t1, c1, f1, p1, q1, a1, b1, v1, d1, hv, _⟩ := hv
  obtain ⟨g2, t2, c2, f2, p2, q2, a2, b2, v2, d2, hv, _⟩ := hv
  obtain ⟨g3, t3, c3, f3, p3, q3, a3, b3, v3, d3, hv, _⟩ := hv
  obtain ⟨g4, t4, c4, f4, p4, q4, a4, b4, v4, d4, hv, _⟩ := hv
  obtain ⟨g5, t5, c5, f5, p5, q5, a5, b5, v5, d5, hv, _⟩ := hv
  obtain ⟨g6, t6, c6, f6, p6, q6, a6, b6, v6, d6, hv, _⟩ := hv
  have hi : Tryd.prog.underlying 61 = some (.interface _) := Tryd.underlying61
  refine ⟨?_, ?_, ?_, ?_⟩
  · have h1 := var_lt (show Tryd.prog.globalNamed "internal/strconv.uint64pow10" = some 2 by kernel_rfl) v3
    have h2 := var_lt (show Tryd.prog.globalNamed "strconv.ErrSyntax" = some 0 by kernel_rfl) v6
    have h3 := var_lt (show Tryd.prog.globalNamed "strconv.ErrRange" = some 1 by kernel_rfl) v5
    omega
  · obtain rfl := Option.some.inj ((show Tryd.prog.globalNamed "internal/strconv.uint64pow10" = some 2 by kernel_rfl).symm.trans a3)
    unfold Lib.TabIs
    have hT : (Tryd.prog.globals[2]?).map (·.type) = some 97 := by kernel_rfl
    obtain rfl := Option.some.inj (hT.symm.trans b3)
    rw [v3, ← Lib.cells_of_tab (zs := Lib.pow10Tab) Tryd.underlying97 Tryd.underlying59 (by kernel_rfl) (by kernel_rfl) d3]
  · obtain rfl := Option.some.inj ((show Tryd.prog.globalNamed "strconv.ErrSyntax" = some 0 by kernel_rfl).symm.trans a6)
    obtain rfl := Option.some.inj ((show (Tryd.prog.globals[0]?).map (·.type) = some 61 by kernel_rfl).symm.trans b6)
    obtain ⟨u, v, rfl⟩ := iface_of hi d6
    exact ⟨u, v, v6⟩
  · obtain rfl := Option.some.inj ((show Tryd.prog.globalNamed "strconv.ErrRange" = some 1 by kernel_rfl).symm.trans a5)
    obtain rfl := Option.some.inj ((show (Tryd.prog.globals[1]?).map (·.type) = some 61 by kernel_rfl).symm.trans b5)
    obtain ⟨u, v, rfl⟩ := iface_of hi d5
    exact ⟨u, v, v5⟩
theorem env_of {W : World} (h : laidMetH Tryd.prog theLaid W) : envL.ok W := laid_ok h
end Go.Proofs.YtohabohifjadgaaDoor

/- Contracts of functions of Go's library, laid at this dump by the kit's own tool (lay-shelf.mjs, lay-plain.mjs), those that are used. -/

namespace Go.Proofs
open Go.Shelf
def Tryd.lays283_ren : Go.Shelf.Ren := ⟨fun | 283 => 49 | n => n, fun | 3 => 3 | 9 => 9 | 4 => 4 | n => n, fun | n => n⟩
theorem Tryd.lays283 : Go.Proofs.Lays.n283 Tryd.prog Tryd.lays283_ren := {
  mixed := by kernel_rfl
  f283 := Tryd.func49.trans (congrArg some (by kernel_rfl))
  t3 := Tryd.underlying3
  a3 := Tryd.isAgg3
  z3 := Tryd.sizeOf3
  v3 := Tryd.zeroValue3
  t4 := Tryd.underlying4
  a4 := Tryd.isAgg4
  z4 := Tryd.sizeOf4
  v4 := Tryd.zeroValue4
  t9 := Tryd.underlying9
  a9 := Tryd.isAgg9
  z9 := Tryd.sizeOf9
  v9 := Tryd.zeroValue9 }
open Go.Lib in
theorem Tryd.internal_strconv_small (i : Nat) (h : i < 100) (w : World) :
    Calls Tryd.prog 49 #[.int .i64 i] w fun e w' => e = .returned (.string ⟨(Lib.decDigits i).toArray⟩) ∧ w' = w := Any.internal_strconv_small Tryd.lays283 i h w
def Tryd.laysM284_ren : Go.Shelf.Ren := ⟨fun | 284 => 50 | 129 => 61 | 317 => 60 | 318 => 62 | n => n, fun | 53 => 59 | 3 => 3 | 212 => 97 | 0 => 0 | 4 => 4 | 46 => 52 | 5 => 5 | 9 => 9 | n => n, fun | 17 => 2 | n => n⟩
theorem Tryd.laysM284 : Go.Proofs.LaysM.n284 Tryd.prog Tryd.laysM284_ren := {
  mixed := by kernel_rfl
  f129 := Tryd.func61.trans (congrArg some (by kernel_rfl))
  f284 := Tryd.func50.trans (congrArg some (by kernel_rfl))
  f317 := Tryd.func60.trans (congrArg some (by kernel_rfl))
  f318 := Tryd.func62.trans (congrArg some (by kernel_rfl))
  t0 := Tryd.underlying0
  a0 := Tryd.isAgg0
  z0 := Tryd.sizeOf0
  v0 := Tryd.zeroValue0
  t3 := Tryd.underlying3
  a3 := Tryd.isAgg3
  z3 := Tryd.sizeOf3
  v3 := Tryd.zeroValue3
  t4 := Tryd.underlying4
  a4 := Tryd.isAgg4
  z4 := Tryd.sizeOf4
  v4 := Tryd.zeroValue4
  t5 := Tryd.underlying5
  a5 := Tryd.isAgg5
  z5 := Tryd.sizeOf5
  v5 := Tryd.zeroValue5
  t9 := Tryd.underlying9
  a9 := Tryd.isAgg9
  z9 := Tryd.sizeOf9
  v9 := Tryd.zeroValue9
  t46 := Tryd.underlying52
  a46 := Tryd.isAgg52
  z46 := Tryd.sizeOf52
  v46 := Tryd.zeroValue52
  t53 := Tryd.underlying59
  a53 := Tryd.isAgg59
  z53 := Tryd.sizeOf59
  v53 := Tryd.zeroValue59
  t212 := Tryd.underlying97
  a212 := Tryd.isAgg97
  z212 := Tryd.sizeOf97
  v212 := Tryd.zeroValue97
  g17 := by kernel_rfl
  i0 := by kernel_rfl
  i3 := by kernel_rfl
  i4 := by kernel_rfl
  i5 := by kernel_rfl
  i9 := by kernel_rfl
  i46 := by kernel_rfl
  i53 := by kernel_rfl
  i212 := by kernel_rfl
  m17 := by kernel_rfl }
open Go.Lib in
theorem Tryd.internal_strconv_numDigits (u : Nat) (h1 : 1 ≤ u) (h2 : u < 18446744073709551616) (w : World) (htab : Lib.TabIs Tryd.prog w "internal/strconv.uint64pow10" .u64 Lib.pow10Tab) :
    Calls Tryd.prog 50 #[.int .u64 u] w fun e w' => e = .returned (.int .i64 (Lib.nDigits u)) ∧ w' = w := Any.internal_strconv_numDigits Tryd.laysM284 u h1 h2 w htab
def Tryd.lays285_ren : Go.Shelf.Ren := ⟨fun | 285 => 51 | n => n, fun | 37 => 23 | 53 => 59 | 3 => 3 | 4 => 4 | 51 => 51 | 9 => 9 | 5 => 5 | 0 => 0 | n => n, fun | n => n⟩
theorem Tryd.lays285 : Go.Proofs.Lays.n285 Tryd.prog Tryd.lays285_ren := {
  mixed := by kernel_rfl
  f285 := Tryd.func51.trans (congrArg some (by kernel_rfl))
  t0 := Tryd.underlying0
  a0 := Tryd.isAgg0
  z0 := Tryd.sizeOf0
  v0 := Tryd.zeroValue0
  t3 := Tryd.underlying3
  a3 := Tryd.isAgg3
  z3 := Tryd.sizeOf3
  v3 := Tryd.zeroValue3
  t4 := Tryd.underlying4
  a4 := Tryd.isAgg4
  z4 := Tryd.sizeOf4
  v4 := Tryd.zeroValue4
  t5 := Tryd.underlying5
  a5 := Tryd.isAgg5
  z5 := Tryd.sizeOf5
  v5 := Tryd.zeroValue5
  t9 := Tryd.underlying9
  a9 := Tryd.isAgg9
  z9 := Tryd.sizeOf9
  v9 := Tryd.zeroValue9
  t37 := Tryd.underlying23
  a37 := Tryd.isAgg23
  z37 := Tryd.sizeOf23
  v37 := Tryd.zeroValue23
  t51 := Tryd.underlying51
  a51 := Tryd.isAgg51
  z51 := Tryd.sizeOf51
  v51 := Tryd.zeroValue51
  t53 := Tryd.underlying59
  a53 := Tryd.isAgg59
  z53 := Tryd.sizeOf59
  v53 := Tryd.zeroValue59 }
open Go.RowKit Go.Sort Go.Lib in
theorem Tryd.internal_strconv_formatBase10 (blk off cap : Nat) (u : Nat) (d : Array UInt8) (w : World) (hH : Holds (fun (b : UInt8) => Value.int .u8 (b.toNat : Int)) w blk off d) (hu : u < 10 ^ d.size) (hu64 : u < 18446744073709551616) (hsz : d.size < 4611686018427387904) :
    Calls Tryd.prog 51 #[.slice (some ⟨blk, off, none⟩) d.size cap, .int .u64 u] w fun e w' =>
      e = .returned (.tuple #[]) ∧ ∃ (n v' : Nat) (dk : Array UInt8), w' = (putRow (fun (b : UInt8) => Value.int .u8 (b.toNat : Int)) w blk off dk).drewN n ∧ FmtInv d.size u 0 v' dk := Any.internal_strconv_formatBase10 Tryd.lays285 blk off cap u d w hH hu hu64 hsz
def Tryd.laysPu14_ren : Go.Shelf.Ren := ⟨fun | 14 => 29 | 16 => 36 | 17 => 37 | 19 => 43 | 20 => 44 | 21 => 45 | 22 => 46 | 23 => 47 | 24 => 48 | 25 => 57 | 27 => 59 | 26 => 58 | 28 => 70 | 29 => 75 | 30 => 49 | 31 => 50 | 32 => 51 | 33 => 52 | 35 => 61 | 34 => 60 | 36 => 62 | 37 => 63 | 38 => 64 | 39 => 71 | 40 => 72 | n => n, fun | 9 => 9 | 3 => 3 | 22 => 59 | 24 => 61 | 25 => 62 | 4 => 4 | 34 => 75 | 5 => 5 | 36 => 52 | 37 => 23 | 0 => 0 | 39 => 78 | 21 => 21 | 44 => 93 | 47 => 101 | 50 => 104 | 48 => 102 | 2 => 2 | 52 => 82 | 55 => 85 | 59 => 97 | 60 => 51 | 20 => 20 | 61 => 98 | 65 => 113 | 66 => 114 | 67 => 115 | n => n, fun | 0 => 0 | 1 => 1 | 2 => 2 | 3 => 6 | 4 => 7 | n => n⟩
theorem Tryd.laysPu14 : Go.Proofs.LaysPu.n14 Tryd.prog Tryd.laysPu14_ren := {
  mixed := by kernel_rfl
  f14 := Tryd.func29.trans (congrArg some (by kernel_rfl))
  f16 := Tryd.func36.trans (congrArg some (by kernel_rfl))
  f17 := Tryd.func37.trans (congrArg some (by kernel_rfl))
  f19 := Tryd.func43.trans (congrArg some (by kernel_rfl))
  f20 := Tryd.func44.trans (congrArg some (by kernel_rfl))
  f21 := Tryd.func45.trans (congrArg some (by kernel_rfl))
  f22 := Tryd.func46.trans (congrArg some (by kernel_rfl))
  f23 := Tryd.func47.trans (congrArg some (by kernel_rfl))
  f24 := Tryd.func48.trans (congrArg some (by kernel_rfl))
  f25 := Tryd.func57.trans (congrArg some (by kernel_rfl))
  f26 := Tryd.func58.trans (congrArg some (by kernel_rfl))
  f27 := Tryd.func59.trans (congrArg some (by kernel_rfl))
  f28 := Tryd.func70.trans (congrArg some (by kernel_rfl))
  f29 := Tryd.func75.trans (congrArg some (by kernel_rfl))
  f30 := Tryd.func49.trans (congrArg some (by kernel_rfl))
  f31 := Tryd.func50.trans (congrArg some (by kernel_rfl))
  f32 := Tryd.func51.trans (congrArg some (by kernel_rfl))
  f33 := Tryd.func52.trans (congrArg some (by kernel_rfl))
  f34 := Tryd.func60.trans (congrArg some (by kernel_rfl))
  f35 := Tryd.func61.trans (congrArg some (by kernel_rfl))
  f36 := Tryd.func62.trans (congrArg some (by kernel_rfl))
  f37 := Tryd.func63.trans (congrArg some (by kernel_rfl))
  f38 := Tryd.func64.trans (congrArg some (by kernel_rfl))
  f39 := Tryd.func71.trans (congrArg some (by kernel_rfl))
  f40 := Tryd.func72.trans (congrArg some (by kernel_rfl))
  t0 := Tryd.underlying0
  a0 := Tryd.isAgg0
  z0 := Tryd.sizeOf0
  v0 := Tryd.zeroValue0
  i0 := by kernel_rfl
  t2 := Tryd.underlying2
  a2 := Tryd.isAgg2
  z2 := Tryd.sizeOf2
  v2 := Tryd.zeroValue2
  i2 := by kernel_rfl
  t3 := Tryd.underlying3
  a3 := Tryd.isAgg3
  z3 := Tryd.sizeOf3
  v3 := Tryd.zeroValue3
  i3 := by kernel_rfl
  t4 := Tryd.underlying4
  a4 := Tryd.isAgg4
  z4 := Tryd.sizeOf4
  v4 := Tryd.zeroValue4
  i4 := by kernel_rfl
  t5 := Tryd.underlying5
  a5 := Tryd.isAgg5
  z5 := Tryd.sizeOf5
  v5 := Tryd.zeroValue5
  i5 := by kernel_rfl
  t9 := Tryd.underlying9
  a9 := Tryd.isAgg9
  z9 := Tryd.sizeOf9
  v9 := Tryd.zeroValue9
  i9 := by kernel_rfl
  t20 := Tryd.underlying20
  a20 := Tryd.isAgg20
  z20 := Tryd.sizeOf20
  v20 := Tryd.zeroValue20
  i20 := by kernel_rfl
  t21 := Tryd.underlying21
  a21 := Tryd.isAgg21
  z21 := Tryd.sizeOf21
  v21 := Tryd.zeroValue21
  i21 := by kernel_rfl
  t22 := Tryd.underlying59
  a22 := Tryd.isAgg59
  z22 := Tryd.sizeOf59
  v22 := Tryd.zeroValue59
  i22 := by kernel_rfl
  t24 := Tryd.underlying61
  a24 := Tryd.isAgg61
  z24 := Tryd.sizeOf61
  v24 := Tryd.zeroValue61
  i24 := by kernel_rfl
  t25 := Tryd.underlying62
  a25 := Tryd.isAgg62
  z25 := Tryd.sizeOf62
  v25 := Tryd.zeroValue62
  i25 := by kernel_rfl
  t34 := Tryd.underlying75
  a34 := Tryd.isAgg75
  z34 := Tryd.sizeOf75
  v34 := Tryd.zeroValue75
  i34 := by kernel_rfl
  c34 := by kernel_rfl
  t36 := Tryd.underlying52
  a36 := Tryd.isAgg52
  z36 := Tryd.sizeOf52
  v36 := Tryd.zeroValue52
  i36 := by kernel_rfl
  t37 := Tryd.underlying23
  a37 := Tryd.isAgg23
  z37 := Tryd.sizeOf23
  v37 := Tryd.zeroValue23
  i37 := by kernel_rfl
  t39 := Tryd.underlying78
  a39 := Tryd.isAgg78
  z39 := Tryd.sizeOf78
  v39 := Tryd.zeroValue78
  i39 := by kernel_rfl
  t44 := Tryd.underlying93
  a44 := Tryd.isAgg93
  z44 := Tryd.sizeOf93
  v44 := Tryd.zeroValue93
  i44 := by kernel_rfl
  t47 := Tryd.underlying101
  a47 := Tryd.isAgg101
  z47 := Tryd.sizeOf101
  v47 := Tryd.zeroValue101
  i47 := by kernel_rfl
  t48 := Tryd.underlying102
  a48 := Tryd.isAgg102
  z48 := Tryd.sizeOf102
  v48 := Tryd.zeroValue102
  i48 := by kernel_rfl
  t50 := Tryd.underlying104
  a50 := Tryd.isAgg104
  z50 := Tryd.sizeOf104
  v50 := Tryd.zeroValue104
  i50 := by kernel_rfl
  t52 := Tryd.underlying82
  a52 := Tryd.isAgg82
  z52 := Tryd.sizeOf82
  v52 := Tryd.zeroValue82
  i52 := by kernel_rfl
  t55 := Tryd.underlying85
  a55 := Tryd.isAgg85
  z55 := Tryd.sizeOf85
  v55 := Tryd.zeroValue85
  i55 := by kernel_rfl
  t59 := Tryd.underlying97
  a59 := Tryd.isAgg97
  z59 := Tryd.sizeOf97
  v59 := Tryd.zeroValue97
  i59 := by kernel_rfl
  t60 := Tryd.underlying51
  a60 := Tryd.isAgg51
  z60 := Tryd.sizeOf51
  v60 := Tryd.zeroValue51
  i60 := by kernel_rfl
  t61 := Tryd.underlying98
  a61 := Tryd.isAgg98
  z61 := Tryd.sizeOf98
  t65 := Tryd.underlying113
  a65 := Tryd.isAgg113
  z65 := Tryd.sizeOf113
  v65 := Tryd.zeroValue113
  i65 := by kernel_rfl
  t66 := Tryd.underlying114
  a66 := Tryd.isAgg114
  z66 := Tryd.sizeOf114
  v66 := Tryd.zeroValue114
  i66 := by kernel_rfl
  t67 := Tryd.underlying115
  a67 := Tryd.isAgg115
  z67 := Tryd.sizeOf115
  v67 := Tryd.zeroValue115
  i67 := by kernel_rfl
  g0 := by kernel_rfl
  m0 := by kernel_rfl
  g1 := by kernel_rfl
  m1 := by kernel_rfl
  g2 := by kernel_rfl
  m2 := by kernel_rfl
  g3 := by kernel_rfl
  m3 := by kernel_rfl
  g4 := by kernel_rfl
  m4 := by kernel_rfl }
open Go.RowKit in
theorem Tryd.strconv_ParseUint_10_at32_ok (s : ByteArray) (hmax : s.size ≤ 9223372036854775806) (u : Nat) (h : Lib.parseUintB 32 s.data.toList = .ok u) (w : World) :
    Calls Tryd.prog 29 #[.string s, .int .i64 10, .int .i64 32] w fun e w' => e = .returned (.tuple #[.int .u64 u, .nilIface]) ∧ (w' = w ∨ w' = Lib.bytesWorld w 5 s) := Any.strconv_ParseUint_10_at32_ok Tryd.laysPu14 s hmax u h w
open Go.RowKit in
theorem Tryd.strconv_ParseUint_10_at32_syntax_var (s : ByteArray) (hlim : s.size ≤ 281474976710656) (h : Lib.parseUintB 32 s.data.toList = Lib.parseUintB 32 []) (tp : TypeId) (p : Value) (w : World) (hvar : w.var? Tryd.prog "strconv.ErrSyntax" = some #[.iface tp p]) :
    Calls Tryd.prog 29 #[.string s, .int .i64 10, .int .i64 32] w fun e w' => ∃ N, e = .returned (.tuple #[.int .u64 0, .iface 78 (.pointer (some ⟨N, 0, none⟩))]) ∧ w.heap.size ≤ N ∧ w'.heap[N]? = some (.cells #[.string ⟨#[80, 97, 114, 115, 101, 85, 105, 110, 116]⟩, .string s, .iface tp p] 93 (0, 0)) ∧ Below w.heap.size w w' := Any.strconv_ParseUint_10_at32_syntax_var Tryd.laysPu14 s hlim h tp p w hvar
open Go.RowKit in
theorem Tryd.strconv_ParseUint_10_at32_range_var (s : ByteArray) (hlim : s.size ≤ 281474976710656) (h : Lib.parseUintB 32 s.data.toList = .range) (tp : TypeId) (p : Value) (w : World) (hvar : w.var? Tryd.prog "strconv.ErrRange" = some #[.iface tp p]) :
    Calls Tryd.prog 29 #[.string s, .int .i64 10, .int .i64 32] w fun e w' => ∃ N, e = .returned (.tuple #[.int .u64 4294967295, .iface 78 (.pointer (some ⟨N, 0, none⟩))]) ∧ w.heap.size ≤ N ∧ w'.heap[N]? = some (.cells #[.string ⟨#[80, 97, 114, 115, 101, 85, 105, 110, 116]⟩, .string s, .iface tp p] 93 (0, 0)) ∧ Below w.heap.size w w' := Any.strconv_ParseUint_10_at32_range_var Tryd.laysPu14 s hlim h tp p w hvar
def Tryd.lays143_ren : Go.Shelf.Ren := ⟨fun | 143 => 42 | 219 => 56 | 217 => 66 | 225 => 67 | 224 => 68 | 267 => 69 | 266 => 73 | 314 => 74 | n => n, fun | 9 => 9 | 3 => 3 | 4 => 4 | 5 => 5 | 46 => 52 | 146 => 110 | 51 => 51 | n => n, fun | 1 => 3 | n => n⟩
theorem Tryd.lays143 : Go.Proofs.Lays.n143 Tryd.prog Tryd.lays143_ren := {
  mixed := by kernel_rfl
  f143 := Tryd.func42.trans (congrArg some (by kernel_rfl))
  f217 := Tryd.func66.trans (congrArg some (by kernel_rfl))
  f219 := Tryd.func56.trans (congrArg some (by kernel_rfl))
  f224 := Tryd.func68.trans (congrArg some (by kernel_rfl))
  f225 := Tryd.func67.trans (congrArg some (by kernel_rfl))
  f266 := Tryd.func73.trans (congrArg some (by kernel_rfl))
  f267 := Tryd.func69.trans (congrArg some (by kernel_rfl))
  f314 := Tryd.func74.trans (congrArg some (by kernel_rfl))
  t3 := Tryd.underlying3
  a3 := Tryd.isAgg3
  z3 := Tryd.sizeOf3
  v3 := Tryd.zeroValue3
  t4 := Tryd.underlying4
  a4 := Tryd.isAgg4
  z4 := Tryd.sizeOf4
  v4 := Tryd.zeroValue4
  t5 := Tryd.underlying5
  a5 := Tryd.isAgg5
  z5 := Tryd.sizeOf5
  v5 := Tryd.zeroValue5
  t9 := Tryd.underlying9
  a9 := Tryd.isAgg9
  z9 := Tryd.sizeOf9
  v9 := Tryd.zeroValue9
  t46 := Tryd.underlying52
  a46 := Tryd.isAgg52
  z46 := Tryd.sizeOf52
  v46 := Tryd.zeroValue52
  t51 := Tryd.underlying51
  a51 := Tryd.isAgg51
  z51 := Tryd.sizeOf51
  v51 := Tryd.zeroValue51
  t146 := Tryd.underlying110
  a146 := Tryd.isAgg110
  z146 := Tryd.sizeOf110
  v146 := Tryd.zeroValue110
  g1 := by kernel_rfl }
open Go.RowKit Go.Lib in
theorem Tryd.strings_Index_one (s : ByteArray) (c : UInt8) (w : World) :
    Calls Tryd.prog 42 #[.string s, .string ⟨#[c]⟩] w fun e w' => e = .returned (.int .i64 (Lib.indexByte s.data.toList c)) ∧ w' = w := Any.strings_Index_one Tryd.lays143 s c w
def Tryd.lays138_ren : Go.Shelf.Ren := ⟨fun | 138 => 41 | 195 => 53 | 218 => 55 | 143 => 42 | 219 => 56 | 217 => 66 | 225 => 67 | 224 => 68 | 267 => 69 | 266 => 73 | 314 => 74 | n => n, fun | 9 => 9 | 3 => 3 | 4 => 4 | 5 => 5 | 0 => 0 | 46 => 52 | 146 => 110 | 51 => 51 | n => n, fun | 1 => 3 | n => n⟩
theorem Tryd.lays138 : Go.Proofs.Lays.n138 Tryd.prog Tryd.lays138_ren := {
  mixed := by kernel_rfl
  f138 := Tryd.func41.trans (congrArg some (by kernel_rfl))
  f143 := Tryd.func42.trans (congrArg some (by kernel_rfl))
  f195 := Tryd.func53.trans (congrArg some (by kernel_rfl))
  f217 := Tryd.func66.trans (congrArg some (by kernel_rfl))
  f218 := Tryd.func55.trans (congrArg some (by kernel_rfl))
  f219 := Tryd.func56.trans (congrArg some (by kernel_rfl))
  f224 := Tryd.func68.trans (congrArg some (by kernel_rfl))
  f225 := Tryd.func67.trans (congrArg some (by kernel_rfl))
  f266 := Tryd.func73.trans (congrArg some (by kernel_rfl))
  f267 := Tryd.func69.trans (congrArg some (by kernel_rfl))
  f314 := Tryd.func74.trans (congrArg some (by kernel_rfl))
  t0 := Tryd.underlying0
  a0 := Tryd.isAgg0
  z0 := Tryd.sizeOf0
  v0 := Tryd.zeroValue0
  t3 := Tryd.underlying3
  a3 := Tryd.isAgg3
  z3 := Tryd.sizeOf3
  v3 := Tryd.zeroValue3
  t4 := Tryd.underlying4
  a4 := Tryd.isAgg4
  z4 := Tryd.sizeOf4
  v4 := Tryd.zeroValue4
  t5 := Tryd.underlying5
  a5 := Tryd.isAgg5
  z5 := Tryd.sizeOf5
  v5 := Tryd.zeroValue5
  t9 := Tryd.underlying9
  a9 := Tryd.isAgg9
  z9 := Tryd.sizeOf9
  v9 := Tryd.zeroValue9
  t46 := Tryd.underlying52
  a46 := Tryd.isAgg52
  z46 := Tryd.sizeOf52
  v46 := Tryd.zeroValue52
  t51 := Tryd.underlying51
  a51 := Tryd.isAgg51
  z51 := Tryd.sizeOf51
  v51 := Tryd.zeroValue51
  t146 := Tryd.underlying110
  a146 := Tryd.isAgg110
  z146 := Tryd.sizeOf110
  v146 := Tryd.zeroValue110
  g1 := by kernel_rfl }
open Go.RowKit Go.Lib in
theorem Tryd.strings_Count_one (s : ByteArray) (c : UInt8) (w : World) :
    Calls Tryd.prog 41 #[.string s, .string ⟨#[c]⟩] w fun e w' => e = .returned (.int .i64 (Lib.countByte s.data.toList c)) ∧ w' = w := Any.strings_Count_one Tryd.lays138 s c w
end Go.Proofs

/- Functions of Go's library that package oid calls, as contracts on data. -/
namespace Go.Proofs.YtohabohifjadgaaDoor
open Go.Am Go.RowKit Go.Sort
set_option linter.unusedSimpArgs false
set_option linter.unusedVariables false

theorem two_args {w : World} {pr : Nat → Bool} {vs : Array Value} {x y : Dat} (h1 : vs.size = [x, y].length) (h2 : ∀ (j : Nat) (z : Dat), [x, y][j]? = some z → RepD w pr z (vs.getD j undef)) : ∃ a b, vs = #[a, b] ∧ RepD w pr x a ∧ RepD w pr y b := by
  obtain ⟨l⟩ := vs
  match l, h1 with
  | [a, b], _ => exact ⟨a, b, rfl, by simpa using h2 0 x rfl, by simpa using h2 1 y rfl⟩
theorem three_args {w : World} {pr : Nat → Bool} {vs : Array Value} {x y u : Dat} (h1 : vs.size = [x, y, u].length) (h2 : ∀ (j : Nat) (z : Dat), [x, y, u][j]? = some z → RepD w pr z (vs.getD j undef)) : ∃ a b c, vs = #[a, b, c] ∧ RepD w pr x a ∧ RepD w pr y b ∧ RepD w pr u c := by
  obtain ⟨l⟩ := vs
  match l, h1 with
  | [a, b, c], _ => exact ⟨a, b, c, rfl, by simpa using h2 0 x rfl, by simpa using h2 1 y rfl, by simpa using h2 2 u rfl⟩

theorem isIndex : IsFn Tryd.prog 42 Tryd.f42 := ⟨Tryd.func42, by decide, rfl⟩
theorem isCount : IsFn Tryd.prog 41 Tryd.f41 := ⟨Tryd.func41, by decide, rfl⟩
theorem c_index (Γ : Env) (l : List UInt8) : ACalls Tryd.prog Γ 42 [sD l, sD [46]] (fun r => r = .d (.int .i64 (Lib.indexByte l 46))) := by
  refine ⟨⟨_, isIndex⟩, fun w pr vs hok hs hr => ?_⟩
  obtain ⟨a, b, rfl, h1, h2⟩ := two_args hs hr
  cases h1; cases h2
  refine (Tryd.strings_Index_one (bA l) 46 w).mono fun e w' ⟨he, hw⟩ => ?_
  subst hw
  exact ⟨_, .d (.int .i64 (Lib.indexByte l 46)), by rw [he, bA_list], Below.refl _ _, .int _ _, rfl⟩
theorem c_count (Γ : Env) (l : List UInt8) : ACalls Tryd.prog Γ 41 [sD l, sD [46]] (fun r => r = .d (.int .i64 (Lib.countByte l 46))) := by
  refine ⟨⟨_, isCount⟩, fun w pr vs hok hs hr => ?_⟩
  obtain ⟨a, b, rfl, h1, h2⟩ := two_args hs hr
  cases h1; cases h2
  refine (Tryd.strings_Count_one (bA l) 46 w).mono fun e w' ⟨he, hw⟩ => ?_
  subst hw
  exact ⟨_, .d (.int .i64 (Lib.countByte l 46)), by rw [he, bA_list], Below.refl _ _, .int _ _, rfl⟩

/-! ### ParseUint -/
def parR (l : List UInt8) (r : Res) : Prop := match Lib.parseUintB 32 l with
  | .ok u => r = .d (.tup [.int .u64 u, .nilIf])
  | .range => r = .d (.tup [.int .u64 4294967295, .someIf])
  | _ => r = .d (.tup [.int .u64 0, .someIf])
theorem tup2 {w : World} {pr : Nat → Bool} {x y : Dat} {a b : Value} (h1 : RepD w pr x a) (h2 : RepD w pr y b) : RepD w pr (.tup [x, y]) (.tuple #[a, b]) := by
  refine .tup _ _ rfl fun j z hj => ?_
  match j, hj with
  | 0, hj => simp at hj; subst hj; simpa using h1
  | 1, hj => simp at hj; subst hj; simpa using h2
theorem isParseUint : IsFn Tryd.prog 29 Tryd.f29 := ⟨Tryd.func29, by decide, rfl⟩
theorem c_parse (l : List UInt8) (hl : l.length ≤ 1099511627776) : ACalls Tryd.prog envL 29 [sD l, .int .i64 10, .int .i64 32] (parR l) := by
  refine ⟨⟨_, isParseUint⟩, fun w pr vs hok hs hr => ?_⟩
  obtain ⟨a, b, c, rfl, h1, h2, h3⟩ := three_args hs hr
  cases h1; cases h2; cases h3
  have hok' : LaidOk w := hok
  obtain ⟨_, _, ⟨t1, p1, v1⟩, t2, p2, v2⟩ := hok'
  have hsz := bA_size l
  have hli := bA_list l
  cases hp : Lib.parseUintB 32 l with
  | ok u =>
    refine (Tryd.strconv_ParseUint_10_at32_ok (bA l) (by omega) u (by rw [hli]; exact hp) w).mono fun e w' ⟨he, hw⟩ => ?_
    refine ⟨_, .d (.tup [.int .u64 u, .nilIf]), he, ?_, tup2 (.int _ _) .nilIf, by simp only [parR, hp]⟩
    rcases hw with rfl | rfl
    · exact Below.refl _ _
    · exact Lib.bytesWorld_below _ _ _
  | range =>
    refine (Tryd.strconv_ParseUint_10_at32_range_var (bA l) (by omega) (by rw [hli]; exact hp) t2 p2 w v2).mono fun e w' ⟨N, he, _, _, hb⟩ => ?_
    exact ⟨_, .d (.tup [.int .u64 4294967295, .someIf]), he, hb, tup2 (.int _ _) (.someIf _ _), by simp only [parR, hp]⟩
  | _ =>
    refine (Tryd.strconv_ParseUint_10_at32_syntax_var (bA l) (by omega) (by rw [hli]; exact hp) t1 p1 w v1).mono fun e w' ⟨N, he, _, _, hb⟩ => ?_
    exact ⟨_, .d (.tup [.int .u64 0, .someIf]), he, hb, tup2 (.int _ _) (.someIf _ _), by simp only [parR, hp]⟩

def joinL (l : List (List UInt8)) : List UInt8 := Lib.join l [46]
end Go.Proofs.YtohabohifjadgaaDoor

/- FormatUint at base 10, walked in the kit's own way; after the shelf's FormatInt. -/
namespace Go.Proofs.YtohabohifjadgaaDoor
open Go.Am Go.RowKit Go.Sort
set_option linter.unusedSimpArgs false
set_option linter.unusedVariables false

set_option maxHeartbeats 1600000 in
set_option maxRecDepth 100000 in
theorem fmt_small (i : Nat) (hi : i < 100) (w : World) : Calls Tryd.prog 38 #[.int .u64 i, .int .i64 10] w fun e w' => e = .returned (.string ⟨(Lib.decDigits i).toArray⟩) ∧ w' = w := by
  have hi2 : (i : Int) < 100 := by omega
  go_enter Tryd.func38, Tryd.ntmps38
  go_wp2_with (go_at_call 49; refine (Tryd.internal_strconv_small i hi _).mono ?_; rintro e w' ⟨rfl, rfl⟩)
  go_ret
  exact ⟨rfl, rfl⟩

set_option maxHeartbeats 6400000 in
set_option maxRecDepth 100000 in
theorem fmt_big (u : Nat) (hu : 100 ≤ u) (hu64 : u < 18446744073709551616) (w : World) (htab : Lib.TabIs Tryd.prog w "internal/strconv.uint64pow10" .u64 Lib.pow10Tab) :
    Calls Tryd.prog 38 #[.int .u64 u, .int .i64 10] w fun e w' => e = .returned (.string ⟨(Lib.decDigits u).toArray⟩) ∧ ∃ k os, w' = grow (w.drewN k) os := by
  have hu1 : 1 ≤ u := by omega
  have hnd20 : Lib.nDigits u ≤ 20 := by have := Lib.numDigits_eq u hu1 hu64; split at this <;> omega
  have hal : Tryd.prog.arrayLen 82 = 24 := by simp [Program.arrayLen, Tryd.underlying82]
  have hsl1 : ∀ W, (Instr.sliceAt 82 (.pointer (some ⟨w.heap.size, 0, none⟩)) none (some (.int .i64 (Lib.nDigits u : Int))) none).run Tryd.prog W = .ok (.slice (some ⟨w.heap.size, 0, none⟩) (Lib.nDigits u) 24) W := fun W => by
    rw [run_sliceAt_array_h W 82 ⟨w.heap.size, 0, none⟩ (by simp [Program.arrayLen, Program.elem, Tryd.underlying82]) .i64 (Lib.nDigits u : Int) (by omega) (by rw [hal]; omega)]
    go_simp
  have hH0 : Holds (fun (b : UInt8) => Value.int .u8 (b.toNat : Int)) (w.alloc (.cells Lib.zeros24 82)) w.heap.size 0 (Array.replicate (Lib.nDigits u) 0) := fun j hj => by
    have hj' : j < Lib.nDigits u := by simpa using hj
    refine ⟨?_, World.frozen?_alloc_new _ _ _ _⟩
    rw [World.cell?_alloc_new, Lib.zeros24_at _ (by omega), getElem!_pos _ j hj]
    simp
  have hfmt := Tryd.internal_strconv_formatBase10 w.heap.size 0 24 u (Array.replicate (Lib.nDigits u) 0) (w.alloc (.cells Lib.zeros24 82)) hH0 (by rw [Array.size_replicate]; exact Lib.lt_pow_nDigits u) hu64 (by rw [Array.size_replicate]; omega)
  rw [Array.size_replicate] at hfmt
  have HH0 := Lib.hid hH0
  clear hH0 hal
  have hb3 : ¬ (u : Int) < 100 := by omega
  go_enter Tryd.func38, Tryd.ntmps38
  go_wp2_with (first
    | (go_at_call 50; refine (Tryd.internal_strconv_numDigits u hu1 hu64 _ (Lib.tabIs_alloc htab _)).mono ?_; rintro e w' ⟨rfl, rfl⟩))
  go_at_call 51
  refine hfmt.mono ?_
  rintro e w' ⟨rfl, k, v', dk, rfl, hF⟩
  have hcv : (convert 23 9 (.slice (some ⟨w.heap.size, 0, none⟩) (Lib.nDigits u) 24)).run Tryd.prog ((putRow (fun (b : UInt8) => Value.int .u8 (b.toNat : Int)) (w.alloc (.cells Lib.zeros24 82)) w.heap.size 0 dk).drewN k) = .ok (.string ⟨(Lib.decDigits u).toArray⟩) ((putRow (fun (b : UInt8) => Value.int .u8 (b.toNat : Int)) (w.alloc (.cells Lib.zeros24 82)) w.heap.size 0 dk).drewN k) := by
    have h := run_convert_bytes_back (P := Tryd.prog) ((putRow (fun (b : UInt8) => Value.int .u8 (b.toNat : Int)) (w.alloc (.cells Lib.zeros24 82)) w.heap.size 0 dk).drewN k) 23 9 5 ⟨w.heap.size, 0, none⟩ 24 (Lib.decDigits u) Tryd.underlying23 Tryd.underlying5 Tryd.underlying9 (fun j hj => by
      rw [Lib.row_is_numeral hF j hj, Lib.add_plain, World.cell?_drewN]
      exact cell?_putRow (fun (b : UInt8) => Value.int .u8 (b.toNat : Int)) _ w.heap.size 0 _ dk HH0.out (by rw [hF.size, Array.size_replicate]) j (by rw [hF.size]; rw [Lib.decDigits_length] at hj; exact hj))
    rw [Lib.decDigits_length] at h
    exact h
  go_wp2
  go_ret
  refine ⟨rfl, k, ?_⟩
  rw [alloc_eq_grow]
  obtain ⟨os', _, e⟩ := putRow_grow_new (fun (b : UInt8) => Value.int .u8 (b.toNat : Int)) w #[.cells Lib.zeros24 82] w.heap.size 0 dk (Nat.le_refl _)
  exact ⟨os', by rw [e]; rfl⟩
theorem isFormatUintI : IsFn Tryd.prog 38 Tryd.f38 := ⟨Tryd.func38, by decide, rfl⟩
theorem c_formatI (u : Nat) (hu : u < 18446744073709551616) : ACalls Tryd.prog envL 38 [.int .u64 u, .int .i64 10] (fun r => r = .d (sD (Lib.decDigits u))) := by
  refine ⟨⟨_, isFormatUintI⟩, fun w pr vs hok hs hr => ?_⟩
  obtain ⟨a, b, rfl, h1, h2⟩ := two_args hs hr
  cases h1; cases h2
  by_cases h : u < 100
  · refine (fmt_small u h w).mono fun e w' ⟨he, hw⟩ => ?_
    subst hw
    exact ⟨_, .d (sD (Lib.decDigits u)), he, Below.refl _ _, .str _, rfl⟩
  · have hok' : LaidOk w := hok
    refine (fmt_big u (by omega) hu w hok'.2.1).mono fun e w' ⟨he, k, os, hw⟩ => ?_
    subst hw
    exact ⟨_, .d (sD (Lib.decDigits u)), he, Lib.below_grow _ _ (Nat.le_refl _) _ _, .str _, rfl⟩
theorem isFormatUint : IsFn Tryd.prog 30 Tryd.f30 := ⟨Tryd.func30, by decide, rfl⟩
theorem c_format (u : Nat) (hu : u < 18446744073709551616) : ACalls Tryd.prog envL 30 [.int .u64 u, .int .i64 10] (fun r => r = .d (sD (Lib.decDigits u))) := by
  refine acalls_of ty_ok isFormatUint rfl rfl ?_
  repeat' (first | ((with_reducible show AWp _ _ _ _ _); (first | refine awp_seq ?_ | refine awp_block ?_ | refine awp_skip ?_ | refine awp_exit ?_ | refine awp_scope ?_ | refine awp_label ?_ | refine awp_run ty_ok rfl sd ?_ | refine awp_ret ⟨_, _, rfl, rfl, ?_⟩ | refine awp_ret ⟨_, rfl, ?_⟩ | ((refine awp_cond (ty := ty) rfl (fun hc => ?_) (fun hc => ?_)) <;> (try simp only [nms, reduceCtorEq] at hc) <;> (try (exfalso; omega))))) | ((with_reducible show AOps _ _ _ _ _ _); (first | refine aops_nil ?_ | refine aops_go ty_ok rfl rfl sd ?_ | refine aops_gate ty_ok rfl rfl rfl sd ?_ | refine aops_callE (ty := ty) rfl rfl rfl rfl rfl rfl rfl (c_formatI u hu) rfl ?_ | refine aops_litE ty_ok rfl rfl rfl rfl rfl rfl rfl rfl rfl rfl rfl rfl ?_ | refine aops_cutE ty_ok rfl rfl rfl rfl rfl rfl rfl rfl rfl sd rfl ?_ | ((fail_if_success (refine aops_known rfl ?_)); (refine aops_split ty_ok rfl rfl rfl rfl rfl rfl (fun hc => ⟨?_, ?_⟩) (fun hc => ⟨?_, ?_⟩)) <;> (try simp only [nms, reduceCtorEq] at hc) <;> (try (exfalso; omega)) <;> (try exact sd)))) | ((fail_if_success (with_reducible show AWp _ _ _ _ _)); (fail_if_success (with_reducible show AOps _ _ _ _ _ _)); (first | (show AWp _ _ _ _ _) | (show AOps _ _ _ _ _ _))))
  rfl
end Go.Proofs.YtohabohifjadgaaDoor

/- strings.Split at a dot, walked by the abstract machine. -/
namespace Go.Proofs.YtohabohifjadgaaDoor
open Go.Am
set_option linter.unusedSimpArgs false
set_option linter.unusedVariables false

theorem minI_le {a b : Int} (h : a ≤ b) : minI a b = a := by
  unfold minI
  split <;> omega
theorem c_index_at (Γ : Env) (l : List UInt8) (m : Nat) (h : Lib.indexByte l 46 = m) : ACalls Tryd.prog Γ 42 [sD l, sD [46]] (fun r => r = .d (.int .i64 m)) := (c_index Γ l).mono fun r hr => by rw [hr, h]
theorem isGenSplit : IsFn Tryd.prog 35 Tryd.f35 := ⟨Tryd.func35, by decide, rfl⟩
set_option maxHeartbeats 1000000 in
theorem c_gensplit (Γ : Env) (l : List UInt8) (hl : l.length ≤ 1000000000) : ACalls Tryd.prog Γ 35 [sD l, sD [46], .int .i64 0, .int .i64 (-1)] (fun r => r = .own none 9 (strs (splitL l))) := by
  refine acalls_of ty_ok isGenSplit rfl rfl ?_
  have hlen := splitL_len l
  have hc2 := count_le l
  have hm : minI ((Lib.countByte l 46 : Int) + 1) (((bA l).size : Int) + 1) = (Lib.countByte l 46 : Int) + 1 := minI_le (by rw [bA_size]; omega)
  repeat' (first | ((with_reducible show AWp _ _ _ _ _); (first | refine awp_seq ?_ | refine awp_block ?_ | refine awp_skip ?_ | refine awp_exit ?_ | refine awp_scope ?_ | refine awp_label ?_ | refine awp_run ty_ok rfl sd ?_ | refine awp_ret ⟨_, _, rfl, rfl, ?_⟩ | refine awp_ret ⟨_, rfl, ?_⟩ | ((refine awp_cond (ty := ty) rfl (fun hc => ?_) (fun hc => ?_)) <;> (try simp only [nms, reduceCtorEq] at hc) <;> (try (exfalso; omega))))) | ((with_reducible show AOps _ _ _ _ _ _); (first | refine aops_nil ?_ | refine aops_go ty_ok rfl rfl sd ?_ | refine aops_gate ty_ok rfl rfl rfl sd ?_ | refine aops_callE (ty := ty) rfl rfl rfl rfl rfl rfl rfl (c_count _ l) rfl ?_ | refine aops_litE ty_ok rfl rfl rfl rfl rfl rfl rfl rfl rfl rfl rfl rfl ?_ | refine aops_cutE ty_ok rfl rfl rfl rfl rfl rfl rfl rfl rfl sd rfl ?_ | ((fail_if_success (refine aops_known rfl ?_)); (refine aops_split ty_ok rfl rfl rfl rfl rfl rfl (fun hc => ⟨?_, ?_⟩) (fun hc => ⟨?_, ?_⟩)) <;> (try simp only [nms, reduceCtorEq] at hc) <;> (try (exfalso; omega)) <;> (try exact sd)))) | ((fail_if_success (with_reducible show AWp _ _ _ _ _)); (fail_if_success (with_reducible show AOps _ _ _ _ _ _)); (first | (show AWp _ _ _ _ _) | (show AOps _ _ _ _ _ _))))
  · exact absurd (congrArg ByteArray.size hc) (by decide)
  · rw [hm]
    repeat' (first | ((with_reducible show AWp _ _ _ _ _); (first | refine awp_seq ?_ | refine awp_block ?_ | refine awp_skip ?_ | refine awp_exit ?_ | refine awp_scope ?_ | refine awp_label ?_ | refine awp_run ty_ok rfl sd ?_ | refine awp_ret ⟨_, _, rfl, rfl, ?_⟩ | refine awp_ret ⟨_, rfl, ?_⟩ | ((refine awp_cond (ty := ty) rfl (fun hc => ?_) (fun hc => ?_)) <;> (try simp only [nms, reduceCtorEq] at hc) <;> (try (exfalso; omega))))) | ((with_reducible show AOps _ _ _ _ _ _); (first | refine aops_nil ?_ | refine aops_go ty_ok rfl rfl sd ?_ | refine aops_gate ty_ok rfl rfl rfl sd ?_ | refine aops_callE (ty := ty) rfl rfl rfl rfl rfl rfl rfl (c_count _ l) rfl ?_ | refine aops_litE ty_ok rfl rfl rfl rfl rfl rfl rfl rfl rfl rfl rfl rfl ?_ | refine aops_cutE ty_ok rfl rfl rfl rfl rfl rfl rfl rfl rfl sd rfl ?_ | ((fail_if_success (refine aops_known rfl ?_)); (refine aops_split ty_ok rfl rfl rfl rfl rfl rfl (fun hc => ⟨?_, ?_⟩) (fun hc => ⟨?_, ?_⟩)) <;> (try simp only [nms, reduceCtorEq] at hc) <;> (try (exfalso; omega)) <;> (try exact sd)))) | ((fail_if_success (with_reducible show AWp _ _ _ _ _)); (fail_if_success (with_reducible show AOps _ _ _ _ _ _)); (first | (show AWp _ _ _ _ _) | (show AOps _ _ _ _ _ _))))
    obtain ⟨N, hN⟩ : ∃ N, N = Lib.countByte l 46 := ⟨_, rfl⟩
    rw [← hN] at hlen hc2
    refine awp_loopR (G := { p : Nat × List UInt8 // p.1 ≤ N ∧ splitL p.2 = (splitL l).drop p.1 ∧ p.2.length ≤ l.length }) (fun p => ⟨Tryd.f35.ntmps, [(0, .d (sD p.1.2)), (1, .d (sD [46])), (2, .d (.int .i64 0)), (3, .d (.int .i64 N)), (9, .ref 0), (10, .d (.int .i64 p.1.1))], [(0, .row none 9 (strs ((splitL l).take p.1.1 ++ List.replicate (N + 1 - p.1.1) [])))], 1⟩) (fun p => N - p.1.1) ⟨(0, l), Nat.zero_le _, rfl, Nat.le_refl _⟩ [(0, 0)]
      (SubR.mk' rfl rfl ⟨⟨_, rfl, rfl⟩, ⟨_, rfl, rfl⟩, ⟨_, rfl, rfl⟩, ⟨_, rfl, congrArg (fun z : Int => AV.d (Dat.int IntKind.i64 z)) (by rw [hN]; omega)⟩, ⟨_, rfl, rfl⟩, ⟨_, rfl, rfl⟩, trivial⟩ ⟨⟨_, _, rfl, rfl, congrArg (AO.row none 9) (by
        rw [← hN]
        simp only [strs, List.take_zero, List.nil_append, List.map_replicate]
        rfl)⟩, trivial⟩) ?_
    rintro ⟨⟨i, s⟩, hi, hsp, hsl⟩
    simp only at hi hsp hsl
    have hsc := splitL_len s
    rw [hsp, List.length_drop] at hsc
    rcases Nat.lt_or_ge i N with hiN | hiN
    · rcases index_spec s with ⟨_, h2, _⟩ | ⟨m, h1, h2, h3, h4⟩
      · omega
      have hidx := c_index_at (Γ.at 0) s m h1
      have hrl : (strs ((splitL l).take i ++ List.replicate (N + 1 - i) [])).length = N + 1 := by
        simp [strs]
        omega
      repeat' (first | ((with_reducible show AWp _ _ _ _ _); (first | refine awp_seq ?_ | refine awp_block ?_ | refine awp_skip ?_ | refine awp_exit ?_ | refine awp_scope ?_ | refine awp_label ?_ | refine awp_run ty_ok rfl sd ?_ | refine awp_ret ⟨_, _, rfl, rfl, ?_⟩ | refine awp_ret ⟨_, rfl, ?_⟩ | ((refine awp_cond (ty := ty) rfl (fun hc => ?_) (fun hc => ?_)) <;> (try simp only [nms, reduceCtorEq] at hc) <;> (try (exfalso; omega))))) | ((with_reducible show AOps _ _ _ _ _ _); (first | refine aops_nil ?_ | refine aops_go ty_ok rfl rfl sd ?_ | refine aops_gate ty_ok rfl rfl rfl sd ?_ | refine aops_callE (ty := ty) rfl rfl rfl rfl rfl rfl rfl (hidx) rfl ?_ | refine aops_litE ty_ok rfl rfl rfl rfl rfl rfl rfl rfl rfl rfl rfl rfl ?_ | refine aops_cutE ty_ok rfl rfl rfl rfl rfl rfl rfl rfl rfl sd rfl ?_ | ((fail_if_success (refine aops_known rfl ?_)); (refine aops_split ty_ok rfl rfl rfl rfl rfl rfl (fun hc => ⟨?_, ?_⟩) (fun hc => ⟨?_, ?_⟩)) <;> (try simp only [nms, reduceCtorEq] at hc) <;> (try (exfalso; omega)) <;> (try exact sd)))) | ((fail_if_success (with_reducible show AWp _ _ _ _ _)); (fail_if_success (with_reducible show AOps _ _ _ _ _ _)); (first | (show AWp _ _ _ _ _) | (show AOps _ _ _ _ _ _))))
      have hd1 := splitL_len (s.drop (m + 1))
      have hnext : splitL (s.drop (m + 1)) = (splitL l).drop (i + 1) := by
        rw [← List.drop_drop (l := splitL l), ← hsp, h4, List.drop_one, List.tail_cons]
      have hget : (splitL l)[i]'(by omega) = s.take m := by
        have : (splitL s)[0]? = (splitL l)[i]? := by rw [hsp, List.getElem?_drop, Nat.add_zero]
        rw [h4] at this
        simp at this
        rw [List.getElem?_eq_getElem (by omega)] at this
        exact (Option.some.inj this).symm
      refine ⟨⟨(i + 1, s.drop (m + 1)), by omega, hnext, by simp; omega⟩, [(0, 0)], SubR.mk' rfl rfl ⟨⟨_, rfl, congrArg AV.d ?_⟩, ⟨_, rfl, rfl⟩, ⟨_, rfl, rfl⟩, ⟨_, rfl, rfl⟩, ⟨_, rfl, rfl⟩, ⟨_, rfl, rfl⟩, trivial⟩ ⟨⟨_, _, rfl, rfl, congrArg (AO.row none 9) ?_⟩, trivial⟩, by simp only; omega⟩
      · show Dat.str ((bA s).extract ((m : Int) + ((bA [46]).size : Nat)).toNat (bA s).size) = sD (s.drop (m + 1))
        rw [bA_ext, bA_size, bA_size]
        have : ((m : Int) + (([46] : List UInt8).length : Nat)).toNat = m + 1 := by simp
        rw [this]
        simp [cutL, sD]
      · show (strs ((splitL l).take i ++ List.replicate (N + 1 - i) [])).set (i : Int).toNat (Dat.str ((bA s).extract 0 ((m : Int) + 0).toNat)) = strs ((splitL l).take (i + 1) ++ List.replicate (N + 1 - (i + 1)) [])
        have e1 : (i : Int).toNat = i := by omega
        have e2 : ((m : Int) + 0).toNat = m := by omega
        rw [bA_ext, e1, e2, List.take_succ_eq_append_getElem (by omega), hget, show N + 1 - i = (N + 1 - (i + 1)) + 1 by omega, List.replicate_succ]
        have hti : ((splitL l).take i).length = i := by simp; omega
        simp only [strs, List.map_append, List.map_cons, List.map_nil, List.append_assoc, List.cons_append, List.nil_append]
        rw [List.set_append_right _ _ (by simp; omega)]
        simp [hti, cutL, sD, show min i (splitL l).length = i by omega]
    · have hie : i = N := by omega
      subst hie
      have hrl : (strs ((splitL l).take i ++ List.replicate (i + 1 - i) [])).length = i + 1 := by
        simp [strs]
        omega
      dsimp only
      repeat' (first | ((with_reducible show AWp _ _ _ _ _); (first | refine awp_seq ?_ | refine awp_block ?_ | refine awp_skip ?_ | refine awp_exit ?_ | refine awp_scope ?_ | refine awp_label ?_ | refine awp_run ty_ok rfl sd ?_ | refine awp_ret ⟨_, _, rfl, rfl, ?_⟩ | refine awp_ret ⟨_, rfl, ?_⟩ | ((refine awp_cond (ty := ty) rfl (fun hc => ?_) (fun hc => ?_)) <;> (try simp only [nms, reduceCtorEq] at hc) <;> (try (exfalso; omega))))) | ((with_reducible show AOps _ _ _ _ _ _); (first | refine aops_nil ?_ | refine aops_go ty_ok rfl rfl sd ?_ | refine aops_gate ty_ok rfl rfl rfl sd ?_ | refine aops_callE (ty := ty) rfl rfl rfl rfl rfl rfl rfl (c_count _ l) rfl ?_ | refine aops_litE ty_ok rfl rfl rfl rfl rfl rfl rfl rfl rfl rfl rfl rfl ?_ | refine aops_cutE ty_ok rfl rfl rfl rfl rfl rfl rfl rfl rfl sd rfl ?_ | ((fail_if_success (refine aops_known rfl ?_)); (refine aops_split ty_ok rfl rfl rfl rfl rfl rfl (fun hc => ⟨?_, ?_⟩) (fun hc => ⟨?_, ?_⟩)) <;> (try simp only [nms, reduceCtorEq] at hc) <;> (try (exfalso; omega)) <;> (try exact sd)))) | ((fail_if_success (with_reducible show AWp _ _ _ _ _)); (fail_if_success (with_reducible show AOps _ _ _ _ _ _)); (first | (show AWp _ _ _ _ _) | (show AOps _ _ _ _ _ _))))
      have hrow : (strs ((splitL l).take i ++ List.replicate (i + 1 - i) [])).set (i : Int).toNat (sD s) = strs (splitL l) := by
        have e1 : (i : Int).toNat = i := by omega
        have hs1 : [s] = (splitL l).drop i := by
          have hc0 : Lib.countByte s 46 = 0 := by omega
          rcases index_spec s with ⟨_, _, h3⟩ | ⟨m, _, _, h3, _⟩
          · rw [← hsp, h3]
          · omega
        have hti : ((splitL l).take i).length = i := by simp; omega
        rw [e1, show i + 1 - i = 1 by omega]
        conv => rhs; rw [← List.take_append_drop i (splitL l), ← hs1]
        simp only [strs, List.map_append, List.map_cons, List.map_nil, List.replicate_one]
        rw [List.set_append_right _ _ (by simp; omega)]
        simp [show min i (splitL l).length = i by omega]
      rw [hrow]
      repeat' (first | ((with_reducible show AWp _ _ _ _ _); (first | refine awp_seq ?_ | refine awp_block ?_ | refine awp_skip ?_ | refine awp_exit ?_ | refine awp_scope ?_ | refine awp_label ?_ | refine awp_run ty_ok rfl sd ?_ | refine awp_ret ⟨_, _, rfl, rfl, ?_⟩ | refine awp_ret ⟨_, rfl, ?_⟩ | ((refine awp_cond (ty := ty) rfl (fun hc => ?_) (fun hc => ?_)) <;> (try simp only [nms, reduceCtorEq] at hc) <;> (try (exfalso; omega))))) | ((with_reducible show AOps _ _ _ _ _ _); (first | refine aops_nil ?_ | refine aops_go ty_ok rfl rfl sd ?_ | refine aops_gate ty_ok rfl rfl rfl sd ?_ | refine aops_callE (ty := ty) rfl rfl rfl rfl rfl rfl rfl (c_count _ l) rfl ?_ | refine aops_litE ty_ok rfl rfl rfl rfl rfl rfl rfl rfl rfl rfl rfl rfl ?_ | refine aops_cutE ty_ok rfl rfl rfl rfl rfl rfl rfl rfl rfl sd rfl ?_ | ((fail_if_success (refine aops_known rfl ?_)); (refine aops_split ty_ok rfl rfl rfl rfl rfl rfl (fun hc => ⟨?_, ?_⟩) (fun hc => ⟨?_, ?_⟩)) <;> (try simp only [nms, reduceCtorEq] at hc) <;> (try (exfalso; omega)) <;> (try exact sd)))) | ((fail_if_success (with_reducible show AWp _ _ _ _ _)); (fail_if_success (with_reducible show AOps _ _ _ _ _ _)); (first | (show AWp _ _ _ _ _) | (show AOps _ _ _ _ _ _))))
      have : ((i : Int) + 1).toNat = (strs (splitL l)).length := by simp [strs]; omega
      rw [this, List.take_length]
theorem isSplit : IsFn Tryd.prog 28 Tryd.f28 := ⟨Tryd.func28, by decide, rfl⟩
theorem c_split (Γ : Env) (l : List UInt8) (hl : l.length ≤ 1000000000) : ACalls Tryd.prog Γ 28 [sD l, sD [46]] (fun r => r = .own none 9 (strs (splitL l))) := by
  refine acalls_of ty_ok isSplit rfl rfl ?_
  repeat' (first | ((with_reducible show AWp _ _ _ _ _); (first | refine awp_seq ?_ | refine awp_block ?_ | refine awp_skip ?_ | refine awp_exit ?_ | refine awp_scope ?_ | refine awp_label ?_ | refine awp_run ty_ok rfl sd ?_ | refine awp_ret ⟨_, _, rfl, rfl, ?_⟩ | refine awp_ret ⟨_, rfl, ?_⟩ | ((refine awp_cond (ty := ty) rfl (fun hc => ?_) (fun hc => ?_)) <;> (try simp only [nms, reduceCtorEq] at hc) <;> (try (exfalso; omega))))) | ((with_reducible show AOps _ _ _ _ _ _); (first | refine aops_nil ?_ | refine aops_go ty_ok rfl rfl sd ?_ | refine aops_gate ty_ok rfl rfl rfl sd ?_ | refine aops_callE (ty := ty) rfl rfl rfl rfl rfl rfl rfl (c_gensplit _ l hl) rfl ?_ | refine aops_litE ty_ok rfl rfl rfl rfl rfl rfl rfl rfl rfl rfl rfl rfl ?_ | refine aops_cutE ty_ok rfl rfl rfl rfl rfl rfl rfl rfl rfl sd rfl ?_ | ((fail_if_success (refine aops_known rfl ?_)); (refine aops_split ty_ok rfl rfl rfl rfl rfl rfl (fun hc => ⟨?_, ?_⟩) (fun hc => ⟨?_, ?_⟩)) <;> (try simp only [nms, reduceCtorEq] at hc) <;> (try (exfalso; omega)) <;> (try exact sd)))) | ((fail_if_success (with_reducible show AWp _ _ _ _ _)); (fail_if_success (with_reducible show AOps _ _ _ _ _ _)); (first | (show AWp _ _ _ _ _) | (show AOps _ _ _ _ _ _))))
  all_goals rfl
end Go.Proofs.YtohabohifjadgaaDoor

/- Functions of package oid and of its reference: right, digits, number. Walked by the abstract machine. -/
namespace Go.Proofs.YtohabohifjadgaaDoor
open Go.Am
open Go.Lib (decDigits)
set_option linter.unusedSimpArgs false
set_option linter.unusedVariables false

theorem isRight : IsFn Tryd.prog 31 Tryd.f31 := ⟨Tryd.func31, by decide, rfl⟩
theorem c_right (Γ : Env) (a : List Nat) : ACalls Tryd.prog Γ 31 [.sl none (u32s a)] (fun r => r = .d (.bool (rightF a))) := by
  refine acalls_of ty_ok isRight rfl rfl ?_
  match a with
  | [] =>
    repeat' (first | ((with_reducible show AWp _ _ _ _ _); (first | refine awp_seq ?_ | refine awp_block ?_ | refine awp_skip ?_ | refine awp_exit ?_ | refine awp_scope ?_ | refine awp_label ?_ | refine awp_run ty_ok rfl sd ?_ | refine awp_ret ⟨_, _, rfl, rfl, ?_⟩ | refine awp_ret ⟨_, rfl, ?_⟩ | ((refine awp_cond (ty := ty) rfl (fun hc => ?_) (fun hc => ?_)) <;> (try simp only [nms, reduceCtorEq] at hc) <;> (try (exfalso; omega))))) | ((with_reducible show AOps _ _ _ _ _ _); (first | refine aops_nil ?_ | refine aops_go ty_ok rfl rfl sd ?_ | refine aops_gate ty_ok rfl rfl rfl sd ?_ | refine aops_litE ty_ok rfl rfl rfl rfl rfl rfl rfl rfl rfl rfl rfl rfl ?_ | refine aops_cutE ty_ok rfl rfl rfl rfl rfl rfl rfl rfl rfl sd rfl ?_ | ((fail_if_success (refine aops_known rfl ?_)); (refine aops_split ty_ok rfl rfl rfl rfl rfl rfl (fun hc => ⟨?_, ?_⟩) (fun hc => ⟨?_, ?_⟩)) <;> (try simp only [nms, reduceCtorEq] at hc) <;> (try (exfalso; omega)) <;> (try exact sd)))) | ((fail_if_success (with_reducible show AWp _ _ _ _ _)); (fail_if_success (with_reducible show AOps _ _ _ _ _ _)); (first | (show AWp _ _ _ _ _) | (show AOps _ _ _ _ _ _))))
    all_goals first | rfl | (simp_all [u32s, Dat.num, rightF]; done) | (simp_all [u32s, Dat.num, rightF]; omega)
  | [x] =>
    repeat' (first | ((with_reducible show AWp _ _ _ _ _); (first | refine awp_seq ?_ | refine awp_block ?_ | refine awp_skip ?_ | refine awp_exit ?_ | refine awp_scope ?_ | refine awp_label ?_ | refine awp_run ty_ok rfl sd ?_ | refine awp_ret ⟨_, _, rfl, rfl, ?_⟩ | refine awp_ret ⟨_, rfl, ?_⟩ | ((refine awp_cond (ty := ty) rfl (fun hc => ?_) (fun hc => ?_)) <;> (try simp only [nms, reduceCtorEq] at hc) <;> (try (exfalso; omega))))) | ((with_reducible show AOps _ _ _ _ _ _); (first | refine aops_nil ?_ | refine aops_go ty_ok rfl rfl sd ?_ | refine aops_gate ty_ok rfl rfl rfl sd ?_ | refine aops_litE ty_ok rfl rfl rfl rfl rfl rfl rfl rfl rfl rfl rfl rfl ?_ | refine aops_cutE ty_ok rfl rfl rfl rfl rfl rfl rfl rfl rfl sd rfl ?_ | ((fail_if_success (refine aops_known rfl ?_)); (refine aops_split ty_ok rfl rfl rfl rfl rfl rfl (fun hc => ⟨?_, ?_⟩) (fun hc => ⟨?_, ?_⟩)) <;> (try simp only [nms, reduceCtorEq] at hc) <;> (try (exfalso; omega)) <;> (try exact sd)))) | ((fail_if_success (with_reducible show AWp _ _ _ _ _)); (fail_if_success (with_reducible show AOps _ _ _ _ _ _)); (first | (show AWp _ _ _ _ _) | (show AOps _ _ _ _ _ _))))
    all_goals first | rfl | (simp_all [u32s, Dat.num, rightF]; done) | (simp_all [u32s, Dat.num, rightF]; omega)
  | x :: y :: t =>
    have hl : (u32s (x :: y :: t)).length = t.length + 2 := by simp [u32s]
    have hx : ((u32s (x :: y :: t)).getD (Int.toNat 0) default).num = x := rfl
    have hy : ((u32s (x :: y :: t)).getD (Int.toNat 1) default).num = y := rfl
    repeat' (first | ((with_reducible show AWp _ _ _ _ _); (first | refine awp_seq ?_ | refine awp_block ?_ | refine awp_skip ?_ | refine awp_exit ?_ | refine awp_scope ?_ | refine awp_label ?_ | refine awp_run ty_ok rfl sd ?_ | refine awp_ret ⟨_, _, rfl, rfl, ?_⟩ | refine awp_ret ⟨_, rfl, ?_⟩ | ((refine awp_cond (ty := ty) rfl (fun hc => ?_) (fun hc => ?_)) <;> (try simp only [nms, reduceCtorEq] at hc) <;> (try (exfalso; omega))))) | ((with_reducible show AOps _ _ _ _ _ _); (first | refine aops_nil ?_ | refine aops_go ty_ok rfl rfl sd ?_ | refine aops_gate ty_ok rfl rfl rfl sd ?_ | refine aops_litE ty_ok rfl rfl rfl rfl rfl rfl rfl rfl rfl rfl rfl rfl ?_ | refine aops_cutE ty_ok rfl rfl rfl rfl rfl rfl rfl rfl rfl sd rfl ?_ | ((fail_if_success (refine aops_known rfl ?_)); (refine aops_split ty_ok rfl rfl rfl rfl rfl rfl (fun hc => ⟨?_, ?_⟩) (fun hc => ⟨?_, ?_⟩)) <;> (try simp only [nms, reduceCtorEq] at hc) <;> (try (exfalso; omega)) <;> (try exact sd)))) | ((fail_if_success (with_reducible show AWp _ _ _ _ _)); (fail_if_success (with_reducible show AOps _ _ _ _ _ _)); (first | (show AWp _ _ _ _ _) | (show AOps _ _ _ _ _ _))))
    all_goals simp only [hx, hy, Int.not_lt, Int.not_le] at *
    all_goals first | (exfalso; omega) | skip
    all_goals simp only [Res.d.injEq, Dat.bool.injEq, rightF]
    all_goals first | (simp; omega) | (rw [Bool.eq_iff_iff]; simp; omega)

end Go.Proofs.YtohabohifjadgaaDoor

/- digits and number of the reference, walked by the abstract machine. -/
namespace Go.Proofs.YtohabohifjadgaaDoor
open Go.Am
open Go.Lib (decDigits)
set_option linter.unusedSimpArgs false
set_option linter.unusedVariables false

theorem wrap_u64 (n : Nat) (h : n < 18446744073709551616) : IntKind.u64.wrap (n : Int) = n := by rw [IntKind.wrap_u64]; omega
def numV (p : List UInt8) : Int := match valD 0 p with
  | some n => n
  | none => 0
end Go.Proofs.YtohabohifjadgaaDoor

/- Arcs, Valid of package oid and of its reference, walked by the abstract machine. -/
namespace Go.Proofs.YtohabohifjadgaaDoor
open Go.Am
open Go.Lib (decDigits)
set_option linter.unusedSimpArgs false
set_option linter.unusedVariables false

theorem c_parse_ok (l : List UInt8) (hl : l.length ≤ 1000000000) (u : Nat) (h : Lib.parseUintB 32 l = .ok u) : ACalls Tryd.prog envL 29 [sD l, .int .i64 10, .int .i64 32] (fun r => r = .d (.tup [.int .u64 u, .nilIf])) := (c_parse l (by omega)).mono fun r hr => by
  simpa only [parR, h] using hr
theorem c_parse_syn (l : List UInt8) (hl : l.length ≤ 1000000000) (h : Lib.parseUintB 32 l = Lib.parseUintB 32 []) : ACalls Tryd.prog envL 29 [sD l, .int .i64 10, .int .i64 32] (fun r => r = .d (.tup [.int .u64 0, .someIf])) := (c_parse l (by omega)).mono fun r hr => by
  unfold parR at hr
  rw [h] at hr
  exact hr
theorem c_parse_rng (l : List UInt8) (hl : l.length ≤ 1000000000) (h : Lib.parseUintB 32 l = .range) : ACalls Tryd.prog envL 29 [sD l, .int .i64 10, .int .i64 32] (fun r => r = .d (.tup [.int .u64 4294967295, .someIf])) := (c_parse l (by omega)).mono fun r hr => by
  simpa only [parR, h] using hr
def arcsD (l : List UInt8) : Dat := match okF l with
  | some a => .tup [.sl none (u32s a), .int .i64 0]
  | none => .tup [.sl none [], .int .i64 11]
theorem u32s_app (x y : List Nat) : u32s (x ++ y) = u32s x ++ u32s y := by simp [u32s]
theorem wrap_u32 (n : Nat) (h : n ≤ 4294967295) : IntKind.u32.wrap (n : Int) = n := by rw [IntKind.wrap_u32]; omega
theorem okF_none_of {l p : List UInt8} (hm : p ∈ splitL l) (h : arcF p = none) : okF l = none := by
  unfold okF
  rw [mapM_none_of hm h]
theorem isArcs : IsFn Tryd.prog 23 Tryd.f23 := ⟨Tryd.func23, by decide, rfl⟩
set_option maxHeartbeats 1000000 in
theorem c_arcs (l : List UInt8) (hl : l.length ≤ 100000000) : ACalls Tryd.prog envL 23 [sD l] (fun r => r = .d (arcsD l)) := by
  refine acalls_of ty_ok isArcs rfl rfl ?_
  have hlen := splitL_len l
  have hcl := count_le l
  have hpl := splitL_drop l
  repeat' (first | ((with_reducible show AWp _ _ _ _ _); (first | refine awp_seq ?_ | refine awp_block ?_ | refine awp_skip ?_ | refine awp_exit ?_ | refine awp_scope ?_ | refine awp_label ?_ | refine awp_run ty_ok rfl sd ?_ | refine awp_ret ⟨_, _, rfl, rfl, ?_⟩ | refine awp_ret ⟨_, rfl, ?_⟩ | ((refine awp_cond (ty := ty) rfl (fun hc => ?_) (fun hc => ?_)) <;> (try simp only [nms, reduceCtorEq] at hc) <;> (try (exfalso; omega))))) | ((with_reducible show AOps _ _ _ _ _ _); (first | refine aops_nil ?_ | refine aops_go ty_ok rfl rfl sd ?_ | refine aops_gate ty_ok rfl rfl rfl sd ?_ | refine aops_callE (ty := ty) rfl rfl rfl rfl rfl rfl rfl (c_split _ l (by omega)) rfl ?_ | refine aops_litE ty_ok rfl rfl rfl rfl rfl rfl rfl rfl rfl rfl rfl rfl ?_ | refine aops_cutE ty_ok rfl rfl rfl rfl rfl rfl rfl rfl rfl sd rfl ?_ | ((fail_if_success (refine aops_known rfl ?_)); (refine aops_split ty_ok rfl rfl rfl rfl rfl rfl (fun hc => ⟨?_, ?_⟩) (fun hc => ⟨?_, ?_⟩)) <;> (try simp only [nms, reduceCtorEq] at hc) <;> (try (exfalso; omega)) <;> (try exact sd)))) | ((fail_if_success (with_reducible show AWp _ _ _ _ _)); (fail_if_success (with_reducible show AOps _ _ _ _ _ _)); (first | (show AWp _ _ _ _ _) | (show AOps _ _ _ _ _ _))))
  refine awp_nilrow 4 51 rfl ?_
  refine awp_loopR (G := { p : Nat × List Nat // p.1 ≤ (splitL l).length ∧ ((splitL l).take p.1).mapM arcF = some p.2 ∧ p.2.length = p.1 }) (fun p => ⟨Tryd.f23.ntmps, [(4, .ref 1), (10, .ref 0), (11, .d (.int .i64 (splitL l).length)), (12, .d (.int .i64 p.1.1))], [(0, .row none 9 (strs (splitL l))), (1, .row none 51 (u32s p.1.2))], 2⟩) (fun p => (splitL l).length - p.1.1) ⟨(0, []), Nat.zero_le _, rfl, rfl⟩ [(0, 0), (1, 1)]
    (SubR.mk' rfl rfl ⟨⟨_, rfl, rfl⟩, ⟨_, rfl, rfl⟩, ⟨_, rfl, congrArg (fun z : Nat => AV.d (Dat.int IntKind.i64 z)) (strs_len _)⟩, ⟨_, rfl, rfl⟩, trivial⟩ ⟨⟨_, _, rfl, rfl, rfl⟩, ⟨_, _, rfl, rfl, rfl⟩, trivial⟩) ?_
  rintro ⟨⟨k, a⟩, hk, ha, hal⟩
  simp only at hk ha hal
  dsimp only
  rcases Nat.lt_or_ge k (splitL l).length with hkl | hkl
  · obtain ⟨p, hp⟩ : ∃ p, p = (splitL l)[k] := ⟨_, rfl⟩
    have hmem : p ∈ splitL l := by rw [hp]; exact List.getElem_mem _
    have htx : ((strs (splitL l)).getD (k : Int).toNat default).txt = bA p := by
      rw [txt_strs, Int.toNat_natCast, List.getD_eq_getElem?_getD, List.getElem?_eq_getElem hkl, hp]
      rfl
    have hplen := hpl p hmem
    have hsnoc : ((splitL l).take (k + 1)).mapM arcF = match arcF p with
        | some n => some (a ++ [n])
        | none => none := by
      rw [List.take_succ_eq_append_getElem hkl, mapM_snoc, ha, ← hp]
      cases arcF p <;> rfl
    have hap := arcF_parse p
    cases hpu : Lib.parseUintB 32 p with
    | ok u =>
      have hu := parse32_le hpu
      have hc1 := c_parse_ok p (by omega) u hpu
      rw [hpu] at hap
      simp only at hap
      unfold sD at hc1
      rw [← htx] at hc1
      repeat' (first | ((with_reducible show AWp _ _ _ _ _); (first | refine awp_seq ?_ | refine awp_block ?_ | refine awp_skip ?_ | refine awp_exit ?_ | refine awp_scope ?_ | refine awp_label ?_ | refine awp_run ty_ok rfl sd ?_ | refine awp_ret ⟨_, _, rfl, rfl, ?_⟩ | refine awp_ret ⟨_, rfl, ?_⟩ | ((refine awp_cond (ty := ty) rfl (fun hc => ?_) (fun hc => ?_)) <;> (try simp only [nms, reduceCtorEq] at hc) <;> (try (exfalso; omega))))) | ((with_reducible show AOps _ _ _ _ _ _); (first | refine aops_nil ?_ | refine aops_go ty_ok rfl rfl sd ?_ | refine aops_gate ty_ok rfl rfl rfl sd ?_ | refine aops_callE (ty := ty) rfl rfl rfl rfl rfl rfl rfl (hc1) rfl ?_ | refine aops_callE (ty := ty) rfl rfl rfl rfl rfl rfl rfl (c_format u (by omega)) rfl ?_ | refine aops_litE ty_ok rfl rfl rfl rfl rfl rfl rfl rfl rfl rfl rfl rfl ?_ | refine aops_cutE ty_ok rfl rfl rfl rfl rfl rfl rfl rfl rfl sd rfl ?_ | ((fail_if_success (refine aops_known rfl ?_)); (refine aops_split ty_ok rfl rfl rfl rfl rfl rfl (fun hc => ⟨?_, ?_⟩) (fun hc => ⟨?_, ?_⟩)) <;> (try simp only [nms, reduceCtorEq] at hc) <;> (try (exfalso; omega)) <;> (try exact sd)))) | ((fail_if_success (with_reducible show AWp _ _ _ _ _)); (fail_if_success (with_reducible show AOps _ _ _ _ _ _)); (first | (show AWp _ _ _ _ _) | (show AOps _ _ _ _ _ _))))
      · rw [htx, bA_inj] at hc
        have : arcF p = none := by rw [hap, decide_eq_false hc]
        rw [arcsD, okF_none_of hmem this]
        rfl
      · rw [htx, bA_inj] at hc
        rw [decide_eq_true hc] at hap
        rw [hap] at hsnoc
        refine ⟨⟨(k + 1, a ++ [u]), hkl, hsnoc, by simp [hal]⟩, [(0, 0), (3, 1)], SubR.mk' rfl rfl ⟨⟨_, rfl, rfl⟩, ⟨_, rfl, rfl⟩, ⟨_, rfl, rfl⟩, ⟨_, rfl, rfl⟩, trivial⟩ ⟨⟨_, _, rfl, rfl, rfl⟩, ⟨_, _, rfl, rfl, congrArg (AO.row none 51) ?_⟩, trivial⟩, by simp only; omega⟩
        rw [u32s_app, wrap_u32 u hu]
        rfl
    | range =>
      have hc1 := c_parse_rng p (by omega) hpu
      rw [hpu] at hap
      simp only at hap
      unfold sD at hc1
      rw [← htx] at hc1
      repeat' (first | ((with_reducible show AWp _ _ _ _ _); (first | refine awp_seq ?_ | refine awp_block ?_ | refine awp_skip ?_ | refine awp_exit ?_ | refine awp_scope ?_ | refine awp_label ?_ | refine awp_run ty_ok rfl sd ?_ | refine awp_ret ⟨_, _, rfl, rfl, ?_⟩ | refine awp_ret ⟨_, rfl, ?_⟩ | ((refine awp_cond (ty := ty) rfl (fun hc => ?_) (fun hc => ?_)) <;> (try simp only [nms, reduceCtorEq] at hc) <;> (try (exfalso; omega))))) | ((with_reducible show AOps _ _ _ _ _ _); (first | refine aops_nil ?_ | refine aops_go ty_ok rfl rfl sd ?_ | refine aops_gate ty_ok rfl rfl rfl sd ?_ | refine aops_callE (ty := ty) rfl rfl rfl rfl rfl rfl rfl (hc1) rfl ?_ | refine aops_litE ty_ok rfl rfl rfl rfl rfl rfl rfl rfl rfl rfl rfl rfl ?_ | refine aops_cutE ty_ok rfl rfl rfl rfl rfl rfl rfl rfl rfl sd rfl ?_ | ((fail_if_success (refine aops_known rfl ?_)); (refine aops_split ty_ok rfl rfl rfl rfl rfl rfl (fun hc => ⟨?_, ?_⟩) (fun hc => ⟨?_, ?_⟩)) <;> (try simp only [nms, reduceCtorEq] at hc) <;> (try (exfalso; omega)) <;> (try exact sd)))) | ((fail_if_success (with_reducible show AWp _ _ _ _ _)); (fail_if_success (with_reducible show AOps _ _ _ _ _ _)); (first | (show AWp _ _ _ _ _) | (show AOps _ _ _ _ _ _))))
      rw [arcsD, okF_none_of hmem hap]
      rfl
    | _ =>
      have hc1 := c_parse_syn p (by omega) hpu
      rw [hpu] at hap
      simp only at hap
      unfold sD at hc1
      rw [← htx] at hc1
      repeat' (first | ((with_reducible show AWp _ _ _ _ _); (first | refine awp_seq ?_ | refine awp_block ?_ | refine awp_skip ?_ | refine awp_exit ?_ | refine awp_scope ?_ | refine awp_label ?_ | refine awp_run ty_ok rfl sd ?_ | refine awp_ret ⟨_, _, rfl, rfl, ?_⟩ | refine awp_ret ⟨_, rfl, ?_⟩ | ((refine awp_cond (ty := ty) rfl (fun hc => ?_) (fun hc => ?_)) <;> (try simp only [nms, reduceCtorEq] at hc) <;> (try (exfalso; omega))))) | ((with_reducible show AOps _ _ _ _ _ _); (first | refine aops_nil ?_ | refine aops_go ty_ok rfl rfl sd ?_ | refine aops_gate ty_ok rfl rfl rfl sd ?_ | refine aops_callE (ty := ty) rfl rfl rfl rfl rfl rfl rfl (hc1) rfl ?_ | refine aops_litE ty_ok rfl rfl rfl rfl rfl rfl rfl rfl rfl rfl rfl rfl ?_ | refine aops_cutE ty_ok rfl rfl rfl rfl rfl rfl rfl rfl rfl sd rfl ?_ | ((fail_if_success (refine aops_known rfl ?_)); (refine aops_split ty_ok rfl rfl rfl rfl rfl rfl (fun hc => ⟨?_, ?_⟩) (fun hc => ⟨?_, ?_⟩)) <;> (try simp only [nms, reduceCtorEq] at hc) <;> (try (exfalso; omega)) <;> (try exact sd)))) | ((fail_if_success (with_reducible show AWp _ _ _ _ _)); (fail_if_success (with_reducible show AOps _ _ _ _ _ _)); (first | (show AWp _ _ _ _ _) | (show AOps _ _ _ _ _ _))))
      rw [arcsD, okF_none_of hmem hap]
      rfl
  · have hke : k = (splitL l).length := by omega
    subst hke
    rw [List.take_length] at ha
    repeat' (first | ((with_reducible show AWp _ _ _ _ _); (first | refine awp_seq ?_ | refine awp_block ?_ | refine awp_skip ?_ | refine awp_exit ?_ | refine awp_scope ?_ | refine awp_label ?_ | refine awp_run ty_ok rfl sd ?_ | refine awp_ret ⟨_, _, rfl, rfl, ?_⟩ | refine awp_ret ⟨_, rfl, ?_⟩ | ((refine awp_cond (ty := ty) rfl (fun hc => ?_) (fun hc => ?_)) <;> (try simp only [nms, reduceCtorEq] at hc) <;> (try (exfalso; omega))))) | ((with_reducible show AOps _ _ _ _ _ _); (first | refine aops_nil ?_ | refine aops_go ty_ok rfl rfl sd ?_ | refine aops_gate ty_ok rfl rfl rfl sd ?_ | refine aops_callE (ty := ty) rfl rfl rfl rfl rfl rfl rfl (c_right _ a) rfl ?_ | refine aops_litE ty_ok rfl rfl rfl rfl rfl rfl rfl rfl rfl rfl rfl rfl ?_ | refine aops_cutE ty_ok rfl rfl rfl rfl rfl rfl rfl rfl rfl sd rfl ?_ | ((fail_if_success (refine aops_known rfl ?_)); (refine aops_split ty_ok rfl rfl rfl rfl rfl rfl (fun hc => ⟨?_, ?_⟩) (fun hc => ⟨?_, ?_⟩)) <;> (try simp only [nms, reduceCtorEq] at hc) <;> (try (exfalso; omega)) <;> (try exact sd)))) | ((fail_if_success (with_reducible show AWp _ _ _ _ _)); (fail_if_success (with_reducible show AOps _ _ _ _ _ _)); (first | (show AWp _ _ _ _ _) | (show AOps _ _ _ _ _ _))))
    · have : okF l = none := by
        unfold okF
        rw [ha]
        simp only [hc]
      rw [arcsD, this]
      rfl
    · have : okF l = some a := by
        unfold okF
        rw [ha]
        simp only [hc]
      rw [arcsD, this]

/-- Is it the string of an object identifier? -/
def oidV (l : List UInt8) : Bool := (okF l).isSome
end Go.Proofs.YtohabohifjadgaaDoor

/- Arcs of the reference; Text of both; same. Walked by the abstract machine. -/
namespace Go.Proofs.YtohabohifjadgaaDoor
open Go.Am
open Go.Lib (decDigits)
set_option linter.unusedSimpArgs false
set_option linter.unusedVariables false

end Go.Proofs.YtohabohifjadgaaDoor

/- strings.Join at a dot, as a contract on data. -/
namespace Go.Proofs.YtohabohifjadgaaDoor
open Go.Am Go.RowKit Go.Sort
set_option linter.unusedSimpArgs false
set_option linter.unusedVariables false

/-! ### Join -/
end Go.Proofs.YtohabohifjadgaaDoor

/- Text of package oid and of its reference; same. Walked by the abstract machine. -/
namespace Go.Proofs.YtohabohifjadgaaDoor
open Go.Am
open Go.Lib (decDigits)
set_option linter.unusedSimpArgs false
set_option linter.unusedVariables false

def textD (a : List Nat) : Dat := match rightF a with
  | true => .tup [sD (textF a), .int .i64 0]
  | false => .tup [sD [], .int .i64 8]
theorem u32_at {a : List Nat} {k : Nat} (h : k < a.length) : ((u32s a).getD (k : Int).toNat default).num = (a[k] : Int) := by
  rw [num_u32s, Int.toNat_natCast, List.getD_eq_getElem?_getD, List.getElem?_eq_getElem h]
  rfl
end Go.Proofs.YtohabohifjadgaaDoor

/- Contents octets of object identifiers: Encode of both. Walked by the abstract machine. -/
namespace Go.Proofs.YtohabohifjadgaaDoor
open Go.Am
open Go.Lib (decDigits)
set_option linter.unusedSimpArgs false
set_option linter.unusedVariables false

/-- The octets of a subidentifier. -/
def low7 (last : Bool) (n : Nat) : UInt8 := UInt8.ofNat (n % 128 + (match last with
  | true => 0
  | false => 128))
def b128 (last : Bool) (n : Nat) : List UInt8 := if n < 128 then [low7 last n] else b128 false (n / 128) ++ [low7 last n]
  termination_by n
  decreasing_by omega
theorem b128_small {last : Bool} {n : Nat} (h : n < 128) : b128 last n = [low7 last n] := by rw [b128, if_pos h]
theorem b128_big {last : Bool} {n : Nat} (h : ¬ n < 128) : b128 last n = b128 false (n / 128) ++ [low7 last n] := by rw [b128, if_neg h]
theorem b128_len (k : Nat) : ∀ last n, n < 128 ^ (k + 1) → (b128 last n).length ≤ k + 1 := by
  induction k with
  | zero =>
    intro last n h
    rw [b128_small (by simpa using h)]
    exact Nat.le_refl _
  | succ k ih =>
    intro last n h
    by_cases h1 : n < 128
    · rw [b128_small h1]
      exact Nat.succ_le_succ (Nat.zero_le _)
    · rw [b128_big h1]
      have h2 : n / 128 < 128 ^ (k + 1) := by
        rw [Nat.div_lt_iff_lt_mul (Nat.succ_pos 127), ← Nat.pow_succ]
        exact h
      have := ih false (n / 128) h2
      rw [List.length_append, List.length_singleton]
      omega
theorem b128_len32 (last : Bool) (n : Nat) (h : n ≤ 4294967295) : (b128 last n).length ≤ 5 := b128_len 4 last n (Nat.lt_of_le_of_lt h (by decide))
/-- The octets after the last one, lowest first. -/
def rest7 (n : Nat) : List UInt8 := if n = 0 then [] else low7 false n :: rest7 (n / 128)
  termination_by n
  decreasing_by omega
theorem rest7_zero : rest7 0 = [] := by rw [rest7, if_pos rfl]
theorem rest7_pos {n : Nat} (h : n ≠ 0) : rest7 n = low7 false n :: rest7 (n / 128) := by rw [rest7, if_neg h]
theorem rest7_b128 (n : Nat) (h : n ≠ 0) : (rest7 n).reverse = b128 false n := by
  induction n using Nat.strongRecOn with
  | _ n ih =>
    rw [rest7_pos h, List.reverse_cons]
    by_cases h1 : n < 128
    · rw [b128_small h1, show n / 128 = 0 by omega, rest7_zero]
      rfl
    · rw [b128_big h1, ih (n / 128) (by omega) (by omega)]
theorem b128_rest (n : Nat) : b128 true n = (low7 true n :: rest7 (n / 128)).reverse := by
  rw [List.reverse_cons]
  by_cases h1 : n < 128
  · rw [b128_small h1, show n / 128 = 0 by omega, rest7_zero]
    rfl
  · rw [b128_big h1, rest7_b128 _ (by omega)]
theorem low7_nat (n : Nat) : (low7 true n).toNat = n % 128 ∧ (low7 false n).toNat = n % 128 + 128 := by
  constructor <;> simp [low7, UInt8.toNat_ofNat'] <;> omega
theorem bys_one (b : UInt8) : bys [b] = [Dat.int .u8 b.toNat] := rfl

end Go.Proofs.YtohabohifjadgaaDoor

/- Encode of package oid, walked by the abstract machine. -/
namespace Go.Proofs.YtohabohifjadgaaDoor
open Go.Am
open Go.Lib (decDigits)
set_option linter.unusedSimpArgs false
set_option linter.unusedVariables false

theorem and_u32 (n : Nat) (h : n ≤ 4294967295) : bits .and .u32 (n : Int) 127 = ((n % 128 : Nat) : Int) := by
  have h1 := (bits_nat .u32 32 (by decide) (fun n h0 h1 => by rw [IntKind.wrap_u32]; omega) n 127 (by omega) (by omega)).1
  have h2 : n &&& 127 = n % 128 := Nat.and_two_pow_sub_one_eq_mod n 7
  rw [h2] at h1
  exact h1
theorem or_u32 (d : Nat) (h : d < 128) : bits .or .u32 (d : Int) 128 = ((d + 128 : Nat) : Int) := by
  have h1 := (bits_nat .u32 32 (by decide) (fun n h0 h1 => by rw [IntKind.wrap_u32]; omega) d 128 (by omega) (by omega)).2
  have h2 : d ||| 128 = d + 128 := by
    have : ∀ d : Fin 128, d.1 ||| 128 = d.1 + 128 := by decide
    exact this ⟨d, h⟩
  rw [h2] at h1
  exact h1
theorem shr_u32 (n : Nat) : shft .shr .u32 (n : Int) 7 = ((n / 128 : Nat) : Int) := by
  simp [shft, IntKind.bits, Int.fdiv_eq_ediv_of_nonneg]
theorem isPut : IsFn Tryd.prog 24 Tryd.f24 := ⟨Tryd.func24, by decide, rfl⟩
set_option maxHeartbeats 1000000 in
theorem put_in (Γ : Env) (o : List UInt8) (n : Nat) (hn : n ≤ 4294967295) (ho : o.length ≤ 1000000000) (K : List (Nat × AO) → Nat → AV → Prop)
    (hK : ∀ ob, Am.look 0 ob = some (.box 23 [.ref 3]) → Am.look 3 ob = some (.row none 5 (bys (o ++ b128 true n))) → K ob 4 (.tup [])) :
    AWp Tryd.prog (Γ.at 2) Tryd.f24.body.get! (BackOk ty Tryd.f24 K) (entry Tryd.f24.ntmps [.d (.int .u32 n), .ptr 0 0] [(0, .box 23 [.ref 1]), (1, .row none 5 (bys o))] 2) := by
  have e1 := and_u32 n hn
  have e2 := shr_u32 n
  have hl := b128_len32 true n hn
  obtain ⟨l1, l2⟩ := low7_nat n
  repeat' (first | ((with_reducible show AWp _ _ _ _ _); (first | refine awp_seq ?_ | refine awp_block ?_ | refine awp_skip ?_ | refine awp_exit ?_ | refine awp_scope ?_ | refine awp_label ?_ | refine awp_run ty_ok rfl sd ?_ | refine awp_ret ⟨_, _, rfl, rfl, ?_⟩ | refine awp_ret ⟨_, rfl, ?_⟩ | ((refine awp_cond (ty := ty) rfl (fun hc => ?_) (fun hc => ?_)) <;> (try simp only [nms, reduceCtorEq] at hc) <;> (try (exfalso; omega))))) | ((with_reducible show AOps _ _ _ _ _ _); (first | refine aops_nil ?_ | refine aops_go ty_ok rfl rfl sd ?_ | refine aops_gate ty_ok rfl rfl rfl sd ?_ | refine aops_around (ty := ty) rfl rfl rfl rfl rfl rfl rfl (turns) sd rfl ?_ | refine aops_litE ty_ok rfl rfl rfl rfl rfl rfl rfl rfl rfl rfl rfl rfl ?_ | refine aops_cutE ty_ok rfl rfl rfl rfl rfl rfl rfl rfl rfl sd rfl ?_ | ((fail_if_success (refine aops_known rfl ?_)); (refine aops_split ty_ok rfl rfl rfl rfl rfl rfl (fun hc => ⟨?_, ?_⟩) (fun hc => ⟨?_, ?_⟩)) <;> (try simp only [nms, reduceCtorEq] at hc) <;> (try (exfalso; omega)) <;> (try exact sd)))) | ((fail_if_success (with_reducible show AWp _ _ _ _ _)); (fail_if_success (with_reducible show AOps _ _ _ _ _ _)); (first | (show AWp _ _ _ _ _) | (show AOps _ _ _ _ _ _))))
  have hrl : (rest7 (n / 128)).length + 1 ≤ 5 := by
    have := congrArg List.length (b128_rest n)
    simp at this
    omega
  refine awp_loopR (G := { p : Nat × List UInt8 // p.2 ++ rest7 p.1 = rest7 (n / 128) ∧ p.1 ≤ n / 128 }) (fun p => ⟨Tryd.f24.ntmps, [(0, .d (.int .u32 p.1.1)), (1, .ptr 0 0), (3, .ref 2)], [(0, .box 23 [.ref 1]), (1, .row none 5 (bys o)), (2, .row none 5 (bys (low7 true n :: p.1.2)))], 3⟩) (fun p => p.1.1) ⟨(n / 128, []), rfl, Nat.le_refl _⟩ [(2, 2)]
    (SubR.mk' rfl rfl ⟨⟨_, rfl, congrArg (fun z : Int => AV.d (Dat.int IntKind.u32 z)) e2⟩, ⟨_, rfl, rfl⟩, ⟨_, rfl, rfl⟩, trivial⟩ ⟨⟨_, _, rfl, rfl, rfl⟩, ⟨_, _, rfl, rfl, rfl⟩, ⟨_, _, rfl, rfl, congrArg (AO.row none 5) (by rw [e1, IntKind.wrap_u8, bys_one, l1]; congr 2; omega)⟩, trivial⟩) ?_
  rintro ⟨⟨m, pre⟩, hp, hm⟩
  simp only at hp hm
  dsimp only
  have hpl : pre.length + (rest7 m).length = (rest7 (n / 128)).length := by rw [← hp, List.length_append]
  have f1 := and_u32 m (by omega)
  have f2 := shr_u32 m
  have f3 := or_u32 (m % 128) (by omega)
  obtain ⟨l3, l4⟩ := low7_nat m
  by_cases h0 : m = 0
  · subst h0
    rw [rest7_zero, List.append_nil] at hp
    repeat' (first | ((with_reducible show AWp _ _ _ _ _); (first | refine awp_seq ?_ | refine awp_block ?_ | refine awp_skip ?_ | refine awp_exit ?_ | refine awp_scope ?_ | refine awp_label ?_ | refine awp_run ty_ok rfl sd ?_ | refine awp_ret ⟨_, _, rfl, rfl, ?_⟩ | refine awp_ret ⟨_, rfl, ?_⟩ | ((refine awp_cond (ty := ty) rfl (fun hc => ?_) (fun hc => ?_)) <;> (try simp only [nms, reduceCtorEq] at hc) <;> (try (exfalso; omega))))) | ((with_reducible show AOps _ _ _ _ _ _); (first | refine aops_nil ?_ | refine aops_go ty_ok rfl rfl sd ?_ | refine aops_gate ty_ok rfl rfl rfl sd ?_ | refine aops_around (ty := ty) rfl rfl rfl rfl rfl rfl rfl (turns) sd rfl ?_ | refine aops_litE ty_ok rfl rfl rfl rfl rfl rfl rfl rfl rfl rfl rfl rfl ?_ | refine aops_cutE ty_ok rfl rfl rfl rfl rfl rfl rfl rfl rfl sd rfl ?_ | ((fail_if_success (refine aops_known rfl ?_)); (refine aops_split ty_ok rfl rfl rfl rfl rfl rfl (fun hc => ⟨?_, ?_⟩) (fun hc => ⟨?_, ?_⟩)) <;> (try simp only [nms, reduceCtorEq] at hc) <;> (try (exfalso; omega)) <;> (try exact sd)))) | ((fail_if_success (with_reducible show AWp _ _ _ _ _)); (fail_if_success (with_reducible show AOps _ _ _ _ _ _)); (first | (show AWp _ _ _ _ _) | (show AOps _ _ _ _ _ _))))
    refine ⟨[], rfl, hK _ rfl (congrArg (fun z => some (AO.row none 5 z)) ?_)⟩
    rw [bys_app, b128_rest, hp]
  · repeat' (first | ((with_reducible show AWp _ _ _ _ _); (first | refine awp_seq ?_ | refine awp_block ?_ | refine awp_skip ?_ | refine awp_exit ?_ | refine awp_scope ?_ | refine awp_label ?_ | refine awp_run ty_ok rfl sd ?_ | refine awp_ret ⟨_, _, rfl, rfl, ?_⟩ | refine awp_ret ⟨_, rfl, ?_⟩ | ((refine awp_cond (ty := ty) rfl (fun hc => ?_) (fun hc => ?_)) <;> (try simp only [nms, reduceCtorEq] at hc) <;> (try (exfalso; omega))))) | ((with_reducible show AOps _ _ _ _ _ _); (first | refine aops_nil ?_ | refine aops_go ty_ok rfl rfl sd ?_ | refine aops_gate ty_ok rfl rfl rfl sd ?_ | refine aops_around (ty := ty) rfl rfl rfl rfl rfl rfl rfl (turns) sd rfl ?_ | refine aops_litE ty_ok rfl rfl rfl rfl rfl rfl rfl rfl rfl rfl rfl rfl ?_ | refine aops_cutE ty_ok rfl rfl rfl rfl rfl rfl rfl rfl rfl sd rfl ?_ | ((fail_if_success (refine aops_known rfl ?_)); (refine aops_split ty_ok rfl rfl rfl rfl rfl rfl (fun hc => ⟨?_, ?_⟩) (fun hc => ⟨?_, ?_⟩)) <;> (try simp only [nms, reduceCtorEq] at hc) <;> (try (exfalso; omega)) <;> (try exact sd)))) | ((fail_if_success (with_reducible show AWp _ _ _ _ _)); (fail_if_success (with_reducible show AOps _ _ _ _ _ _)); (first | (show AWp _ _ _ _ _) | (show AOps _ _ _ _ _ _))))
    refine ⟨⟨(m / 128, pre ++ [low7 false m]), by rw [← hp, rest7_pos h0]; simp, by simp only; omega⟩, [(4, 2)], SubR.mk' rfl rfl ⟨⟨_, rfl, congrArg (fun z : Int => AV.d (Dat.int IntKind.u32 z)) f2⟩, ⟨_, rfl, rfl⟩, ⟨_, rfl, rfl⟩, trivial⟩ ⟨⟨_, _, rfl, rfl, rfl⟩, ⟨_, _, rfl, rfl, rfl⟩, ⟨_, _, rfl, rfl, congrArg (AO.row none 5) ?_⟩, trivial⟩, by simp only; omega⟩
    rw [f1, f3, IntKind.wrap_u8]
    simp only [bys_cons, bys_app, bys_one, l4, List.cons_append]
    congr 4

/-- The contents octets of arcs. -/
def encL : List Nat → List UInt8
  | x :: y :: t => b128 true (40 * x + y) ++ (t.map (b128 true)).flatten
  | _ => []
theorem flat_take (f : Nat → List UInt8) (t : List Nat) (k : Nat) (h : k < t.length) : ((t.take (k + 1)).map f).flatten = ((t.take k).map f).flatten ++ f t[k] := by
  rw [List.take_succ_eq_append_getElem h, List.map_append, List.flatten_append, List.map_cons, List.map_nil, List.flatten_cons, List.flatten_nil, List.append_nil]
theorem flat_len (t : List Nat) (h : ∀ n ∈ t, n ≤ 4294967295) : ((t.map (b128 true)).flatten).length ≤ 5 * t.length := by
  induction t with
  | nil => simp
  | cons n t ih =>
    have h1 := b128_len32 true n (h n (List.mem_cons_self ..))
    have h2 := ih (fun m hm => h m (List.mem_cons_of_mem _ hm))
    simp only [List.map_cons, List.flatten_cons, List.length_append, List.length_cons]
    omega
theorem okF_len {l : List UInt8} {a : List Nat} (h : okF l = some a) : a.length ≤ l.length + 1 := by
  unfold okF at h
  split at h
  · rename_i b hb
    split at h
    · cases h
      have h1 := (mapM_arcs hb).1
      have h2 := congrArg List.length h1
      rw [List.length_map, splitL_len] at h2
      have := count_le l
      omega
    · cases h
  · cases h
theorem isOEncode : IsFn Tryd.prog 15 Tryd.f15 := ⟨Tryd.func15, by decide, rfl⟩
theorem c_oenc_bad (l : List UInt8) (hl : l.length ≤ 100000000) (h : okF l = none) : ACalls Tryd.prog envL 15 [sD l] (fun r => r = .d (.tup [.sl none [], .int .i64 8])) := by
  refine acalls_of ty_ok isOEncode rfl rfl ?_
  have hA := c_arcs l hl
  rw [arcsD, h] at hA
  repeat' (first | ((with_reducible show AWp _ _ _ _ _); (first | refine awp_seq ?_ | refine awp_block ?_ | refine awp_skip ?_ | refine awp_exit ?_ | refine awp_scope ?_ | refine awp_label ?_ | refine awp_run ty_ok rfl sd ?_ | refine awp_ret ⟨_, _, rfl, rfl, ?_⟩ | refine awp_ret ⟨_, rfl, ?_⟩ | ((refine awp_cond (ty := ty) rfl (fun hc => ?_) (fun hc => ?_)) <;> (try simp only [nms, reduceCtorEq] at hc) <;> (try (exfalso; omega))))) | ((with_reducible show AOps _ _ _ _ _ _); (first | refine aops_nil ?_ | refine aops_go ty_ok rfl rfl sd ?_ | refine aops_gate ty_ok rfl rfl rfl sd ?_ | refine aops_callE (ty := ty) rfl rfl rfl rfl rfl rfl rfl (hA) rfl ?_ | refine aops_litE ty_ok rfl rfl rfl rfl rfl rfl rfl rfl rfl rfl rfl rfl ?_ | refine aops_cutE ty_ok rfl rfl rfl rfl rfl rfl rfl rfl rfl sd rfl ?_ | ((fail_if_success (refine aops_known rfl ?_)); (refine aops_split ty_ok rfl rfl rfl rfl rfl rfl (fun hc => ⟨?_, ?_⟩) (fun hc => ⟨?_, ?_⟩)) <;> (try simp only [nms, reduceCtorEq] at hc) <;> (try (exfalso; omega)) <;> (try exact sd)))) | ((fail_if_success (with_reducible show AWp _ _ _ _ _)); (fail_if_success (with_reducible show AOps _ _ _ _ _ _)); (first | (show AWp _ _ _ _ _) | (show AOps _ _ _ _ _ _))))
  all_goals rfl
set_option maxHeartbeats 1000000 in
theorem c_oenc_ok (l : List UInt8) (a : List Nat) (hl : l.length ≤ 100000000) (h : okF l = some a) : ACalls Tryd.prog envL 15 [sD l] (fun r => r = .ownT none 5 (bys (encL a)) [.int .i64 0]) := by
  refine acalls_of ty_ok isOEncode rfl rfl ?_
  have hA := c_arcs l hl
  rw [arcsD, h] at hA
  have hal := okF_len h
  obtain ⟨_, hr, hn⟩ := okF_text h
  match a, hr, hn, hal, hA with
  | x :: y :: t, hr, hn, hal, hA =>
  have hx : ((u32s (x :: y :: t)).getD (Int.toNat 0) default).num = x := rfl
  have hy : ((u32s (x :: y :: t)).getD (Int.toNat 1) default).num = y := rfl
  have hlen : (u32s (x :: y :: t)).length = t.length + 2 := by simp [u32s]
  have hxy : 40 * x + y ≤ 4294967295 := by
    simp only [rightF, Bool.or_eq_true, Bool.and_eq_true, decide_eq_true_eq] at hr
    omega
  have htn : ∀ n ∈ t, n ≤ 4294967295 := fun n hm => hn n (by simp [hm])
  simp only [List.length_cons] at hal
  have hcut : cutL (u32s (x :: y :: t)) (Int.toNat 2) (u32s (x :: y :: t)).length = u32s t := by
    unfold cutL
    rw [List.take_length]
    rfl
  repeat' (first | ((with_reducible show AWp _ _ _ _ _); (first | refine awp_seq ?_ | refine awp_block ?_ | refine awp_skip ?_ | refine awp_exit ?_ | refine awp_scope ?_ | refine awp_label ?_ | refine awp_run ty_ok rfl sd ?_ | refine awp_ret ⟨_, _, rfl, rfl, ?_⟩ | refine awp_ret ⟨_, rfl, ?_⟩ | ((refine awp_cond (ty := ty) rfl (fun hc => ?_) (fun hc => ?_)) <;> (try simp only [nms, reduceCtorEq] at hc) <;> (try (exfalso; omega))) | refine awp_anyL 9 mixed rfl (by kernel_rfl) ?_)) | ((with_reducible show AOps _ _ _ _ _ _); (first | refine aops_nil ?_ | refine aops_go ty_ok rfl rfl sd ?_ | refine aops_gate ty_ok rfl rfl rfl sd ?_ | refine aops_callE (ty := ty) rfl rfl rfl rfl rfl rfl rfl (hA) rfl ?_ | refine aops_litE ty_ok rfl rfl rfl rfl rfl rfl rfl rfl rfl rfl rfl rfl ?_ | refine aops_cutE ty_ok rfl rfl rfl rfl rfl rfl rfl rfl rfl sd rfl ?_ | ((fail_if_success (refine aops_known rfl ?_)); (refine aops_split ty_ok rfl rfl rfl rfl rfl rfl (fun hc => ⟨?_, ?_⟩) (fun hc => ⟨?_, ?_⟩)) <;> (try simp only [nms, reduceCtorEq] at hc) <;> (try (exfalso; omega)) <;> (try exact sd)))) | ((with_reducible show HeadT _ _ _ _ _ _ _ _ _ _); (first | refine head_end ?_ | refine head_goP ty_ok rfl rfl sd ?_ | refine head_gate ty_ok rfl rfl rfl sd ?_ | refine head_callE (ty := ty) rfl rfl rfl rfl rfl rfl rfl (hA) rfl ?_ | ((fail_if_success (refine head_known rfl ?_)); (refine head_split ty_ok rfl rfl rfl rfl (fun hc => ⟨?_, ?_⟩) (fun hc => ⟨?_, ?_⟩)) <;> (try simp only [nms, reduceCtorEq] at hc) <;> (try (exfalso; omega)) <;> (try exact sd)))) | ((fail_if_success (with_reducible show AWp _ _ _ _ _)); (fail_if_success (with_reducible show AOps _ _ _ _ _ _)); (fail_if_success (with_reducible show HeadT _ _ _ _ _ _ _ _ _ _)); (first | (show AWp _ _ _ _ _) | (show AOps _ _ _ _ _ _))))
  refine aops_nilcell 0 0 5 rfl rfl rfl rfl ?_
  refine aops_ren (σ' := ⟨Tryd.f15.ntmps, [(4, .d (.sl none (u32s (x :: y :: t)))), (6, .ptr 0 0), (7, .fn 24 [.ptr 0 0]), (18, .fn 24 [.ptr 0 0]), (26, .d (.int .u32 ((40 * x + y : Nat) : Int)))], [(0, .box 23 [.ref 1]), (1, .row none 5 (bys []))], 2⟩) [(0, 0), (10, 1)]
    (SubR.mk' rfl rfl ⟨⟨_, rfl, rfl⟩, ⟨_, rfl, rfl⟩, ⟨_, rfl, rfl⟩, ⟨_, rfl, rfl⟩, ⟨_, rfl, congrArg (fun z : Int => AV.d (Dat.int IntKind.u32 z)) (by rw [hx, hy, IntKind.wrap_u32, IntKind.wrap_u32]; omega)⟩, trivial⟩ ⟨⟨_, _, rfl, rfl, rfl⟩, ⟨_, _, rfl, rfl, rfl⟩, trivial⟩) ?_
  refine aops_inline ty_ok rfl rfl rfl rfl rfl rfl isPut rfl rfl ?_
  refine put_in _ [] (40 * x + y) hxy (by simp) _ (fun ob h0 h3 => ?_)
  refine aops_ren (σ' := ⟨Tryd.f15.ntmps, [(4, .d (.sl none (u32s (x :: y :: t)))), (6, .ptr 0 0), (7, .fn 24 [.ptr 0 0])], [(0, .box 23 [.ref 1]), (1, .row none 5 (bys (b128 true (40 * x + y))))], 2⟩) [(0, 0), (3, 1)]
    (SubR.mk' rfl rfl ⟨⟨_, rfl, rfl⟩, ⟨_, rfl, rfl⟩, ⟨_, rfl, rfl⟩, trivial⟩ ⟨⟨_, _, rfl, h0, rfl⟩, ⟨_, _, rfl, h3, rfl⟩, trivial⟩) ?_
  refine aops_nil ?_
  have hb5 := b128_len32 true (40 * x + y) hxy
  repeat' (first | ((with_reducible show AWp _ _ _ _ _); (first | refine awp_seq ?_ | refine awp_block ?_ | refine awp_skip ?_ | refine awp_exit ?_ | refine awp_scope ?_ | refine awp_label ?_ | refine awp_run ty_ok rfl sd ?_ | refine awp_ret ⟨_, _, rfl, rfl, ?_⟩ | refine awp_ret ⟨_, rfl, ?_⟩ | ((refine awp_cond (ty := ty) rfl (fun hc => ?_) (fun hc => ?_)) <;> (try simp only [nms, reduceCtorEq] at hc) <;> (try (exfalso; omega))))) | ((with_reducible show AOps _ _ _ _ _ _); (first | refine aops_nil ?_ | refine aops_go ty_ok rfl rfl sd ?_ | refine aops_gate ty_ok rfl rfl rfl sd ?_ | refine aops_callE (ty := ty) rfl rfl rfl rfl rfl rfl rfl (hA) rfl ?_ | refine aops_litE ty_ok rfl rfl rfl rfl rfl rfl rfl rfl rfl rfl rfl rfl ?_ | refine aops_cutE ty_ok rfl rfl rfl rfl rfl rfl rfl rfl rfl sd rfl ?_ | ((fail_if_success (refine aops_known rfl ?_)); (refine aops_split ty_ok rfl rfl rfl rfl rfl rfl (fun hc => ⟨?_, ?_⟩) (fun hc => ⟨?_, ?_⟩)) <;> (try simp only [nms, reduceCtorEq] at hc) <;> (try (exfalso; omega)) <;> (try exact sd)))) | ((fail_if_success (with_reducible show AWp _ _ _ _ _)); (fail_if_success (with_reducible show AOps _ _ _ _ _ _)); (first | (show AWp _ _ _ _ _) | (show AOps _ _ _ _ _ _))))
  refine awp_loopR (G := { k : Nat // k ≤ t.length }) (fun k => ⟨Tryd.f15.ntmps, [(6, .ptr 0 0), (7, .fn 24 [.ptr 0 0]), (29, .d (.sl none (u32s t))), (30, .d (.int .i64 t.length)), (31, .d (.int .i64 k.1))], [(0, .box 23 [.ref 1]), (1, .row none 5 (bys (b128 true (40 * x + y) ++ ((t.take k.1).map (b128 true)).flatten)))], 2⟩) (fun k => t.length - k.1) ⟨0, Nat.zero_le _⟩ [(0, 0), (1, 1)]
    (SubR.mk' rfl rfl ⟨⟨_, rfl, rfl⟩, ⟨_, rfl, rfl⟩, ⟨_, rfl, congrArg (fun z => AV.d (Dat.sl none z)) hcut⟩, ⟨_, rfl, congrArg (fun z : Nat => AV.d (Dat.int IntKind.i64 z)) (by rw [hcut, u32s_len])⟩, ⟨_, rfl, rfl⟩, trivial⟩ ⟨⟨_, _, rfl, rfl, rfl⟩, ⟨_, _, rfl, rfl, congrArg (fun z => AO.row none 5 (bys z)) (by simp)⟩, trivial⟩) ?_
  rintro ⟨k, hk⟩
  dsimp only
  have hfl := flat_len (t.take k) (fun m hm => htn m (List.mem_of_mem_take hm))
  have htk : (t.take k).length ≤ t.length := by rw [List.length_take]; omega
  rcases Nat.lt_or_ge k t.length with hkl | hkl
  · have hnum := u32_at hkl
    have hnk := htn t[k] (List.getElem_mem _)
    repeat' (first | ((with_reducible show AWp _ _ _ _ _); (first | refine awp_seq ?_ | refine awp_block ?_ | refine awp_skip ?_ | refine awp_exit ?_ | refine awp_scope ?_ | refine awp_label ?_ | refine awp_run ty_ok rfl sd ?_ | refine awp_ret ⟨_, _, rfl, rfl, ?_⟩ | refine awp_ret ⟨_, rfl, ?_⟩ | ((refine awp_cond (ty := ty) rfl (fun hc => ?_) (fun hc => ?_)) <;> (try simp only [nms, reduceCtorEq] at hc) <;> (try (exfalso; omega))))) | ((with_reducible show AOps _ _ _ _ _ _); (first | refine aops_nil ?_ | refine aops_go ty_ok rfl rfl sd ?_ | refine aops_gate ty_ok rfl rfl rfl sd ?_ | refine aops_litE ty_ok rfl rfl rfl rfl rfl rfl rfl rfl rfl rfl rfl rfl ?_ | refine aops_cutE ty_ok rfl rfl rfl rfl rfl rfl rfl rfl rfl sd rfl ?_ | ((fail_if_success (refine aops_known rfl ?_)); (refine aops_split ty_ok rfl rfl rfl rfl rfl rfl (fun hc => ⟨?_, ?_⟩) (fun hc => ⟨?_, ?_⟩)) <;> (try simp only [nms, reduceCtorEq] at hc) <;> (try (exfalso; omega)) <;> (try exact sd)))) | ((fail_if_success (with_reducible show AWp _ _ _ _ _)); (fail_if_success (with_reducible show AOps _ _ _ _ _ _)); (first | (show AWp _ _ _ _ _) | (show AOps _ _ _ _ _ _))))
    refine aops_ren (σ' := ⟨Tryd.f15.ntmps, [(6, .ptr 0 0), (7, .fn 24 [.ptr 0 0]), (29, .d (.sl none (u32s t))), (30, .d (.int .i64 t.length)), (31, .d (.int .i64 k)), (35, .fn 24 [.ptr 0 0]), (36, .d (.int .u32 (t[k] : Nat)))], [(0, .box 23 [.ref 1]), (1, .row none 5 (bys (b128 true (40 * x + y) ++ ((t.take k).map (b128 true)).flatten)))], 2⟩) [(0, 0), (1, 1)]
      (SubR.mk' rfl rfl ⟨⟨_, rfl, rfl⟩, ⟨_, rfl, rfl⟩, ⟨_, rfl, rfl⟩, ⟨_, rfl, rfl⟩, ⟨_, rfl, rfl⟩, ⟨_, rfl, rfl⟩, ⟨_, rfl, congrArg (fun z : Int => AV.d (Dat.int IntKind.u32 z)) hnum⟩, trivial⟩ ⟨⟨_, _, rfl, rfl, rfl⟩, ⟨_, _, rfl, rfl, rfl⟩, trivial⟩) ?_
    refine aops_inline ty_ok rfl rfl rfl rfl rfl rfl isPut rfl rfl ?_
    refine put_in _ _ t[k] hnk (by rw [List.length_append]; omega) _ (fun ob h0 h3 => ?_)
    refine aops_ren (σ' := ⟨Tryd.f15.ntmps, [(6, .ptr 0 0), (7, .fn 24 [.ptr 0 0]), (29, .d (.sl none (u32s t))), (30, .d (.int .i64 t.length)), (31, .d (.int .i64 k))], [(0, .box 23 [.ref 1]), (1, .row none 5 (bys ((b128 true (40 * x + y) ++ ((t.take k).map (b128 true)).flatten) ++ b128 true t[k])))], 2⟩) [(0, 0), (3, 1)]
      (SubR.mk' rfl rfl ⟨⟨_, rfl, rfl⟩, ⟨_, rfl, rfl⟩, ⟨_, rfl, rfl⟩, ⟨_, rfl, rfl⟩, ⟨_, rfl, rfl⟩, trivial⟩ ⟨⟨_, _, rfl, h0, rfl⟩, ⟨_, _, rfl, h3, rfl⟩, trivial⟩) ?_
    refine aops_nil ?_
    repeat' (first | ((with_reducible show AWp _ _ _ _ _); (first | refine awp_seq ?_ | refine awp_block ?_ | refine awp_skip ?_ | refine awp_exit ?_ | refine awp_scope ?_ | refine awp_label ?_ | refine awp_run ty_ok rfl sd ?_ | refine awp_ret ⟨_, _, rfl, rfl, ?_⟩ | refine awp_ret ⟨_, rfl, ?_⟩ | ((refine awp_cond (ty := ty) rfl (fun hc => ?_) (fun hc => ?_)) <;> (try simp only [nms, reduceCtorEq] at hc) <;> (try (exfalso; omega))))) | ((with_reducible show AOps _ _ _ _ _ _); (first | refine aops_nil ?_ | refine aops_go ty_ok rfl rfl sd ?_ | refine aops_gate ty_ok rfl rfl rfl sd ?_ | refine aops_litE ty_ok rfl rfl rfl rfl rfl rfl rfl rfl rfl rfl rfl rfl ?_ | refine aops_cutE ty_ok rfl rfl rfl rfl rfl rfl rfl rfl rfl sd rfl ?_ | ((fail_if_success (refine aops_known rfl ?_)); (refine aops_split ty_ok rfl rfl rfl rfl rfl rfl (fun hc => ⟨?_, ?_⟩) (fun hc => ⟨?_, ?_⟩)) <;> (try simp only [nms, reduceCtorEq] at hc) <;> (try (exfalso; omega)) <;> (try exact sd)))) | ((fail_if_success (with_reducible show AWp _ _ _ _ _)); (fail_if_success (with_reducible show AOps _ _ _ _ _ _)); (first | (show AWp _ _ _ _ _) | (show AOps _ _ _ _ _ _))))
    refine ⟨⟨k + 1, hkl⟩, [(0, 0), (1, 1)], SubR.mk' rfl rfl ⟨⟨_, rfl, rfl⟩, ⟨_, rfl, rfl⟩, ⟨_, rfl, rfl⟩, ⟨_, rfl, rfl⟩, ⟨_, rfl, rfl⟩, trivial⟩ ⟨⟨_, _, rfl, rfl, rfl⟩, ⟨_, _, rfl, rfl, congrArg (fun z => AO.row none 5 (bys z)) ?_⟩, trivial⟩, by simp only; omega⟩
    rw [flat_take (b128 true) t k hkl, List.append_assoc]
  · have hke : k = t.length := by omega
    subst hke
    repeat' (first | ((with_reducible show AWp _ _ _ _ _); (first | refine awp_seq ?_ | refine awp_block ?_ | refine awp_skip ?_ | refine awp_exit ?_ | refine awp_scope ?_ | refine awp_label ?_ | refine awp_run ty_ok rfl sd ?_ | refine awp_ret ⟨_, _, rfl, rfl, ?_⟩ | refine awp_ret ⟨_, rfl, ?_⟩ | ((refine awp_cond (ty := ty) rfl (fun hc => ?_) (fun hc => ?_)) <;> (try simp only [nms, reduceCtorEq] at hc) <;> (try (exfalso; omega))))) | ((with_reducible show AOps _ _ _ _ _ _); (first | refine aops_nil ?_ | refine aops_go ty_ok rfl rfl sd ?_ | refine aops_gate ty_ok rfl rfl rfl sd ?_ | refine aops_litE ty_ok rfl rfl rfl rfl rfl rfl rfl rfl rfl rfl rfl rfl ?_ | refine aops_cutE ty_ok rfl rfl rfl rfl rfl rfl rfl rfl rfl sd rfl ?_ | ((fail_if_success (refine aops_known rfl ?_)); (refine aops_split ty_ok rfl rfl rfl rfl rfl rfl (fun hc => ⟨?_, ?_⟩) (fun hc => ⟨?_, ?_⟩)) <;> (try simp only [nms, reduceCtorEq] at hc) <;> (try (exfalso; omega)) <;> (try exact sd)))) | ((fail_if_success (with_reducible show AWp _ _ _ _ _)); (fail_if_success (with_reducible show AOps _ _ _ _ _ _)); (first | (show AWp _ _ _ _ _) | (show AOps _ _ _ _ _ _))))
    simp only [encL, List.take_length]
end Go.Proofs.YtohabohifjadgaaDoor

/- Lists of purposes: Valid and Marshal. Walked by the abstract machine. -/
namespace Go.Proofs.YtohabohifjadgaaDoor
open Go.Am
set_option linter.unusedSimpArgs false
set_option linter.unusedVariables false

/-- The encoding of an object identifier. -/
def encO (s : List UInt8) : List UInt8 := match okF s with
  | some a => encL a
  | none => []
theorem encL_len {a : List Nat} (h : ∀ n ∈ a, n ≤ 4294967295) (hr : rightF a = true) : (encL a).length ≤ 5 * a.length := by
  match a, hr with
  | x :: y :: t, hr =>
    have h1 : 40 * x + y ≤ 4294967295 := by
      simp only [rightF, Bool.or_eq_true, Bool.and_eq_true, decide_eq_true_eq] at hr
      omega
    have h2 := b128_len32 true _ h1
    have h3 := flat_len t (fun n hn => h n (by simp [hn]))
    simp only [encL, List.length_append, List.length_cons]
    omega
theorem encO_len (s : List UInt8) : (encO s).length ≤ 5 * (s.length + 1) := by
  unfold encO
  cases h : okF s with
  | none => simp
  | some a =>
    obtain ⟨_, hr, hn⟩ := okF_text h
    have h1 := encL_len hn hr
    have h2 := okF_len h
    simp only
    omega
def objF (s : List UInt8) : List UInt8 := putF 6 (encO s)
def usV (l : List (List UInt8)) : Bool := !l.isEmpty && l.all oidV
/-- The encoding of a list of purposes. -/
def usF (l : List (List UInt8)) : List UInt8 := putF 48 (l.map objF).flatten
theorem c_oenc_okO (s : List UInt8) (hl : s.length ≤ 100000000) (h : oidV s = true) : ACalls Tryd.prog envL 15 [sD s] (fun r => r = .ownT none 5 (bys (encO s)) [.int .i64 0]) := by
  unfold oidV at h
  unfold encO
  cases ho : okF s with
  | none => rw [ho] at h; cases h
  | some a => exact c_oenc_ok s a hl ho
def usR (l : List (List UInt8)) : Res := match usV l with
  | true => .ownT none 5 (bys (usF l)) [.int .i64 0]
  | false => .d (.tup [.sl none [], .int .i64 8])
end Go.Proofs.YtohabohifjadgaaDoor

/- Contents octets and the numbers that they hold: one to one. Plain Lean; Encode of the reference, walked. -/
namespace Go.Proofs.YtohabohifjadgaaDoor
open Go.Am
open Go.Lib (decDigits)
set_option linter.unusedSimpArgs false
set_option linter.unusedVariables false

/-- The numbers in contents octets; 'begun': within a number, of which n was read. -/
def dec7 (begun : Bool) (n : Nat) : List UInt8 → Option (List Nat)
  | [] => match begun with
    | true => none
    | false => some []
  | x :: r => match !begun && decide (x = 128), decide (n * 128 + x.toNat % 128 ≤ 4294967295), decide (128 ≤ x.toNat) with
    | false, true, true => dec7 true (n * 128 + x.toNat % 128) r
    | false, true, false => (dec7 false 0 r).map fun l => (n * 128 + x.toNat % 128) :: l
    | _, _, _ => none
def dec7r (n : Nat) : List UInt8 → Option (List Nat)
  | [] => some []
  | x :: r => match decide (n * 128 + x.toNat % 128 ≤ 4294967295), decide (x.toNat < 128) with
    | true, true => (dec7r 0 r).map fun l => (n * 128 + x.toNat % 128) :: l
    | true, false => dec7r (n * 128 + x.toNat % 128) r
    | _, _ => none
def flat7 (ns : List Nat) : List UInt8 := (ns.map (b128 true)).flatten
/-- The arcs of numbers. -/
def arcsOf (m : Nat) (r : List Nat) : List Nat := min (m / 40) 2 :: (m - 40 * min (m / 40) 2) :: r
def decS (c : List UInt8) : List UInt8 × Int := match dec7 false 0 c with
  | some (m :: r) => (textF (arcsOf m r), 0)
  | _ => ([], 6)
def decOD (c : List UInt8) : Dat := .tup [sD (decS c).1, .int .i64 (decS c).2]

end Go.Proofs.YtohabohifjadgaaDoor

/- What octets are decoded as; what an encoding is decoded as: plain. -/
namespace Go.Proofs.YtohabohifjadgaaDoor
open Go.Am
open Go.Lib (decDigits)
set_option linter.unusedSimpArgs false
set_option linter.unusedVariables false

end Go.Proofs.YtohabohifjadgaaDoor

/- The elements of a SEQUENCE, as facts on each: plain Lean. No program. -/
namespace Go.Am
set_option linter.unusedSimpArgs false
set_option linter.unusedVariables false

/-- What is known of the elements of a constructed one. -/
structure Els (b : List UInt8) (l : List El) (ts : List (UInt8 × List UInt8)) : Prop where
  len : l.length = ts.length
  good : ∀ t ∈ ts, goodT t
  size : (catF ts).length ≤ 2147483647
  tag : ∀ k (h : k < l.length) (h' : k < ts.length), l[k].x = ts[k].1
  body : ∀ k (h : k < l.length) (h' : k < ts.length), cut b l[k].bd l[k].en = ts[k].2
  whole : ∀ k (h : k < l.length) (h' : k < ts.length), cut b l[k].st l[k].en = putF ts[k].1 ts[k].2
  le : ∀ k (h : k < l.length), l[k].st ≤ l[k].bd ∧ l[k].bd ≤ l[k].en ∧ l[k].en ≤ b.length
end Go.Am

/- A result that is a row of its own lies in new blocks only. No program. -/
namespace Go.Am
open Go.RowKit
set_option linter.unusedSimpArgs false
set_option linter.unusedVariables false

section
variable {P : Program} {Γ : Env} {Q : Exit → St → Prop} {σ : St}
end
end Go.Am
