/- The abstract machine, tenth part: rows are made, written and appended to. No program. -/
import Derived.Test.YtaenfbgamkieiaaDoorAmI
namespace Go.Am
open Go.RowKit
set_option linter.unusedSimpArgs false
set_option linter.unusedVariables false

section
variable {P : Program} {Γ : Env} {Q : Exit → St → Prop} {σ : St} {ty : TypeId → Option TI}

theorem cell_index_ne {es k k' j j' : Nat} (hj : j < es) (hj' : j' < es) (hk : k ≠ k') : k * es + j ≠ k' * es + j' := by
  intro h
  rcases Nat.lt_or_gt_of_ne hk with h1 | h1
  · have : (k + 1) * es ≤ k' * es := Nat.mul_le_mul_right _ h1
    rw [Nat.add_mul, Nat.one_mul] at this
    omega
  · have : (k' + 1) * es ≤ k * es := Nat.mul_le_mul_right _ h1
    rw [Nat.add_mul, Nat.one_mul] at this
    omega
theorem mul_lt_of {es k n j : Nat} (hk : k < n) (hj : j < es) : k * es + j < n * es := by
  have : (k + 1) * es ≤ n * es := Nat.mul_le_mul_right _ hk
  rw [Nat.add_mul, Nat.one_mul] at this
  omega

theorem ev_cells {C : Ct} {ti : TI} {x : AV} {d : Dat} {v : Value} (hd : RepD C.w C.pr d v) (hf : Fits ti.ek d) (h1 : ti.agg = false → ti.size = 1) :
    v.cells.size = ti.size ∧ d.cells.length = ti.size ∧ ∀ j y, d.cells[j]? = some y → RepD C.w C.pr y (v.cells.getD j undef) := by
  have hl := hf.len
  rw [TI.esz_ek h1] at hl
  unfold TI.ek at hf
  cases ha : ti.agg with
  | true =>
    rw [ha] at hf
    obtain ⟨cs, rfl, hcl, hc1⟩ := hf
    cases hd with
    | agg cs vs hs h1 hr => exact ⟨by rw [← hcl]; exact hs, hcl, hr⟩
  | false =>
    rw [ha] at hf
    have hone := hd.oneCell hf
    have hc : v.cells = #[v] := by cases v <;> simp_all [Value.cells, Value.oneCell']
    have hdc : d.cells = [d] := by
      have : d.one = true := hf
      cases d <;> simp_all [Dat.one, Dat.cells]
    rw [hc, hdc]
    refine ⟨by simpa using (h1 ha).symm, by simpa using (h1 ha).symm, fun j y hj => ?_⟩
    match j, hj with
    | 0, hj => simp at hj; subst hj; simpa using hd

theorem aops_storeElt (hT : TyOk P ty) {ops rest : List Oper} {o : Oper} {t : TypeId} {x z : Operand} {ti : TI} {y : AV} {d : Dat} {i k : Nat} {ek : Option Nat} {e : TypeId} {xs : List Dat} (hw : wantedA ops σ o = some true) (hd : o.dst = none) (ho : o.op = .store t x z) (ht : ty t = some ti)
    (hx : σ.ev ty 0 x = some (.elt i ek k)) (hz : σ.ev ty t z = some y) (hob : σ.obj i = some (.row ek e xs)) (hek : ekB ek ti.ek = true) (hdat : datOf σ y = some d) (hf : Fits ek d) (hk : k < xs.length)
    (kk : AOps P Γ ops Q rest (σ.setO i (.row ek e (xs.set k d)))) : AOps P Γ ops Q (o :: rest) σ :=
  aops_step hw fun C0 a C K R b ev m hK => by
    have hek' := ekB_eq hek
    have h1s := hT.one t ti ht
    have hes : esz ek = ti.size := by rw [hek']; exact hT.esz ht
    have hdr := datOf_sound m hdat (ev_sound m hz)
    obtain ⟨c1, c2, c4⟩ := ev_cells (x := y) hdr (by rw [← hek']; exact hf) h1s
    have hrx := ev_sound m hx
    obtain ⟨hi, vals, hown, hp, hcr⟩ := m.ob i _ hob
    rcases hown.2 with ⟨_, h0⟩ | ⟨g, cap, cur, hρ, hB, hheap, hnc, hcm, hcs, htake⟩
    · omega
    have hbl : blk (C.ρ i) = some g := by rw [hρ]; rfl
    have hpg := hp g hbl
    have hv : a.eval x = .pointer (some ⟨g, k * esz ek, none⟩) := by
      generalize a.eval x = v at hrx
      cases hrx with
      | elt i' ek' k' g' hi' hg' =>
        rw [hρ] at hg'
        have : g = g' := by simpa [blk] using hg'
        rw [this]
    have hfit : k * esz ek + (a.eval z).cells.toList.length ≤ cur.size := by
      have : (k + 1) * esz ek ≤ cap * esz ek := Nat.mul_le_mul_right _ (by omega)
      rw [Nat.add_mul, Nat.one_mul] at this
      rw [hcs]
      simp [c1, ← hes]
      omega
    have hlen : (a.eval z).cells.toList.length = esz ek := by rw [hes]; simpa using c1
    have hone : ∀ u ∈ (a.eval z).cells.toList, u.oneCell' = true := by
      intro u hu
      obtain ⟨j, hj⟩ := List.mem_iff_getElem?.1 hu
      have hjl : j < d.cells.length := by
        have := (List.getElem?_eq_some_iff.1 hj).1
        rw [c2, ← c1]; simpa using this
      have := (c4 j d.cells[j] (List.getElem?_eq_getElem hjl)).oneCell (hf.one _ (List.getElem_mem hjl))
      have hg : (a.eval z).cells.getD j undef = u := by
        have : (a.eval z).cells[j]? = some u := by simpa using hj
        simp [this]
      rwa [hg] at this
    have hrun := run_storeAt_row (P := P) hT ht (off := k * esz ek) (v := a.eval z) hheap c1 (by rw [hlen, hes] at hfit; rw [hes]; exact hfit) hone
    have hop : (execOp a.eval o).run P C.w = .ok .skip (C.w.setRow g (cur.toList.take (k * esz ek) ++ (a.eval z).cells.toList ++ cur.toList.drop (k * esz ek + (a.eval z).cells.toList.length)).toArray) := by
      unfold execOp
      simp only [ho, Sem.run_bind, hv, hrun, Result.andThen_ok, Sem.run_pure]
    have hsp := fun j => splice_get cur.toList (a.eval z).cells.toList (k * esz ek) j (by simpa using hfit)
    generalize hL : cur.toList.take (k * esz ek) ++ (a.eval z).cells.toList ++ cur.toList.drop (k * esz ek + (a.eval z).cells.toList.length) = L at hrun hop hsp
    have hLl : L.length = cur.size := by
      rw [← hL]
      have := hfit
      simp at this ⊢
      omega
    have hev := Ct.turn_evo (C := C) (cs := L.toArray) hpg hB
    have m' := m.turn (o' := .row ek e (xs.set k d)) (cs := L.toArray) hob rfl hbl rfl (by
      refine ⟨hi, L.take ((xs.set k d).length * esz ek), ⟨?_, .inr ⟨g, cap, L.toArray, ?_, hB, setRow_heap C.w g cur _ e (0, 0) hheap, by simpa using hnc, hcm, by simp [hLl, hcs], by simp⟩⟩, hp, ?_⟩
      · have : xs.length * esz ek ≤ cap * esz ek := Nat.mul_le_mul_right _ hnc
        rw [List.length_take, hLl, hcs, List.length_set]
        exact Nat.min_eq_left this
      · show C.ρ i = _
        rw [hρ, List.length_set]
      · intro k' x' hk'
        rw [List.getElem?_set] at hk'
        have hk'l : k' < xs.length := by
          split at hk'
          · omega
          · exact (List.getElem?_eq_some_iff.1 hk').1
        have key : ∀ j, j < esz ek → (L.take ((xs.set k d).length * esz ek))[k' * esz ek + j]? = L[k' * esz ek + j]? := fun j hj => by
          rw [List.getElem?_take, if_pos (by simpa using mul_lt_of hk'l hj)]
        split at hk'
        · rename_i e
          subst e
          cases hk'
          refine ⟨hf, fun j q hj => ?_⟩
          have hjl : j < esz ek := by rw [hes, ← c2]; exact (List.getElem?_eq_some_iff.1 hj).1
          refine ⟨(a.eval z).cells.getD j undef, ?_, (c4 j q hj).mono hev.kept⟩
          show (L.take ((xs.set k d).length * esz ek))[k * esz ek + j]? = _
          rw [key j hjl, hsp, if_neg (by omega), if_pos (by omega)]
          have : j < (a.eval z).cells.size := by rw [c1, ← hes]; exact hjl
          have h3 : k * esz ek + j - k * esz ek = j := by omega
          simp [h3, this]
        · rename_i hne
          obtain ⟨hf', h2⟩ := hcr k' x' hk'
          refine ⟨hf', fun j q hj => ?_⟩
          obtain ⟨u, hu, hr⟩ := h2 j q hj
          have hjl : j < esz ek := by rw [← hf'.len]; exact (List.getElem?_eq_some_iff.1 hj).1
          refine ⟨u, ?_, hr.mono hev.kept⟩
          show (L.take ((xs.set k d).length * esz ek))[k' * esz ek + j]? = _
          rw [key j hjl, hsp]
          have hold : cur.toList[k' * esz ek + j]? = some u := by
            have hu : vals[k' * esz ek + j]? = some u := hu
            rw [← htake, List.getElem?_take] at hu
            split at hu
            · exact hu
            · cases hu
          split
          · exact hold
          · split
            · rename_i h4 h5
              have : k * esz ek + (k' * esz ek + j - k * esz ek) = k' * esz ek + j := by omega
              exact absurd this (cell_index_ne (by omega) hjl hne)
            · exact hold)
    refine upon_skip hop ?_
    rw [hd]
    exact hK a (C.turn _) _ m' (ev.trans hev) kk

/-! ### New rows -/
theorem new_row {C : Ct} {id : Nat} (hid : C.ok id = false) (hB : C.B ≤ C.w.heap.size) {ek : Option Nat} {e : TypeId} {xs : List Dat} {vs : Array Value} (cap : Nat) (hn : xs.length ≤ cap) (hm : cap ≤ maxLen) (hl : vs.size = cap * esz ek) (h : CellsRep C.w C.pr ek xs (fun j => vs[j]?)) :
    ORep (C.new id (.cells vs e) (.slice (some ⟨C.w.heap.size, 0, none⟩) xs.length cap)) id (.row ek e xs) := by
  have ev := Ct.new_evo hid hB (.cells vs e) (.slice (some ⟨C.w.heap.size, 0, none⟩) xs.length cap)
  have hle : xs.length * esz ek ≤ cap * esz ek := Nat.mul_le_mul_right _ hn
  refine ⟨by simp [Ct.new], vs.toList.take (xs.length * esz ek), ⟨by
      have h9 : vs.toList.length = cap * esz ek := by simpa using hl
      rw [List.length_take, h9]
      exact Nat.min_eq_left hle, .inr ⟨C.w.heap.size, cap, vs, by simp [Ct.new], hB, heap_alloc_new C.w _, hn, hm, hl, rfl⟩⟩, ?_, ?_⟩
  · intro g hg
    simp [Ct.new, blk] at hg
    subst hg
    simp [Ct.new]
  · intro k x hk
    obtain ⟨h1, h2⟩ := h k x hk
    refine ⟨h1, fun j y hj => ?_⟩
    obtain ⟨u, hu, hr⟩ := h2 j y hj
    refine ⟨u, ?_, hr.mono ev.kept⟩
    have hjl : j < esz ek := by rw [← h1.len]; exact (List.getElem?_eq_some_iff.1 hj).1
    show (vs.toList.take (xs.length * esz ek))[k * esz ek + j]? = _
    have hu : vs[k * esz ek + j]? = some u := hu
    rw [List.getElem?_take, if_pos (mul_lt_of (List.getElem?_eq_some_iff.1 hk).1 hjl)]
    simpa using hu

def TI.zdat (ti : TI) : Dat := match ti.agg with
  | true => .agg ti.zd
  | false => ti.zd.getD 0 default
theorem zdat_fits (hT : TyOk P ty) {t : TypeId} {ti : TI} (ht : ty t = some ti) : Fits ti.ek ti.zdat := by
  unfold TI.ek TI.zdat
  obtain ⟨hz1, hz2⟩ := hT.zsize _ _ ht
  cases ha : ti.agg with
  | true => exact ⟨_, rfl, hz2, hT.zone _ _ ht⟩
  | false =>
    have h1 := hT.one _ _ ht ha
    have hlt : 0 < ti.zd.length := by omega
    have : ti.zd.getD 0 default = ti.zd[0] := by simp [hlt]
    show (ti.zd.getD 0 default).one = true
    rw [this]
    exact hT.zone _ _ ht _ (List.getElem_mem hlt)
theorem zdat_cells (hT : TyOk P ty) {t : TypeId} {ti : TI} (ht : ty t = some ti) : ti.zdat.cells = ti.zd := by
  have hf := zdat_fits hT ht
  unfold TI.ek at hf
  unfold TI.zdat at hf ⊢
  cases ha : ti.agg with
  | true => rfl
  | false =>
    rw [ha] at hf
    have h1 := hT.one _ _ ht ha
    obtain ⟨hz1, hz2⟩ := hT.zsize _ _ ht
    have hl : ti.zd.length = 1 := by omega
    match hz : ti.zd, hl with
    | [z], _ =>
      rw [hz] at hf
      have : z.one = true := hf
      show (Dat.cells z) = [z]
      cases z <;> simp_all [Dat.one, Dat.cells]

theorem aops_make (hT : TyOk P ty) {ops rest : List Oper} {o : Oper} {t e : TypeId} {x z : Operand} {ti ei : TI} {kl kc : IntKind} {n n' : Int} (hw : wantedA ops σ o = some true) (hd : dstOk σ o.dst = true) (ho : o.op = .makeSlice t x z) (ht : ty t = some ti) (hde : ti.desc = .slice e) (he : ty e = some ei)
    (hx : σ.ev ty 0 x = some (.d (.int kl n))) (hz : σ.ev ty 0 z = some (.d (.int kc n'))) (hn : n = n') (h0 : 0 ≤ n) (hb : Nat.ble ei.bytes 128 = true) (hN : n ≤ 1099511627776)
    (k : AOps P Γ ops Q rest ((σ.add none (.row ei.ek e (List.replicate n.toNat ei.zdat))).put o.dst (.ref σ.nx))) : AOps P Γ ops Q (o :: rest) σ :=
  aops_step hw fun C0 a C K R b ev m hk => by
    subst hn
    have hB := (b.evo ev).B
    have hes := hT.esz he
    obtain ⟨j, hj, hjs, hjb, hjz⟩ := hT.info _ _ he
    obtain ⟨hz1, hz2⟩ := hT.zsize _ _ he
    have hu := hT.und _ _ ht
    rw [hde] at hu
    have hx' := Rep.int_inv (ev_sound m hx)
    have hz' := Rep.int_inv (ev_sound m hz)
    have hble := Nat.le_of_ble_eq_true hb
    have hbytes : (j.bytes : Int) * n ≤ 281474976710656 := by
      have h1 : (j.bytes : Int) * n ≤ 128 * n := Int.mul_le_mul_of_nonneg_right (by rw [hjb]; omega) h0
      omega
    have hrun : (execOp a.eval o).run P C.w = .ok (.value (.slice (some ⟨C.w.heap.size, 0, none⟩) n.toNat n.toNat)) (C.w.alloc (.cells (madeCells ei.zero.cells (n.toNat * ei.size)) e)) := by
      unfold execOp
      simp only [ho, hx', hz']
      refine run_value ?_
      rw [run_make C.w t e j ei.zero hu hj hjz kl kc n n h0 (Int.le_refl _) hbytes (by omega), hjs]
    have hmx : n.toNat ≤ maxLen := by simp only [maxLen]; omega
    have hlr : (List.replicate n.toNat ei.zdat).length = n.toNat := by simp
    have m' := m.new hB (.cells (madeCells ei.zero.cells (n.toNat * ei.size)) e) (.slice (some ⟨C.w.heap.size, 0, none⟩) n.toNat n.toNat) rfl (.row ei.ek e (List.replicate n.toNat ei.zdat)) (by
      have := new_row (C := C) m.fresh hB (ek := ei.ek) (e := e) (xs := List.replicate n.toNat ei.zdat) (vs := madeCells ei.zero.cells (n.toNat * ei.size)) n.toNat (by simp) hmx (by rw [size_madeCells, hes]) (by
        intro k x hkx
        rw [List.getElem?_replicate] at hkx
        split at hkx
        · rename_i hlt
          cases hkx
          refine ⟨zdat_fits hT he, fun j y hj => ?_⟩
          rw [zdat_cells hT he] at hj
          have hjl : j < ei.size := by rw [← hz2]; exact (List.getElem?_eq_some_iff.1 hj).1
          refine ⟨ei.zero.cells.getD j undef, ?_, hT.zrep _ _ he _ _ j y hj⟩
          have hlt2 : k * ei.size + j < n.toNat * ei.size := mul_lt_of hlt hjl
          have hmod : (k * ei.size + j) % ei.zero.cells.size = j := by rw [hz1, Nat.mul_comm, Nat.mul_add_mod]; exact Nat.mod_eq_of_lt hjl
          have hjz' : j < ei.zero.cells.size := by rw [hz1]; exact hjl
          simp only [madeCells, hes]
          simp [hlt2, hmod, hjz']
        · cases hkx)
      rw [hlr] at this
      exact this)
    refine upon_value hrun (hk _ (C.new _ _ _) _ (m'.put (v := .slice (some ⟨C.w.heap.size, 0, none⟩) n.toNat n.toNat) ?_ (dstOk_spec hd)) (ev.trans (Ct.new_evo m.fresh hB _ _)) k)
    exact .ref _ (by simp [Ct.new]) _ (by simp [Ct.new]) rfl
end
end Go.Am
