/- The abstract machine, fourth part: an operation that leaves the world as it is yields what was computed. No program. -/
import Derived.Test.YtaenfbgamkieiaaDoorAmC
namespace Go.Am
open Go.RowKit
set_option linter.unusedSimpArgs false
set_option linter.unusedVariables false

section
variable {P : Program} {ty : TypeId → Option TI}

theorem run_loadAt (hT : TyOk P ty) {t : TypeId} {i : TI} (ht : ty t = some i) (w : World) (b off : Nat) (vals : List Value) (hl : vals.length = i.size)
    (hv : ∀ (j : Nat) (v : Value), vals[j]? = some v → w.cell? ⟨b, off + j, none⟩ = some v) :
    (Instr.loadAt t (.pointer (some ⟨b, off, none⟩))).run P w = .ok (if i.agg then .agg vals.toArray else vals.getD 0 undef) w := by
  have hlc : (loadCells ⟨b, off, none⟩ i.size).run P w = .ok vals.toArray w := by
    rw [← hl]
    exact run_loadCells_list (P := P) w ⟨b, off, none⟩ vals (fun j v hj => by rw [Addr.add_lit]; exact hv j v hj)
  unfold Instr.loadAt Instr.sureAddr loadVar
  simp only [Sem.run_bind, Sem.run_pure, Result.andThen_ok, hT.run_agg ht]
  cases ha : i.agg with
  | true => simp only [if_true, Sem.run_bind, hT.run_size ht, Result.andThen_ok, hlc]; rfl
  | false =>
    have h1 := hT.one t i ht ha
    rw [h1] at hl
    match vals, hl with
    | [v], _ =>
      have := hv 0 v rfl
      simp only [Nat.add_zero] at this
      simp [load, Sem.run, this]

theorem loadAV_sound (hT : TyOk P ty) {σ : St} {a : Act} {c : Ct} (hM : Models σ a c) {t : TypeId} {i : TI} (ht : ty t = some i) {x y : AV} {p : Prop} {v : Value} (h : loadAV σ i x = some (p, y)) (hp : p) (hx : Rep c x v) :
    ∃ u, (Instr.loadAt t v).run P c.w = .ok u c.w ∧ Rep c y u := by
  unfold loadAV at h
  split at h
  · rename_i o off
    cases hx with
    | ptr i' off' g hi hg =>
      split at h
      · rename_i bt cs ho
        obtain ⟨_, g', cur, hρ, hpr, _, hheap, hsz, h1, hr⟩ := hM.ob _ _ ho
        have hgg : g' = g := by rw [hρ] at hg; simpa [blk] using hg
        subst hgg
        split at h
        · rename_i hagg
          split at h
          · rename_i hle
            cases h
            have hle' := Nat.le_of_ble_eq_true hle
            have hl : ((cur.toList.drop off).take i.size).length = i.size := by simp [hsz]; omega
            refine ⟨_, run_loadAt hT ht c.w g' off ((cur.toList.drop off).take i.size) hl (fun j v hj => ?_), ?_⟩
            · rw [List.getElem?_take] at hj
              split at hj
              · rw [List.getElem?_drop] at hj
                rw [cell_of_row c.w g' _ cur bt (0, 0) hheap]
                simpa using hj
              · cases hj
            · rw [hagg, if_pos rfl]
              refine .agg _ _ (by simp [hsz]) (fun y hy => h1 y (List.mem_of_mem_drop (List.mem_of_mem_take hy))) (fun j y hj => ?_)
              rw [List.getElem?_take] at hj
              split at hj
              · rename_i hji
                rw [List.getElem?_drop] at hj
                have := hr _ y hj
                simpa [List.getElem?_take, hji, List.getElem?_drop] using this
              · cases hj
          · cases h
        · rename_i hagg
          split at h
          · rename_i y' hy'
            cases h
            have hlt : off < cur.size := by rw [hsz]; exact (List.getElem?_eq_some_iff.1 hy').1
            refine ⟨_, run_loadAt hT ht c.w g' off [cur.getD off undef] (by simp [hT.one t i ht hagg]) (fun j v hj => ?_), ?_⟩
            · match j, hj with
              | 0, hj =>
                simp only [List.getElem?_cons_zero, Option.some.injEq] at hj
                rw [Nat.add_zero, cell_of_row c.w g' _ cur bt (0, 0) hheap, ← hj]
                simp [hlt]
            · rw [hagg]
              exact hr _ _ hy'
          · cases h
      · cases h
  · rename_i o ek k
    cases hx with
    | elt i' ek' k' g hi hg =>
      split at h
      · rename_i ek2 e xs ho
        split at h
        · rename_i he1 he2
          cases h
          have := ekB_eq he1
          subst this
          have hek := ekB_eq he2
          have hsl := SlAt.of_row (hM.ob _ _ ho)
          obtain ⟨A, cap, hv, _, _, hf, _, hcell⟩ := hsl
          obtain ⟨b, off, hA, hc⟩ := hcell (by omega)
          rw [hv, hA] at hg
          have hbg : b = g := by simpa [blk] using hg
          subst hbg
          -- the row starts at 0
          have hoff : off = 0 := by
            obtain ⟨_, vals, hown, _⟩ := hM.ob _ _ ho
            rcases hown.2 with ⟨hn, _⟩ | ⟨g2, cap2, cur, hv2, _⟩
            · rw [hv] at hn; rw [hA] at hn; simp at hn
            · rw [hv, hA] at hv2
              simp at hv2
              exact hv2.1.2
          subst hoff
          have hxk : xs[k]? = some (xs.getD k default) := by simp [hp]
          have hfit := hf _ (List.mem_of_getElem? hxk)
          have hlen := hfit.len
          have hes : esz ek = i.size := by rw [hek]; exact hT.esz ht
          let m := xs.getD k default
          have hvals : ∀ (j : Nat) (v : Value), ((List.range i.size).map fun j => (c.w.cell? ⟨b, k * esz ek + j, none⟩).getD undef)[j]? = some v → c.w.cell? ⟨b, k * esz ek + j, none⟩ = some v := by
            intro j v hj
            rw [List.getElem?_map] at hj
            obtain ⟨j', hj', rfl⟩ := Option.map_eq_some_iff.1 hj
            have hjl : j < i.size := by have := (List.getElem?_eq_some_iff.1 hj').1; simpa using this
            have : j' = j := by simpa [hjl] using hj'.symm
            subst this
            have hjc : j' < (xs.getD k default).cells.length := by rw [hlen, hes]; exact hjl
            obtain ⟨u, hu, _⟩ := hc k _ hxk j' _ (List.getElem?_eq_getElem hjc)
            simp only [Nat.zero_add] at hu
            rw [hu]; rfl
          refine ⟨_, run_loadAt hT ht c.w b (k * esz ek) ((List.range i.size).map fun j => (c.w.cell? ⟨b, k * esz ek + j, none⟩).getD undef) (by simp) hvals, ?_⟩
          refine .d ?_
          cases hagg : i.agg with
          | true =>
            rw [if_pos rfl]
            have hek' : ek = some i.size := by rw [hek]; simp [TI.ek, hagg]
            rw [hek'] at hfit
            obtain ⟨cs, hcs, hcl, hc1⟩ := hfit
            rw [hcs]
            refine .agg cs _ (by simp [hcl]) hc1 (fun j y hj => ?_)
            obtain ⟨u, hu, hr⟩ := hc k _ hxk j y (by rw [hcs]; exact hj)
            simp only [Nat.zero_add] at hu
            have hjl : j < i.size := by rw [← hcl]; exact (List.getElem?_eq_some_iff.1 hj).1
            simpa [hjl, hu] using hr
          | false =>
            have h1 := hT.one t i ht hagg
            have hek' : ek = none := by rw [hek]; simp [TI.ek, hagg]
            have hcs : (xs.getD k default).cells = [xs.getD k default] := by
              rw [hek'] at hfit
              generalize xs.getD k default = z at hfit
              cases z <;> simp_all [Fits, Dat.one, Dat.cells]
            obtain ⟨u, hu, hr⟩ := hc k _ hxk 0 (xs.getD k default) (by rw [hcs]; rfl)
            simp only [Nat.zero_add, Nat.add_zero] at hu
            simpa [h1, hu] using hr
        · cases h
      · cases h
  · rename_i ek z
    cases hx with
    | at_ ek' x' b off hf hm =>
      split at h
      · rename_i he
        cases h
        have hek := ekB_eq he
        have hlen := hf.len
        have hes : esz ek = i.size := by rw [hek]; exact hT.esz ht
        have hvals : ∀ (j : Nat) (v : Value), ((List.range i.size).map fun j => (c.w.cell? ⟨b, off + j, none⟩).getD undef)[j]? = some v → c.w.cell? ⟨b, off + j, none⟩ = some v := by
          intro j v hj
          rw [List.getElem?_map] at hj
          obtain ⟨j', hj', rfl⟩ := Option.map_eq_some_iff.1 hj
          have hjl : j < i.size := by have := (List.getElem?_eq_some_iff.1 hj').1; simpa using this
          have : j' = j := by simpa [hjl] using hj'.symm
          subst this
          have hjc : j' < z.cells.length := by rw [hlen, hes]; exact hjl
          obtain ⟨_, _, u, hu, _⟩ := hm j' _ (List.getElem?_eq_getElem hjc)
          rw [hu]; rfl
        refine ⟨_, run_loadAt hT ht c.w b off ((List.range i.size).map fun j => (c.w.cell? ⟨b, off + j, none⟩).getD undef) (by simp) hvals, ?_⟩
        refine .d ?_
        cases hagg : i.agg with
        | true =>
          rw [if_pos rfl]
          have hek' : ek = some i.size := by rw [hek]; simp [TI.ek, hagg]
          rw [hek'] at hf
          obtain ⟨cs, hcs, hcl, hc1⟩ := hf
          subst hcs
          refine .agg cs _ (by simp [hcl]) hc1 (fun j y hj => ?_)
          obtain ⟨_, _, u, hu, hr⟩ := hm j y hj
          have hjl : j < i.size := by rw [← hcl]; exact (List.getElem?_eq_some_iff.1 hj).1
          simpa [hjl, hu] using hr
        | false =>
          have h1 := hT.one t i ht hagg
          have hek' : ek = none := by rw [hek]; simp [TI.ek, hagg]
          have hcs : z.cells = [z] := by
            rw [hek'] at hf
            cases z <;> simp_all [Fits, Dat.one, Dat.cells]
          obtain ⟨_, _, u, hu, hr⟩ := hm 0 z (by rw [hcs]; rfl)
          simp only [Nat.add_zero] at hu
          simpa [h1, hu] using hr
      · cases h
  · cases h
end
end Go.Am
