/- The abstract machine, eleventh part: slice literals; append. No program. -/
import Derived.Test.YtaenfbgamkieiaaDoorAmJ
namespace Go.Am
open Go.RowKit
set_option linter.unusedSimpArgs false
set_option linter.unusedVariables false

section
variable {P : Program} {Γ : Env} {Q : Exit → St → Prop} {σ : St} {ty : TypeId → Option TI}

theorem one_cells {v : Value} (h : v.oneCell' = true) : v.cells = #[v] := by cases v <;> simp_all [Value.cells, Value.oneCell']
theorem dat_one_cells {d : Dat} (h : d.one = true) : d.cells = [d] := by cases d <;> simp_all [Dat.one, Dat.cells]
/-- The parts of a slice literal, in order, each one cell. -/
def litParts (σ : St) (ty : TypeId → Option TI) (e : TypeId) : Nat → List (Nat × Operand) → Option (List Dat)
  | _, [] => some []
  | k, (i, x) :: r => match Nat.beq i k with
    | true => match σ.ev ty e x with
      | some y => match datOf σ y, litParts σ ty e (k + 1) r with
        | some d, some l => match d.one with
          | true => some (d :: l)
          | false => none
        | _, _ => none
      | none => none
    | false => none

theorem litParts_sound {a : Act} {C : Ct} (m : Models σ a C) {e : TypeId} : ∀ {l : List (Nat × Operand)} {k : Nat} {ds : List Dat}, litParts σ ty e k l = some ds → ds.length = l.length ∧ (∀ d ∈ ds, d.one = true) ∧
    (∀ (j : Nat) (p : Nat × Operand), l[j]? = some p → p.1 = k + j) ∧ ∀ (j : Nat) (p : Nat × Operand) (d : Dat), l[j]? = some p → ds[j]? = some d → RepD C.w C.pr d (a.eval p.2)
  | [], k, ds, h => by cases h; simp
  | (i, x) :: r, k, ds, h => by
    unfold litParts at h
    split at h
    · rename_i hb
      split at h
      · rename_i y hy
        split at h
        · rename_i d l hd hl
          split at h
          · rename_i h1
            cases h
            obtain ⟨i1, i2, i3, i4⟩ := litParts_sound m hl
            refine ⟨by simp [i1], ?_, ?_, ?_⟩
            · intro z hz
              rcases List.mem_cons.1 hz with rfl | hz
              · exact h1
              · exact i2 z hz
            · intro j p hp
              cases j with
              | zero => simp at hp; subst hp; simpa using Nat.eq_of_beq_eq_true hb
              | succ j => have := i3 j p (by simpa using hp); omega
            · intro j p q hp hq
              cases j with
              | zero => simp at hp hq; subst hp; subst hq; exact datOf_sound m hd (ev_sound m hy)
              | succ j => exact i4 j p q (by simpa using hp) (by simpa using hq)
          · cases h
        · cases h
      · cases h
    · cases h

theorem fill_lit : ∀ (l : List (Nat × Value)) (k : Nat) (cells : Array Value), (∀ (j : Nat) (p : Nat × Value), l[j]? = some p → p.1 = k + j ∧ p.2.cells = #[p.2]) → k + l.length ≤ cells.size →
    ∃ cs, Instr.fill (fun i => some (i * 1, 1)) cells l = some cs ∧ cs.size = cells.size ∧ (∀ j, j < k → cs[j]? = cells[j]?) ∧ ∀ (j : Nat) (p : Nat × Value), l[j]? = some p → cs[k + j]? = some p.2
  | [], k, cells, _, _ => ⟨cells, rfl, rfl, fun _ _ => rfl, by simp⟩
  | (i, v) :: r, k, cells, h, hl => by
    obtain ⟨hi, hv⟩ := h 0 (i, v) rfl
    simp only [Nat.add_zero] at hi
    simp only at hv
    subst hi
    simp only [List.length_cons] at hl
    obtain ⟨cs, h1, h2, h3, h4⟩ := fill_lit r (i + 1) (cells.setIfInBounds i v) (fun j p hp => by
      have := h (j + 1) p (by simpa using hp)
      exact ⟨by omega, this.2⟩) (by simp; omega)
    refine ⟨cs, ?_, by simpa using h2, fun j hj => ?_, fun j p hp => ?_⟩
    · simp only [Instr.fill, hv]
      rw [if_neg (by simp; omega)]
      simpa using h1
    · rw [h3 j (by omega), Array.getElem?_setIfInBounds_ne (by omega)]
    · cases j with
      | zero =>
        simp at hp
        subst hp
        rw [Nat.add_zero, h3 i (by omega)]
        have hi : i < cells.size := by omega
        simp [hi]
      | succ j =>
        have := h4 j p (by simpa using hp)
        rw [show i + (j + 1) = i + 1 + j by omega]
        exact this

theorem run_lit {t e : TypeId} {n : Nat} {parts : Array (Nat × Value)} {cs : Array Value} {j : TypeInfo} {z : Value} (hu : P.underlying t = some (.slice e)) (hie : P.info? e = some j) (hjs : j.size = 1) (hz : j.zero = some z) (hsmall : n ≤ 16777216) (w : World)
    (h : ∀ zc : Array Value, (n = 0 → zc = #[]) → (n ≠ 0 → zc = z.cells) → Instr.fill (fun i => some (i * 1, 1)) ((Array.range (n * 1)).map (zc[· % zc.size]!)) parts.toList = some cs) :
    (Instr.buildSlice t n parts).run P w = .ok (.slice (some ⟨w.heap.size, 0, none⟩) n n) (w.alloc (.cells cs e)) := by
  have hs : ¬ n * 1 > 16777216 := by omega
  have hs' : ¬ 16777216 < n := by omega
  by_cases hn : n = 0
  · subst hn
    have hf := h #[] (fun _ => rfl) (fun hh => absurd rfl hh)
    simp [Instr.buildSlice, run_underlying hu, sizeOf, typeInfo, hie, hjs, newRow] at hf ⊢
    simp [hf]
  · have hf := h z.cells (fun hh => absurd hh hn) (fun _ => rfl)
    simp [Instr.buildSlice, run_underlying hu, sizeOf, typeInfo, zeroValue, hie, hz, hjs, hs', hn, newRow] at hf ⊢
    simp [hf]
theorem aops_lit (hT : TyOk P ty) {ops rest : List Oper} {o : Oper} {t e : TypeId} {n : Nat} {parts : Array (Nat × Operand)} {ti ei : TI} {ds : List Dat} (hw : wantedA ops σ o = some true) (hd : dstOk σ o.dst = true) (ho : o.op = .buildSlice t n parts) (ht : ty t = some ti) (hde : ti.desc = .slice e) (he : ty e = some ei)
    (hek : ei.agg = false) (hp : litParts σ ty e 0 parts.toList = some ds) (hn : Nat.beq n ds.length = true) (hN : Nat.ble n 16777216 = true)
    (k : AOps P Γ ops Q rest ((σ.add none (.row none e ds)).put o.dst (.ref σ.nx))) : AOps P Γ ops Q (o :: rest) σ :=
  aops_step hw fun C0 a C K R b ev m hk => by
    have hB := (b.evo ev).B
    have hn' := Nat.eq_of_beq_eq_true hn
    have hN' := Nat.le_of_ble_eq_true hN
    obtain ⟨j, hj, hjs, _, hjz⟩ := hT.info _ _ he
    have h1s := hT.one _ _ he hek
    obtain ⟨hz1, _⟩ := hT.zsize _ _ he
    have hu := hT.und _ _ ht
    rw [hde] at hu
    obtain ⟨i1, i2, i3, i4⟩ := litParts_sound m hp
    obtain ⟨L, hL⟩ : ∃ L, L = parts.toList.map fun (i, x) => (i, a.eval x) := ⟨_, rfl⟩
    have hget : ∀ (j : Nat) (q : Nat × Value), L[j]? = some q → ∃ p, parts.toList[j]? = some p ∧ q = (p.1, a.eval p.2) := by
      intro j q hq
      rw [hL, List.getElem?_map] at hq
      obtain ⟨p, hp, rfl⟩ := Option.map_eq_some_iff.1 hq
      exact ⟨p, hp, rfl⟩
    have hone : ∀ (j : Nat) (q : Nat × Value), L[j]? = some q → q.1 = 0 + j ∧ q.2.cells = #[q.2] := by
      intro j q hq
      obtain ⟨p, hp1, rfl⟩ := hget j q hq
      refine ⟨i3 j p hp1, ?_⟩
      have hjl : j < ds.length := by rw [i1]; exact (List.getElem?_eq_some_iff.1 hp1).1
      have hr := i4 j p ds[j] hp1 (List.getElem?_eq_getElem hjl)
      have := hr.oneCell (i2 _ (List.getElem_mem hjl))
      exact one_cells this
    have hLl : L.length = n := by rw [hL, List.length_map, ← i1, hn']
    obtain ⟨cs, f1, f2, _, f4⟩ := fill_lit L 0 ((Array.range (n * 1)).map ((if n = 0 then #[] else ei.zero.cells)[· % (if n = 0 then #[] else ei.zero.cells).size]!)) hone (by rw [hLl]; simp)
    have hrun : (execOp a.eval o).run P C.w = .ok (.value (.slice (some ⟨C.w.heap.size, 0, none⟩) n n)) (C.w.alloc (.cells cs e)) := by
      unfold execOp
      simp only [ho]
      refine run_value (run_lit hu hj (by rw [hjs, h1s]) hjz hN' C.w (fun zc z0 z1 => ?_))
      have hzc : zc = if n = 0 then #[] else ei.zero.cells := by
        by_cases hn0 : n = 0
        · rw [if_pos hn0]; exact z0 hn0
        · rw [if_neg hn0]; exact z1 hn0
      rw [hzc]
      have : (parts.map fun (i, x) => (i, a.eval x)).toList = L := by rw [hL]; simp
      rw [this]
      exact f1
    have hcs : cs.size = n := by rw [f2]; simp
    have m' := m.new hB (.cells cs e) (.slice (some ⟨C.w.heap.size, 0, none⟩) n n) rfl (.row none e ds) (by
      have := new_row (C := C) m.fresh hB (ek := none) (e := e) (xs := ds) (vs := cs) n (by omega) (by simp only [maxLen]; omega) (by simp [hcs, esz]) (by
        intro k d hk
        have h1 := i2 d (List.mem_of_getElem? hk)
        refine ⟨h1, fun j y hj => ?_⟩
        have hdc := dat_one_cells h1
        rw [hdc] at hj
        match j, hj with
        | 0, hj =>
          simp at hj
          subst hj
          have hkl : k < parts.toList.length := by rw [← i1]; exact (List.getElem?_eq_some_iff.1 hk).1
          have hpk := List.getElem?_eq_getElem hkl
          refine ⟨a.eval (parts.toList[k]).2, ?_, i4 k _ d hpk hk⟩
          have := f4 k (parts.toList[k].1, a.eval (parts.toList[k]).2) (by rw [hL, List.getElem?_map, hpk]; rfl)
          simpa [esz] using this)
      rw [← hn'] at this
      exact this)
    refine upon_value hrun (hk _ (C.new _ _ _) _ (m'.put (v := .slice (some ⟨C.w.heap.size, 0, none⟩) n n) ?_ (dstOk_spec hd)) (ev.trans (Ct.new_evo m.fresh hB _ _)) k)
    exact .ref _ (by simp [Ct.new]) _ (by simp [Ct.new]) rfl

/-! ### append -/
/-- What may be appended to: nil, or a row of the walk's own. -/
def appBase (σ : St) (e : TypeId) : AV → Option (Option Nat × Option Nat × List Dat)
  | .nil ek => some (none, ek, [])
  | .ref i => match σ.obj i with
    | some (.row ek e' xs) => match Nat.beq e e' with
      | true => some (some i, ek, xs)
      | false => none
    | _ => none
  | _ => none

theorem news_of {w : World} {pr : Nat → Bool} {ek : Option Nat} {ys : List Dat} {v : Value} (h : SlAt w pr ek ys v) (hs : 0 < esz ek) :
    ∃ (A : Option Addr) (cap : Nat) (news : List Value), v = .slice A ys.length cap ∧ (A = none → cap = 0 ∧ ys = []) ∧ news.length = ys.length * esz ek ∧ CellsRep w pr ek ys (fun j => news[j]?) ∧ (∀ u ∈ news, u.oneCell' = true) ∧
      ∀ ad, A = some ad → ∀ j u, news[j]? = some u → w.cell? (ad.add j) = some u := by
  obtain ⟨A, cap, rfl, hc, hm, hf, hA, hcell⟩ := h
  rcases Nat.eq_zero_or_pos ys.length with h0 | hpos
  · have : ys = [] := List.eq_nil_of_length_eq_zero h0
    subst this
    exact ⟨A, cap, [], rfl, fun h => ⟨hA h, rfl⟩, by simp, by intro k x hk; simp at hk, by simp, by simp⟩
  · obtain ⟨b, off, rfl, hcc⟩ := hcell hpos
    refine ⟨_, cap, (List.range (ys.length * esz ek)).map (fun q => (w.cell? ⟨b, off + q, none⟩).getD undef), rfl, by simp, by simp, ?_, ?_, ?_⟩
    · intro k x hk
      have hfx := hf x (List.mem_of_getElem? hk)
      refine ⟨hfx, fun j y hj => ?_⟩
      obtain ⟨u, hu, hr⟩ := hcc k x hk j y hj
      refine ⟨u, ?_, hr⟩
      have hjl : j < esz ek := by rw [← hfx.len]; exact (List.getElem?_eq_some_iff.1 hj).1
      have hlt := mul_lt_of (List.getElem?_eq_some_iff.1 hk).1 hjl
      rw [Nat.add_assoc] at hu
      simp [hlt, hu]
    · have key : ∀ q, q < ys.length * esz ek → ∃ u, w.cell? ⟨b, off + q, none⟩ = some u ∧ u.oneCell' = true := by
        intro q hq
        have hk : q / esz ek < ys.length := Nat.div_lt_of_lt_mul (by rw [Nat.mul_comm]; exact hq)
        have hfx := hf _ (List.getElem_mem hk)
        have hj : q % esz ek < (ys[q / esz ek]).cells.length := by rw [hfx.len]; exact Nat.mod_lt _ hs
        obtain ⟨u, hu, hr⟩ := hcc _ _ (List.getElem?_eq_getElem hk) _ _ (List.getElem?_eq_getElem hj)
        refine ⟨u, ?_, hr.oneCell (hfx.one _ (List.getElem_mem hj))⟩
        rw [← hu]
        congr 2
        have := Nat.div_add_mod q (esz ek)
        rw [Nat.mul_comm] at this
        omega
      intro u hu
      obtain ⟨q, hq, rfl⟩ := List.mem_map.1 hu
      obtain ⟨u, h1, h2⟩ := key q (by simpa using hq)
      rw [h1]
      exact h2
    · intro ad had j u hu
      cases had
      rw [Addr.add_lit]
      rw [List.getElem?_map] at hu
      obtain ⟨q, hq, rfl⟩ := Option.map_eq_some_iff.1 hu
      have hjl : j < ys.length * esz ek := by have := (List.getElem?_eq_some_iff.1 hq).1; simpa using this
      have : q = j := by simpa [hjl] using hq.symm
      subst this
      have hk : q / esz ek < ys.length := Nat.div_lt_of_lt_mul (by rw [Nat.mul_comm]; exact hjl)
      have hfx := hf _ (List.getElem_mem hk)
      have hj : q % esz ek < (ys[q / esz ek]).cells.length := by rw [hfx.len]; exact Nat.mod_lt _ hs
      obtain ⟨u, hu, hr⟩ := hcc _ _ (List.getElem?_eq_getElem hk) _ _ (List.getElem?_eq_getElem hj)
      have hcell : w.cell? ⟨b, off + q, none⟩ = some u := by
        rw [← hu]
        congr 2
        have := Nat.div_add_mod q (esz ek)
        rw [Nat.mul_comm] at this
        omega
      rw [hcell]; rfl

theorem blk_own {v : Value} (h : ∃ a n c, v = .slice a n c) : v.ownBlock = blk v := by
  obtain ⟨a, n, c, rfl⟩ := h
  cases a <;> rfl

theorem aops_append (hT : TyOk P ty) {ops rest : List Oper} {o : Oper} {t e : TypeId} {x z : Operand} {ti ei : TI} {y1 y2 : AV} {kill : Option Nat} {ek : Option Nat} {xs ys : List Dat} (hw : wantedA ops σ o = some true) (hd : dstOk σ o.dst = true)
    (ho : o.op = .call { callee := .builtin .append, args := #[x, z], argTypes := #[t, t] }) (ht : ty t = some ti) (hde : ti.desc = .slice e) (he : ty e = some ei)
    (hx : σ.ev ty t x = some y1) (hb : appBase σ e y1 = some (kill, ek, xs)) (hz : σ.ev ty t z = some y2) (hs : σ.sl y2 = some (ek, ys)) (hek : ekB ek ei.ek = true) (h0 : Nat.ble 1 ei.size = true) (hby : Nat.ble ei.bytes 128 = true) (hby1 : Nat.ble 1 ei.bytes = true)
    (hN : xs.length + ys.length ≤ 1099511627776) (k : AOps P Γ ops Q rest ((σ.add kill (.row ek e (xs ++ ys))).put o.dst (.ref σ.nx))) : AOps P Γ ops Q (o :: rest) σ :=
  aops_step hw fun C0 a C K R b ev m hk => by
    have hB := (b.evo ev).B
    have hek' := ekB_eq hek
    have hes : esz ek = ei.size := by rw [hek']; exact hT.esz he
    have hpos : 0 < esz ek := by rw [hes]; exact Nat.le_of_ble_eq_true h0
    obtain ⟨j, hj, hjs, hjb, hjz⟩ := hT.info _ _ he
    obtain ⟨hz1, _⟩ := hT.zsize _ _ he
    have hu := hT.und _ _ ht
    rw [hde] at hu
    have hble := Nat.le_of_ble_eq_true hby
    have hble1 := Nat.le_of_ble_eq_true hby1
    have hbytes : (xs.length + ys.length) * j.bytes ≤ 140737488355328 := by
      have h1 : (xs.length + ys.length) * j.bytes ≤ (xs.length + ys.length) * 128 := Nat.mul_le_mul_left _ (by rw [hjb]; exact hble)
      omega
    -- the base
    obtain ⟨vals, hown, hcr, hpr, hkill⟩ : ∃ vals, C.w.ownsRow C.B e (esz ek) (a.eval x) xs.length vals ∧ CellsRep C.w C.pr ek xs (fun j => vals[j]?) ∧ (∀ g, blk (a.eval x) = some g → C.pr g = false ∧ C.B ≤ g) ∧
        (∀ i, kill = some i → C.ok i = true ∧ C.ρ i = a.eval x ∧ ∃ o, σ.obj i = some o ∧ o.excl = true) ∧ True := by
      have hxr := ev_sound m hx
      unfold appBase at hb
      split at hb
      · cases hb
        generalize a.eval x = v at hxr
        cases hxr
        exact ⟨[], World.ownsRow_nil _ _ _ _, by intro k x hk; simp at hk, by simp [blk], by simp, trivial⟩
      · split at hb
        · rename_i ek' e' xs' hob
          split at hb
          · rename_i hbe
            cases hb
            have := Nat.eq_of_beq_eq_true hbe
            subst this
            generalize hv : a.eval x = v at hxr
            cases hxr with
            | ref i hi v hv' h1 =>
              subst hv'
              obtain ⟨_, vals, hown, hp, hcr⟩ := m.ob _ _ hob
              exact ⟨vals, hown, hcr, fun g hg => ⟨hp g hg, ((m.ob _ _ hob).excl rfl hg).2.2⟩, by
                intro i' hi'
                cases hi'
                exact ⟨hi, rfl, _, hob, rfl⟩, trivial⟩
          · cases hb
        · cases hb
      · cases hb
    obtain ⟨A, cap, news, hvz, hAn, hnl, hncr, hn1, hncell⟩ := news_of (sl_sound m hs (ev_sound m hz)) hpos
    -- the run
    obtain ⟨v', w', hrun, hown', hgrow, hloc⟩ : ∃ v' w', (Builtin.append_ #[t, t] o.type #[a.eval x, a.eval z]).run P C.w = .ok v' w' ∧ w'.ownsRow C.B e (esz ek) v' (xs.length + ys.length) (vals ++ news) ∧ C.w.grownBy w' (a.eval x).ownBlock ∧
        (v'.ownBlock = (a.eval x).ownBlock ∨ v'.ownBlock = some C.w.heap.size) := by
      rw [hvz]
      rcases A with _ | ad
      · obtain ⟨hc0, hy0⟩ := hAn rfl
        subst hy0
        have hnn : news = [] := List.eq_nil_of_length_eq_zero (by simpa using hnl)
        subst hnn
        subst hc0
        exact ⟨a.eval x, C.w, run_append_owned_none C.w C.B t o.type e j (esz ek) hu hj (a.eval x) xs.length vals hown, by simpa using hown, ⟨rfl, rfl, rfl, Nat.le_refl _, fun _ _ _ => rfl⟩, .inl rfl⟩
      · obtain ⟨v', w', r1, r2, r3, _, r5⟩ := run_append_own_at (P := P) C.w C.B t o.type e j ei.zero (esz ek) j.bytes hu hj hjz (by rw [hjs, hes]) rfl (by rw [hz1, hes]) hpos (a.eval x) xs.length vals hown ad ys.length cap news hnl (hncell ad rfl) hn1
          (by simp only [maxLen]; omega) hbytes hB
        exact ⟨v', w', r1, r2, r3, r5⟩
    have hsl' : ∃ a n c, v' = .slice a n c := by
      rcases hown'.2 with ⟨h, _⟩ | ⟨g, cap, cur, h, _⟩ <;> exact ⟨_, _, _, h⟩
    have hslx : ∃ a' n c, a.eval x = .slice a' n c := by
      rcases hown.2 with ⟨h, _⟩ | ⟨g, cap, cur, h, _⟩ <;> exact ⟨_, _, _, h⟩
    rw [blk_own hslx] at hgrow
    rw [blk_own hsl', blk_own hslx] at hloc
    let C' : Ct := { w := w', pr := fun b => if b = C.w.heap.size then false else C.pr b, ρ := fun i => if i = σ.nx then v' else C.ρ i, ok := fun i => C.ok i || Nat.beq i σ.nx, B := C.B }
    have hev : Evo C C' := by
      refine ⟨hgrow.os, hgrow.tape, hgrow.output, hgrow.size, fun b hb hp => ⟨hgrow.block b hb (fun h => ?_), ?_⟩, fun i hi => by simp [C', hi], fun i hi => ?_, rfl, fun b hb => hgrow.block b (Nat.lt_of_lt_of_le hb hB) (fun h => ?_), fun b hb => ?_⟩
      · rw [(hpr b h.symm).1] at hp; cases hp
      · simp only [C']; rw [if_neg (by omega)]; exact hp
      · simp only [C']; rw [if_neg (ok_ne m.fresh hi)]
      · have := (hpr b h.symm).2; omega
      · simp only [C']; rw [if_neg (by omega)]
    have hpr' : ∀ g, blk v' = some g → C'.pr g = false := by
      intro g hg
      simp only [C']
      split
      · rfl
      · rename_i hne
        rcases hloc with h | h
        · rw [h] at hg; exact (hpr g hg).1
        · rw [h] at hg; cases hg; exact absurd rfl hne
    have hrow : ORep C' σ.nx (.row ek e (xs ++ ys)) := by
      refine ⟨by simp [C'], vals ++ news, ?_, ?_, ?_⟩
      · simp only [C', if_true, List.length_append]
        exact hown'
      · simp only [C', if_true]
        exact hpr'
      · have hvl : vals.length = xs.length * esz ek := hown.1
        intro k q hkq
        rw [List.getElem?_append] at hkq
        split at hkq
        · rename_i hlt
          obtain ⟨h1, h2⟩ := (hcr.mono hev.kept) k q hkq
          refine ⟨h1, fun j y hj => ?_⟩
          obtain ⟨u, hu, hr⟩ := h2 j y hj
          refine ⟨u, ?_, hr⟩
          have hu : vals[k * esz ek + j]? = some u := hu
          show (vals ++ news)[k * esz ek + j]? = some u
          rw [List.getElem?_append_left (List.getElem?_eq_some_iff.1 hu).1]
          exact hu
        · rename_i hge
          obtain ⟨h1, h2⟩ := (hncr.mono hev.kept) _ q hkq
          refine ⟨h1, fun j y hj => ?_⟩
          obtain ⟨u, hu, hr⟩ := h2 j y hj
          refine ⟨u, ?_, hr⟩
          have hu : news[(k - xs.length) * esz ek + j]? = some u := hu
          show (vals ++ news)[k * esz ek + j]? = some u
          have hmul : k * esz ek = xs.length * esz ek + (k - xs.length) * esz ek := by
            rw [← Nat.add_mul]; congr 1; omega
          rw [List.getElem?_append_right (by rw [hvl, hmul]; omega), hvl, hmul]
          rw [show xs.length * esz ek + (k - xs.length) * esz ek + j - xs.length * esz ek = (k - xs.length) * esz ek + j by omega]
          exact hu
    have hold : ∀ j oj g, σ.obj j = some oj → oj.excl = true → kill ≠ some j → blk (C.ρ j) = some g → C'.w.heap[g]? = C.w.heap[g]? ∧ C'.pr g = false ∧ blk (C'.ρ σ.nx) ≠ some g := by
      intro j oj g hj he hkj hg
      obtain ⟨h1, h2, h3⟩ := (m.ob j oj hj).excl he hg
      have hne : blk (a.eval x) ≠ some g := by
        intro h
        -- then the base is object j
        rcases hkk : kill with _ | i
        · -- the base is nil
          have hxr := ev_sound m hx
          unfold appBase at hb
          split at hb
          · generalize a.eval x = v at hxr h
            cases hxr
            simp [blk] at h
          · split at hb
            · split at hb
              · cases hb; cases hkk
              · cases hb
            · cases hb
          · cases hb
        · obtain ⟨_, hρ, oi, hoi, hei⟩ := hkill.1 i hkk
          rw [← hρ] at h
          have := m.apart i j oi oj g hoi hj hei he h hg
          rw [hkk, this] at hkj
          exact hkj rfl
      refine ⟨hgrow.block g h1 (fun h => hne h.symm), ?_, ?_⟩
      · simp only [C']; rw [if_neg (by omega)]; exact h2
      · simp only [C', if_true]
        rcases hloc with h | h
        · rw [h]; exact hne
        · rw [h]; simp; omega
    have m' : Models (σ.add kill (.row ek e (xs ++ ys))) a C' := m.addAt hev σ.nx (σ.nx + 1) kill (.row ek e (xs ++ ys)) (fun i hi => (hkill.1 i hi).1) (fun i hi => ok_or hi) (Nat.le_succ _) (Nat.lt_succ_self _) hrow hold
    have hop : (execOp a.eval o).run P C.w = .ok (.value v') w' := by
      unfold execOp
      simp only [ho]
      simp [resolve, invoke, builtin, hrun]
    have hsz : (σ.add kill (.row ek e (xs ++ ys))).sz = σ.sz := by cases kill <;> rfl
    refine upon_value hop (hk _ C' _ (m'.put (v := v') ?_ (by rw [hsz]; exact dstOk_spec hd)) (ev.trans hev) k)
    exact .ref _ (by simp [C']) _ (by simp [C']) (by obtain ⟨_, _, _, rfl⟩ := hsl'; rfl)
end
end Go.Am
