/- The abstract machine, twentieth part: a callee that turns the bytes of a row of the caller's around. No program. -/
import Derived.Test.YtaenfbgamkieiaaDoorAmS
import Derived.Sort.Row
namespace Go.Am
open Go.RowKit Go.Sort
set_option linter.unusedSimpArgs false
set_option linter.unusedVariables false

def encB (b : UInt8) : Value := .int .u8 b.toNat
theorem mapBlock_set (w : World) (g : Nat) (cur : Array Value) (e : TypeId) (fr : Nat × Nat) (f : Array Value → Array Value) (h : w.heap[g]? = some (.cells cur e fr)) : mapBlock w g f = w.setRow g (f cur) := by
  unfold mapBlock World.setRow
  congr 1
  apply Array.ext_getElem?
  intro k
  simp only [Array.getElem?_modify]
  by_cases hk : g = k
  · subst hk
    simp only [if_true, h, Option.map_some, onCells]
  · simp [hk]
theorem putCells_get (d : Array UInt8) (c : Array Value) (k : Nat) (hk : k < c.size) : (putCells encB 0 d c)[k]? = some (if k < d.size then encB d[k]! else c[k]) := by
  unfold putCells
  rw [Array.getElem?_mapIdx]
  simp [hk]

section
variable {P : Program} {Γ : Env} {Q : Exit → St → Prop} {σ : St} {ty : TypeId → Option TI}

/-- What a function does that turns bytes around. -/
structure TurnsAround (P : Program) (f : FuncId) : Prop where
  fn : ∃ fn, IsFn P f fn
  at_ : ∀ (blk cap : Nat) (zs : List UInt8) (w : World), Holds encB w blk 0 zs.toArray → zs.length ≤ 1099511627776 → Calls P f #[.slice (some ⟨blk, 0, none⟩) zs.length cap] w fun e w' => e = .returned (.tuple #[]) ∧ ∃ n, w' = putRow encB (Sort.ahead w n) blk 0 zs.reverse.toArray
  nil : ∀ (a : Option Addr) (cap : Nat) (w : World), Calls P f #[.slice a 0 cap] w fun e w' => e = .returned (.tuple #[]) ∧ w' = w

theorem aops_around {ops rest : List Oper} {o : Oper} {c : Call} {fx : Operand} {f : FuncId} {i : Nat} {e : TypeId} {l : List UInt8} {sz nx : Nat} {tm : List (Nat × AV)} {ob : List (Nat × AO)} (hw : wantedA ops σ o = some true) (hd : dstOk σ o.dst = true) (ho : o.op = .call c) (hc : c.callee = .value fx) (hf : calleeOf σ ty fx = some (f, []))
    (hy : evAll σ ty c.args.toList c.argTypes.toList = some [.ref i]) (hob : σ.obj i = some (.row none e (bys l))) (hT : TurnsAround P f) (hl : l.length ≤ 1099511627776) (hr : put' (setO' σ i (.row none e (bys l.reverse))) o.dst (.tup []) = ⟨sz, tm, ob, nx⟩)
    (k : AOps P Γ ops Q rest ⟨sz, tm, ob, nx⟩) : AOps P Γ ops Q (o :: rest) σ :=
  aops_step hw fun C0 a C K R b ev m hk => by
    rw [← hr] at k
    obtain ⟨fn, hfn⟩ := hT.fn
    obtain ⟨vs, hvl, _, hrun⟩ := run_call (P := P) m ho hc hf hfn
    have hv0 : vs = #[] := Array.eq_empty_of_size_eq_zero (by simpa using hvl)
    subst hv0
    obtain ⟨y1, y2⟩ := evAll_sound m hy
    have hsz : c.args.size = 1 := by simpa using y1.symm
    have hrep : Rep C (.ref i) ((c.args.map a.eval).getD 0 undef) := by simpa using y2 0 (.ref i) rfl
    obtain ⟨hi, vals, hown, hp, hcr⟩ := m.ob i _ hob
    have hargs : c.args.map a.eval ++ #[] = #[C.ρ i] := by
      generalize hA : c.args.map a.eval = A at hrep
      have hs : A.size = 1 := by rw [← hA]; simpa using hsz
      have : A.getD 0 undef = C.ρ i := by
        generalize A.getD 0 undef = z at hrep
        cases hrep with
        | ref i hi v hv h1 => exact hv
      rw [Array.append_empty]
      apply Array.ext
      · simpa using hs
      · intro j h1 h2
        have hj : j = 0 := by omega
        subst hj
        simpa [h1] using this
    unfold Oper.wp
    rw [hrun, hargs]
    rcases hown.2 with ⟨hn, h0⟩ | ⟨g, cap, cur, hρ, hB, hheap, hnc, hcm, hcs, htake⟩
    · have hl0 : l = [] := by
        rw [bys_len] at h0
        exact List.length_eq_zero_iff.1 h0
      subst hl0
      rw [hn]
      refine (hT.nil none 0 C.w).mono fun e' w' ⟨he, hw'⟩ => ?_
      subst he; subst hw'
      have m1 : Models (setO' σ i (.row none e (bys ([] : List UInt8).reverse))) a C := by
        refine m.sub ⟨?_, ?_, ?_, ?_⟩
        · cases σ; rfl
        · cases σ; rfl
        · cases σ; exact fun t x h => h
        · intro j oj hj
          rw [setO'_eq, St.obj, St.setO, look_cons] at hj
          split at hj
          · rename_i hij
            subst hij
            cases hj
            exact hob
          · exact hj
      have m2 := m1.put (dst := o.dst) (v := .tuple #[]) (.tup [] #[] rfl (by simp)) (by
        have : (setO' σ i (.row none e (bys ([] : List UInt8).reverse))).sz = σ.sz := by cases σ; rfl
        rw [this]
        exact dstOk_spec hd)
      rw [← put'_eq] at m2
      exact hk _ C _ m2 ev k
    · have hbl : blk (C.ρ i) = some g := by rw [hρ]; rfl
      have hpg := hp g hbl
      rw [bys_len] at hnc htake
      have hcur : ∀ j, j < l.length → cur[j]? = some (encB (l.getD j 0)) := by
        intro j hj
        obtain ⟨_, h2⟩ := hcr j (by1 l[j]) (by simp [bys, hj])
        obtain ⟨u, hu, hru⟩ := h2 0 (by1 l[j]) rfl
        cases hru
        have h3 : vals[j]? = some (.int .u8 l[j].toNat) := by simpa [Am.esz] using hu
        rw [← htake] at h3
        rw [List.getElem?_take] at h3
        split at h3
        · simp only [Array.getElem?_toList] at h3
          rw [h3, List.getD_eq_getElem?_getD, List.getElem?_eq_getElem hj]
          rfl
        · cases h3
      have hHolds : Holds encB C.w g 0 l.toArray := by
        intro j hj
        have hj' : j < l.length := by simpa using hj
        have h1 := hcur j hj'
        have h2 : (l.toArray)[j]! = l.getD j 0 := by
          rw [getElem!_pos _ j hj, List.getD_eq_getElem?_getD, List.getElem?_eq_getElem hj']
          simp
        rw [h2, Nat.zero_add]
        exact ⟨by simp [World.cell?, hheap, h1], by simp [World.frozen?, hheap]⟩
      have hlen : (bys l).length = l.length := bys_len l
      rw [hρ, hlen]
      refine (hT.at_ g cap l C.w hHolds hl).mono fun e' w' ⟨he, n, hw'⟩ => ?_
      subst he
      have hw2 : w' = Sort.ahead (C.w.setRow g (putCells encB 0 l.reverse.toArray cur)) n := by
        rw [hw']
        unfold putRow
        rw [mapBlock_set (Sort.ahead C.w n) g cur e (0, 0) _ hheap]
        rfl
      have hcap : l.length ≤ cur.size := by
        rw [hcs]
        simpa [Am.esz] using hnc
      have m' := m.turn (o' := .row none e (bys l.reverse)) (cs := putCells encB 0 l.reverse.toArray cur) hob rfl hbl rfl (by
        refine ⟨hi, (putCells encB 0 l.reverse.toArray cur).toList.take l.length, ⟨?_, .inr ⟨g, cap, putCells encB 0 l.reverse.toArray cur, ?_, hB, setRow_heap C.w g cur _ e (0, 0) hheap, by simpa [bys_len] using hnc, hcm, by simpa [putCells] using hcs, ?_⟩⟩, hp, ?_⟩
        · simp [putCells, bys_len, Am.esz]
          omega
        · show C.ρ i = _
          rw [hρ]
          simp [bys_len]
        · simp [bys_len, Am.esz]
        · intro k' x' hk'
          have hkl : k' < l.length := by
            have := (List.getElem?_eq_some_iff.1 hk').1
            simpa [bys_len] using this
          have hx : x' = by1 (l.reverse[k']'(by simpa using hkl)) := by
            have : (bys l.reverse)[k']? = some (by1 (l.reverse[k']'(by simpa using hkl))) := by simp [bys, hkl]
            rw [this] at hk'
            exact (Option.some.inj hk').symm
          subst hx
          refine ⟨rfl, fun j q hj => ?_⟩
          cases j with
          | succ j => simp [Dat.cells, by1] at hj
          | zero =>
            have hq : q = by1 (l.reverse[k']'(by simpa using hkl)) := by simpa [Dat.cells, by1] using hj.symm
            subst hq
            refine ⟨encB (l.reverse[k']'(by simpa using hkl)), ?_, .int _ _⟩
            have h1 := putCells_get l.reverse.toArray cur k' (by omega)
            have h2 : k' < l.reverse.toArray.size := by simpa using hkl
            rw [if_pos h2, getElem!_pos _ k' h2] at h1
            show ((putCells encB 0 l.reverse.toArray cur).toList.take l.length)[k' * 1 + 0]? = _
            rw [Nat.mul_one, Nat.add_zero, List.getElem?_take, if_pos hkl, Array.getElem?_toList, h1]
            rfl)
      have e1 := Ct.turn_evo (C := C) (cs := putCells encB 0 l.reverse.toArray cur) hpg hB
      have e2 : Evo (C.turn (C.w.setRow g (putCells encB 0 l.reverse.toArray cur))) (C.turn w') := by
        rw [hw2]
        exact ⟨rfl, rfl, rfl, Nat.le_refl _, fun _ _ h => ⟨rfl, h⟩, fun _ h => h, fun _ _ => rfl, rfl, fun _ _ => rfl, fun _ _ => rfl⟩
      have m2 := m'.mono e2 (fun i hi => hi) (fun j oj g' hj he' hg' => by
        refine ⟨?_, ((m'.ob j oj hj).excl he' hg').2.1⟩
        rw [hw2]
        rfl)
      have m3 := m2.put (dst := o.dst) (v := .tuple #[]) (.tup [] #[] rfl (by simp)) (by
        have : (σ.setO i (.row none e (bys l.reverse))).sz = σ.sz := by cases σ; rfl
        rw [this]
        exact dstOk_spec hd)
      rw [← put'_eq, ← setO'_eq] at m3
      exact hk _ (C.turn w') _ m3 ((ev.trans e1).trans e2) k

/-! ### A nil slice in a variable with an address becomes a row of its own -/
theorem Models.swapO {a : Act} {C : Ct} (m : Models σ a C) {i : Nat} {o o' : AO} (ho : σ.obj i = some o) (hex : o'.excl = true → o.excl = true) (hn : ORep C i o') : Models (σ.setO i o') a C := by
  refine ⟨m.defers, m.sz, m.nx, m.tm, fun j oj hj => ?_, fun j k oj ok g hj hk hej hek hgj hgk => ?_⟩
  · rw [St.obj, St.setO, look_cons] at hj
    split at hj
    · rename_i h
      subst h
      cases hj
      exact hn
    · exact m.ob j oj hj
  · rw [St.obj, St.setO, look_cons] at hj hk
    split at hj
    · rename_i h1
      subst h1
      cases hj
      split at hk
      · rename_i h2
        exact h2
      · exact m.apart _ _ _ _ g ho hk (hex hej) hek hgj hgk
    · split at hk
      · rename_i h2
        subst h2
        cases hk
        exact m.apart _ _ _ _ g hj ho hej (hex hek) hgj hgk
      · exact m.apart _ _ _ _ g hj hk hej hek hgj hgk
theorem Models.nilcell {a : Act} {C : Ct} (m : Models σ a C) {i j : Nat} {t : TypeId} {cs : List AV} {ek : Option Nat} (hi : σ.obj i = some (.box t cs)) (hlt : i < σ.nx) (hj : cs[j]? = some (.nil ek)) (e : TypeId) :
    Models ((σ.add none (.row ek e [])).setO i (.box t (cs.set j (.ref σ.nx)))) a (C.reg σ.nx (.slice none 0 0)) := by
  have m' := m.nilrow ek e
  have ho : (σ.add none (.row ek e [])).obj i = some (.box t cs) := by
    show look i ((σ.nx, AO.row ek e []) :: σ.ob) = _
    rw [look_cons, if_neg (by omega)]
    exact hi
  refine m'.swapO ho (fun _ => rfl) ?_
  obtain ⟨h1, g, cur, h2, h3, h4, h5, h6, h7, h8⟩ := m'.ob i _ ho
  refine ⟨h1, g, cur, h2, h3, h4, h5, by simpa using h6, fun y hy => ?_, fun k y hk => ?_⟩
  · rcases List.mem_or_eq_of_mem_set hy with hy | rfl
    · exact h7 y hy
    · rfl
  · rw [List.getElem?_set] at hk
    split at hk
    · rename_i hjk
      subst hjk
      split at hk
      · cases hk
        have := h8 j _ hj
        generalize cur.getD j undef = v at this
        cases this
        exact .ref _ (by simp [Ct.reg]) _ (by simp [Ct.reg]) rfl
      · cases hk
    · exact h8 k y hk
theorem aops_nilcell (i j : Nat) (e : TypeId) {ops rest : List Oper} {t : TypeId} {cs : List AV} {ek : Option Nat} {sz nx : Nat} {tm : List (Nat × AV)} {ob : List (Nat × AO)} (hi : σ.obj i = some (.box t cs)) (hlt : Nat.blt i σ.nx = true) (hj : cs[j]? = some (.nil ek)) (hr : setO' (addPut σ none (.row ek e []) none .ref) i (.box t (cs.set j (.ref σ.nx))) = ⟨sz, tm, ob, nx⟩)
    (k : AOps P Γ ops Q rest ⟨sz, tm, ob, nx⟩) : AOps P Γ ops Q rest σ := fun C0 a C b ev m => by
  rw [← hr, setO'_eq, addPut_eq] at k
  exact k C0 a (C.reg σ.nx (.slice none 0 0)) b (ev.trans (Ct.reg_evo m.fresh _)) (m.nilcell hi (by simpa [Nat.blt_eq] using hlt) hj e)
theorem awp_nilcell (i j : Nat) (e : TypeId) {c : Code} {t : TypeId} {cs : List AV} {ek : Option Nat} {sz nx : Nat} {tm : List (Nat × AV)} {ob : List (Nat × AO)} (hi : σ.obj i = some (.box t cs)) (hlt : Nat.blt i σ.nx = true) (hj : cs[j]? = some (.nil ek)) (hr : setO' (addPut σ none (.row ek e []) none .ref) i (.box t (cs.set j (.ref σ.nx))) = ⟨sz, tm, ob, nx⟩)
    (k : AWp P Γ c Q ⟨sz, tm, ob, nx⟩) : AWp P Γ c Q σ := fun C0 a C b ev m => by
  rw [← hr, setO'_eq, addPut_eq] at k
  exact k C0 a (C.reg σ.nx (.slice none 0 0)) b (ev.trans (Ct.reg_evo m.fresh _)) (m.nilcell hi (by simpa [Nat.blt_eq] using hlt) hj e)

/-! ### A read-only row, taken as data -/
theorem Models.asDat {a : Act} {C : Ct} (m : Models σ a C) {t i : Nat} {ek : Option Nat} {xs : List Dat} (hs : σ.get t = some (.ref i)) (ho : σ.obj i = some (.frz ek xs)) : Models (σ.put (some t) (.d (.sl ek xs))) a C := by
  refine ⟨m.defers, m.sz, m.nx, fun s x hx => ?_, m.ob, m.apart⟩
  rw [St.get, St.put, look_cons] at hx
  split at hx
  · rename_i e
    subst e
    cases hx
    obtain ⟨h1, h2⟩ := m.tm _ _ hs
    refine ⟨h1, .d ?_⟩
    generalize a.tmps.getD _ undef = v at h2
    cases h2 with
    | ref i hi v hv h1 => rw [hv]; exact (m.ob _ _ ho).2
  · exact m.tm s x hx
theorem aops_asDat (t : Nat) {ops rest : List Oper} {i : Nat} {ek : Option Nat} {xs : List Dat} {sz nx : Nat} {tm : List (Nat × AV)} {ob : List (Nat × AO)} (hs : σ.get t = some (.ref i)) (ho : σ.obj i = some (.frz ek xs)) (hr : put' σ (some t) (.d (.sl ek xs)) = ⟨sz, tm, ob, nx⟩) (k : AOps P Γ ops Q rest ⟨sz, tm, ob, nx⟩) : AOps P Γ ops Q rest σ := fun C0 a C b ev m => by
  rw [← hr, put'_eq] at k
  exact k C0 a C b ev (m.asDat hs ho)
theorem awp_asDat (t : Nat) {c : Code} {i : Nat} {ek : Option Nat} {xs : List Dat} {sz nx : Nat} {tm : List (Nat × AV)} {ob : List (Nat × AO)} (hs : σ.get t = some (.ref i)) (ho : σ.obj i = some (.frz ek xs)) (hr : put' σ (some t) (.d (.sl ek xs)) = ⟨sz, tm, ob, nx⟩) (k : AWp P Γ c Q ⟨sz, tm, ob, nx⟩) : AWp P Γ c Q σ := fun C0 a C b ev m => by
  rw [← hr, put'_eq] at k
  exact k C0 a C b ev (m.asDat hs ho)
end
end Go.Am
