/- The abstract machine, sixteenth part: the rule for a region whose order is drawn. No program. -/
import Derived.Test.YtaenfbgamkieiaaDoorAmO
namespace Go.Am
open Go.RowKit
set_option linter.unusedSimpArgs false
set_option linter.unusedVariables false

def cntF (listed : Array Bool) : Nat → Nat
  | 0 => 0
  | k + 1 => cntF listed k + (match listed.getD k false with
    | true => 0
    | false => 1)
theorem cntF_ge {listed : Array Bool} {i : Nat} : ∀ {k : Nat}, k ≤ i → cntF (listed.setIfInBounds i true) k = cntF listed k
  | 0, _ => rfl
  | k + 1, h => by
    simp only [cntF]
    rw [cntF_ge (by omega), getD_set_ne false (by omega)]
theorem cntF_set {listed : Array Bool} {i : Nat} (hs : i < listed.size) (hf : listed.getD i false = false) : ∀ {k : Nat}, i < k → cntF (listed.setIfInBounds i true) k + 1 = cntF listed k
  | 0, h => by omega
  | k + 1, h => by
    simp only [cntF]
    by_cases hik : i = k
    · subst hik
      have h1 : (listed.setIfInBounds i true).getD i false = true := by simp [hs]
      rw [cntF_ge (Nat.le_refl _), h1, hf]
      rfl
    · rw [getD_set_ne false hik]
      have := cntF_set hs hf (k := k) (by omega)
      omega
theorem cntF_zero {listed : Array Bool} : ∀ {k : Nat}, cntF listed k = 0 → ∀ j, j < k → listed.getD j false = true
  | 0, _, j, hj => by omega
  | k + 1, h, j, hj => by
    simp only [cntF] at h
    by_cases hjk : j = k
    · subst hjk
      cases hl : listed.getD j false with
      | true => rfl
      | false => rw [hl] at h; simp at h
    · exact cntF_zero (k := k) (by omega) j (by omega)
theorem cntF_pos {listed : Array Bool} : ∀ {k : Nat}, 0 < cntF listed k → ∃ j, j < k ∧ listed.getD j false = false
  | 0, h => by simp [cntF] at h
  | k + 1, h => by
    cases hl : listed.getD k false with
    | false => exact ⟨k, by omega, hl⟩
    | true =>
      simp only [cntF, hl] at h
      obtain ⟨j, h1, h2⟩ := cntF_pos (k := k) (by omega)
      exact ⟨j, by omega, h2⟩
theorem cntF_new (m : Nat) : ∀ k, cntF (Array.replicate m false) k = k
  | 0 => rfl
  | k + 1 => by simp only [cntF, getD_replicate_false, cntF_new m k]

/-- Edges of the head point backwards. -/
def backB : List Oper → Nat → Bool
  | [], _ => true
  | o :: r, k => o.after.toList.all (fun e => !Region.binds .any e || Nat.blt e.on k) && backB r (k + 1)
theorem backB_spec : ∀ {l : List Oper} {k : Nat}, backB l k = true → ∀ i o, l[i]? = some o → ∀ e ∈ o.after, Region.binds .any e = true → e.on < k + i
  | [], k, _, i, o, h => by simp at h
  | x :: r, k, hb, 0, o, h => by
    simp only [backB, Bool.and_eq_true, List.all_eq_true] at hb
    simp at h
    subst h
    intro e he hbd
    have := hb.1 e (by simpa using he)
    simpa [hbd, Nat.blt_eq] using this
  | x :: r, k, hb, i + 1, o, h => by
    simp only [backB, Bool.and_eq_true] at hb
    intro e he hbd
    have := backB_spec hb.2 i o (by simpa using h) e he hbd
    omega
def dstNot (t : Tmp) : List Oper → Bool
  | [] => true
  | o :: r => match o.dst with
    | some d => !Nat.beq d t && dstNot t r
    | none => dstNot t r
def dstsB : List Oper → Bool
  | [] => true
  | o :: r => match o.dst with
    | some d => dstNot d r && dstsB r
    | none => dstsB r
theorem dstNot_spec {t : Tmp} : ∀ {l : List Oper}, dstNot t l = true → ∀ (i : Nat) (o : Oper), l[i]? = some o → o.dst ≠ some t
  | [], _, i, o, h => by simp at h
  | x :: r, hb, i, o, h => by
    rw [dstNot] at hb
    cases i with
    | zero =>
      simp at h
      subst h
      split at hb
      · rename_i d hd
        rw [hd]
        rintro he
        cases he
        simp at hb
      · rename_i hd
        rw [hd]; simp
    | succ i =>
      have hr : dstNot t r = true := by
        split at hb
        · exact (Bool.and_eq_true _ _ ▸ hb).2
        · exact hb
      exact dstNot_spec hr i o (by simpa using h)
theorem dstsB_spec : ∀ {l : List Oper}, dstsB l = true → ∀ (i : Nat) (o : Oper) (j : Nat) (o' : Oper) (t : Tmp), l[i]? = some o → l[j]? = some o' → o.dst = some t → o'.dst = some t → i = j
  | [], _, i, o, j, o', t, h, _, _, _ => by simp at h
  | x :: r, hb, i, o, j, o', t, hi, hj, ho, ho' => by
    rw [dstsB] at hb
    have hr : dstsB r = true := by
      split at hb
      · exact (Bool.and_eq_true _ _ ▸ hb).2
      · exact hb
    cases i with
    | zero =>
      cases j with
      | zero => rfl
      | succ j =>
        simp at hi
        subst hi
        rw [ho] at hb
        have h1 : dstNot t r = true := (Bool.and_eq_true _ _ ▸ hb).1
        exact absurd ho' (dstNot_spec h1 j o' (by simpa using hj))
    | succ i =>
      cases j with
      | zero =>
        simp at hj
        subst hj
        rw [ho'] at hb
        have h1 : dstNot t r = true := (Bool.and_eq_true _ _ ▸ hb).1
        exact absurd ho (dstNot_spec h1 i o (by simpa using hi))
      | succ j =>
        have := dstsB_spec hr i o j o' t (by simpa using hi) (by simpa using hj) ho ho'
        omega

def headArr (n m : Nat) : Array Bool := ((List.range m).map (fun j => Nat.blt j n)).toArray
def drawnB (l : List Oper) (n : Nat) : Bool := Nat.blt n l.length && Region.sinkB .any l.toArray n && Region.chainB .any l.toArray n && Region.seqB .any l.toArray (l.length - n) n (headArr n l.length) && backB (l.take n) 0 && dstsB (l.take n)

section
variable {P : Program} {Γ : Env} {Q : Exit → St → Prop} {σ : St} {ty : TypeId → Option TI}

theorem ready_some {l : List Oper} {n : Nat} {listed : Array Bool} (hb : backB (l.take n) 0 = true) (hn : n < l.length) (hsz : listed.size = l.length) : ∀ j, j < n → listed.getD j false = false → Region.ready .any l.toArray listed ≠ [] := by
  intro j
  induction j using Nat.strongRecOn with
  | _ j ih =>
    intro hj hl
    by_cases hex : ∃ e ∈ (l[j]'(by omega)).after, Region.binds .any e = true ∧ listed.getD e.on false = false
    · obtain ⟨e, he, hbd, hun⟩ := hex
      have hlt := backB_spec hb j (l[j]'(by omega)) (by rw [List.getElem?_take, if_pos hj]; exact List.getElem?_eq_getElem (by omega)) e he hbd
      exact ih e.on (by omega) (by omega) hun
    · intro hnil
      have : j ∈ Region.ready .any l.toArray listed := by
        refine mem_ready.2 ⟨getD_in (by omega) hl, l[j]'(by omega), by simp, fun e he hbd => ?_⟩
        cases hx : listed.getD e.on false with
        | true => rfl
        | false => exact absurd ⟨e, he, hbd, hx⟩ hex
      rw [hnil] at this
      cases this

theorem any_head {l : List Oper} {n : Nat} {es : List Ent} (H : Head P Γ l σ n es) (hB : drawnB l n = true) (k : AOps P Γ l Q (l.drop n) (finE σ n es)) {C0 : Ct} (b : Base Γ C0) :
    ∀ (m : Nat) (done : List Ent) (listed : Array Bool) (a : Act) (C : Ct), cntF listed n = m → HeadInv .any l.toArray n listed → (∀ e ∈ done, e ∈ es) → (∀ j, j < n → (listed.getD j false = true ↔ ∃ e ∈ done, e.j = j)) →
      (∀ j, C.ok (σ.nx + j) = true → ∃ e ∈ done, e.j = j) → Evo C0 C → Models (stE σ n (l.take n) done) a C → wpAny P .any l.toArray (post C0 Q) (m + (l.length - n)) listed a C.w := by
  simp only [drawnB, Bool.and_eq_true, Nat.blt_eq] at hB
  obtain ⟨⟨⟨⟨⟨hn, hsink⟩, hchain⟩, hseq⟩, hback⟩, hdst⟩ := hB
  intro m
  induction m with
  | zero =>
    intro done listed a C hcnt inv hd hl hok ev md
    have hall := cntF_zero hcnt
    have hsz : listed.size = l.length := by simpa using inv.size
    have harr : listed = headArr n l.length := by
      apply Array.ext
      · rw [hsz]; simp [headArr]
      · intro j h1 h2
        simp only [headArr, List.getElem_toArray, List.getElem_map, List.getElem_range]
        by_cases hj : j < n
        · have := hall j hj
          simp [h1] at this
          rw [this]
          symm
          simpa [Nat.blt_eq] using hj
        · have := inv.tail j (by omega) (by simp; omega)
          simp [h1] at this
          rw [this]
          cases hb : Nat.blt j n with
          | false => rfl
          | true => rw [Nat.blt_eq] at hb; omega
    have hfin := H.fin hd (fun e he => by
      obtain ⟨h1, _⟩ := H.lt e he
      obtain ⟨e', he', hj⟩ := (hl e.j h1).1 (hall e.j h1)
      rw [← H.uniq e' (hd e' he') e he hj]
      exact he') md
    have hw := k C0 a C b ev hfin
    have hdl : (l.drop n).length = l.length - n := by simp
    have := wpAny_of_seq (md := .any) (P := P) (ops := l.toArray) (Q' := post C0 Q) (l.drop n) n listed a C.w (fun j => by simp [List.getElem?_drop]) (by rw [hdl, harr]; exact hseq) hw
    rw [hdl] at this
    simpa using this
  | succ m ih =>
    intro done listed a C hcnt inv hd hl hok ev md
    have hsz : listed.size = l.length := by simpa using inv.size
    obtain ⟨j0, hj0, hun0⟩ := cntF_pos (listed := listed) (k := n) (by omega)
    rw [show m + 1 + (l.length - n) = (m + (l.length - n)) + 1 by omega]
    refine ⟨fun h => absurd h (ready_some hback hn hsz j0 hj0 hun0), fun i hi => ?_⟩
    have hin : i < n := by
      rcases Nat.lt_or_ge i n with h | h
      · exact h
      · exact absurd hi (tail_waits hsink hchain (by simpa using hn) inv _ j0 rfl hj0 (getD_in (by omega) hun0) i h)
    obtain ⟨hiun, o, ho, hdeps⟩ := mem_ready.1 hi
    have ho' : l[i]? = some o := by simpa using ho
    have hif := getD_both hiun
    obtain ⟨acc, e, hacc, he, hej, hed, hdo, hent⟩ := H.ent i o hin ho'
    have hmin : Models (minE σ n (l.take n) acc o) a C := H.less hd (fun e' he' => by
      obtain ⟨h1, h2⟩ := mem_keepE he'
      obtain ⟨ed, h3, h4, h5⟩ := waitsB_spec h2
      have h6 := hdeps ed (by simpa using h3) h5
      have h7 := backB_spec hback i o (by rw [List.getElem?_take, if_pos hin]; exact ho') ed (by simpa using h3) h5
      obtain ⟨e2, h8, h9⟩ := (hl ed.on (by omega)).1 h6
      rw [H.uniq e' (hacc e' h1) e2 (hd e2 h8) (by rw [h9, h4])]
      exact h8) md
    have next : ∀ v C', Evo C C' → (∀ i, C'.ok i = true → C.ok i = true ∨ (i = σ.nx + e.j ∧ e.ob.isSome = true)) → Rep C' e.y v → (∀ ao, e.ob = some ao → ORep C' (σ.nx + e.j) ao ∧ ∀ g, blk (C'.ρ (σ.nx + e.j)) = some g → C.w.heap.size ≤ g) →
        (∀ g, g < C.w.heap.size → C'.w.heap[g]? = C.w.heap[g]? ∧ C'.pr g = C.pr g) → wpAny P .any l.toArray (post C0 Q) (m + (l.length - n)) (listed.setIfInBounds i true) (a.put o.dst v) C'.w := by
      intro v C' ev' hn' hv hob hkk
      have md' := md.ent (e := e) (by omega) (by rw [hed]; exact hdo) ev' hn' hv hob hkk
      rw [hed] at md'
      refine ih (e :: done) _ _ C' ?_ (inv.set hi hin) ?_ ?_ ?_ (ev.trans ev') md'
      · have := cntF_set (listed := listed) (i := i) (by omega) hif hin
        omega
      · intro e' he'
        rcases List.mem_cons.1 he' with rfl | he'
        · exact he
        · exact hd e' he'
      · intro j hj
        by_cases hij : i = j
        · subst hij
          have h1 : (listed.setIfInBounds i true).getD i false = true := by simp [show i < listed.size by omega]
          simp only [h1, true_iff]
          exact ⟨e, List.mem_cons_self .., hej⟩
        · rw [getD_set_ne false hij, hl j hj]
          constructor
          · rintro ⟨e', h1, h2⟩
            exact ⟨e', List.mem_cons_of_mem _ h1, h2⟩
          · rintro ⟨e', h1, h2⟩
            rcases List.mem_cons.1 h1 with rfl | h1
            · exact absurd (hej.symm.trans h2) hij
            · exact ⟨e', h1, h2⟩
      · intro j hj
        rcases hn' _ hj with h | ⟨h, _⟩
        · obtain ⟨e', h1, h2⟩ := hok j h
          exact ⟨e', List.mem_cons_of_mem _ h1, h2⟩
        · exact ⟨e, List.mem_cons_self .., by omega⟩
    have hfree : C.ok (σ.nx + e.j) = false := by
      cases hc : C.ok (σ.nx + e.j) with
      | false => rfl
      | true =>
        obtain ⟨e', h1, h2⟩ := hok e.j hc
        have := (hl i hin).2 ⟨e', h1, by rw [h2, hej]⟩
        rw [hif] at this
        cases this
    unfold wpOp
    simp only [ho]
    rcases hent with ⟨hw, hstep⟩ | ⟨hw, hy, hob⟩
    · rw [if_pos (by simpa using wantedA_sound hmin hw)]
      exact .inl (hstep a C _ _ (b.evo ev) hmin hfree next)
    · rw [if_neg (by
        have := wantedA_sound hmin hw
        rw [this]; simp)]
      exact next undef C (.refl C) (fun i hi => .inl hi) (by rw [hy]; exact .un) (fun ao h => by rw [hob] at h; cases h) (fun g _ => ⟨rfl, rfl⟩)

def Ct.draw (C : Ct) : Ct := { C with w := { C.w with drawn := C.w.drawn + 1 } }
theorem Ct.draw_evo (C : Ct) : Evo C C.draw := ⟨rfl, rfl, rfl, Nat.le_refl _, fun _ _ h => ⟨rfl, h⟩, fun _ h => h, fun _ _ => rfl, rfl, fun _ _ => rfl, fun _ _ => rfl⟩

theorem awp_any0 {id : Nat} {l : List Oper} {n : Nat} {es : List Ent} (hm : P.follows .mixedOrders = true) (hB : drawnB l n = true) (H : ∀ a C, Models σ a C → Head P Γ l σ n es) (k : AOps P Γ l Q (l.drop n) (finE σ n es)) : AWp P Γ (.region id l.toArray true) Q σ := fun C0 a C b ev md => by
  have h := H a C md
  refine wp_region_any hm ?_
  have md1 : Models σ a C.draw := md.mono C.draw_evo (fun i hi => hi) (fun i o g hi he hg => ⟨rfl, ((md.ob i o hi).excl he hg).2.1⟩)
  have hn : n < l.length := by
    simp only [drawnB, Bool.and_eq_true, Nat.blt_eq] at hB
    exact hB.1.1.1.1.1
  have := any_head h hB k b n [] (Array.replicate l.toArray.size false) a C.draw (cntF_new _ n)
    ⟨by simp, fun j oj _ hl => (by rw [getD_replicate_false] at hl; cases hl), fun t _ ht => getD_in (by simpa using ht) (getD_replicate_false _ _)⟩
    (by simp) (fun j hj => by rw [getD_replicate_false]; simp) (fun j hj => by
      have : C.ok (σ.nx + j) = true := hj
      have := md.nx _ this
      omega) (ev.trans C.draw_evo) (h.start md1)
  rw [show n + (l.length - n) = l.toArray.size by simp; omega] at this
  exact this

/-! ### The head out of its steps -/
theorem headT_spec {l : List Oper} {n : Nat} {D : List Oper} {K : List Ent → Prop} : ∀ (r : List Oper) (j : Nat) (acc : List Ent), HeadT P Γ l σ n D K r j acc → ∃ es, K es ∧ (∀ e ∈ acc, e ∈ es) ∧
    (∀ e ∈ es, e ∈ acc ∨ (j ≤ e.j ∧ e.j < j + r.length ∧ ∃ o, r[e.j - j]? = some o ∧ e.dst = o.dst)) ∧
    (∀ i o, r[i]? = some o → ∃ acc' e, (∀ e' ∈ acc', e' ∈ es) ∧ e ∈ es ∧ e.j = j + i ∧ e.dst = o.dst ∧ EntOk P Γ l σ n D acc' o e) ∧
    (∀ e ∈ es, ∀ e' ∈ es, (∀ e ∈ acc, ∀ e' ∈ acc, e.j = e'.j → e = e') → (∀ e ∈ acc, e.j < j) → e.j = e'.j → e = e')
  | [], j, acc, h => ⟨acc, h, fun _ h => h, fun e he => .inl he, fun i o hi => by simp at hi, fun e he e' he' hu _ hj => hu e he e' he' hj⟩
  | o :: r, j, acc, ⟨y, ob, hent, hrest⟩ => by
    obtain ⟨es, h1, h2, h3, h4, h5⟩ := headT_spec r (j + 1) _ hrest
    refine ⟨es, h1, fun e he => h2 e (List.mem_cons_of_mem _ he), fun e he => ?_, fun i o' hi => ?_, fun e he e' he' hu hlt hj => ?_⟩
    · rcases h3 e he with h | ⟨g1, g2, o', g3, g4⟩
      · rcases List.mem_cons.1 h with rfl | h
        · exact .inr ⟨Nat.le_refl _, by simp, o, by simp, rfl⟩
        · exact .inl h
      · refine .inr ⟨by omega, by simp; omega, o', ?_, g4⟩
        rw [show e.j - j = (e.j - (j + 1)) + 1 by omega]
        simpa using g3
    · cases i with
      | zero =>
        simp at hi
        subst hi
        exact ⟨acc, ⟨j, o.dst, y, ob⟩, fun e' he' => h2 e' (List.mem_cons_of_mem _ he'), h2 _ (List.mem_cons_self ..), rfl, rfl, hent⟩
      | succ i =>
        obtain ⟨acc', e, g1, g2, g3, g4, g5⟩ := h4 i o' (by simpa using hi)
        exact ⟨acc', e, g1, g2, by omega, g4, g5⟩
    · refine h5 e he e' he' (fun x hx x' hx' hxx => ?_) (fun x hx => ?_) hj
      · rcases List.mem_cons.1 hx with rfl | hx
        · rcases List.mem_cons.1 hx' with rfl | hx'
          · rfl
          · have := hlt x' hx'
            simp only at hxx
            omega
        · rcases List.mem_cons.1 hx' with rfl | hx'
          · have := hlt x hx
            simp only at hxx
            omega
          · exact hu x hx x' hx' hxx
      · rcases List.mem_cons.1 hx with rfl | hx
        · exact Nat.lt_succ_self _
        · have := hlt x hx
          omega

/-- THE RULE for a region whose order is drawn: its first n operations are computed one by one, each on what its edges make sure of; then the rest, in a row. -/
theorem awp_any (n : Nat) {id : Nat} {l : List Oper} (hm : P.follows .mixedOrders = true) (hB : drawnB l n = true) (h : HeadT P Γ l σ n (l.take n) (fun es => AOps P Γ l Q (l.drop n) (finE σ n es)) (l.take n) 0 []) : AWp P Γ (.region id l.toArray true) Q σ := by
  obtain ⟨es, h1, h2, h3, h4, h5⟩ := headT_spec _ _ _ h
  have hB' := hB
  simp only [drawnB, Bool.and_eq_true, Nat.blt_eq] at hB'
  have huniq : ∀ e ∈ es, ∀ e' ∈ es, e.j = e'.j → e = e' := fun e he e' he' hj => h5 e he e' he' (by simp) (by simp) hj
  have hlt : ∀ e ∈ es, e.j < n ∧ ∃ o, l[e.j]? = some o ∧ e.dst = o.dst := fun e he => by
    rcases h3 e he with h | ⟨g1, g2, o, g3, g4⟩
    · cases h
    · have : e.j < n := by simp at g2; omega
      refine ⟨this, o, ?_, g4⟩
      rw [Nat.sub_zero, List.getElem?_take, if_pos this] at g3
      exact g3
  refine awp_any0 hm hB (fun a C md => ⟨fun i o hi ho => ?_, huniq, hlt, fun e he e' he' t hd hd' => ?_, fun i o hi => md.nx i (md.ob i o hi).lt⟩) h1
  · obtain ⟨acc', e, g1, g2, g3, g4, g5⟩ := h4 i o (by rw [List.getElem?_take, if_pos hi]; exact ho)
    exact ⟨acc', e, g1, g2, by omega, g4, g5⟩
  · obtain ⟨h6, o, h7, h8⟩ := hlt e he
    obtain ⟨h9, o', h10, h11⟩ := hlt e' he'
    exact huniq e he e' he' (dstsB_spec hB'.2 e.j o e'.j o' t (by rw [List.getElem?_take, if_pos h6]; exact h7) (by rw [List.getElem?_take, if_pos h9]; exact h10) (h8.symm.trans hd) (h11.symm.trans hd'))

/-! ### The head, computed as far as it goes -/
def entA (ty : TypeId → Option TI) (l : List Oper) (σ : St) (n : Nat) (D : List Oper) (acc : List Ent) (o : Oper) (j : Nat) : Option (Prop × AV × Option AO) := match dstOk σ o.dst with
  | true => match minE σ n D acc o with
    | ⟨sz, tm, ob, nx⟩ => match wantedA l ⟨sz, tm, ob, nx⟩ o with
      | some true => match o.op with
        | .alloc t => match ty t with
          | some ti => some (True, .ptr (σ.nx + j) 0, some (.box t (ti.zd.map zav)))
          | none => none
        | op => match pureOp ty ⟨sz, tm, ob, nx⟩ o.type op with
          | some (p, y) => some (p, y, none)
          | none => none
      | some false => some (True, .un, none)
      | none => none
  | false => none
def runH (ty : TypeId → Option TI) (l : List Oper) (res : List Nat) (σ : St) (n : Nat) (D : List Oper) : List Oper → Nat → List Ent → Prop → Prop × List Oper × Nat × List Ent
  | [], j, acc, p => (p, [], j, acc)
  | o :: r, j, acc, p => match gateB res o with
    | true => match entA ty l σ n D acc o j with
      | some (q, y, ob) => runH ty l res σ n D r (j + 1) (⟨j, o.dst, y, ob⟩ :: acc) (p ∧ q)
      | none => (p, o :: r, j, acc)
    | false => (p, o :: r, j, acc)
theorem entA_sound (hT : TyOk P ty) {l : List Oper} {n : Nat} {D : List Oper} {acc : List Ent} {o : Oper} {j : Nat} {q : Prop} {y : AV} {ob : Option AO} (h : entA ty l σ n D acc o j = some (q, y, ob)) (hq : q) : EntOk P Γ l σ n D acc o ⟨j, o.dst, y, ob⟩ := by
  unfold entA at h
  split at h
  · rename_i hd
    split at h
    rename_i sz tm oo nx hmin
    refine ⟨hd, ?_⟩
    rw [hmin]
    split at h
    · rename_i hw
      refine .inl ⟨hw, ?_⟩
      split at h
      · rename_i t ho
        split at h
        · rename_i ti ht
          simp only [Option.some.injEq, Prod.mk.injEq] at h
          obtain ⟨rfl, rfl, rfl⟩ := h
          exact HStep.alloc hT ho ht
        · cases h
      · split at h
        · rename_i p y' hp
          simp only [Option.some.injEq, Prod.mk.injEq] at h
          obtain ⟨rfl, rfl, rfl⟩ := h
          exact HStep.pure hT hp hq
        · cases h
    · rename_i hw
      simp only [Option.some.injEq, Prod.mk.injEq] at h
      obtain ⟨rfl, rfl, rfl⟩ := h
      exact .inr ⟨hw, rfl, rfl⟩
    · cases h
  · cases h
theorem runH_mono {l : List Oper} {res : List Nat} {n : Nat} {D : List Oper} : ∀ {r : List Oper} {j : Nat} {acc : List Ent} {p q : Prop} {r' : List Oper} {j' : Nat} {acc' : List Ent}, runH ty l res σ n D r j acc p = (q, r', j', acc') → q → p
  | [], j, acc, p, q, r', j', acc', h, hq => by
    simp only [runH, Prod.mk.injEq] at h
    rw [h.1]; exact hq
  | o :: r, j, acc, p, q, r', j', acc', h, hq => by
    simp only [runH] at h
    split at h
    · split at h
      · exact (runH_mono h hq).1
      · simp only [Prod.mk.injEq] at h
        rw [h.1]; exact hq
    · simp only [Prod.mk.injEq] at h
      rw [h.1]; exact hq
/-- The next operations of the head. -/
theorem head_run (hT : TyOk P ty) {l : List Oper} {res : List Nat} {n : Nat} {D : List Oper} {K : List Ent → Prop} : ∀ {r : List Oper} {j : Nat} {acc : List Ent} {p q : Prop} {r' : List Oper} {j' : Nat} {acc' : List Ent}, runH ty l res σ n D r j acc p = (q, r', j', acc') → q → HeadT P Γ l σ n D K r' j' acc' → HeadT P Γ l σ n D K r j acc
  | [], j, acc, p, q, r', j', acc', h, hq, k => by
    simp only [runH, Prod.mk.injEq] at h
    obtain ⟨_, rfl, rfl, rfl⟩ := h
    exact k
  | o :: r, j, acc, p, q, r', j', acc', h, hq, k => by
    simp only [runH] at h
    split at h
    · split at h
      · rename_i q' y ob he
        exact ⟨y, ob, entA_sound hT he (runH_mono h hq).2, head_run hT h hq k⟩
      · simp only [Prod.mk.injEq] at h
        obtain ⟨_, rfl, rfl, rfl⟩ := h
        exact k
    · simp only [Prod.mk.injEq] at h
      obtain ⟨_, rfl, rfl, rfl⟩ := h
      exact k
theorem head_go (hT : TyOk P ty) (res : List Nat) {l : List Oper} {n : Nat} {D : List Oper} {K : List Ent → Prop} {r : List Oper} {j : Nat} {acc : List Ent} {q : Prop} {r' : List Oper} {j' : Nat} {acc' : List Ent} (h : runH ty l res σ n D r j acc True = (q, r', j', acc')) (hq : q) (k : HeadT P Γ l σ n D K r' j' acc') : HeadT P Γ l σ n D K r j acc := head_run hT h hq k
/-- A call in the head. -/
theorem head_call {l : List Oper} {n : Nat} {D : List Oper} {K : List Ent → Prop} {r : List Oper} {j : Nat} {acc : List Ent} {o : Oper} {c : Call} {fx : Operand} {f : FuncId} {ys : List AV} {dargs : List Dat} {R : Res → Prop} (x : Dat) (hd : dstOk σ o.dst = true) (hw : wantedA l (minE σ n D acc o) o = some true) (ho : o.op = .call c) (hc : c.callee = .value fx)
    (hf : calleeOf (minE σ n D acc o) ty fx = some (f, [])) (hy : evAll (minE σ n D acc o) ty c.args.toList c.argTypes.toList = some ys) (hdat : datAll (minE σ n D acc o) ys = some dargs) (hA : ACalls P Γ f dargs R) (hR : ∀ r, R r → r.dat = x)
    (k : HeadT P Γ l σ n D K r (j + 1) (⟨j, o.dst, .d x, none⟩ :: acc)) : HeadT P Γ l σ n D K (o :: r) j acc :=
  ⟨.d x, none, ⟨hd, .inl ⟨hw, HStep.call ho hc hf hy hdat hA hR⟩⟩, k⟩
theorem head_end {l : List Oper} {n : Nat} {D : List Oper} {K : List Ent → Prop} {j : Nat} {acc : List Ent} (h : K acc) : HeadT P Γ l σ n D K [] j acc := h
end
end Go.Am
