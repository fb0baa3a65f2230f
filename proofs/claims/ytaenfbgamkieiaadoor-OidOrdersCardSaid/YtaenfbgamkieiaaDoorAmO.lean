/- The abstract machine, fifteenth part: a region whose order is drawn. Its head may go in any order; each operation of it is computed on what its edges make sure of. No program. -/
import Derived.Test.YtaenfbgamkieiaaDoorAmN
import Derived.StillTail
namespace Go.Am
open Go.RowKit
set_option linter.unusedSimpArgs false
set_option linter.unusedVariables false

def Res.dat : Res → Dat
  | .d x => x
  | .own ek _ xs => .sl ek xs
  | .ownT ek _ xs rest => .tup (.sl ek xs :: rest)

theorem OwnRep.dat {w0 w : World} {pr : Nat → Bool} {ek : Option Nat} {e : TypeId} {xs : List Dat} {v : Value} (h : OwnRep w0 w pr ek e xs v) : RepD w (fun b => pr b || decide (w0.heap.size ≤ b)) (.sl ek xs) v := by
  obtain ⟨vals, hown, hcr⟩ := h
  have hcr' : CellsRep w (fun b => pr b || decide (w0.heap.size ≤ b)) ek xs (fun j => vals[j]?) := hcr.mono (fun b hb hp => ⟨rfl, by
    rw [Bool.and_eq_true] at hp
    exact hp.1⟩)
  rcases hown.2 with ⟨hn, h0⟩ | ⟨g, cap, cur, hv, hb, hg, hnc, hcm, hcs, htake⟩
  · have : xs = [] := List.eq_nil_of_length_eq_zero h0
    subst this
    rw [hn]
    exact .nil ek
  · rw [hv]
    refine RepD.sl_mk rfl hnc hcm (fun _ => rfl) (fun x hx => ?_) (fun k x hk j y hj => ?_)
    · obtain ⟨k, hk⟩ := List.mem_iff_getElem?.1 hx
      exact (hcr' k x hk).1
    · obtain ⟨hf, hh⟩ := hcr' k x hk
      obtain ⟨u, hu, hr⟩ := hh j y hj
      refine ⟨by simp [hb], hf.one y (List.mem_of_getElem? hj), u, ?_, hr⟩
      have := hown.cells (g := g) (by rw [hv]; rfl) _ u hu
      rw [Addr.add_lit] at this
      rw [← this]
      congr 2
      omega
theorem ResRep.dat {w0 w : World} {pr : Nat → Bool} {r : Res} {v : Value} (h : ResRep w0 w pr r v) : RepD w (fun b => pr b || decide (w0.heap.size ≤ b)) r.dat v := by
  cases r with
  | d x => exact h
  | own ek e xs => exact OwnRep.dat h
  | ownT ek e xs rest =>
    obtain ⟨vs, rfl, hs, ho, hr⟩ := h
    refine .tup _ vs (by simpa using hs) (fun j y hj => ?_)
    cases j with
    | zero => simp at hj; subst hj; exact OwnRep.dat ho
    | succ j => exact (hr j y (by simpa using hj)).mono (fun b hb hp => ⟨rfl, by rw [Bool.and_eq_true] at hp; exact hp.1⟩)

/-- What an operation of the head leaves: its number, its slot, what lies in it, an object that it made. -/
structure Ent where
  j : Nat
  dst : Option Tmp
  y : AV
  ob : Option AO

def tmOf : List Ent → List (Nat × AV) → List (Nat × AV)
  | [], tm => tm
  | ⟨_, some d, y, _⟩ :: r, tm => (d, y) :: tmOf r tm
  | ⟨_, none, _, _⟩ :: r, tm => tmOf r tm
def obOf (base : Nat) : List Ent → List (Nat × AO) → List (Nat × AO)
  | [], ob => ob
  | ⟨j, _, _, some o⟩ :: r, ob => (base + j, o) :: obOf base r ob
  | ⟨_, _, _, none⟩ :: r, ob => obOf base r ob
/-- The slots that the head fills: what is in them is not known. -/
def veil : List Oper → List (Nat × AV) → List (Nat × AV)
  | [], tm => tm
  | o :: r, tm => match o.dst with
    | some d => (d, .undef) :: veil r tm
    | none => veil r tm
def stE (σ : St) (n : Nat) (D : List Oper) (es : List Ent) : St := ⟨σ.sz, tmOf es (veil D σ.tm), obOf σ.nx es σ.ob, σ.nx + n⟩
def waitsB : List Edge → Nat → Bool
  | [], _ => false
  | e :: r, j => match Nat.beq e.on j, Region.binds .any e with
    | true, true => true
    | _, _ => waitsB r j
def keepE (l : List Edge) : List Ent → List Ent
  | [] => []
  | e :: r => match waitsB l e.j with
    | true => e :: keepE l r
    | false => keepE l r
def minE (σ : St) (n : Nat) (D : List Oper) (acc : List Ent) (o : Oper) : St := stE σ n D (keepE o.after.toList acc)

section
variable {P : Program} {Γ : Env} {Q : Exit → St → Prop} {σ : St} {ty : TypeId → Option TI}

/-- An operation of the head goes through, wherever the others stand. -/
def HStep (P : Program) (Γ : Env) (σm : St) (o : Oper) (id : Nat) (y : AV) (ob : Option AO) : Prop :=
  ∀ (a : Act) (C : Ct) (K : Act → World → Prop) (R : Exit → Act → World → Prop), Base0 Γ C → Models σm a C → C.ok id = false →
    (∀ v C', Evo C C' → (∀ i, C'.ok i = true → C.ok i = true ∨ (i = id ∧ ob.isSome = true)) → Rep C' y v →
      (∀ ao, ob = some ao → ORep C' id ao ∧ ∀ g, blk (C'.ρ id) = some g → C.w.heap.size ≤ g) →
      (∀ g, g < C.w.heap.size → C'.w.heap[g]? = C.w.heap[g]? ∧ C'.pr g = C.pr g) → K (a.put o.dst v) C'.w) → o.wp P a C.w K R
def EntOk (P : Program) (Γ : Env) (l : List Oper) (σ : St) (n : Nat) (D : List Oper) (acc : List Ent) (o : Oper) (e : Ent) : Prop :=
  dstOk σ o.dst = true ∧ ((wantedA l (minE σ n D acc o) o = some true ∧ HStep P Γ (minE σ n D acc o) o (σ.nx + e.j) e.y e.ob) ∨
    (wantedA l (minE σ n D acc o) o = some false ∧ e.y = .un ∧ e.ob = none))
/-- The head, step by step. -/
def HeadT (P : Program) (Γ : Env) (l : List Oper) (σ : St) (n : Nat) (D : List Oper) (K : List Ent → Prop) : List Oper → Nat → List Ent → Prop
  | [], _, acc => K acc
  | o :: r, j, acc => ∃ y ob, EntOk P Γ l σ n D acc o ⟨j, o.dst, y, ob⟩ ∧ HeadT P Γ l σ n D K r (j + 1) (⟨j, o.dst, y, ob⟩ :: acc)

theorem HStep.pure (hT : TyOk P ty) {σm : St} {o : Oper} {id : Nat} {p : Prop} {y : AV} (h : pureOp ty σm o.type o.op = some (p, y)) (hp : p) : HStep P Γ σm o id y none := by
  intro a C K R b m hid hk
  obtain ⟨v, hv, hr⟩ := pureOp_sound hT m h hp
  exact upon_value hv (hk v C (.refl C) (fun i hi => .inl hi) hr (by simp) (fun g hg => ⟨rfl, rfl⟩))
theorem HStep.alloc (hT : TyOk P ty) {σm : St} {o : Oper} {id : Nat} {t : TypeId} {ti : TI} (ho : o.op = .alloc t) (ht : ty t = some ti) : HStep P Γ σm o id (.ptr id 0) (some (.box t (ti.zd.map zav))) := by
  intro a C K R b m hid hk
  have hB := b.B
  obtain ⟨j, hj, _, _, hjz⟩ := hT.info _ _ ht
  have hrun : (execOp a.eval o).run P C.w = .ok (.value (.pointer (some ⟨C.w.heap.size, 0, none⟩))) (C.w.alloc (.cells ti.zero.cells t)) := by
    unfold execOp
    simp only [ho]
    refine run_value ?_
    simp [Instr.alloc, zeroValue, typeInfo, hj, hjz, newVar, newRow]
  refine upon_value hrun (hk _ (C.new id (.cells ti.zero.cells t) (.pointer (some ⟨C.w.heap.size, 0, none⟩))) (Ct.new_evo hid hB _ _) (fun i hi => (ok_or hi).imp (fun h => h) (fun h => ⟨h, rfl⟩)) ?_ (fun ao h => ?_) (fun g hg => ⟨heap_alloc_old C.w _ hg, ?_⟩))
  · exact .ptr _ _ C.w.heap.size (by simp [Ct.new]) (by simp [Ct.new, blk])
  · cases h
    refine ⟨new_box hid hB (zero_csrep hT ht C), fun g hg => ?_⟩
    simp [Ct.new, blk] at hg
    omega
  · simp only [Ct.new]
    rw [if_neg (by omega)]
theorem HStep.call {σm : St} {o : Oper} {id : Nat} {c : Call} {fx : Operand} {f : FuncId} {ys : List AV} {dargs : List Dat} {R : Res → Prop} {x : Dat} (ho : o.op = .call c) (hc : c.callee = .value fx) (hf : calleeOf σm ty fx = some (f, []))
    (hy : evAll σm ty c.args.toList c.argTypes.toList = some ys) (hdat : datAll σm ys = some dargs) (hA : ACalls P Γ f dargs R) (hR : ∀ r, R r → r.dat = x) : HStep P Γ σm o id (.d x) none := by
  intro a C K R' b m hid hk
  obtain ⟨⟨fn, hfn⟩, hcalls⟩ := hA
  obtain ⟨vs, hvl, _, hrun⟩ := run_call (P := P) m ho hc hf hfn
  have hv0 : vs = #[] := Array.eq_empty_of_size_eq_zero (by simpa using hvl)
  subst hv0
  obtain ⟨y1, y2⟩ := evAll_sound m hy
  obtain ⟨d1, d2⟩ := datAll_sound m hdat
  unfold Oper.wp
  rw [hrun, show c.args.map a.eval ++ #[] = c.args.map a.eval by simp]
  refine (hcalls C.w C.pr (c.args.map a.eval) b.ok (by simp [d1, y1]) (fun j x hj => ?_)).mono ?_
  · exact d2 (fun j => (c.args.map a.eval).getD j undef) (fun j y hy => by simpa using y2 j y hy) j x hj
  · rintro e w' ⟨v, r, rfl, hbel, hres, hr⟩
    have hx := hres.dat
    rw [hR r hr] at hx
    refine hk v (C.back0 w') (Ct.back0_evo b.B hbel) (fun i hi => .inl hi) (.d hx) (by simp) (fun g hg => ⟨hbel.block g hg, ?_⟩)
    simp [Ct.back0]
    intro h
    omega

/-! ### Looking things up -/
theorem look_tmOf {t : Nat} {tm : List (Nat × AV)} : ∀ {es : List Ent} {x : AV}, look t (tmOf es tm) = some x → (∃ e ∈ es, e.dst = some t ∧ e.y = x) ∨ (look t tm = some x ∧ ∀ e ∈ es, e.dst ≠ some t)
  | [], x, h => .inr ⟨h, by simp⟩
  | ⟨j, some d, y, ob⟩ :: r, x, h => by
    rw [tmOf, look_cons] at h
    split at h
    · rename_i e
      subst e
      cases h
      exact .inl ⟨_, List.mem_cons_self .., rfl, rfl⟩
    · rename_i hne
      rcases look_tmOf h with ⟨e, he, h1⟩ | ⟨h1, h2⟩
      · exact .inl ⟨e, List.mem_cons_of_mem _ he, h1⟩
      · refine .inr ⟨h1, fun e he => ?_⟩
        rcases List.mem_cons.1 he with rfl | he
        · simpa using hne
        · exact h2 e he
  | ⟨j, none, y, ob⟩ :: r, x, h => by
    rw [tmOf] at h
    rcases look_tmOf h with ⟨e, he, h1⟩ | ⟨h1, h2⟩
    · exact .inl ⟨e, List.mem_cons_of_mem _ he, h1⟩
    · refine .inr ⟨h1, fun e he => ?_⟩
      rcases List.mem_cons.1 he with rfl | he
      · simp
      · exact h2 e he
theorem tmOf_miss {t : Nat} {tm : List (Nat × AV)} : ∀ {es : List Ent}, (∀ e ∈ es, e.dst ≠ some t) → look t (tmOf es tm) = look t tm
  | [], h => rfl
  | ⟨j, some d, y, ob⟩ :: r, h => by
    rw [tmOf, look_cons, if_neg]
    · exact tmOf_miss fun e he => h e (List.mem_cons_of_mem _ he)
    · rintro rfl
      exact h _ (List.mem_cons_self ..) rfl
  | ⟨j, none, y, ob⟩ :: r, h => by
    rw [tmOf]
    exact tmOf_miss fun e he => h e (List.mem_cons_of_mem _ he)
theorem tmOf_hit {t : Nat} {tm : List (Nat × AV)} {e : Ent} (hd : e.dst = some t) : ∀ {es : List Ent}, e ∈ es → (∀ e' ∈ es, e'.dst = some t → e' = e) → look t (tmOf es tm) = some e.y
  | [], h, _ => by cases h
  | ⟨j, some d, y, ob⟩ :: r, h, hu => by
    rw [tmOf, look_cons]
    split
    · rename_i hdt
      have := hu ⟨j, some d, y, ob⟩ (List.mem_cons_self ..) (by rw [hdt])
      rw [← this]
    · rename_i hne
      refine tmOf_hit hd ?_ (fun e' he' => hu e' (List.mem_cons_of_mem _ he'))
      rcases List.mem_cons.1 h with rfl | h
      · exact absurd (by simpa using hd) hne
      · exact h
  | ⟨j, none, y, ob⟩ :: r, h, hu => by
    rw [tmOf]
    refine tmOf_hit hd ?_ (fun e' he' => hu e' (List.mem_cons_of_mem _ he'))
    rcases List.mem_cons.1 h with rfl | h
    · cases hd
    · exact h
theorem look_obOf {base i : Nat} {ob : List (Nat × AO)} : ∀ {es : List Ent} {x : AO}, look i (obOf base es ob) = some x → (∃ e ∈ es, base + e.j = i ∧ e.ob = some x) ∨ look i ob = some x
  | [], x, h => .inr h
  | ⟨j, d, y, some o⟩ :: r, x, h => by
    rw [obOf, look_cons] at h
    split at h
    · rename_i e
      cases h
      exact .inl ⟨_, List.mem_cons_self .., e, rfl⟩
    · rcases look_obOf h with ⟨e, he, h1⟩ | h1
      · exact .inl ⟨e, List.mem_cons_of_mem _ he, h1⟩
      · exact .inr h1
  | ⟨j, d, y, none⟩ :: r, x, h => by
    rw [obOf] at h
    rcases look_obOf h with ⟨e, he, h1⟩ | h1
    · exact .inl ⟨e, List.mem_cons_of_mem _ he, h1⟩
    · exact .inr h1
theorem obOf_hit {base : Nat} {ob : List (Nat × AO)} {e : Ent} {o : AO} (ho : e.ob = some o) : ∀ {es : List Ent}, e ∈ es → (∀ e' ∈ es, e'.j = e.j → e' = e) → look (base + e.j) (obOf base es ob) = some o
  | [], h, _ => by cases h
  | ⟨j, d, y, some o'⟩ :: r, h, hu => by
    rw [obOf, look_cons]
    split
    · rename_i hdt
      have := hu ⟨j, d, y, some o'⟩ (List.mem_cons_self ..) (by simpa using hdt)
      rw [← this] at ho
      simpa using ho
    · rename_i hne
      refine obOf_hit ho ?_ (fun e' he' => hu e' (List.mem_cons_of_mem _ he'))
      rcases List.mem_cons.1 h with rfl | h
      · exact absurd rfl hne
      · exact h
  | ⟨j, d, y, none⟩ :: r, h, hu => by
    rw [obOf]
    refine obOf_hit ho ?_ (fun e' he' => hu e' (List.mem_cons_of_mem _ he'))
    rcases List.mem_cons.1 h with rfl | h
    · cases ho
    · exact h
theorem obOf_low {base i : Nat} {ob : List (Nat × AO)} (hi : i < base) : ∀ {es : List Ent}, look i (obOf base es ob) = look i ob
  | [] => rfl
  | ⟨j, d, y, some o⟩ :: r => by
    rw [obOf, look_cons, if_neg (by omega)]
    exact obOf_low hi
  | ⟨j, d, y, none⟩ :: r => by
    rw [obOf]
    exact obOf_low hi
theorem look_veil {t : Nat} {tm : List (Nat × AV)} : ∀ {D : List Oper} {x : AV}, look t (veil D tm) = some x → (x = .undef ∧ ∃ o ∈ D, o.dst = some t) ∨ (look t tm = some x ∧ ∀ o ∈ D, o.dst ≠ some t)
  | [], x, h => .inr ⟨h, by simp⟩
  | o :: r, x, h => by
    rw [veil] at h
    split at h
    · rename_i d hd
      rw [look_cons] at h
      split at h
      · rename_i e
        subst e
        cases h
        exact .inl ⟨rfl, o, List.mem_cons_self .., hd⟩
      · rename_i hne
        rcases look_veil h with ⟨h1, o', h2, h3⟩ | ⟨h1, h2⟩
        · exact .inl ⟨h1, o', List.mem_cons_of_mem _ h2, h3⟩
        · refine .inr ⟨h1, fun o' ho' => ?_⟩
          rcases List.mem_cons.1 ho' with rfl | ho'
          · rw [hd]; simpa using hne
          · exact h2 o' ho'
    · rename_i hd
      rcases look_veil h with ⟨h1, o', h2, h3⟩ | ⟨h1, h2⟩
      · exact .inl ⟨h1, o', List.mem_cons_of_mem _ h2, h3⟩
      · refine .inr ⟨h1, fun o' ho' => ?_⟩
        rcases List.mem_cons.1 ho' with rfl | ho'
        · rw [hd]; simp
        · exact h2 o' ho'
theorem veil_miss {t : Nat} {tm : List (Nat × AV)} : ∀ {D : List Oper}, (∀ o ∈ D, o.dst ≠ some t) → look t (veil D tm) = look t tm
  | [], h => rfl
  | o :: r, h => by
    rw [veil]
    split
    · rename_i d hd
      rw [look_cons, if_neg]
      · exact veil_miss fun o' ho' => h o' (List.mem_cons_of_mem _ ho')
      · rintro rfl
        exact h _ (List.mem_cons_self ..) hd
    · exact veil_miss fun o' ho' => h o' (List.mem_cons_of_mem _ ho')
theorem mem_keepE {l : List Edge} : ∀ {es : List Ent} {e : Ent}, e ∈ keepE l es → e ∈ es ∧ waitsB l e.j = true
  | [], e, h => by cases h
  | x :: r, e, h => by
    rw [keepE] at h
    split at h
    · rename_i hw
      rcases List.mem_cons.1 h with rfl | h
      · exact ⟨List.mem_cons_self .., hw⟩
      · exact ⟨List.mem_cons_of_mem _ (mem_keepE h).1, (mem_keepE h).2⟩
    · exact ⟨List.mem_cons_of_mem _ (mem_keepE h).1, (mem_keepE h).2⟩
theorem waitsB_spec {j : Nat} : ∀ {l : List Edge}, waitsB l j = true → ∃ e ∈ l, e.on = j ∧ Region.binds .any e = true
  | [], h => by cases h
  | e :: r, h => by
    rw [waitsB] at h
    split at h
    · rename_i h1 h2
      exact ⟨e, List.mem_cons_self .., Nat.eq_of_beq_eq_true h1, h2⟩
    · obtain ⟨e', h1, h2⟩ := waitsB_spec h
      exact ⟨e', List.mem_cons_of_mem _ h1, h2⟩

theorem Models.weak {σ σ' : St} {a : Act} {C : Ct} (h : Models σ a C) (h1 : σ'.sz = σ.sz) (h2 : σ.nx ≤ σ'.nx) (h3 : ∀ t x, σ'.get t = some x → σ.get t = some x ∨ (x = .undef ∧ t < σ.sz)) (h4 : ∀ i o, σ'.obj i = some o → σ.obj i = some o) : Models σ' a C :=
  ⟨h.defers, by rw [h1]; exact h.sz, fun i hi => Nat.lt_of_lt_of_le (h.nx i hi) h2, fun t x ht => by
    rw [h1]
    rcases h3 t x ht with h | ⟨rfl, hlt⟩
    · exact ‹Models σ a C›.tm t x h
    · exact ⟨hlt, .undef _⟩, fun i o hi => h.ob i o (h4 i o hi), fun i j o o' g hi hj => h.apart i j o o' g (h4 i o hi) (h4 j o' hj)⟩

/-! ### The head -/
/-- All that is known of the entries of a head. -/
structure Head (P : Program) (Γ : Env) (l : List Oper) (σ : St) (n : Nat) (es : List Ent) : Prop where
  ent : ∀ i o, i < n → l[i]? = some o → ∃ acc e, (∀ e' ∈ acc, e' ∈ es) ∧ e ∈ es ∧ e.j = i ∧ e.dst = o.dst ∧ EntOk P Γ l σ n (l.take n) acc o e
  uniq : ∀ e ∈ es, ∀ e' ∈ es, e.j = e'.j → e = e'
  lt : ∀ e ∈ es, e.j < n ∧ ∃ o, l[e.j]? = some o ∧ e.dst = o.dst
  dsts : ∀ e ∈ es, ∀ e' ∈ es, ∀ t, e.dst = some t → e'.dst = some t → e = e'
  low : ∀ i o, σ.obj i = some o → i < σ.nx

theorem Head.mem {l : List Oper} {n : Nat} {es : List Ent} (H : Head P Γ l σ n es) {e : Ent} (he : e ∈ es) : ∃ o ∈ l.take n, e.dst = o.dst := by
  obtain ⟨h1, o, h2, h3⟩ := H.lt e he
  refine ⟨o, List.mem_of_getElem? (i := e.j) ?_, h3⟩
  rw [List.getElem?_take, if_pos h1]
  exact h2
theorem Head.ent_of {l : List Oper} {n : Nat} {es : List Ent} (H : Head P Γ l σ n es) {o : Oper} (ho : o ∈ l.take n) : ∃ e ∈ es, e.dst = o.dst ∧ dstOk σ o.dst = true := by
  obtain ⟨i, hi⟩ := List.mem_iff_getElem?.1 ho
  rw [List.getElem?_take] at hi
  split at hi
  · rename_i hlt
    obtain ⟨acc, e, _, h2, h3, h4, h5⟩ := H.ent i o hlt hi
    exact ⟨e, h2, h4, h5.1⟩
  · cases hi

theorem Head.start {l : List Oper} {n : Nat} {es : List Ent} (H : Head P Γ l σ n es) {a : Act} {C : Ct} (m : Models σ a C) : Models (stE σ n (l.take n) []) a C :=
  m.weak rfl (Nat.le_add_right _ _) (fun t x ht => by
    rcases look_veil ht with ⟨h1, o, h2, h3⟩ | ⟨h1, _⟩
    · obtain ⟨e, _, _, h6⟩ := H.ent_of h2
      rw [h3] at h6
      exact .inr ⟨h1, by simpa [dstOk, Nat.blt_eq] using h6⟩
    · exact .inl h1) (fun i o hi => hi)

theorem Head.less {l : List Oper} {n : Nat} {es done es' : List Ent} (H : Head P Γ l σ n es) {a : Act} {C : Ct} (hd : ∀ e ∈ done, e ∈ es) (hs : ∀ e ∈ es', e ∈ done) (m : Models (stE σ n (l.take n) done) a C) : Models (stE σ n (l.take n) es') a C :=
  m.weak rfl (Nat.le_refl _) (fun t x ht => by
    rcases look_tmOf ht with ⟨e, h1, h2, h3⟩ | ⟨h1, _⟩
    · left
      rw [← h3]
      exact tmOf_hit h2 (hs e h1) (fun e' he' hd' => H.dsts e' (hd e' he') e (hd e (hs e h1)) t hd' h2)
    · rcases look_veil h1 with ⟨h1, o, h2, h3⟩ | ⟨h1, h2⟩
      · obtain ⟨e, _, _, h6⟩ := H.ent_of h2
        rw [h3] at h6
        exact .inr ⟨h1, by simpa [dstOk, Nat.blt_eq, stE] using h6⟩
      · left
        show look t (tmOf done (veil (l.take n) σ.tm)) = some x
        rw [tmOf_miss, veil_miss h2]
        · exact h1
        · intro e he
          obtain ⟨o, ho, h3⟩ := H.mem (hd e he)
          rw [h3]
          exact h2 o ho) (fun i o hi => by
    rcases look_obOf hi with ⟨e, h1, rfl, h3⟩ | h1
    · exact obOf_hit h3 (hs e h1) (fun e' he' hj => H.uniq e' (hd e' he') e (hd e (hs e h1)) hj)
    · show look i (obOf σ.nx done σ.ob) = some o
      rw [obOf_low (H.low i o h1)]
      exact h1)

def finE (σ : St) (n : Nat) (es : List Ent) : St := ⟨σ.sz, tmOf es σ.tm, obOf σ.nx es σ.ob, σ.nx + n⟩
theorem Head.fin {l : List Oper} {n : Nat} {es done : List Ent} (H : Head P Γ l σ n es) {a : Act} {C : Ct} (hd : ∀ e ∈ done, e ∈ es) (hs : ∀ e ∈ es, e ∈ done) (m : Models (stE σ n (l.take n) done) a C) : Models (finE σ n es) a C :=
  m.weak rfl (Nat.le_refl _) (fun t x ht => by
    left
    rcases look_tmOf ht with ⟨e, h1, h2, h3⟩ | ⟨h1, h2⟩
    · rw [← h3]
      exact tmOf_hit h2 (hs e h1) (fun e' he' hd' => H.dsts e' (hd e' he') e h1 t hd' h2)
    · show look t (tmOf done (veil (l.take n) σ.tm)) = some x
      rw [tmOf_miss (fun e he => h2 e (hd e he)), veil_miss]
      · exact h1
      · intro o ho
        obtain ⟨e, he, h4, _⟩ := H.ent_of ho
        rw [← h4]
        exact h2 e he) (fun i o hi => by
    rcases look_obOf hi with ⟨e, h1, rfl, h3⟩ | h1
    · exact obOf_hit h3 (hs e h1) (fun e' he' hj => H.uniq e' (hd e' he') e h1 hj)
    · show look i (obOf σ.nx done σ.ob) = some o
      rw [obOf_low (H.low i o h1)]
      exact h1)

/-- One more operation of the head is done. -/
theorem Models.ent {σ : St} {n : Nat} {D : List Oper} {done : List Ent} {e : Ent} {a : Act} {C C' : Ct} {v : Value} (m : Models (stE σ n D done) a C) (hj : e.j < n) (hd : dstOk σ e.dst = true) (ev : Evo C C') (hn : ∀ i, C'.ok i = true → C.ok i = true ∨ (i = σ.nx + e.j ∧ e.ob.isSome = true)) (hv : Rep C' e.y v)
    (ho : ∀ ao, e.ob = some ao → ORep C' (σ.nx + e.j) ao ∧ ∀ g, blk (C'.ρ (σ.nx + e.j)) = some g → C.w.heap.size ≤ g) (hk : ∀ g, g < C.w.heap.size → C'.w.heap[g]? = C.w.heap[g]? ∧ C'.pr g = C.pr g) : Models (stE σ n D (e :: done)) (a.put e.dst v) C' := by
  obtain ⟨j, d, y, ob⟩ := e
  cases ob with
  | none =>
    have m' : Models (stE σ n D done) a C' := m.mono ev (fun i hi => by simpa using hn i hi) (fun i o g hi he hg => by
      obtain ⟨h1, h2, _⟩ := (m.ob i o hi).excl he hg
      obtain ⟨h3, h4⟩ := hk g h1
      exact ⟨h3, h4.trans h2⟩)
    have m2 := m'.put (dst := d) hv (dstOk_spec hd)
    cases d <;> exact m2
  | some o =>
    obtain ⟨h1, h2⟩ := ho o rfl
    have m' : Models ((stE σ n D done).addAt (σ.nx + j) (σ.nx + n) none o) a C' := m.addAt ev (σ.nx + j) (σ.nx + n) none o (by simp) (fun i hi => by simpa using hn i hi) (Nat.le_refl _) (by simp only at hj; omega) h1 (fun k ok g hi he _ hg => by
      obtain ⟨h3, h4, _⟩ := (m.ob k ok hi).excl he hg
      obtain ⟨h5, h6⟩ := hk g h3
      refine ⟨h5, h6.trans h4, fun h7 => ?_⟩
      have := h2 g h7
      omega)
    have m2 := m'.put (dst := d) hv (dstOk_spec hd)
    cases d <;> exact m2
end
end Go.Am
