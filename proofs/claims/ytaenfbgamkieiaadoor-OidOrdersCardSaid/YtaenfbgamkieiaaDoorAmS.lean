/- The abstract machine, nineteenth part: rules for walks that go by themselves: calls with one result, guards that part the ways. No program. -/
import Derived.Test.YtaenfbgamkieiaaDoorAmR
namespace Go.Am
open Go.RowKit
set_option linter.unusedSimpArgs false
set_option linter.unusedVariables false

section
variable {P : Program} {Γ : Env} {Q : Exit → St → Prop} {σ : St} {ty : TypeId → Option TI}

def frz1N : St → AV → St
  | ⟨sz, tm, ob, nx⟩, .ref i => match look i ob with
    | some (.row ek e xs) => ⟨sz, tm, (i, .frz ek xs) :: ob, nx⟩
    | _ => ⟨sz, tm, ob, nx⟩
  | ⟨sz, tm, ob, nx⟩, _ => ⟨sz, tm, ob, nx⟩
def frzLN : St → List AV → St
  | ⟨sz, tm, ob, nx⟩, [] => ⟨sz, tm, ob, nx⟩
  | ⟨sz, tm, ob, nx⟩, x :: r => frzLN (frz1N ⟨sz, tm, ob, nx⟩ x) r
def frzAN : St → AV → St
  | ⟨sz, tm, ob, nx⟩, .agg cs => frzLN ⟨sz, tm, ob, nx⟩ cs
  | ⟨sz, tm, ob, nx⟩, x => frz1N ⟨sz, tm, ob, nx⟩ x
def frzN : St → List AV → St
  | ⟨sz, tm, ob, nx⟩, [] => ⟨sz, tm, ob, nx⟩
  | ⟨sz, tm, ob, nx⟩, x :: r => frzN (frzAN ⟨sz, tm, ob, nx⟩ x) r
theorem frz1N_eq (σ : St) (x : AV) : frz1N σ x = frz1 σ x := by
  obtain ⟨sz, tm, ob, nx⟩ := σ
  cases x with
  | ref i =>
    simp only [frz1N, frz1, St.obj]
    cases look i ob with
    | none => rfl
    | some o => cases o <;> rfl
  | _ => rfl
theorem frzLN_eq : ∀ (l : List AV) (σ : St), frzLN σ l = frzL σ l
  | [], σ => by cases σ; rfl
  | x :: r, σ => by
    rw [frzL, ← frzLN_eq r, ← frz1N_eq]
    cases σ; rfl
theorem frzAN_eq (σ : St) (x : AV) : frzAN σ x = frzA σ x := by
  obtain ⟨sz, tm, ob, nx⟩ := σ
  cases x with
  | agg cs => exact frzLN_eq cs _
  | _ => simp only [frzAN, frzA]; exact frz1N_eq _ _
theorem frzN_eq : ∀ (l : List AV) (σ : St), frzN σ l = frzAll σ l
  | [], σ => by cases σ; rfl
  | x :: r, σ => by
    rw [frzAll, ← frzN_eq r, ← frzAN_eq]
    cases σ; rfl
def resOf (σ : St) (ys : List AV) (dst : Option Tmp) (r : Res) : St := match frzN σ ys with
  | ⟨sz, tm, ob, nx⟩ => match r with
    | .d x => put' ⟨sz, tm, ob, nx⟩ dst (.d x)
    | .own ek e xs => addPut ⟨sz, tm, ob, nx⟩ none (.row ek e xs) dst .ref
    | .ownT ek e xs rest => addPut ⟨sz, tm, ob, nx⟩ none (.row ek e xs) dst (fun i => .tup (.ref i :: rest.map .d))
theorem resOf_eq (σ : St) (ys : List AV) (dst : Option Tmp) (r : Res) : resOf σ ys dst r = (frzAll σ ys).res dst r := by
  rw [← frzN_eq]
  unfold resOf
  split
  rename_i h
  rw [h]
  cases r <;> cases dst <;> rfl

/-- A call whose contract names its one result. -/
theorem aops_callE {ops rest : List Oper} {o : Oper} {c : Call} {fx : Operand} {f : FuncId} {ys : List AV} {dargs : List Dat} {r0 : Res} {sz nx : Nat} {tm : List (Nat × AV)} {ob : List (Nat × AO)} (hw : wantedA ops σ o = some true) (hd : dstOk σ o.dst = true) (ho : o.op = .call c) (hc : c.callee = .value fx) (hf : calleeOf σ ty fx = some (f, []))
    (hy : evAll σ ty c.args.toList c.argTypes.toList = some ys) (hdat : datAll (frzAll σ ys) ys = some dargs) (hA : ACalls P Γ f dargs (fun r => r = r0)) (hr : resOf σ ys o.dst r0 = ⟨sz, tm, ob, nx⟩)
    (k : AOps P Γ ops Q rest ⟨sz, tm, ob, nx⟩) : AOps P Γ ops Q (o :: rest) σ :=
  aops_call hw hd ho hc hf hy hdat hA fun r h => by
    subst h
    rw [← resOf_eq, hr]
    exact k
theorem head_callE {l : List Oper} {n : Nat} {D : List Oper} {K : List Ent → Prop} {r : List Oper} {j : Nat} {acc : List Ent} {o : Oper} {c : Call} {fx : Operand} {f : FuncId} {ys : List AV} {dargs : List Dat} {r0 : Res} {x : Dat} (hd : dstOk σ o.dst = true) (hw : wantedA l (minE σ n D acc o) o = some true) (ho : o.op = .call c) (hc : c.callee = .value fx)
    (hf : calleeOf (minE σ n D acc o) ty fx = some (f, [])) (hy : evAll (minE σ n D acc o) ty c.args.toList c.argTypes.toList = some ys) (hdat : datAll (minE σ n D acc o) ys = some dargs) (hA : ACalls P Γ f dargs (fun r => r = r0)) (hx : r0.dat = x)
    (k : HeadT P Γ l σ n D K r (j + 1) (⟨j, o.dst, .d x, none⟩ :: acc)) : HeadT P Γ l σ n D K (o :: r) j acc :=
  head_call (ty := ty) x hd hw ho hc hf hy hdat hA (fun r h => by rw [h]; exact hx) k

theorem aops_cutE (hT : TyOk P ty) {ops rest : List Oper} {o : Oper} {t e : TypeId} {x z : Operand} {ti ei : TI} {i : Nat} {ek : Option Nat} {e' : TypeId} {xs : List Dat} {kq : IntKind} {h : Int} {sz nx : Nat} {tm : List (Nat × AV)} {ob : List (Nat × AO)} (hw : wantedA ops σ o = some true) (hd : dstOk σ o.dst = true) (ho : o.op = .slice t x none (some z) none) (ht : ty t = some ti) (hde : ti.desc = .slice e) (he : ty e = some ei)
    (hx : σ.ev ty t x = some (.ref i)) (hob : σ.obj i = some (.row ek e' xs)) (hz : σ.ev ty 0 z = some (.d (.int kq h))) (hh : 0 ≤ h ∧ h ≤ xs.length) (hr : addPut σ (some i) (.row ek e' (xs.take h.toNat)) o.dst .ref = ⟨sz, tm, ob, nx⟩)
    (k : AOps P Γ ops Q rest ⟨sz, tm, ob, nx⟩) : AOps P Γ ops Q (o :: rest) σ :=
  aops_cut hT hw hd ho ht hde he hx hob hz hh.1 hh.2 (by rw [addPut_eq] at hr; rw [hr]; exact k)
/-- Ops that go on; at least one. -/
theorem aops_go (hT : TyOk P ty) {ops l r : List Oper} {q : Prop} {σ' : St} (h : runA ty ops [] l True σ = (q, r, σ')) (hp : Nat.blt r.length l.length = true) (hq : q) (k : AOps P Γ ops Q r σ') : AOps P Γ ops Q l σ := aops_runA hT h hq k
/-- The guard is known. -/
theorem aops_gate (hT : TyOk P ty) {ops rest r : List Oper} {o : Oper} {j : Nat} {want : Bool} {q : Prop} {σ' : St} (hg : o.guard = some (j, want)) (h : runA ty ops [j] (o :: rest) True σ = (q, r, σ')) (hp : Nat.blt r.length (o :: rest).length = true) (hq : q) (k : AOps P Γ ops Q r σ') : AOps P Γ ops Q (o :: rest) σ := aops_runA hT h hq k
/-- The guard parts the ways. -/
theorem aops_split (hT : TyOk P ty) {ops rest r1 r2 : List Oper} {o oj : Oper} {j t : Nat} {want b : Bool} {q1 q2 : Prop} {σ1 σ2 : St} (hg : o.guard = some (j, want)) (hj : ops[j]? = some oj) (ht : oj.dst = some t) (hv : σ.get t = some (.d (.bool b)))
    (e1 : runA ty ops [j] (o :: rest) True (put' σ (some t) (.d (.bool true))) = (q1, r1, σ1)) (e2 : runA ty ops [j] (o :: rest) True (put' σ (some t) (.d (.bool false))) = (q2, r2, σ2))
    (h1 : b = true → q1 ∧ AOps P Γ ops Q r1 σ1) (h2 : b = false → q2 ∧ AOps P Γ ops Q r2 σ2) : AOps P Γ ops Q (o :: rest) σ :=
  aops_guard hg hj ht hv (fun hb => by rw [← put'_eq]; exact aops_runA hT e1 (h1 hb).1 (h1 hb).2) (fun hb => by rw [← put'_eq]; exact aops_runA hT e2 (h2 hb).1 (h2 hb).2)

/-- A region whose order is drawn: all but the last operation in whatever order. -/
theorem awp_anyL (n : Nat) {id : Nat} {l : List Oper} (hm : P.follows .mixedOrders = true) (hl : Nat.beq l.length (n + 1) = true) (hB : drawnB l n = true) (h : HeadT P Γ l σ n (l.take n) (fun es => AOps P Γ l Q (l.drop n) (finE σ n es)) (l.take n) 0 []) : AWp P Γ (.region id l.toArray true) Q σ := awp_any n hm hB h

theorem awp_anyM (n len : Nat) {id : Nat} {l : List Oper} (hm : P.follows .mixedOrders = true) (hl : Nat.beq l.length len = true) (hB : drawnB l n = true) (h : HeadT P Γ l σ n (l.take n) (fun es => AOps P Γ l Q (l.drop n) (finE σ n es)) (l.take n) 0 []) : AWp P Γ (.region id l.toArray true) Q σ := awp_any n hm hB h
theorem awp_anyF (fz : List AV) (n : Nat) {id : Nat} {l : List Oper} {sz nx : Nat} {tm : List (Nat × AV)} {ob : List (Nat × AO)} (hm : P.follows .mixedOrders = true) (hl : Nat.beq l.length (n + 1) = true) (hB : drawnB l n = true) (hf : frzN σ fz = ⟨sz, tm, ob, nx⟩)
    (h : HeadT P Γ l ⟨sz, tm, ob, nx⟩ n (l.take n) (fun es => AOps P Γ l Q (l.drop n) (finE ⟨sz, tm, ob, nx⟩ n es)) (l.take n) 0 []) : AWp P Γ (.region id l.toArray true) Q σ := awp_freeze fz (by rw [← frzN_eq, hf]; exact awp_any n hm hB h)
theorem aops_freezeE (fz : List AV) {ops rest : List Oper} {sz nx : Nat} {tm : List (Nat × AV)} {ob : List (Nat × AO)} (hf : frzN σ fz = ⟨sz, tm, ob, nx⟩) (k : AOps P Γ ops Q rest ⟨sz, tm, ob, nx⟩) : AOps P Γ ops Q rest σ := aops_freeze fz (by rw [← frzN_eq, hf]; exact k)

/-- (To ask whether a guard is known.) -/
theorem aops_known {ops rest : List Oper} {o : Oper} (h : wantedA ops σ o = some true) (k : AOps P Γ ops Q (o :: rest) σ) : AOps P Γ ops Q (o :: rest) σ := k
theorem head_known {l : List Oper} {n : Nat} {D : List Oper} {K : List Ent → Prop} {r : List Oper} {o : Oper} {j : Nat} {acc : List Ent} (h : wantedA l (minE σ n D acc o) o = some true) (k : HeadT P Γ l σ n D K (o :: r) j acc) : HeadT P Γ l σ n D K (o :: r) j acc := k

def entV (j : Nat) : List Ent → Option AV
  | [] => none
  | e :: r => match Nat.beq e.j j with
    | true => some e.y
    | false => entV j r
def setB (j : Nat) (v : Bool) : List Ent → List Ent
  | [] => []
  | ⟨i, d, y, ob⟩ :: r => match Nat.beq i j with
    | true => ⟨i, d, .d (.bool v), ob⟩ :: r
    | false => ⟨i, d, y, ob⟩ :: setB j v r
theorem setB_same {j : Nat} {b : Bool} : ∀ {acc : List Ent}, entV j acc = some (.d (.bool b)) → setB j b acc = acc
  | [], h => rfl
  | ⟨i, d, y, ob⟩ :: r, h => by
    unfold entV at h
    unfold setB
    split at h
    · rename_i hb
      simp only at hb
      simp only [hb]
      cases h
      rfl
    · rename_i hb
      simp only at hb
      simp only [hb]
      rw [setB_same h]
theorem head_goP (hT : TyOk P ty) {l : List Oper} {n : Nat} {D : List Oper} {K : List Ent → Prop} {r : List Oper} {j : Nat} {acc : List Ent} {q : Prop} {r' : List Oper} {j' : Nat} {acc' : List Ent} (h : runH ty l [] σ n D r j acc True = (q, r', j', acc')) (hp : Nat.blt r'.length r.length = true) (hq : q) (k : HeadT P Γ l σ n D K r' j' acc') : HeadT P Γ l σ n D K r j acc := head_run hT h hq k
theorem head_gate (hT : TyOk P ty) {l : List Oper} {n : Nat} {D : List Oper} {K : List Ent → Prop} {r : List Oper} {o : Oper} {j j0 : Nat} {want : Bool} {acc : List Ent} {q : Prop} {r' : List Oper} {j' : Nat} {acc' : List Ent} (hg : o.guard = some (j0, want)) (h : runH ty l [j0] σ n D (o :: r) j acc True = (q, r', j', acc')) (hp : Nat.blt r'.length (o :: r).length = true) (hq : q) (k : HeadT P Γ l σ n D K r' j' acc') : HeadT P Γ l σ n D K (o :: r) j acc := head_run hT h hq k
theorem head_split (hT : TyOk P ty) {l : List Oper} {n : Nat} {D : List Oper} {K : List Ent → Prop} {r : List Oper} {o : Oper} {j j0 : Nat} {want b : Bool} {acc : List Ent} {q1 q2 : Prop} {r1 r2 : List Oper} {i1 i2 : Nat} {acc1 acc2 : List Ent} (hg : o.guard = some (j0, want)) (hv : entV j0 acc = some (.d (.bool b)))
    (e1 : runH ty l [j0] σ n D (o :: r) j (setB j0 true acc) True = (q1, r1, i1, acc1)) (e2 : runH ty l [j0] σ n D (o :: r) j (setB j0 false acc) True = (q2, r2, i2, acc2))
    (h1 : b = true → q1 ∧ HeadT P Γ l σ n D K r1 i1 acc1) (h2 : b = false → q2 ∧ HeadT P Γ l σ n D K r2 i2 acc2) : HeadT P Γ l σ n D K (o :: r) j acc := by
  rw [← setB_same hv]
  cases b with
  | true => exact head_run hT e1 (h1 rfl).1 (h1 rfl).2
  | false => exact head_run hT e2 (h2 rfl).1 (h2 rfl).2
end

theorem fits_str (s : ByteArray) : Fits none (.str s) ↔ True := iff_true_intro rfl
theorem fits_int (k : IntKind) (n : Int) : Fits none (.int k n) ↔ True := iff_true_intro rfl
theorem fits_bool (b : Bool) : Fits none (.bool b) ↔ True := iff_true_intro rfl
theorem fits_sl (ek : Option Nat) (xs : List Dat) : Fits none (.sl ek xs) ↔ True := iff_true_intro rfl
theorem fits_agg (m : Nat) (cs : List Dat) : Fits (some m) (.agg cs) ↔ cs.length = m ∧ cs.all (·.one) = true := by
  constructor
  · rintro ⟨cs', h, h1, h2⟩
    cases h
    exact ⟨h1, List.all_eq_true.2 h2⟩
  · rintro ⟨h1, h2⟩
    exact ⟨cs, rfl, h1, List.all_eq_true.1 h2⟩
/-! ### Reading -/
theorem cutL_full (l : List Dat) : cutL l 0 l.length = l := by simp [cutL]
theorem bys_nil : bys [] = [] := rfl
theorem toNat_zero : Int.toNat 0 = 0 := rfl
theorem toNat_one : Int.toNat 1 = 1 := rfl
end Go.Am
