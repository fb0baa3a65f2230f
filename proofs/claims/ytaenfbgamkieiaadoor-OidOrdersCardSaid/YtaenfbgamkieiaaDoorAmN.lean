/- The abstract machine, fourteenth part: operations in a row, carried out by computation. No program. -/
import Derived.Test.YtaenfbgamkieiaaDoorAmM
namespace Go.Am
open Go.RowKit
set_option linter.unusedSimpArgs false
set_option linter.unusedVariables false

section
variable {P : Program} {Γ : Env} {Q : Exit → St → Prop} {σ : St} {ty : TypeId → Option TI}

def put' : St → Option Tmp → AV → St
  | ⟨sz, tm, ob, nx⟩, none, _ => ⟨sz, tm, ob, nx⟩
  | ⟨sz, tm, ob, nx⟩, some d, x => ⟨sz, (d, x) :: tm, ob, nx⟩
theorem put'_eq (σ : St) (d : Option Tmp) (x : AV) : put' σ d x = σ.put d x := by cases σ; cases d <;> rfl
/-- A new object, its number in a slot. -/
def addPut : St → Option Nat → AO → Option Tmp → (Nat → AV) → St
  | ⟨sz, tm, ob, nx⟩, none, o, d, x => put' ⟨sz, tm, (nx, o) :: ob, nx + 1⟩ d (x nx)
  | ⟨sz, tm, ob, nx⟩, some i, o, d, x => put' ⟨sz, tm, (nx, o) :: (i, .dead) :: ob, nx + 1⟩ d (x nx)
theorem addPut_eq (σ : St) (kill : Option Nat) (o : AO) (d : Option Tmp) (x : Nat → AV) : addPut σ kill o d x = (σ.add kill o).put d (x σ.nx) := by cases σ; cases kill <;> cases d <;> rfl
def setO' : St → Nat → AO → St
  | ⟨sz, tm, ob, nx⟩, i, o => ⟨sz, tm, (i, o) :: ob, nx⟩
theorem setO'_eq (σ : St) (i : Nat) (o : AO) : setO' σ i o = σ.setO i o := by cases σ; rfl

/-- A new row, and what is asked of it. -/
def makeA (ty : TypeId → Option TI) (σ : St) (t : TypeId) (x z : Operand) (d : Option Tmp) : Option (Prop × St) := match ty t with
  | some ⟨.slice e, _, _, _, _⟩ => match ty e with
    | some ei => match σ.ev ty 0 x, σ.ev ty 0 z, Nat.ble ei.bytes 128 with
      | some (.d (.int _ n)), some (.d (.int _ n')), true => some (n = n' ∧ 0 ≤ n ∧ n ≤ 1099511627776, addPut σ none (.row ei.ek e (List.replicate n.toNat ei.zdat)) d .ref)
      | _, _, _ => none
    | none => none
  | _ => none
def litA (ty : TypeId → Option TI) (σ : St) (t : TypeId) (n : Nat) (parts : Array (Nat × Operand)) (d : Option Tmp) : Option (Prop × St) := match ty t with
  | some ⟨.slice e, _, _, _, _⟩ => match ty e with
    | some ei => match ei.agg, litParts σ ty e 0 parts.toList, Nat.ble n 16777216 with
      | false, some ds, true => match Nat.beq n ds.length with
        | true => some (True, addPut σ none (.row none e ds) d .ref)
        | false => none
      | _, _, _ => none
    | none => none
  | _ => none
def appendA (ty : TypeId → Option TI) (σ : St) (t : TypeId) (x z : Operand) (d : Option Tmp) : Option (Prop × St) := match ty t with
  | some ⟨.slice e, _, _, _, _⟩ => match ty e, σ.ev ty t x, σ.ev ty t z with
    | some ei, some y1, some y2 => match appBase σ e y1, σ.sl y2 with
      | some (kill, ek, xs), some (ek', ys) => match ekB ek ei.ek, ekB ek' ei.ek, Nat.ble 1 ei.size, Nat.ble ei.bytes 128, Nat.ble 1 ei.bytes with
        | true, true, true, true, true => some (xs.length + ys.length ≤ 1099511627776, addPut σ kill (.row ek e (xs ++ ys)) d .ref)
        | _, _, _, _, _ => none
      | _, _ => none
    | _, _, _ => none
  | _ => none
def storeA (ty : TypeId → Option TI) (σ : St) (t : TypeId) (x z : Operand) : Option (Prop × St) := match ty t, σ.ev ty 0 x, σ.ev ty t z with
  | some ti, some (.ptr i off), some y => match σ.obj i, avCells ti.size y with
    | some (.box bt cs), some new => match Nat.ble (off + ti.size) cs.length with
      | true => some (True, setO' σ i (.box bt (setAll cs off new)))
      | false => none
    | _, _ => none
  | some ti, some (.elt i ek k), some y => match σ.obj i, datOf σ y, ekB ek ti.ek with
    | some (.row ek' e xs), some d, true => match ekB ek' ek with
      | true => some (Fits ek d ∧ k < xs.length, setO' σ i (.row ek e (xs.set k d)))
      | false => none
    | _, _, _ => none
  | _, _, _ => none
def pureA (ty : TypeId → Option TI) (σ : St) (o : Oper) : Option (Prop × St) := match pureOp ty σ o.type o.op with
  | some (p, y) => some (p, put' σ o.dst y)
  | none => none
/-- One operation. -/
def doOp (ty : TypeId → Option TI) (σ : St) (o : Oper) : Option (Prop × St) := match o.op with
  | .alloc t => match ty t with
    | some ti => some (True, addPut σ none (.box t (ti.zd.map zav)) o.dst (fun i => .ptr i 0))
    | none => none
  | .box t x => match ty t, σ.ev ty t x with
    | some ti, some y => match avCells ti.size y with
      | some cs => some (True, addPut σ none (.box t cs) o.dst (fun i => .ptr i 0))
      | none => none
    | _, _ => none
  | .store t x z => match o.dst with
    | none => storeA ty σ t x z
    | some _ => none
  | .makeSlice t x z => makeA ty σ t x z o.dst
  | .buildSlice t n parts => litA ty σ t n parts o.dst
  | .call c => match c.callee with
    | .builtin .append => match c.args, c.argTypes with
      | ⟨[x, z]⟩, ⟨[t, t']⟩ => match Nat.beq t t' with
        | true => appendA ty σ t x z o.dst
        | false => none
      | _, _ => none
    | _ => pureA ty σ o
  | _ => pureA ty σ o
def stepA (ty : TypeId → Option TI) (ops : List Oper) (σ : St) (o : Oper) : Option (Prop × St) := match wantedA ops σ o, dstOk σ o.dst with
  | some true, true => doOp ty σ o
  | some false, true => some (True, put' σ o.dst .un)
  | _, _ => none
def memB (j : Nat) : List Nat → Bool
  | [] => false
  | x :: r => match Nat.beq x j with
    | true => true
    | false => memB j r
/-- A guard is asked only where it is known. -/
def gateB (res : List Nat) (o : Oper) : Bool := match o.guard with
  | none => true
  | some (j, _) => memB j res
/-- Operations in a row, as far as they go; those with guards, where the guard is listed. -/
def runA (ty : TypeId → Option TI) (ops : List Oper) (res : List Nat) : List Oper → Prop → St → Prop × List Oper × St
  | [], p, σ => (p, [], σ)
  | o :: r, p, σ => match gateB res o with
    | true => match stepA ty ops σ o with
      | some (q, ⟨sz, tm, ob, nx⟩) => runA ty ops res r (p ∧ q) ⟨sz, tm, ob, nx⟩
      | none => (p, o :: r, σ)
    | false => (p, o :: r, σ)

theorem aops_pureA (hT : TyOk P ty) {ops rest : List Oper} {o : Oper} {p : Prop} {σ' : St} (hw : wantedA ops σ o = some true) (hd : dstOk σ o.dst = true) (h : pureA ty σ o = some (p, σ')) (hp : p)
    (k : AOps P Γ ops Q rest σ') : AOps P Γ ops Q (o :: rest) σ := by
  unfold pureA at h
  split at h
  · rename_i q y hq
    simp only [Option.some.injEq, Prod.mk.injEq, put'_eq] at h
    obtain ⟨rfl, rfl⟩ := h
    exact aops_pure hT hw hd hq hp k
  · cases h

theorem aops_do (hT : TyOk P ty) {ops rest : List Oper} {o : Oper} {p : Prop} {σ' : St} (hw : wantedA ops σ o = some true) (hd : dstOk σ o.dst = true) (h : doOp ty σ o = some (p, σ')) (hp : p)
    (k : AOps P Γ ops Q rest σ') : AOps P Γ ops Q (o :: rest) σ := by
  unfold doOp at h
  split at h
  · rename_i t ho
    split at h
    · rename_i ti ht
      simp only [Option.some.injEq, Prod.mk.injEq, addPut_eq] at h
      obtain ⟨rfl, rfl⟩ := h
      exact aops_alloc hT hw hd ho ht k
    · cases h
  · rename_i t x ho
    split at h
    · rename_i ti y ht hx
      split at h
      · rename_i cs hc
        simp only [Option.some.injEq, Prod.mk.injEq, addPut_eq] at h
        obtain ⟨rfl, rfl⟩ := h
        exact aops_box hT hw hd ho ht hx hc k
      · cases h
    · cases h
  · rename_i t x z ho
    split at h
    · rename_i hdn
      unfold storeA at h
      split at h
      · rename_i ti i off y ht hx hz
        split at h
        · rename_i bt cs new hob hc
          split at h
          · rename_i hle
            simp only [Option.some.injEq, Prod.mk.injEq, setO'_eq] at h
            obtain ⟨rfl, rfl⟩ := h
            exact aops_store hT hw hdn ho ht hx hz hob hc hle k
          · cases h
        · cases h
      · rename_i ti i ek kk y ht hx hz
        split at h
        · rename_i ek' e xs d hob hdat hek
          split at h
          · rename_i hek2
            have := ekB_eq hek2
            subst this
            simp only [Option.some.injEq, Prod.mk.injEq, setO'_eq] at h
            obtain ⟨rfl, rfl⟩ := h
            exact aops_storeElt hT hw hdn ho ht hx hz hob hek hdat hp.1 hp.2 k
          · cases h
        · cases h
      · cases h
    · cases h
  · rename_i t x z ho
    unfold makeA at h
    split at h
    · rename_i e s1 s2 s3 s4 ht
      split at h
      · rename_i ei he
        split at h
        · rename_i kl n kc n' hx hz hb
          simp only [Option.some.injEq, Prod.mk.injEq, addPut_eq] at h
          obtain ⟨rfl, rfl⟩ := h
          exact aops_make hT hw hd ho ht rfl he hx hz hp.1 hp.2.1 hb hp.2.2 k
        · cases h
      · cases h
    · cases h
  · rename_i t n parts ho
    unfold litA at h
    split at h
    · rename_i e s1 s2 s3 s4 ht
      split at h
      · rename_i ei he
        split at h
        · rename_i ds hag hpp hN
          split at h
          · rename_i hn
            simp only [Option.some.injEq, Prod.mk.injEq, addPut_eq] at h
            obtain ⟨rfl, rfl⟩ := h
            exact aops_lit hT hw hd ho ht rfl he hag hpp hn hN k
          · cases h
        · cases h
      · cases h
    · cases h
  · rename_i c ho
    split at h
    · rename_i hcal
      split at h
      · rename_i x z t t' hargs htys
        split at h
        · rename_i htt
          have := Nat.eq_of_beq_eq_true htt
          subst this
          unfold appendA at h
          split at h
          · rename_i e s1 s2 s3 s4 ht
            split at h
            · rename_i ei y1 y2 he hx hz
              split at h
              · rename_i kill ek xs ek' ys hb hs
                split at h
                · rename_i h1 h2 h3 h4 h5
                  have e1 := ekB_eq h1
                  have e2 := ekB_eq h2
                  subst e1
                  subst e2
                  simp only [Option.some.injEq, Prod.mk.injEq, addPut_eq] at h
                  obtain ⟨rfl, rfl⟩ := h
                  refine aops_append hT hw hd (by rw [ho]; cases c; simp only at hcal hargs htys; rw [hcal, hargs, htys]) ht rfl he hx hb hz hs h1 h3 h4 h5 hp k
                · cases h
              · cases h
            · cases h
          · cases h
        · cases h
      · cases h
    · exact aops_pureA hT hw hd h hp k
  · exact aops_pureA hT hw hd h hp k

theorem aops_stepA (hT : TyOk P ty) {ops rest : List Oper} {o : Oper} {p : Prop} {σ' : St} (h : stepA ty ops σ o = some (p, σ')) (hp : p) (k : AOps P Γ ops Q rest σ') : AOps P Γ ops Q (o :: rest) σ := by
  unfold stepA at h
  split at h
  · rename_i hw hd
    exact aops_do hT hw hd h hp k
  · rename_i hw hd
    simp only [Option.some.injEq, Prod.mk.injEq, put'_eq] at h
    obtain ⟨rfl, rfl⟩ := h
    exact aops_skip hw (dstOk_spec hd) k
  · cases h

theorem runA_mono {ops : List Oper} {res : List Nat} : ∀ {l : List Oper} {p : Prop} {σ σ' : St} {q : Prop} {r : List Oper}, runA ty ops res l p σ = (q, r, σ') → q → p
  | [], p, σ, σ', q, r, h, hq => by
    simp only [runA, Prod.mk.injEq] at h
    rw [h.1]; exact hq
  | o :: l, p, σ, σ', q, r, h, hq => by
    simp only [runA] at h
    split at h
    · split at h
      · exact (runA_mono h hq).1
      · simp only [Prod.mk.injEq] at h
        rw [h.1]; exact hq
    · simp only [Prod.mk.injEq] at h
      rw [h.1]; exact hq

theorem aops_runA (hT : TyOk P ty) {ops : List Oper} {res : List Nat} : ∀ {l : List Oper} {p : Prop} {σ σ' : St} {q : Prop} {r : List Oper}, runA ty ops res l p σ = (q, r, σ') → q → AOps P Γ ops Q r σ' → AOps P Γ ops Q l σ
  | [], p, σ, σ', q, r, h, hq, k => by
    simp only [runA, Prod.mk.injEq] at h
    obtain ⟨_, rfl, rfl⟩ := h
    exact k
  | o :: l, p, σ, σ', q, r, h, hq, k => by
    simp only [runA] at h
    split at h
    · split at h
      · rename_i p' σ1 hs
        exact aops_stepA hT hs (runA_mono h hq).2 (aops_runA hT h hq k)
      · simp only [Prod.mk.injEq] at h
        obtain ⟨_, rfl, rfl⟩ := h
        exact k
    · simp only [Prod.mk.injEq] at h
      obtain ⟨_, rfl, rfl⟩ := h
      exact k

/-- The next operations, as far as they go by computation. -/
theorem aops_run (hT : TyOk P ty) (res : List Nat) {ops l r : List Oper} {q : Prop} {σ' : St} (h : runA ty ops res l True σ = (q, r, σ')) (hq : q) (k : AOps P Γ ops Q r σ') : AOps P Γ ops Q l σ := aops_runA hT h hq k
theorem awp_run (hT : TyOk P ty) {id : Nat} {l r : List Oper} {q : Prop} {σ' : St} (h : runA ty l [] l True σ = (q, r, σ')) (hq : q) (k : AOps P Γ l Q r σ') : AWp P Γ (.region id l.toArray false) Q σ := awp_region (aops_runA hT h hq k)
/-- A region that goes by computation. -/
theorem awp_all (hT : TyOk P ty) {id : Nat} {l : List Oper} {q : Prop} {σ' : St} (h : runA ty l [] l True σ = (q, [], σ')) (hq : q) (k : Q .normal σ') : AWp P Γ (.region id l.toArray false) Q σ := awp_run hT h hq (aops_nil k)
theorem awp_reg (hT : TyOk P ty) {id : Nat} {l : List Oper} {c : Code} {q : Prop} {σ' : St} (h : runA ty l [] l True σ = (q, [], σ')) (hq : q) (k : AWp P Γ c Q σ') : AWp P Γ (.seq (.region id l.toArray false) c) Q σ := awp_seq (awp_all hT h hq k)
theorem awp_regs (hT : TyOk P ty) {id : Nat} {l r : List Oper} {c : Code} {q : Prop} {σ' : St} (h : runA ty l [] l True σ = (q, r, σ')) (hq : q) (k : AOps P Γ l (AThen (AWp P Γ c Q) Q) r σ') : AWp P Γ (.seq (.region id l.toArray false) c) Q σ := awp_seq (awp_run hT h hq k)

/-! ### Bytes -/
def by1 (b : UInt8) : Dat := .int .u8 b.toNat
def bys (l : List UInt8) : List Dat := l.map by1
theorem bys_len (l : List UInt8) : (bys l).length = l.length := by simp [bys]
theorem bys_u8 (l : List UInt8) : ∀ y ∈ bys l, y.isU8 = true := by
  intro y hy
  obtain ⟨b, _, rfl⟩ := List.mem_map.1 hy
  rfl
theorem toU8_by1 (b : UInt8) : (by1 b).toU8 = b := by
  simp [by1, Dat.toU8]
theorem strOf_bys (l : List UInt8) : strOf (bys l) = ⟨l.toArray⟩ := by
  unfold strOf bys
  congr 2
  rw [List.map_map]
  conv => rhs; rw [← List.map_id l]
  exact List.map_congr_left fun b _ => toU8_by1 b
theorem strOf_eq (x y : List UInt8) : (strOf (bys x) = strOf (bys y)) ↔ x = y := by
  rw [strOf_bys, strOf_bys]
  constructor
  · intro h
    have := congrArg ByteArray.data h
    simpa using this
  · rintro rfl; rfl
theorem bys_get (l : List UInt8) (n : Nat) (h : n < l.length) : (bys l).getD n default = by1 l[n] := by
  simp [bys, List.getElem?_eq_getElem h]
theorem bys_cons (b : UInt8) (l : List UInt8) : bys (b :: l) = by1 b :: bys l := rfl
theorem bys_app (x y : List UInt8) : bys (x ++ y) = bys x ++ bys y := by simp [bys]
theorem canon_bys (l : List UInt8) (n : Nat) : ((bys l).getD n default = Dat.int .u8 ((bys l).getD n default).num) ↔ n < l.length := by
  by_cases h : n < l.length
  · simp [bys, List.getElem?_eq_getElem h, h, by1, Dat.num]
  · simp [bys, List.getElem?_eq_none (Nat.le_of_not_lt h), h, default]
theorem num_bys (l : List UInt8) (n : Nat) : ((bys l).getD n default).num = ((l.getD n 0).toNat : Int) := by
  by_cases h : n < l.length
  · simp [bys, List.getElem?_eq_getElem h, by1, Dat.num]
  · simp [bys, List.getElem?_eq_none (Nat.le_of_not_lt h), default, Dat.num]
def ints (l : List Int) : List Dat := l.map (.int .i64)
theorem ints_len (l : List Int) : (ints l).length = l.length := by simp [ints]
theorem canon_ints (l : List Int) (n : Nat) : ((ints l).getD n default = Dat.int .i64 ((ints l).getD n default).num) ↔ n < l.length := by
  by_cases h : n < l.length
  · simp [ints, List.getElem?_eq_getElem h, h, Dat.num]
  · simp [ints, List.getElem?_eq_none (Nat.le_of_not_lt h), h, default]
theorem num_ints (l : List Int) (n : Nat) : ((ints l).getD n default).num = l.getD n 0 := by
  by_cases h : n < l.length
  · simp [ints, List.getElem?_eq_getElem h, Dat.num]
  · simp [ints, List.getElem?_eq_none (Nat.le_of_not_lt h), default, Dat.num]
/-- Byte strings. -/
def byss (l : List (List UInt8)) : List Dat := l.map fun x => .sl none (bys x)
theorem byss_len (l : List (List UInt8)) : (byss l).length = l.length := by simp [byss]
theorem canon_byss (l : List (List UInt8)) (n : Nat) : ((byss l).getD n default = Dat.sl none ((byss l).getD n default).els) ↔ n < l.length := by
  by_cases h : n < l.length
  · simp [byss, List.getElem?_eq_getElem h, h, Dat.els]
  · simp [byss, List.getElem?_eq_none (Nat.le_of_not_lt h), h, default]
theorem els_byss (l : List (List UInt8)) (n : Nat) : ((byss l).getD n default).els = bys (l.getD n []) := by
  by_cases h : n < l.length
  · simp [byss, List.getElem?_eq_getElem h, Dat.els]
  · simp [byss, List.getElem?_eq_none (Nat.le_of_not_lt h), default, Dat.els, bys]
theorem ints_app (x y : List Int) : ints (x ++ y) = ints x ++ ints y := by simp [ints]
end
end Go.Am
