/- The abstract machine, third part: one operation that leaves the world as it is, computed on abstract values, and why that is right. No program. -/
import Derived.Test.YtaenfbgamkieiaaDoorAmB
namespace Go.Am
open Go.RowKit
set_option linter.unusedSimpArgs false
set_option linter.unusedVariables false

section
variable {P : Program} {ty : TypeId → Option TI}

def setAll (cells : List AV) (off : Nat) : List AV → List AV
  | [] => cells
  | x :: r => setAll (cells.set off x) (off + 1) r
def avCells (size : Nat) : AV → Option (List AV)
  | .agg cs => match Nat.beq cs.length size with
    | true => some cs
    | false => none
  | .d (.agg cs) => match Nat.beq cs.length size with
    | true => some (cs.map .d)
    | false => none
  | x => match x.one, size with
    | true, 1 => some [x]
    | _, _ => none
def fillA (ty : TypeId → Option TI) (fields : Array Field) (cells : List AV) : List (Nat × AV) → Option (List AV)
  | [] => some cells
  | (i, x) :: r => match fields[i]? with
    | none => none
    | some f => match ty f.type with
      | none => none
      | some ti => match avCells ti.size x, Nat.ble (f.offset + ti.size) cells.length with
        | some cs, true => fillA ty fields (setAll cells f.offset cs) r
        | _, _ => none
def fieldType (fields : Array Field) (i : Nat) : TypeId := match fields[i]? with
  | some f => f.type
  | none => 0
def evParts (σ : St) (ty : TypeId → Option TI) (tf : Nat → TypeId) : List (Nat × Operand) → Option (List (Nat × AV))
  | [] => some []
  | (i, x) :: r => match σ.ev ty (tf i) x, evParts σ ty tf r with
    | some y, some l => some ((i, y) :: l)
    | _, _ => none
def evAll (σ : St) (ty : TypeId → Option TI) : List Operand → List TypeId → Option (List AV)
  | [], _ => some []
  | x :: r, t :: ts => match σ.ev ty t x, evAll σ ty r ts with
    | some y, some l => some (y :: l)
    | _, _ => none
  | x :: r, [] => match σ.ev ty 0 x, evAll σ ty r [] with
    | some y, some l => some (y :: l)
    | _, _ => none

def loadAV (σ : St) (i : TI) : AV → Option (Prop × AV)
  | .ptr o off => match σ.obj o with
    | some (.box _ cs) => match i.agg with
      | true => match Nat.ble (off + i.size) cs.length with
        | true => some (True, .agg ((cs.drop off).take i.size))
        | false => none
      | false => match cs[off]? with
        | some y => some (True, y)
        | none => none
    | _ => none
  | .elt o ek k => match σ.obj o with
    | some (.row ek' _ xs) => match ekB ek ek', ekB ek i.ek with
      | true, true => some (k < xs.length, .d (xs.getD k default))
      | _, _ => none
    | _ => none
  | .at_ ek x => match ekB ek i.ek with
    | true => some (True, .d x)
    | false => none
  | _ => none

/-! What is read out of a row is given its form: so that the walk can go on with an element that is not written out. -/
def Dat.num : Dat → Int
  | .int _ n => n
  | _ => 0
def Dat.tru : Dat → Bool
  | .bool b => b
  | _ => false
def Dat.txt : Dat → ByteArray
  | .str s => s
  | _ => ⟨#[]⟩
def Dat.els : Dat → List Dat
  | .sl _ xs => xs
  | _ => []
def canonD (ty : TypeId → Option TI) (d : TypeDesc) (x : Dat) : Option Dat := match d with
  | .int k => some (.int k x.num)
  | .bool => some (.bool x.tru)
  | .string => some (.str x.txt)
  | .slice e => match ty e with
    | some ei => match ei.ek with
      | none => some (.sl none x.els)
      | some m => some (.sl (some m) x.els)
    | none => none
  | _ => none
def canonL (ty : TypeId → Option TI) (x : Dat) : List Field → Option (List Dat)
  | [] => some []
  | f :: r => match ty f.type with
    | some fi => match canonD ty fi.desc (x.cell f.offset), canonL ty x r with
      | some d, some l => some (d :: l)
      | _, _ => none
    | none => none
def canonT (ty : TypeId → Option TI) (i : TI) (x : Dat) : Option Dat := match i.desc with
  | .struct fields => match Nat.beq fields.size i.size with
    | true => match canonL ty x fields.toList with
      | some l => some (.agg l)
      | none => none
    | false => none
  | d => canonD ty d x
def canonP (ty : TypeId → Option TI) (i : TI) (p : Prop) (x : Dat) : Option (Prop × AV) := match canonT ty i x with
  | some d => some (p ∧ x = d, .d d)
  | none => some (p, .d x)
def canonA (ty : TypeId → Option TI) (i : TI) : AV → Option (Prop × AV) → Option (Prop × AV)
  | .elt _ _ _, some (p, .d x) => canonP ty i p x
  | .at_ _ _, some (p, .d x) => canonP ty i p x
  | _, r => r
theorem canonP_sound {c : Ct} {i : TI} {x : Dat} {z : AV} {q p : Prop} (h : canonP ty i q x = some (p, z)) (hp : p) : q ∧ ∀ u, Rep c (.d x) u → Rep c z u := by
  unfold canonP at h
  split at h
  · simp only [Option.some.injEq, Prod.mk.injEq] at h
    obtain ⟨rfl, rfl⟩ := h
    exact ⟨hp.1, fun u hu => by rw [← hp.2]; exact hu⟩
  · simp only [Option.some.injEq, Prod.mk.injEq] at h
    obtain ⟨rfl, rfl⟩ := h
    exact ⟨hp, fun u hu => hu⟩
theorem canonA_sound {c : Ct} {i : TI} {y z : AV} {r : Option (Prop × AV)} {p : Prop} (h : canonA ty i y r = some (p, z)) (hp : p) : ∃ q z', r = some (q, z') ∧ q ∧ ∀ u, Rep c z' u → Rep c z u := by
  unfold canonA at h
  split at h
  · exact ⟨_, _, rfl, canonP_sound h hp⟩
  · exact ⟨_, _, rfl, canonP_sound h hp⟩
  · exact ⟨_, _, h, hp, fun u hu => hu⟩

def boundsA (len : Nat) (lo hi mx : Option AV) : Option (Prop × Nat × Nat) :=
  match lo, hi, mx with
  | none, none, none => some (True, 0, len)
  | some (.d (.int _ l)), none, none => some (0 ≤ l ∧ l ≤ len, l.toNat, len)
  | none, some (.d (.int _ h)), none => some (0 ≤ h ∧ h ≤ len, 0, h.toNat)
  | some (.d (.int _ l)), some (.d (.int _ h)), none => some (0 ≤ l ∧ l ≤ h ∧ h ≤ len, l.toNat, h.toNat)
  | some (.d (.int _ l)), some (.d (.int _ h)), some (.d (.int _ m)) => some (0 ≤ l ∧ l ≤ h ∧ h ≤ m ∧ m ≤ len, l.toNat, h.toNat)
  | _, _, _ => none
def cutL {α : Type} (xs : List α) (l h : Nat) : List α := (xs.take h).drop l
def evO (σ : St) (ty : TypeId → Option TI) (t : TypeId) : Option Operand → Option (Option AV)
  | none => some none
  | some x => match σ.ev ty t x with
    | some y => some (some y)
    | none => none
def sliceA (σ : St) (x : AV) (lo hi mx : Option AV) : Option (Prop × AV) :=
  match x with
  | .d (.str s) => match mx with
    | none => match boundsA s.size lo hi none with
      | some (p, l, h) => some (p, .d (.str (s.extract l h)))
      | none => none
    | some _ => none
  | .ref i => match σ.obj i with
    | some (.frz ek xs) => match boundsA xs.length lo hi mx with
      | some (p, l, h) => some (p, .d (.sl ek (cutL xs l h)))
      | none => none
    | _ => none
  | .d (.sl ek xs) => match boundsA xs.length lo hi mx with
    | some (p, l, h) => some (p, .d (.sl ek (cutL xs l h)))
    | none => none
  | .nil ek => match boundsA 0 lo hi mx with
    | some (p, _, _) => some (p, .nil ek)
    | none => none
  | _ => none

def indexA (σ : St) (ei : TI) (x : AV) (n : Int) : Option (Prop × AV) :=
  match x with
  | .d (.sl ek xs) => match ekB ek ei.ek with
    | true => some (0 ≤ n ∧ n < xs.length, .at_ ek (xs.getD n.toNat default))
    | false => none
  | .ref i => match σ.obj i with
    | some (.row ek _ xs) => match ekB ek ei.ek with
      | true => some (0 ≤ n ∧ n < xs.length, .elt i ek n.toNat)
      | false => none
    | some (.frz ek xs) => match ekB ek ei.ek with
      | true => some (0 ≤ n ∧ n < xs.length, .at_ ek (xs.getD n.toNat default))
      | false => none
    | _ => none
  | _ => none

def fieldA (fi : TI) (off : Nat) : AV → Option AV
  | .ptr o k => some (.ptr o (k + off))
  | .at_ (some m) x => match Nat.ble (off + fi.size) m with
    | true => match fi.agg with
      | true => some (.at_ fi.ek (.agg ((x.cells.drop off).take fi.size)))
      | false => some (.at_ none (x.cell off))
    | false => none
  | _ => none

def convA (ty : TypeId → Option TI) (σ : St) (src dst : TypeId) (x : AV) : Option (Prop × AV) :=
  match ty src, ty dst with
  | some si, some di => match x, si.desc, di.desc with
    | .d (.int _ n), _, .int k => some (True, .d (.int k (k.wrap n)))
    | .d (.str s), _, .string => some (True, .d (.str s))
    | x, .slice e, .string => match ty e with
      | some ⟨.int .u8, _, _, _, _⟩ => match σ.sl x with
        | some (none, xs) => some (∀ y ∈ xs, y.isU8 = true, .d (.str (strOf xs)))
        | _ => none
      | _ => none
    | _, _, _ => none
  | _, _ => none

def lenA (ty : TypeId → Option TI) (σ : St) (t : TypeId) (x : AV) : Option AV :=
  match ty t with
  | some ⟨.string, _, _, _, _⟩ => match x with
    | .d (.str s) => some (.d (.int .i64 s.size))
    | _ => none
  | some ⟨.slice _, _, _, _, _⟩ => match σ.sl x with
    | some (_, xs) => some (.d (.int .i64 xs.length))
    | none => none
  | _ => none

def ok1 (x : Option AV) : Option (Prop × AV) := match x with
  | some y => some (True, y)
  | none => none

def constB : Operand → Bool
  | .const _ => true
  | _ => false
/-- An interface held against nil. -/
def ifDat (op : BinOp) (xt : Option TI) (yc : Bool) (a b : Dat) : Option Bool := match xt with
  | some ⟨.interface _, _, _, _, _⟩ => match a, b, yc with
    | .nilIf, .nilIf, true => match op with
      | .eql => some true
      | .neq => some false
      | _ => none
    | .someIf, .nilIf, _ => match op with
      | .eql => some false
      | .neq => some true
      | _ => none
    | _, _, _ => none
  | _ => none
def minI (a b : Int) : Int := if b < a then b else a
def maxI (a b : Int) : Int := if a < b then b else a

/-- What an operation yields that leaves the world as it is: under which condition, and what. -/
def pureOp (ty : TypeId → Option TI) (σ : St) (t : TypeId) : Op → Option (Prop × AV)
  | .move x => ok1 (σ.ev ty t x)
  | .assign x => ok1 (σ.ev ty t x)
  | .pick c a b => match σ.ev ty t c with
    | some (.d (.bool true)) => ok1 (σ.ev ty t a)
    | some (.d (.bool false)) => ok1 (σ.ev ty t b)
    | _ => none
  | .load lt x => match σ.ev ty 0 x, ty lt with
    | some y, some i => canonA ty i y (loadAV σ i y)
    | _, _ => none
  | .extract x k => match σ.ev ty 0 x with
    | some (.tup l) => ok1 l[k]?
    | some (.d (.tup l)) => match l[k]? with
      | some y => some (True, .d y)
      | none => none
    | _ => none
  | .binOp op xt x y _ => match σ.ev ty xt x, σ.ev ty xt y with
    | some (.d a), some (.d b) => match binDat op (ty xt) a b with
      | some (p, z) => some (p, .d z)
      | none => match ifDat op (ty xt) (constB y) a b with
        | some z => some (True, .d (.bool z))
        | none => none
    | _, _ => none
  | .unOp .not _ x => match σ.ev ty 0 x with
    | some (.d (.bool b)) => some (True, .d (.bool (!b)))
    | _ => none
  | .unOp .neg _ x => match σ.ev ty 0 x with
    | some (.d (.int k n)) => some (True, .d (.int k (k.wrap (0 - n))))
    | _ => none
  | .convert src dst x => match σ.ev ty src x with
    | some y => convA ty σ src dst y
    | none => none
  | .fieldAddr s x f => match σ.ev ty 0 x, ty s with
    | some y, some ⟨.struct fields, _, _, _, _⟩ => match fields[f]? with
      | some fd => match ty fd.type with
        | some fi => match Nat.beq fi.size 0 with
          | false => ok1 (fieldA fi fd.offset y)
          | true => none
        | none => none
      | none => none
    | _, _ => none
  | .indexAddr st x ix => match σ.ev ty st x, σ.ev ty 0 ix, ty st with
    | some y, some (.d (.int _ n)), some ⟨.slice e, _, _, _, _⟩ => match ty e with
      | some ei => indexA σ ei y n
      | none => none
    | _, _, _ => none
  | .index xt x ix => match σ.ev ty xt x, σ.ev ty 0 ix, ty xt with
    | some (.d (.str s)), some (.d (.int _ n)), some ⟨.string, _, _, _, _⟩ => some (0 ≤ n ∧ n < s.size, .d (.int .u8 (s.data.toList.getD n.toNat 0).toNat))
    | _, _, _ => none
  | .slice xt x lo hi mx => match σ.ev ty xt x, evO σ ty 0 lo, evO σ ty 0 hi, evO σ ty 0 mx with
    | some y, some l, some h, some m => match ty xt, y with
      | some ⟨.string, _, _, _, _⟩, .d (.str s) => sliceA σ (.d (.str s)) l h m
      | some ⟨.slice e, _, _, _, _⟩, .d (.sl ek xs) => match ty e with
        | some ei => match ekB ek ei.ek with
          | true => sliceA σ (.d (.sl ek xs)) l h m
          | false => none
        | none => none
      | _, _ => none
    | _, _, _, _ => none
  | .call c => match c.callee, c.args.toList, c.argTypes.toList with
    | .builtin .len, [x], [at_] => match σ.ev ty at_ x with
      | some y => ok1 (lenA ty σ at_ y)
      | none => none
    | .builtin .min, [x, z], [_, _] => match σ.ev ty 0 x, σ.ev ty 0 z with
      | some (.d (.int k a)), some (.d (.int _ b)) => some (True, .d (.int k (minI a b)))
      | _, _ => none
    | .builtin .max, [x, z], [_, _] => match σ.ev ty 0 x, σ.ev ty 0 z with
      | some (.d (.int k a)), some (.d (.int _ b)) => some (True, .d (.int k (maxI a b)))
      | _, _ => none
    | _, _, _ => none
  | .build bt parts => match ty bt with
    | some ⟨.struct fields, _, _, _, zd⟩ => match evParts σ ty (fieldType fields) parts.toList with
      | some l => match fillA ty fields (zd.map .d) l with
        | some cs => some (True, .agg cs)
        | none => none
      | none => none
    | _ => none
  | .makeFunc (.func f) first captured => match first.toList, evAll σ ty captured.toList [] with
    | [], some l => some (True, .fn f l)
    | _, _ => none
  | _ => none

theorem cells_of_rep {c : Ct} {size : Nat} {x : AV} {cs : List AV} {v : Value} (h : avCells size x = some cs) (hv : Rep c x v) :
    v.cells.size = size ∧ cs.length = size ∧ (∀ y ∈ cs, y.one = true) ∧ ∀ j y, cs[j]? = some y → Rep c y (v.cells.getD j undef) := by
  unfold avCells at h
  split at h
  · split at h
    · rename_i hb
      cases h
      cases hv with
      | agg cs vs hl h1 hr => exact ⟨by rw [← Nat.eq_of_beq_eq_true hb]; exact hl, Nat.eq_of_beq_eq_true hb, h1, hr⟩
    · cases h
  · split at h
    · rename_i hb
      cases h
      cases hv with
      | d h =>
        cases h with
        | agg cs vs hl h1 hr =>
          refine ⟨by rw [← Nat.eq_of_beq_eq_true hb]; exact hl, by simpa using Nat.eq_of_beq_eq_true hb, ?_, ?_⟩
          · intro y hy
            obtain ⟨z, hz, rfl⟩ := List.mem_map.1 hy
            exact h1 z hz
          · intro j y hy
            rw [List.getElem?_map] at hy
            obtain ⟨z, hz, rfl⟩ := Option.map_eq_some_iff.1 hy
            exact .d (hr j z hz)
    · cases h
  · split at h
    · rename_i hx
      cases h
      have hone := hv.oneCell hx
      have hc : v.cells = #[v] := by cases v <;> simp_all [Value.cells, Value.oneCell']
      rw [hc]
      refine ⟨rfl, rfl, by simpa using hx, fun j y hy => ?_⟩
      match j, hy with
      | 0, hy =>
        simp at hy
        subst hy
        simpa using hv
    · cases h

theorem mapM_getElem {α β : Type} {f : α → Option β} : ∀ {l : List α} {r : List β}, l.mapM f = some r → ∀ (i : Nat) (x : α), l[i]? = some x → ∃ y, r[i]? = some y ∧ f x = some y := by
  intro l
  induction l with
  | nil => intro r _ i x h; simp at h
  | cons a l ih =>
    intro r h i x hx
    simp only [List.mapM_cons, Option.bind_eq_bind, Option.pure_def] at h
    cases ha : f a with
    | none => simp [ha] at h
    | some b =>
      cases hl : l.mapM f with
      | none => simp [ha, hl] at h
      | some rest =>
        simp [ha, hl] at h
        subst h
        cases i with
        | zero => simp at hx; subst hx; exact ⟨b, rfl, ha⟩
        | succ i => simp at hx; simpa using ih hl i x hx

/-- Cells that read as a list of abstract values. -/
def CsRep (c : Ct) (cs : List AV) (vs : Array Value) : Prop := vs.size = cs.length ∧ (∀ y ∈ cs, y.one = true) ∧ ∀ j y, cs[j]? = some y → Rep c y (vs.getD j undef)

theorem setAll_length (off : Nat) (new : List AV) : ∀ cells, (setAll cells off new).length = cells.length := by
  induction new generalizing off with
  | nil => intro cells; rfl
  | cons x r ih => intro cells; simp [setAll, ih]

theorem foldl_set (v : List (Value × Nat)) (off : Nat) : ∀ (cs : Array Value), (v.foldl (fun cs (x : Value × Nat) => cs.setIfInBounds (off + x.2) x.1) cs).size = cs.size := by
  induction v with
  | nil => intro cs; rfl
  | cons x r ih => intro cs; simp [ih]

theorem setAll_sound {c : Ct} (off : Nat) (new : List AV) (vn : List Value) : ∀ (k : Nat) (cells : List AV) (vs : Array Value), CsRep c cells vs → new.length = vn.length → (∀ y ∈ new, y.one = true) → (∀ j y, new[j]? = some y → Rep c y (vn.getD j undef)) →
    CsRep c (setAll cells (off + k) new) ((vn.zipIdx k).foldl (fun cs (x : Value × Nat) => cs.setIfInBounds (off + x.2) x.1) vs) := by
  induction new generalizing vn with
  | nil =>
    intro k cells vs h hl _ _
    cases vn with
    | nil => exact h
    | cons => simp at hl
  | cons x r ih =>
    intro k cells vs h hl h1 hr
    cases vn with
    | nil => simp at hl
    | cons v vr =>
      simp only [setAll, List.zipIdx_cons, List.foldl_cons]
      have hx : Rep c x v := by simpa using hr 0 x rfl
      refine ih vr (k + 1) _ _ ⟨by simpa using h.1, ?_, ?_⟩ (by simpa using hl) (fun y hy => h1 y (List.mem_cons_of_mem _ hy)) (fun j y hj => by simpa using hr (j + 1) y hj)
      · intro y hy
        rcases List.mem_or_eq_of_mem_set hy with hy | rfl
        · exact h.2.1 y hy
        · exact h1 _ (List.mem_cons_self ..)
      · intro j y hj
        rw [List.getElem?_set] at hj
        split at hj
        · rename_i e
          subst e
          split at hj
          · rename_i hlt
            cases hj
            have : off + k < vs.size := by rw [h.1]; exact hlt
            simpa [this] using hx
          · cases hj
        · rename_i hne
          have := h.2.2 j y hj
          simpa [Array.getElem?_setIfInBounds_ne hne] using this

theorem fillA_sound (hT : TyOk P ty) {c : Ct} {fields : Array Field} {places : List (Nat × Nat)} (hpl : fields.toList.mapM (fun f => (P.info? f.type).map fun i => (f.offset, i.size)) = some places) :
    ∀ (l : List (Nat × AV)) (vl : List (Nat × Value)) (cells : List AV) (vs : Array Value) (cs : List AV), CsRep c cells vs → l.length = vl.length → (∀ (j : Nat) (p : Nat × AV) (q : Nat × Value), l[j]? = some p → vl[j]? = some q → p.1 = q.1 ∧ Rep c p.2 q.2) →
      fillA ty fields cells l = some cs → ∃ vs', Instr.fill (places.toArray[·]?) vs vl = some vs' ∧ CsRep c cs vs' := by
  intro l
  induction l with
  | nil =>
    intro vl cells vs cs h hl _ hf
    cases vl with
    | nil => simp only [fillA] at hf; cases hf; exact ⟨vs, rfl, h⟩
    | cons => simp at hl
  | cons p r ih =>
    intro vl cells vs cs h hl hr hf
    cases vl with
    | nil => simp at hl
    | cons q vr =>
      obtain ⟨i, x⟩ := p
      obtain ⟨i', v⟩ := q
      obtain ⟨rfl, hx⟩ := hr 0 (i, x) (i', v) rfl rfl
      simp only at hx
      simp only [fillA] at hf
      split at hf
      · cases hf
      · rename_i f hfi
        split at hf
        · cases hf
        · rename_i ti hti
          split at hf
          · rename_i ncs hnc hle
            obtain ⟨hs, hlen, h1, hcr⟩ := cells_of_rep hnc hx
            obtain ⟨j, hj, hjs, _, _⟩ := hT.info _ _ hti
            have hplace : places.toArray[i]? = some (f.offset, ti.size) := by
              have : places[i]? = some (f.offset, ti.size) := by
                obtain ⟨y, hy1, hy2⟩ := mapM_getElem hpl i f (by simpa using hfi)
                rw [hj] at hy2
                simp only [Option.map_some, Option.some.injEq] at hy2
                rw [hy1, ← hy2, hjs]
              simpa using this
            have hle' : f.offset + ti.size ≤ cells.length := Nat.le_of_ble_eq_true hle
            obtain ⟨vs', hv', hc'⟩ := ih vr (setAll cells f.offset ncs) (v.cells.zipIdx.foldl (fun cs (x : Value × Nat) => cs.setIfInBounds (f.offset + x.2) x.1) vs) cs
              (by
                have h9 := setAll_sound (c := c) f.offset ncs v.cells.toList 0 cells vs h (by simp [hlen, hs]) h1 (by simpa using hcr)
                rw [← Array.foldl_toList, Array.toList_zipIdx]
                exact h9)
              (by simpa using hl) (fun k p q hp hq => hr (k + 1) p q (by simpa using hp) (by simpa using hq)) hf
            refine ⟨vs', ?_, hc'⟩
            simp only [Instr.fill, hplace, hs]
            have hsz : vs.size = cells.length := h.1
            rw [if_neg (by simp [hsz]; omega)]
            exact hv'
          · cases hf
end
end Go.Am
