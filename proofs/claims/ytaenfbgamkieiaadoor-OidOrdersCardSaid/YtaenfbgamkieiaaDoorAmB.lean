/- The abstract machine, second part: a table of types; operations that leave the world as it is, computed on abstract values, and why that is right. No program. -/
import Derived.Test.YtaenfbgamkieiaaDoorAmA
import Derived.Laws.BitsLemmas
namespace Go.Am
open Go.RowKit
set_option linter.unusedSimpArgs false
set_option linter.unusedVariables false

structure TI where
  desc : TypeDesc
  size : Nat
  bytes : Nat
  zero : Value
  zd : List Dat

def TI.agg (i : TI) : Bool := match i.desc with
  | .struct _ => true
  | .array _ _ => true
  | _ => false
def TI.ek (i : TI) : Option Nat := match i.agg with
  | true => some i.size
  | false => none

/-- The zero value of a slice is nil. -/
def isNilSl : Dat → Bool
  | .sl _ [] => true
  | _ => false
def isNilV : Value → Bool
  | .slice none 0 0 => true
  | _ => false
theorem isNilV_eq {v : Value} (h : isNilV v = true) : v = .slice none 0 0 := by
  unfold isNilV at h
  split at h
  · rfl
  · cases h
def znilB : List Dat → List Value → Bool
  | [], _ => true
  | d :: ds, v :: vs => (!isNilSl d || isNilV v) && znilB ds vs
  | _ :: _, [] => false
theorem znilB_get : ∀ {ds : List Dat} {vs : List Value}, znilB ds vs = true → ∀ (j : Nat) (ek : Option Nat), ds[j]? = some (.sl ek []) → vs.getD j undef = .slice none 0 0
  | [], _, _, j, ek, h => by simp at h
  | d :: ds, [], hb, j, ek, h => by cases hb
  | d :: ds, v :: vs, hb, 0, ek, h => by
    simp at h
    subst h
    simp only [znilB, isNilSl, Bool.not_true, Bool.false_or, Bool.and_eq_true] at hb
    simpa using isNilV_eq hb.1
  | d :: ds, v :: vs, hb, j + 1, ek, h => by
    simp only [znilB, Bool.and_eq_true] at hb
    simpa using znilB_get hb.2 j ek (by simpa using h)
structure TyOk (P : Program) (ty : TypeId → Option TI) : Prop where
  und : ∀ t i, ty t = some i → P.underlying t = some i.desc
  info : ∀ t i, ty t = some i → ∃ j, P.info? t = some j ∧ j.size = i.size ∧ j.bytes = i.bytes ∧ j.zero = some i.zero
  one : ∀ t i, ty t = some i → i.agg = false → i.size = 1
  zsize : ∀ t i, ty t = some i → i.zero.cells.size = i.size ∧ i.zd.length = i.size
  zone : ∀ t i, ty t = some i → ∀ y ∈ i.zd, y.one = true
  zrep : ∀ t i, ty t = some i → ∀ w pr j y, i.zd[j]? = some y → RepD w pr y (i.zero.cells.getD j undef)
  znil : ∀ t i, ty t = some i → znilB i.zd i.zero.cells.toList = true
  places : ∀ t i, ty t = some i → ∀ fields, i.desc = .struct fields → ∃ places, fields.toList.mapM (fun f => (P.info? f.type).map fun i => (f.offset, i.size)) = some places

section
variable {P : Program} {ty : TypeId → Option TI}

theorem TI.esz_ek {i : TI} (h1 : i.agg = false → i.size = 1) : esz i.ek = i.size := by
  unfold TI.ek
  cases h : i.agg <;> simp [esz]
  exact (h1 h).symm

theorem TyOk.esz (hT : TyOk P ty) {t i} (h : ty t = some i) : esz i.ek = i.size := TI.esz_ek (hT.one t i h)
theorem TyOk.run_und (hT : TyOk P ty) {t i} (h : ty t = some i) (w : World) : (underlying t).run P w = .ok i.desc w := run_underlying (hT.und t i h) w
theorem TyOk.run_size (hT : TyOk P ty) {t i} (h : ty t = some i) (w : World) : (sizeOf t).run P w = .ok i.size w := by
  obtain ⟨j, hj, hs, _, _⟩ := hT.info t i h
  simp [sizeOf, typeInfo, hj, hs]
theorem TyOk.run_agg (hT : TyOk P ty) {t i} (h : ty t = some i) (w : World) : (isAgg t).run P w = .ok i.agg w := by
  unfold isAgg TI.agg
  simp only [Sem.run_bind, hT.run_und h, Result.andThen_ok]
  cases i.desc <;> rfl

/-- A constant. -/
def cav (ty : TypeId → Option TI) (t : TypeId) : Value → Option AV
  | .bool b => some (.d (.bool b))
  | .int k n => some (.d (.int k n))
  | .string s => some (.d (.str s))
  | .nilIface => some (.d .nilIf)
  | .slice none 0 0 => match ty t with
    | some ⟨.slice e, _, _, _, _⟩ => match ty e with
      | some i => some (.nil i.ek)
      | none => none
    | _ => none
  | _ => none
def St.ev (σ : St) (ty : TypeId → Option TI) (t : TypeId) : Operand → Option AV
  | .tmp s => σ.get s
  | .const v => cav ty t v
  | .func f => some (.fn f [])
  | .global _ => none

theorem ev_sound {σ : St} {a : Act} {c : Ct} (hM : Models σ a c) {t : TypeId} {x : Operand} {y : AV} (h : σ.ev ty t x = some y) : Rep c y (a.eval x) := by
  cases x with
  | tmp s => exact (hM.tm s y h).2
  | const v =>
    simp only [St.ev] at h
    unfold cav at h
    split at h
    all_goals first | (cases h; first | exact .d (.bool _) | exact .d (.int _ _) | exact .d (.str _) | exact .d .nilIf) | skip
    · split at h
      · split at h
        · cases h; exact .nil _
        · cases h
      · cases h
    · cases h
  | func f =>
    simp only [St.ev] at h
    cases h
    exact .fn f [] #[] rfl (by simp)
  | global g => cases h

/-! ### Arithmetic -/
def shft (op : BinOp) (k : IntKind) (a b : Int) : Int := match op with
  | .shl => k.wrap (a * 2 ^ (min b.toNat k.bits))
  | _ => a.fdiv (2 ^ (min b.toNat k.bits))
/-- What does not run over; other kinds than int may. -/
def wr (k : IntKind) (n : Int) : Option (Prop × Dat) := match k with
  | .i64 => some (-9223372036854775808 ≤ n ∧ n ≤ 9223372036854775807, .int .i64 n)
  | k => some (True, .int k (k.wrap n))
theorem wr_sound {k : IntKind} {n : Int} {p : Prop} {y : Dat} (h : wr k n = some (p, y)) (hp : p) : y = .int k (k.wrap n) := by
  unfold wr at h
  split at h
  · simp only [Option.some.injEq, Prod.mk.injEq] at h
    obtain ⟨rfl, rfl⟩ := h
    congr 1
    rw [IntKind.wrap_i64]
    omega
  · simp only [Option.some.injEq, Prod.mk.injEq] at h
    exact h.2.symm
def arith (op : BinOp) (k : IntKind) (a b : Int) : Option (Prop × Dat) := match op with
  | .add => wr k (a + b)
  | .sub => wr k (a - b)
  | .mul => wr k (a * b)
  | .quo => some (b ≠ 0, .int k (k.wrap (a.tdiv b)))
  | .rem => some (b ≠ 0, .int k (a.tmod b))
  | .and => some (True, .int k (bits .and k a b))
  | .or => some (True, .int k (bits .or k a b))
  | .xor => some (True, .int k (bits .xor k a b))
  | .andNot => some (True, .int k (bits .andNot k a b))
  | .eql => some (True, .bool (a == b))
  | .neq => some (True, .bool (a != b))
  | .lss => some (True, .bool (decide (a < b)))
  | .leq => some (True, .bool (decide (a ≤ b)))
  | .gtr => some (True, .bool (decide (a > b)))
  | .geq => some (True, .bool (decide (a ≥ b)))
  | _ => none
def strOp (op : BinOp) (x y : ByteArray) : Option (Prop × Dat) := match op with
  | .add => some (x.size + y.size ≤ 9223372036854775807, .str (x ++ y))
  | .eql => some (True, .bool (decide (x = y)))
  | .neq => some (True, .bool (!decide (x = y)))
  | _ => none
def kindB : IntKind → IntKind → Bool
  | .i8, .i8 => true
  | .i16, .i16 => true
  | .i32, .i32 => true
  | .i64, .i64 => true
  | .u8, .u8 => true
  | .u16, .u16 => true
  | .u32, .u32 => true
  | .u64, .u64 => true
  | _, _ => false
theorem kindB_eq {k k' : IntKind} (h : kindB k k' = true) : k = k' := by cases k <;> cases k' <;> simp_all [kindB]
def binDat (op : BinOp) (xt : Option TI) : Dat → Dat → Option (Prop × Dat)
  | .int k a, .int k' b => match op with
    | .shl => some (0 ≤ b, .int k (shft .shl k a b))
    | .shr => some (0 ≤ b, .int k (shft .shr k a b))
    | op => match kindB k k' with
      | true => arith op k a b
      | false => none
  | .str a, .str b => strOp op a b
  | .bool a, .bool b => match xt with
    | some ⟨.bool, _, _, _, _⟩ => match op with
      | .eql => some (True, .bool (a == b))
      | .neq => some (True, .bool (a != b))
      | _ => none
    | _ => none
  | _, _ => none

theorem byteArray_toList_eq (x y : ByteArray) : (x.toList == y.toList) = decide (x = y) := by
  by_cases h : x = y
  · subst h; simp
  · have : x.toList ≠ y.toList := by
      intro e
      apply h
      rw [ByteArray.toList_eq, ByteArray.toList_eq] at e
      cases x; cases y
      simp only [ByteArray.mk.injEq]
      exact Array.toList_inj.1 e
    simp [h, this]

theorem arith_sound {op : BinOp} {k : IntKind} {a b : Int} {p : Prop} {y : Dat} (h : arith op k a b = some (p, y)) (hp : p) (t : TypeId) (w : World) (pr : Nat → Bool) :
    ∃ v, (binOp op t (.int k a) (.int k b)).run P w = .ok v w ∧ RepD w pr y v := by
  by_cases h3 : op = .add ∨ op = .sub ∨ op = .mul
  · rcases h3 with rfl | rfl | rfl
    · exact ⟨.int k (k.wrap (a + b)), by simp [binOp_add, Op.intArith], by rw [wr_sound h hp]; exact .int _ _⟩
    · exact ⟨.int k (k.wrap (a - b)), by simp [binOp_sub, Op.intArith], by rw [wr_sound h hp]; exact .int _ _⟩
    · exact ⟨.int k (k.wrap (a * b)), by simp [binOp_mul, Op.intArith], by rw [wr_sound h hp]; exact .int _ _⟩
  cases op <;> simp only [arith, Option.some.injEq, Prod.mk.injEq, reduceCtorEq, true_or, or_true, not_true] at h h3 <;> obtain ⟨rfl, rfl⟩ := h
  case quo => exact ⟨_, by simp [binOp_quo, Op.intDiv, hp], .int _ _⟩
  case rem => exact ⟨_, by simp [binOp_rem, Op.intDiv, hp], .int _ _⟩
  case and => exact ⟨_, by rw [binOp_and, intBits_and]; rfl, .int _ _⟩
  case or => exact ⟨_, by rw [binOp_or, intBits_or]; rfl, .int _ _⟩
  case xor => exact ⟨_, by rw [binOp_xor, intBits_xor]; rfl, .int _ _⟩
  case andNot => exact ⟨_, by rw [binOp_andNot, intBits_andNot]; rfl, .int _ _⟩
  case eql => exact ⟨_, by rw [binOp_eql]; rfl, .bool _⟩
  case neq => exact ⟨_, by rw [binOp_neq]; rfl, .bool _⟩
  case lss => exact ⟨_, by rw [binOp_lss]; rfl, .bool _⟩
  case leq => exact ⟨_, by rw [binOp_leq]; rfl, .bool _⟩
  case gtr => exact ⟨_, by rw [binOp_gtr]; rfl, .bool _⟩
  case geq => exact ⟨_, by rw [binOp_geq]; rfl, .bool _⟩

theorem eqGuard_bare (op : BinOp) (t : TypeId) (x y : Operand) (a b : Value) (ha : ∀ cs, a ≠ .agg cs) (hn : a ≠ .nilIface) : eqGuard op t x y a b = pure () := by
  cases a <;> first | (cases op <;> rfl) | exact absurd rfl hn | exact absurd rfl (ha _)

theorem run_equal_bool {t : TypeId} (hu : P.underlying t = some .bool) (a b : Bool) (w : World) : (Op.equal t (.bool a) (.bool b)).run P w = .ok (a == b) w := by
  have h : ∀ d : Nat, (Op.equalIn (d + 1) t (.bool a) (.bool b)).run P w = .ok (a == b) w := fun d => by
    simp only [Op.equalIn, Sem.run_bind, run_underlying hu, Result.andThen_ok]
    rfl
  exact h 9999
theorem run_eql_bool {t : TypeId} (hu : P.underlying t = some .bool) (a b : Bool) (w : World) : (binOp .eql t (.bool a) (.bool b)).run P w = .ok (.bool (a == b)) w := by
  show (do pure (Value.bool (← Op.equal t (.bool a) (.bool b))) : Sem Value).run P w = _
  simp only [Sem.run_bind, run_equal_bool hu, Result.andThen_ok]
  rfl
theorem run_neq_bool {t : TypeId} (hu : P.underlying t = some .bool) (a b : Bool) (w : World) : (binOp .neq t (.bool a) (.bool b)).run P w = .ok (.bool (a != b)) w := by
  show (do pure (Value.bool (!(← Op.equal t (.bool a) (.bool b)))) : Sem Value).run P w = _
  simp only [Sem.run_bind, run_equal_bool hu, Result.andThen_ok]
  rfl
theorem binDat_sound (hT : TyOk P ty) {op : BinOp} {t : TypeId} {x y z : Dat} {p : Prop} (h : binDat op (ty t) x y = some (p, z)) (hp : p) {w : World} {pr : Nat → Bool} {v u : Value}
    (hx : RepD w pr x v) (hy : RepD w pr y u) (a b : Operand) : ∃ r, (do eqGuard op t a b v u; binOp op t v u : Sem Value).run P w = .ok r w ∧ RepD w pr z r := by
  unfold binDat at h
  split at h
  · cases hx; cases hy
    rw [eqGuard_bare _ _ _ _ _ _ (by simp) (by simp)]
    split at h
    · simp only [Option.some.injEq, Prod.mk.injEq] at h
      obtain ⟨rfl, rfl⟩ := h
      refine ⟨_, ?_, .int _ _⟩
      simp [binOp_shl, Op.shift, shft, Int.not_lt.2 hp]
    · simp only [Option.some.injEq, Prod.mk.injEq] at h
      obtain ⟨rfl, rfl⟩ := h
      refine ⟨_, ?_, .int _ _⟩
      simp [binOp_shr, Op.shift, shft, Int.not_lt.2 hp]
    · split at h
      · rename_i hk
        have := kindB_eq hk
        subst this
        obtain ⟨r, hr, hz⟩ := arith_sound (P := P) h hp t w pr
        exact ⟨r, by simpa using hr, hz⟩
      · cases h
  · cases hx; cases hy
    rw [eqGuard_bare _ _ _ _ _ _ (by simp) (by simp)]
    cases op <;> simp only [strOp, Option.some.injEq, Prod.mk.injEq, reduceCtorEq] at h <;> obtain ⟨rfl, rfl⟩ := h
    case add =>
      refine ⟨_, ?_, .str _⟩
      rename_i x y
      have hq : ¬ ((x.size + y.size : Nat) : Int) > IntKind.i64.max := by simp only [IntKind.max_i64]; omega
      simp only [Sem.run_bind, Sem.run_pure, Result.andThen_ok, binOp, Op.stringOp, if_neg hq]
    case eql => exact ⟨_, by simp [binOp_string_eql, byteArray_toList_eq], .bool _⟩
    case neq => exact ⟨_, by simp [binOp_string_neq, byteArray_toList_eq], .bool _⟩
  · cases hx; cases hy
    rw [eqGuard_bare _ _ _ _ _ _ (by simp) (by simp)]
    split at h
    · rename_i s b z zd ht
      have hu : P.underlying t = some .bool := hT.und t _ ht
      split at h
      · simp only [Option.some.injEq, Prod.mk.injEq] at h
        obtain ⟨rfl, rfl⟩ := h
        exact ⟨_, by simp only [Sem.run_bind, Sem.run_pure, Result.andThen_ok, run_eql_bool hu], .bool _⟩
      · simp only [Option.some.injEq, Prod.mk.injEq] at h
        obtain ⟨rfl, rfl⟩ := h
        exact ⟨_, by simp only [Sem.run_bind, Sem.run_pure, Result.andThen_ok, run_neq_bool hu], .bool _⟩
      · cases h
    · cases h
  · cases h

/-! ### Slices -/
def St.sl (σ : St) : AV → Option (Option Nat × List Dat)
  | .d (.sl ek xs) => some (ek, xs)
  | .nil ek => some (ek, [])
  | .ref i => match σ.obj i with
    | some (.row ek _ xs) => some (ek, xs)
    | some (.frz ek xs) => some (ek, xs)
    | _ => none
  | _ => none
def SlAt (w : World) (pr : Nat → Bool) (ek : Option Nat) (xs : List Dat) (v : Value) : Prop :=
  ∃ A cap, v = .slice A xs.length cap ∧ xs.length ≤ cap ∧ cap ≤ maxLen ∧ (∀ x ∈ xs, Fits ek x) ∧ (A = none → cap = 0) ∧
    (0 < xs.length → ∃ b off, A = some ⟨b, off, none⟩ ∧ ∀ k x, xs[k]? = some x → ∀ j y, x.cells[j]? = some y → ∃ u, w.cell? ⟨b, off + k * esz ek + j, none⟩ = some u ∧ RepD w pr y u)
theorem SlAt.of_rep {w : World} {pr : Nat → Bool} {ek : Option Nat} {xs : List Dat} {v : Value} (h : RepD w pr (.sl ek xs) v) : SlAt w pr ek xs v := by
  rcases h.sl_inv with ⟨rfl, rfl⟩ | ⟨b, off, spot, cap, rfl, hc, hm, hs, hf, hx⟩
  · exact ⟨none, 0, rfl, by simp, by simp [maxLen], by simp, fun _ => rfl, by simp⟩
  · refine ⟨_, cap, rfl, hc, hm, hf, by simp, fun hl => ⟨b, off, by rw [hs hl], fun k x hk j y hj => ?_⟩⟩
    obtain ⟨_, _, u, hu, hr⟩ := hx k x hk j y hj
    exact ⟨u, hu, hr⟩
theorem SlAt.of_row {c : Ct} {i : Nat} {ek : Option Nat} {e : TypeId} {xs : List Dat} (h : ORep c i (.row ek e xs)) : SlAt c.w c.pr ek xs (c.ρ i) := by
  obtain ⟨_, vals, ho, hp, hcr⟩ := h
  have hf : ∀ x ∈ xs, Fits ek x := by
    intro x hx
    obtain ⟨k, hk⟩ := List.mem_iff_getElem?.1 hx
    exact (hcr k x hk).1
  rcases ho.2 with ⟨hn, h0⟩ | ⟨g, cap, cur, hv, _, hg, hnc, hcm, hcs, htake⟩
  · refine ⟨none, 0, by rw [hn, h0], by omega, by simp [maxLen], hf, fun _ => rfl, by omega⟩
  · refine ⟨_, cap, hv, hnc, hcm, hf, by simp, fun hl => ⟨g, 0, rfl, fun k x hk j y hj => ?_⟩⟩
    obtain ⟨u, hu, hr⟩ := (hcr k x hk).2 j y hj
    refine ⟨u, ?_, hr⟩
    have := ho.cells (g := g) (by rw [hv]; rfl) _ u hu
    rw [Addr.add_lit] at this
    rw [← this]
    congr 2
    omega
theorem sl_sound {σ : St} {a : Act} {c : Ct} (hM : Models σ a c) {x : AV} {ek : Option Nat} {xs : List Dat} {v : Value} (h : σ.sl x = some (ek, xs)) (hv : Rep c x v) : SlAt c.w c.pr ek xs v := by
  unfold St.sl at h
  split at h
  · cases h
    cases hv with
    | d h => exact .of_rep h
  · cases h
    cases hv
    exact ⟨none, 0, rfl, by simp, by simp [maxLen], by simp, fun _ => rfl, by simp⟩
  · cases hv with
    | ref i hi v hv h1 =>
      subst hv
      split at h
      · rename_i ho
        cases h
        exact .of_row (hM.ob _ _ ho)
      · rename_i ho
        cases h
        exact .of_rep (hM.ob _ _ ho).2
      · cases h
  · cases h

def Dat.toU8 : Dat → UInt8
  | .int _ n => UInt8.ofNat n.toNat
  | _ => 0
def Dat.isU8 : Dat → Bool
  | .int .u8 _ => true
  | _ => false
def strOf (xs : List Dat) : ByteArray := ⟨(xs.map Dat.toU8).toArray⟩
def ekB : Option Nat → Option Nat → Bool
  | none, none => true
  | some a, some b => Nat.beq a b
  | _, _ => false
theorem ekB_eq {a b : Option Nat} (h : ekB a b = true) : a = b := by
  cases a <;> cases b <;> simp_all [ekB]
end
end Go.Am
