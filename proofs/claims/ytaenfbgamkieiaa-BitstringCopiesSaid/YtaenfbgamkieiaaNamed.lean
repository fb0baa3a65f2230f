/- Named bits, in plain Lean: no program. -/
import Derived.Test.YtaenfbgamkieiaaBits
namespace Go.Am
set_option linter.unusedSimpArgs false
set_option linter.unusedVariables false

/-- Byte number j of the bits ms. -/
def byteP (ms : List Nat) (j : Nat) : Nat := (ms.map fun m => if m / 8 = j then 2 ^ (7 - m % 8) else 0).sum
theorem byteP_snoc (ms : List Nat) (m j : Nat) : byteP (ms ++ [m]) j = byteP ms j + (if m / 8 = j then 2 ^ (7 - m % 8) else 0) := by
  simp [byteP, List.sum_append]
theorem byteP_nil (j : Nat) : byteP [] j = 0 := rfl
theorem byteP_dvd (ms : List Nat) (m : Nat) (h : ∀ x ∈ ms, x < m) : ∃ q, byteP ms (m / 8) = 2 ^ (8 - m % 8) * q := by
  induction ms with
  | nil => exact ⟨0, by simp [byteP]⟩
  | cons x r ih =>
    obtain ⟨q, hq⟩ := ih (fun y hy => h y (List.mem_cons_of_mem _ hy))
    have hx := h x (List.mem_cons_self ..)
    have e : byteP (x :: r) (m / 8) = (if x / 8 = m / 8 then 2 ^ (7 - x % 8) else 0) + byteP r (m / 8) := by simp [byteP]
    rw [e, hq]
    by_cases hd : x / 8 = m / 8
    · refine ⟨2 ^ (m % 8 - x % 8 - 1) + q, ?_⟩
      rw [if_pos hd, Nat.mul_add, ← Nat.pow_add]
      congr 2
      omega
    · exact ⟨q, by rw [if_neg hd]; omega⟩
/-- Increasing. -/
def Inc (ms : List Nat) : Prop := ms.Pairwise (· < ·)
theorem memTo_inc (n i : Nat) : Inc (memTo n i) := List.Pairwise.filter _ List.pairwise_lt_range
theorem memF_inc (n : Nat) : Inc (memF n) := List.Pairwise.filter _ List.pairwise_lt_range
theorem inc_snoc {ms : List Nat} {m : Nat} (h : Inc (ms ++ [m])) : Inc ms ∧ ∀ x ∈ ms, x < m := by
  have := List.pairwise_append.1 h
  exact ⟨this.1, fun x hx => this.2.2 x hx m (by simp)⟩
theorem byteP_lt (ms : List Nat) (h : Inc ms) (j : Nat) : byteP ms j < 256 := by
  induction hn : ms.length generalizing ms with
  | zero =>
    have : ms = [] := List.eq_nil_of_length_eq_zero hn
    subst this
    simp [byteP]
  | succ n ih =>
    rcases List.eq_nil_or_concat ms with rfl | ⟨r, m, rfl⟩
    · simp at hn
    · simp only [List.concat_eq_append] at *
      obtain ⟨h1, h2⟩ := inc_snoc h
      have h3 := ih r h1 (by simpa using hn)
      rw [byteP_snoc]
      split
      · rename_i hj
        subst hj
        obtain ⟨q, hq⟩ := byteP_dvd r m h2
        rw [hq] at h3 ⊢
        have hm : m % 8 < 8 := Nat.mod_lt _ (by omega)
        have : m % 8 = 0 ∨ m % 8 = 1 ∨ m % 8 = 2 ∨ m % 8 = 3 ∨ m % 8 = 4 ∨ m % 8 = 5 ∨ m % 8 = 6 ∨ m % 8 = 7 := by omega
        rcases this with e | e | e | e | e | e | e | e <;> rw [e] at h3 ⊢ <;> omega
      · omega
theorem byteP_or (ms : List Nat) (m : Nat) (h : ∀ x ∈ ms, x < m) : byteP ms (m / 8) ||| 2 ^ (7 - m % 8) = byteP ms (m / 8) + 2 ^ (7 - m % 8) := by
  obtain ⟨q, hq⟩ := byteP_dvd ms m h
  rw [hq]
  have hm : m % 8 < 8 := Nat.mod_lt _ (by omega)
  rw [Nat.two_pow_add_eq_or_of_lt]
  exact Nat.pow_lt_pow_right (by omega) (by omega)
/-- The contents octets of the bits r ++ [m]; of the first so many of them. -/
def outP (ms : List Nat) (m : Nat) : List UInt8 := UInt8.ofNat (7 - m % 8) :: (List.range (m / 8 + 1)).map fun j => UInt8.ofNat (byteP ms j)
theorem outP_len (ms : List Nat) (m : Nat) : (outP ms m).length = m / 8 + 2 := by simp [outP]
theorem set_outP (ms : List Nat) (m x : Nat) (hx : x ≤ m) (h : Inc (ms ++ [x])) :
    (bys (outP ms m)).set (1 + ((x / 8 : Nat) : Int)).toNat (.int .u8 (bits .or .u8 (((outP ms m).getD (1 + ((x / 8 : Nat) : Int)).toNat 0).toNat : Int) (shft .shr .u8 128 ((x % 8 : Nat) : Int)))) = bys (outP (ms ++ [x]) m) := by
  obtain ⟨h1, h2⟩ := inc_snoc h
  have e1 : (1 + ((x / 8 : Nat) : Int)).toNat = x / 8 + 1 := by omega
  have hJ : x / 8 < m / 8 + 1 := by omega
  have hb := byteP_lt ms h1 (x / 8)
  have hb2 := byteP_lt _ h (x / 8)
  have hs : byteP (ms ++ [x]) (x / 8) = byteP ms (x / 8) + 2 ^ (7 - x % 8) := by rw [byteP_snoc, if_pos rfl]
  have e2 : (outP ms m).getD (x / 8 + 1) 0 = UInt8.ofNat (byteP ms (x / 8)) := by
    simp [outP, hJ]
  have e3 : shft .shr .u8 128 ((x % 8 : Nat) : Int) = ((2 ^ (7 - x % 8) : Nat) : Int) := by
    have hm : x % 8 < 8 := Nat.mod_lt _ (by omega)
    have : x % 8 = 0 ∨ x % 8 = 1 ∨ x % 8 = 2 ∨ x % 8 = 3 ∨ x % 8 = 4 ∨ x % 8 = 5 ∨ x % 8 = 6 ∨ x % 8 = 7 := by omega
    rcases this with e | e | e | e | e | e | e | e <;> rw [e] <;> decide
  have e4 : ((UInt8.ofNat (byteP ms (x / 8))).toNat : Int) = ((byteP ms (x / 8) : Nat) : Int) := by
    simp
    omega
  rw [e1, e2, e3, e4, or_u8 _ _ hb (by omega), byteP_or ms x h2, ← hs]
  have e5 : Dat.int .u8 ((byteP (ms ++ [x]) (x / 8) : Nat) : Int) = by1 (UInt8.ofNat (byteP (ms ++ [x]) (x / 8))) := by
    simp [by1]
    omega
  rw [e5]
  show ((outP ms m).map by1).set (x / 8 + 1) _ = (outP (ms ++ [x]) m).map by1
  rw [← List.map_set]
  congr 1
  show UInt8.ofNat (7 - m % 8) :: _ = UInt8.ofNat (7 - m % 8) :: _
  congr 1
  apply List.ext_getElem
  · simp
  · intro i h3 h4
    rw [List.getElem_set]
    simp only [List.getElem_map, List.getElem_range]
    split
    · rename_i hi
      rw [hi]
    · rename_i hi
      rw [byteP_snoc, if_neg hi]
      rfl

theorem mem_memF {N i : Nat} (hN : N < 9223372036854775808) (h : N.testBit i = true) : i ∈ memF N := by
  refine List.mem_filter.2 ⟨List.mem_range.2 ?_, h⟩
  rcases Nat.lt_or_ge i 64 with h1 | h1
  · exact h1
  · rw [Nat.testBit_lt_two_pow (Nat.lt_of_lt_of_le hN (Nat.le_trans (show 9223372036854775808 ≤ 2 ^ 64 by decide) (Nat.pow_le_pow_right (by omega) h1)))] at h
    cases h
theorem memF_nil {N : Nat} (hN : N < 9223372036854775808) (h : memF N = []) : N = 0 := by
  apply Classical.byContradiction
  intro h0
  obtain ⟨i, hi⟩ := Nat.exists_testBit_of_ne_zero h0
  have := mem_memF hN hi
  rw [h] at this
  cases this
theorem memF_last {N m : Nat} {q : List Nat} (hN : N < 9223372036854775808) (h : memF N = q ++ [m]) : 2 ^ m ≤ N ∧ N < 2 ^ (m + 1) := by
  have hm : m ∈ memF N := by rw [h]; simp
  refine ⟨Nat.ge_two_pow_of_testBit (List.mem_filter.1 hm).2, ?_⟩
  rcases Nat.lt_or_ge N (2 ^ (m + 1)) with h1 | h1
  · exact h1
  · obtain ⟨i, hi, hb⟩ := Nat.exists_ge_and_testBit_of_ge_two_pow h1
    have h2 := mem_memF hN hb
    rw [h] at h2
    have hinc : Inc (q ++ [m]) := by rw [← h]; exact memF_inc N
    rcases List.mem_append.1 h2 with h3 | h3
    · have := (inc_snoc hinc).2 i h3
      omega
    · simp at h3
      omega
theorem memF_lt {N m K : Nat} {q : List Nat} (hN : N < 9223372036854775808) (h : memF N = q ++ [m]) : m < K ↔ N < 2 ^ K := by
  obtain ⟨h1, h2⟩ := memF_last hN h
  constructor
  · intro h3
    exact Nat.lt_of_lt_of_le h2 (Nat.pow_le_pow_right (by omega) h3)
  · intro h3
    exact (Nat.pow_lt_pow_iff_right (show 1 < 2 by omega)).1 (Nat.lt_of_le_of_lt h1 h3)

theorem zeros_outP (m : Nat) : List.replicate (m / 8 + 1) (Dat.int .u8 0) = bys (outP [] m).tail := by
  symm
  rw [List.eq_replicate_iff]
  refine ⟨by simp [bys, outP], fun b hb => ?_⟩
  simp [bys, outP, byteP_nil] at hb
  obtain ⟨_, _, rfl⟩ := hb
  rfl
theorem set_outR (ms : List Nat) (m x : Nat) (hx : x ≤ m) (h : Inc (ms ++ [x])) :
    (bys (outP ms m).tail).set (x / 8) (.int .u8 (IntKind.u8.wrap ((((outP ms m).tail.getD (x / 8) 0).toNat : Int) + (([128, 64, 32, 16, 8, 4, 2, 1] : List UInt8).getD (x % 8) 0).toNat))) = bys (outP (ms ++ [x]) m).tail := by
  obtain ⟨h1, h2⟩ := inc_snoc h
  have hJ : x / 8 < m / 8 + 1 := by omega
  have hb := byteP_lt ms h1 (x / 8)
  have hb2 := byteP_lt _ h (x / 8)
  have hs : byteP (ms ++ [x]) (x / 8) = byteP ms (x / 8) + 2 ^ (7 - x % 8) := by rw [byteP_snoc, if_pos rfl]
  have e2 : (outP ms m).tail.getD (x / 8) 0 = UInt8.ofNat (byteP ms (x / 8)) := by
    simp [outP, hJ]
  have e3 : ((([128, 64, 32, 16, 8, 4, 2, 1] : List UInt8).getD (x % 8) 0).toNat : Int) = ((2 ^ (7 - x % 8) : Nat) : Int) := by
    have hm : x % 8 < 8 := Nat.mod_lt _ (by omega)
    have : x % 8 = 0 ∨ x % 8 = 1 ∨ x % 8 = 2 ∨ x % 8 = 3 ∨ x % 8 = 4 ∨ x % 8 = 5 ∨ x % 8 = 6 ∨ x % 8 = 7 := by omega
    rcases this with e | e | e | e | e | e | e | e <;> rw [e] <;> decide
  have e4 : ((UInt8.ofNat (byteP ms (x / 8))).toNat : Int) = ((byteP ms (x / 8) : Nat) : Int) := by
    simp
    omega
  rw [e2, e3, e4, show ((byteP ms (x / 8) : Nat) : Int) + ((2 ^ (7 - x % 8) : Nat) : Int) = ((byteP (ms ++ [x]) (x / 8) : Nat) : Int) by rw [hs]; rfl]
  have e5 : Dat.int .u8 (IntKind.u8.wrap ((byteP (ms ++ [x]) (x / 8) : Nat) : Int)) = by1 (UInt8.ofNat (byteP (ms ++ [x]) (x / 8))) := by
    rw [IntKind.wrap_u8]
    simp [by1]
  rw [e5]
  show ((outP ms m).tail.map by1).set (x / 8) _ = (outP (ms ++ [x]) m).tail.map by1
  rw [← List.map_set]
  congr 1
  apply List.ext_getElem
  · simp [outP]
  · intro i h3 h4
    rw [List.getElem_set]
    simp only [outP, List.tail_cons, List.getElem_map, List.getElem_range]
    split
    · rename_i hi
      rw [hi]
    · rename_i hi
      rw [byteP_snoc, if_neg hi]
      rfl
theorem outP_valid (q : List Nat) (m : Nat) (h : Inc (q ++ [m])) : valF (outP (q ++ [m]) m).tail ((7 - m % 8 : Nat) : Int) = true := by
  obtain ⟨h1, h2⟩ := inc_snoc h
  have hb2 := byteP_lt _ h (m / 8)
  have hs : byteP (q ++ [m]) (m / 8) = byteP q (m / 8) + 2 ^ (7 - m % 8) := by rw [byteP_snoc, if_pos rfl]
  obtain ⟨p, hp⟩ := byteP_dvd q m h2
  have hl : ((outP (q ++ [m]) m).tail).getD (((outP (q ++ [m]) m).tail).length - 1) 0 = UInt8.ofNat (byteP (q ++ [m]) (m / 8)) := by
    simp [outP]
  have hne : (outP (q ++ [m]) m).tail ≠ [] := by simp [outP]
  have hv : ∀ x : List UInt8, x ≠ [] → ∀ u : Int, valF x u = decide (0 ≤ u ∧ u ≤ 7 ∧ (x.getD (x.length - 1) 0).toNat % 2 ^ u.toNat = 0) := by
    intro x hx u
    cases x with
    | nil => exact absurd rfl hx
    | cons b x => rfl
  rw [hv _ hne, hl]
  have e : (UInt8.ofNat (byteP (q ++ [m]) (m / 8))).toNat = byteP (q ++ [m]) (m / 8) := by simp; omega
  rw [e, Int.toNat_natCast, hs, hp]
  have hm : m % 8 < 8 := Nat.mod_lt _ (by omega)
  have e8 : 8 - m % 8 = (7 - m % 8) + 1 := by omega
  have : (2 ^ (8 - m % 8) * p + 2 ^ (7 - m % 8)) % 2 ^ (7 - m % 8) = 0 := by
    rw [e8, Nat.pow_succ, Nat.mul_assoc, ← Nat.mul_succ]
    exact Nat.mul_mod_right _ _
  simp only [this]
  simp
  omega

/-! ### Sets out of bit strings -/
def setTo (f : Nat → Bool) : Nat → Nat
  | 0 => 0
  | k + 1 => setTo f k + (match f k with
    | true => 2 ^ k
    | false => 0)
theorem setTo_lt (f : Nat → Bool) : ∀ k, setTo f k < 2 ^ k
  | 0 => by simp [setTo]
  | k + 1 => by
    have h := setTo_lt f k
    rw [setTo, Nat.pow_succ]
    generalize 2 ^ k = p at *
    split <;> omega
theorem setTo_or (f : Nat → Bool) (k : Nat) : setTo f k ||| 2 ^ k = setTo f k + 2 ^ k := by
  have h := setTo_lt f k
  rw [Nat.or_comm, Nat.add_comm]
  have := Nat.two_pow_add_eq_or_of_lt h 1
  rw [Nat.mul_one] at this
  exact this.symm
theorem setTo_bit (f : Nat → Bool) : ∀ k i, (setTo f k).testBit i = (decide (i < k) && f i)
  | 0, i => by simp [setTo]
  | k + 1, i => by
    have hlt := setTo_lt f k
    rw [setTo]
    cases hf : f k with
    | true =>
      simp only
      rw [← setTo_or, Nat.testBit_or, setTo_bit f k i, Nat.testBit_two_pow]
      by_cases h : k = i
      · subst h; simp [hf]
      · have h2 : (i < k + 1) ↔ i < k := by omega
        simp [h, h2]
    | false =>
      simp only [Nat.add_zero]
      rw [setTo_bit f k i]
      by_cases h : k = i
      · subst h; simp [hf]
      · have h2 : (i < k + 1) ↔ i < k := by omega
        simp [h2]

theorem or_i64 (a b : Nat) (ha : a < 9223372036854775808) (hb : b < 9223372036854775808) : bits .or .i64 (a : Int) (b : Int) = ((a ||| b : Nat) : Int) :=
  (bits_nat .i64 63 (by decide) (fun n h0 h1 => by rw [IntKind.wrap_i64]; omega) a b (by omega) (by omega)).2
theorem shl_i64 (j : Nat) (hj : j ≤ 62) : shft .shl .i64 1 (j : Int) = ((2 ^ j : Nat) : Int) := by
  show IntKind.i64.wrap (1 * 2 ^ (min (j : Int).toNat 64)) = _
  rw [Int.toNat_natCast, Nat.min_eq_left (by omega), Int.one_mul]
  have h : 2 ^ j ≤ 2 ^ 62 := Nat.pow_le_pow_right (by omega) hj
  have e : (2 : Int) ^ j = ((2 ^ j : Nat) : Int) := by rw [Int.natCast_pow]; rfl
  rw [e]
  generalize 2 ^ j = p at *
  rw [IntKind.wrap_i64]
  omega
theorem setTo_step (f : Nat → Bool) (j : Nat) (hj : j ≤ 62) (h : f j = true) : bits .or .i64 ((setTo f j : Nat) : Int) (shft .shl .i64 1 (j : Int)) = ((setTo f (j + 1) : Nat) : Int) := by
  have h1 := setTo_lt f j
  have h2 : 2 ^ j ≤ 2 ^ 62 := Nat.pow_le_pow_right (by omega) hj
  have h3 := setTo_or f j
  rw [shl_i64 j hj, setTo, h]
  generalize 2 ^ j = p at *
  rw [or_i64 _ _ (by omega) (by omega), h3]
end Go.Am
