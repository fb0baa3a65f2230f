/- Strings in pieces, numerals, arcs: plain Lean. No program. -/
import Derived.Test.YtaenfbgamkieiaaDoorAmS
import Derived.Lib.ItoaNum
import Derived.Lib.ParseIntB
import Derived.Lib.Bytealg
namespace Go.Am
set_option linter.unusedSimpArgs false
set_option linter.unusedVariables false

def bA (l : List UInt8) : ByteArray := ⟨l.toArray⟩
def sD (l : List UInt8) : Dat := .str (bA l)
def strs (l : List (List UInt8)) : List Dat := l.map sD
theorem fits_sD (l : List UInt8) : Fits none (sD l) ↔ True := iff_true_intro rfl
theorem strs_len (l : List (List UInt8)) : (strs l).length = l.length := by simp [strs]
def u32s (l : List Nat) : List Dat := l.map fun n : Nat => .int .u32 (n : Int)
theorem u32s_len (l : List Nat) : (u32s l).length = l.length := by simp [u32s]
def u64s (l : List Nat) : List Dat := l.map fun n : Nat => .int .u64 (n : Int)
theorem u64s_len (l : List Nat) : (u64s l).length = l.length := by simp [u64s]
theorem bA_size (l : List UInt8) : (bA l).size = l.length := by simp [bA, ByteArray.size]
theorem ba_size_mk (a : Array UInt8) : (ByteArray.mk a).size = a.size := rfl
theorem bA_list (l : List UInt8) : (bA l).data.toList = l := by simp [bA]
theorem bA_of (s : ByteArray) : s = bA s.data.toList := by cases s; simp [bA]
theorem bA_inj {x y : List UInt8} : bA x = bA y ↔ x = y := by
  constructor
  · intro h
    have := congrArg (fun z => z.data.toList) h
    simpa [bA] using this
  · rintro rfl; rfl
theorem bA_ext (l : List UInt8) (a b : Nat) : (bA l).extract a b = bA (cutL l a b) := by
  apply ByteArray.ext
  simp only [bA, cutL, ByteArray.data_extract, List.extract_toArray, List.extract_eq_take_drop, List.drop_take]
theorem bA_app (x y : List UInt8) : bA x ++ bA y = bA (x ++ y) := by
  apply ByteArray.ext
  simp [bA]
theorem canon_strs (l : List (List UInt8)) (n : Nat) : ((strs l).getD n default = Dat.str ((strs l).getD n default).txt) ↔ n < l.length := by
  by_cases h : n < l.length
  · simp [strs, List.getElem?_eq_getElem h, h, sD, Dat.txt]
  · simp [strs, List.getElem?_eq_none (Nat.le_of_not_lt h), h, default]
theorem txt_strs (l : List (List UInt8)) (n : Nat) : ((strs l).getD n default).txt = bA (l.getD n []) := by
  by_cases h : n < l.length
  · simp [strs, List.getElem?_eq_getElem h, sD, Dat.txt]
  · simp [strs, List.getElem?_eq_none (Nat.le_of_not_lt h), default, Dat.txt, bA]
theorem canon_u32s (l : List Nat) (n : Nat) : ((u32s l).getD n default = Dat.int .u32 ((u32s l).getD n default).num) ↔ n < l.length := by
  by_cases h : n < l.length
  · simp [u32s, List.getElem?_eq_getElem h, h, Dat.num]
  · simp [u32s, List.getElem?_eq_none (Nat.le_of_not_lt h), h, default]
theorem num_u32s (l : List Nat) (n : Nat) : ((u32s l).getD n default).num = ((l.getD n 0 : Nat) : Int) := by
  by_cases h : n < l.length
  · simp [u32s, List.getElem?_eq_getElem h, Dat.num]
  · simp [u32s, List.getElem?_eq_none (Nat.le_of_not_lt h), default, Dat.num]
theorem canon_u64s (l : List Nat) (n : Nat) : ((u64s l).getD n default = Dat.int .u64 ((u64s l).getD n default).num) ↔ n < l.length := by
  by_cases h : n < l.length
  · simp [u64s, List.getElem?_eq_getElem h, h, Dat.num]
  · simp [u64s, List.getElem?_eq_none (Nat.le_of_not_lt h), h, default]
theorem num_u64s (l : List Nat) (n : Nat) : ((u64s l).getD n default).num = ((l.getD n 0 : Nat) : Int) := by
  by_cases h : n < l.length
  · simp [u64s, List.getElem?_eq_getElem h, Dat.num]
  · simp [u64s, List.getElem?_eq_none (Nat.le_of_not_lt h), default, Dat.num]

/-! ### Pieces between dots -/
def splitL : List UInt8 → List (List UInt8)
  | [] => [[]]
  | c :: r => if c = 46 then [] :: splitL r else (match splitL r with
    | p :: ps => (c :: p) :: ps
    | [] => [[c]])
theorem splitL_ne (l : List UInt8) : splitL l ≠ [] := by
  cases l with
  | nil => simp [splitL]
  | cons c r =>
    simp only [splitL]
    split
    · simp
    · split <;> simp
theorem splitL_len (l : List UInt8) : (splitL l).length = Lib.countByte l 46 + 1 := by
  induction l with
  | nil => rfl
  | cons c r ih =>
    simp only [splitL]
    unfold Lib.countByte at *
    by_cases h : c = 46
    · subst h
      simp [ih]
    · rw [if_neg h, List.count_cons_of_ne h]
      split
      · rename_i p ps hp
        rw [hp] at ih
        simpa using ih
      · rename_i hp
        exact absurd hp (splitL_ne r)
theorem count_le (l : List UInt8) : Lib.countByte l 46 ≤ l.length := List.count_le_length
theorem index_spec (l : List UInt8) : (Lib.indexByte l 46 = -1 ∧ Lib.countByte l 46 = 0 ∧ splitL l = [l]) ∨ ∃ m : Nat, Lib.indexByte l 46 = m ∧ m < l.length ∧ 0 < Lib.countByte l 46 ∧ splitL l = l.take m :: splitL (l.drop (m + 1)) := by
  induction l with
  | nil => exact .inl ⟨rfl, rfl, rfl⟩
  | cons c r ih =>
    by_cases h : c = 46
    · subst h
      exact .inr ⟨0, by simp [Lib.indexByte], by simp, by simp [Lib.countByte], by simp [splitL]⟩
    · rcases ih with ⟨h1, h2, h3⟩ | ⟨m, h1, h2, h3, h4⟩
      · refine .inl ⟨by simp [Lib.indexByte, h, h1], ?_, by simp [splitL, h, h3]⟩
        unfold Lib.countByte at *
        rw [List.count_cons_of_ne h]
        exact h2
      · refine .inr ⟨m + 1, ?_, by simp; omega, ?_, by simp [splitL, h, h4]⟩
        · have : ¬ (m : Int) = -1 := by omega
          simp [Lib.indexByte, h, h1, this]
        · unfold Lib.countByte at *
          rw [List.count_cons_of_ne h]
          exact h3
theorem splitL_drop (l : List UInt8) : ∀ p ∈ splitL l, p.length ≤ l.length := by
  induction l with
  | nil => simp [splitL]
  | cons c r ih =>
    intro p hp
    simp only [splitL] at hp
    split at hp
    · rcases List.mem_cons.1 hp with rfl | hp
      · simp
      · have := ih p hp
        simp
        omega
    · split at hp
      · rename_i q qs hq
        rw [hq] at ih
        rcases List.mem_cons.1 hp with rfl | hp
        · have := ih q (List.mem_cons_self ..)
          simp
          omega
        · have := ih p (List.mem_cons_of_mem _ hp)
          simp
          omega
      · simp at hp
        subst hp
        simp
end Go.Am
