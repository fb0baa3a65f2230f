/- Functions of Go's library that package oid calls, as contracts on data. -/
import Derived.Test.YtaenfbgamkieiaaDoorOidA
import Derived.Test.YtaenfbgamkieiaaDoorLaid
import Derived.Test.YtaenfbgamkieiaaDoorShelf
import Derived.Lib.Walk
import Derived.Lib.ItoaMem
import Derived.WalkKit
import Derived.BigCall
import Derived.BigGuard
namespace Go.Proofs.YtaenfbgamkieiaaDoor
open Go.Am Go.RowKit Go.Sort
set_option linter.unusedSimpArgs false
set_option linter.unusedVariables false

theorem two_args {w : World} {pr : Nat → Bool} {vs : Array Value} {x y : Dat} (h1 : vs.size = [x, y].length) (h2 : ∀ (j : Nat) (z : Dat), [x, y][j]? = some z → RepD w pr z (vs.getD j undef)) : ∃ a b, vs = #[a, b] ∧ RepD w pr x a ∧ RepD w pr y b := by
  obtain ⟨l⟩ := vs
  match l, h1 with
  | [a, b], _ => exact ⟨a, b, rfl, by simpa using h2 0 x rfl, by simpa using h2 1 y rfl⟩
theorem three_args {w : World} {pr : Nat → Bool} {vs : Array Value} {x y u : Dat} (h1 : vs.size = [x, y, u].length) (h2 : ∀ (j : Nat) (z : Dat), [x, y, u][j]? = some z → RepD w pr z (vs.getD j undef)) : ∃ a b c, vs = #[a, b, c] ∧ RepD w pr x a ∧ RepD w pr y b ∧ RepD w pr u c := by
  obtain ⟨l⟩ := vs
  match l, h1 with
  | [a, b, c], _ => exact ⟨a, b, c, rfl, by simpa using h2 0 x rfl, by simpa using h2 1 y rfl, by simpa using h2 2 u rfl⟩

theorem isIndex : IsFn Tryd.prog 48 Tryd.f48 := ⟨Tryd.func48, by decide, rfl⟩
theorem isCount : IsFn Tryd.prog 47 Tryd.f47 := ⟨Tryd.func47, by decide, rfl⟩
theorem c_index (Γ : Env) (l : List UInt8) : ACalls Tryd.prog Γ 48 [sD l, sD [46]] (fun r => r = .d (.int .i64 (Lib.indexByte l 46))) := by
  refine ⟨⟨_, isIndex⟩, fun w pr vs hok hs hr => ?_⟩
  obtain ⟨a, b, rfl, h1, h2⟩ := two_args hs hr
  cases h1; cases h2
  refine (Tryd.strings_Index_one (bA l) 46 w).mono fun e w' ⟨he, hw⟩ => ?_
  subst hw
  exact ⟨_, .d (.int .i64 (Lib.indexByte l 46)), by rw [he, bA_list], Below.refl _ _, .int _ _, rfl⟩
theorem c_count (Γ : Env) (l : List UInt8) : ACalls Tryd.prog Γ 47 [sD l, sD [46]] (fun r => r = .d (.int .i64 (Lib.countByte l 46))) := by
  refine ⟨⟨_, isCount⟩, fun w pr vs hok hs hr => ?_⟩
  obtain ⟨a, b, rfl, h1, h2⟩ := two_args hs hr
  cases h1; cases h2
  refine (Tryd.strings_Count_one (bA l) 46 w).mono fun e w' ⟨he, hw⟩ => ?_
  subst hw
  exact ⟨_, .d (.int .i64 (Lib.countByte l 46)), by rw [he, bA_list], Below.refl _ _, .int _ _, rfl⟩

/-! ### ParseUint -/
def parR (l : List UInt8) (r : Res) : Prop := match Lib.parseUintB 32 l with
  | .ok u => r = .d (.tup [.int .u64 u, .nilIf])
  | .range => r = .d (.tup [.int .u64 4294967295, .someIf])
  | _ => r = .d (.tup [.int .u64 0, .someIf])
theorem tup2 {w : World} {pr : Nat → Bool} {x y : Dat} {a b : Value} (h1 : RepD w pr x a) (h2 : RepD w pr y b) : RepD w pr (.tup [x, y]) (.tuple #[a, b]) := by
  refine .tup _ _ rfl fun j z hj => ?_
  match j, hj with
  | 0, hj => simp at hj; subst hj; simpa using h1
  | 1, hj => simp at hj; subst hj; simpa using h2
theorem isParseUint : IsFn Tryd.prog 26 Tryd.f26 := ⟨Tryd.func26, by decide, rfl⟩
theorem c_parse (l : List UInt8) (hl : l.length ≤ 1099511627776) : ACalls Tryd.prog envL 26 [sD l, .int .i64 10, .int .i64 32] (parR l) := by
  refine ⟨⟨_, isParseUint⟩, fun w pr vs hok hs hr => ?_⟩
  obtain ⟨a, b, c, rfl, h1, h2, h3⟩ := three_args hs hr
  cases h1; cases h2; cases h3
  have hok' : LaidOk w := hok
  obtain ⟨_, _, ⟨t1, p1, v1⟩, t2, p2, v2⟩ := hok'
  have hsz := bA_size l
  have hli := bA_list l
  cases hp : Lib.parseUintB 32 l with
  | ok u =>
    refine (Tryd.strconv_ParseUint_10_at32_ok (bA l) (by omega) u (by rw [hli]; exact hp) w).mono fun e w' ⟨he, hw⟩ => ?_
    refine ⟨_, .d (.tup [.int .u64 u, .nilIf]), he, ?_, tup2 (.int _ _) .nilIf, by simp only [parR, hp]⟩
    rcases hw with rfl | rfl
    · exact Below.refl _ _
    · exact Lib.bytesWorld_below _ _ _
  | range =>
    refine (Tryd.strconv_ParseUint_10_at32_range_var (bA l) (by omega) (by rw [hli]; exact hp) t2 p2 w v2).mono fun e w' ⟨N, he, _, _, hb⟩ => ?_
    exact ⟨_, .d (.tup [.int .u64 4294967295, .someIf]), he, hb, tup2 (.int _ _) (.someIf _ _), by simp only [parR, hp]⟩
  | _ =>
    refine (Tryd.strconv_ParseUint_10_at32_syntax_var (bA l) (by omega) (by rw [hli]; exact hp) t1 p1 w v1).mono fun e w' ⟨N, he, _, _, hb⟩ => ?_
    exact ⟨_, .d (.tup [.int .u64 0, .someIf]), he, hb, tup2 (.int _ _) (.someIf _ _), by simp only [parR, hp]⟩

/-! ### Join -/
theorem isJoin : IsFn Tryd.prog 31 Tryd.f31 := ⟨Tryd.func31, by decide, rfl⟩
def joinL (l : List (List UInt8)) : List UInt8 := Lib.join l [46]
theorem c_join (Γ : Env) (l : List (List UInt8)) (h1 : l.length ≤ 1099511627776) (h2 : (joinL l).length ≤ 1099511627776) : ACalls Tryd.prog Γ 31 [.sl none (strs l), sD [46]] (fun r => r = .d (sD (joinL l))) := by
  refine ⟨⟨_, isJoin⟩, fun w pr vs hok hs hr => ?_⟩
  obtain ⟨a, b, rfl, h3, h4⟩ := two_args hs hr
  cases h4
  rcases h3.sl_inv with ⟨rfl, hx⟩ | ⟨bk, off, spot, cap, rfl, hc, hm, hsp, hf, hcell⟩
  · have : l = [] := by simpa [strs] using hx
    subst this
    refine (Tryd.strings_Join_none none 0 (bA [46]) w).mono fun e w' ⟨he, hw⟩ => ?_
    subst hw
    exact ⟨_, .d (sD (joinL [])), he, Below.refl _ _, .str _, rfl⟩
  · cases l with
    | nil =>
      refine (Tryd.strings_Join_none (some ⟨bk, off, spot⟩) cap (bA [46]) w).mono fun e w' ⟨he, hw⟩ => ?_
      subst hw
      exact ⟨_, .d (sD (joinL [])), he, Below.refl _ _, .str _, rfl⟩
    | cons p ps =>
      have hsp0 := hsp (by simp [strs])
      subst hsp0
      have hcells : ∀ (j : Nat) x, ((p :: ps).map bA)[j]? = some x → w.cell? ⟨bk, off + j, none⟩ = some (.string x) := by
        intro j x hj
        rw [List.getElem?_map] at hj
        obtain ⟨q, hq, rfl⟩ := Option.map_eq_some_iff.1 hj
        have hk : (strs (p :: ps))[j]? = some (sD q) := by rw [strs, List.getElem?_map, hq]; rfl
        obtain ⟨_, _, u, hu, hr2⟩ := hcell j (sD q) hk 0 (sD q) rfl
        cases hr2
        rw [← hu]
        simp [Am.esz]
      have hbk : bk < w.heap.size := World.block_lt_of_cell? w _ (hcells 0 (bA p) rfl)
      have hml : ((p :: ps).map bA).map (·.data.toList) = p :: ps := by
        rw [List.map_map]
        conv => rhs; rw [← List.map_id (p :: ps)]
        exact List.map_congr_left fun x _ => bA_list x
      have hJ := Tryd.strings_Join bk off cap ((p :: ps).map bA) (bA [46]) w hcells hbk (by simp at h1 ⊢; omega) (by simpa [strs] using hc) (by rw [hml, bA_list]; exact Nat.le_trans h2 (by omega))
      rw [hml, bA_list] at hJ
      have hlen : (strs (p :: ps)).length = ((p :: ps).map bA).length := by simp [strs]
      rw [hlen]
      refine hJ.mono fun e w' ⟨he, hw⟩ => ?_
      exact ⟨_, .d (sD (joinL (p :: ps))), he, hw, .str _, rfl⟩
end Go.Proofs.YtaenfbgamkieiaaDoor
