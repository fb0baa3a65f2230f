/- The fixed results that the laws of object identifiers ask for first; the laws OidEncodes and OidInverse, walked. -/
import Derived.Test.YtaenfbgamkieiaaDoorO10
namespace Go.Proofs.YtaenfbgamkieiaaDoor
open Go.Am
open Go.Lib (decDigits)
set_option linter.unusedSimpArgs false
set_option linter.unusedVariables false

theorem d1 : decDigits 1 = [49] := by rw [dec_small (by decide)]; decide
theorem d2 : decDigits 2 = [50] := by rw [dec_small (by decide)]; decide
theorem d5 : decDigits 5 = [53] := by rw [dec_small (by decide)]; decide
theorem d8 : decDigits 8 = [56] := by rw [dec_small (by decide)]; decide
theorem d9 : decDigits 9 = [57] := by rw [dec_small (by decide)]; decide
theorem d15 : decDigits 15 = [49, 53] := by rw [dec_big (by decide), show 15 / 10 = 1 by decide, d1]; decide
theorem d29 : decDigits 29 = [50, 57] := by rw [dec_big (by decide), show 29 / 10 = 2 by decide, d2]; decide
theorem d84 : decDigits 84 = [56, 52] := by rw [dec_big (by decide), show 84 / 10 = 8 by decide, d8]; decide
theorem d840 : decDigits 840 = [56, 52, 48] := by rw [dec_big (by decide), show 840 / 10 = 84 by decide, d84]; decide
theorem d99 : decDigits 99 = [57, 57] := by rw [dec_big (by decide), show 99 / 10 = 9 by decide, d9]; decide
theorem d999 : decDigits 999 = [57, 57, 57] := by rw [dec_big (by decide), show 999 / 10 = 99 by decide, d99]; decide
theorem d11 : decDigits 11 = [49, 49] := by rw [dec_big (by decide), show 11 / 10 = 1 by decide, d1]; decide
theorem d113 : decDigits 113 = [49, 49, 51] := by rw [dec_big (by decide), show 113 / 10 = 11 by decide, d11]; decide
theorem d1135 : decDigits 1135 = [49, 49, 51, 53] := by rw [dec_big (by decide), show 1135 / 10 = 113 by decide, d113]; decide
theorem d11354 : decDigits 11354 = [49, 49, 51, 53, 52] := by rw [dec_big (by decide), show 11354 / 10 = 1135 by decide, d1135]; decide
theorem d113549 : decDigits 113549 = [49, 49, 51, 53, 52, 57] := by rw [dec_big (by decide), show 113549 / 10 = 11354 by decide, d11354]; decide
def sA : List UInt8 := [49, 46, 50, 46, 56, 52, 48, 46, 49, 49, 51, 53, 52, 57]
def sB : List UInt8 := [50, 46, 57, 57, 57]
def sC : List UInt8 := [50, 46, 53, 46, 50, 57, 46, 49, 53]
theorem okA : okF sA = some [1, 2, 840, 113549] := by
  have h : textF [1, 2, 840, 113549] = sA := by
    simp only [textF, List.map_cons, List.map_nil, d1, d2, d840, d113549, joinD]
    rfl
  rw [← h]
  exact text_okF (by decide) (by decide)
theorem okB : okF sB = some [2, 999] := by
  have h : textF [2, 999] = sB := by
    simp only [textF, List.map_cons, List.map_nil, d2, d999, joinD]
    rfl
  rw [← h]
  exact text_okF (by decide) (by decide)
theorem txC : textF [2, 5, 29, 15] = sC := by
  simp only [textF, List.map_cons, List.map_nil, d2, d5, d29, d15, joinD]
  rfl
theorem okC : okF sC = some [2, 5, 29, 15] := by
  rw [← txC]
  exact text_okF (by decide) (by decide)
theorem enA : encL [1, 2, 840, 113549] = [42, 134, 72, 134, 247, 13] := by
  have e1 : b128 true 42 = [42] := by rw [b128_small (by decide)]; decide
  have e2 : b128 true 840 = [134, 72] := by rw [b128_big (by decide), show 840 / 128 = 6 by decide, b128_small (by decide)]; decide
  have e3 : b128 true 113549 = [134, 247, 13] := by rw [b128_big (by decide), show 113549 / 128 = 887 by decide, b128_big (by decide), show 887 / 128 = 6 by decide, b128_small (by decide)]; decide
  simp only [encL, List.map_cons, List.map_nil, e1, e2, e3]
  rfl
theorem enB : encL [2, 999] = [136, 55] := by
  have e1 : b128 true 1079 = [136, 55] := by rw [b128_big (by decide), show 1079 / 128 = 8 by decide, b128_small (by decide)]; decide
  simp only [encL, List.map_nil, e1]
  rfl
theorem a_encA : ACalls Tryd.prog envL 16 [sD sA] (fun r => r = .ownT none 5 (bys [42, 134, 72, 134, 247, 13]) [.int .i64 0]) := by
  have := c_oenc_ok sA _ (by decide) okA
  rwa [enA] at this
theorem a_encB : ACalls Tryd.prog envL 16 [sD sB] (fun r => r = .ownT none 5 (bys [136, 55]) [.int .i64 0]) := by
  have := c_oenc_ok sB _ (by decide) okB
  rwa [enB] at this
theorem a_decC : ACalls Tryd.prog envL 19 [.sl none (bys [85, 29, 15])] (fun r => r = .d (.tup [sD sC, .int .i64 0])) := by
  have := c_odec [85, 29, 15] (by decide)
  have h : decOD [85, 29, 15] = .tup [sD sC, .int .i64 0] := by
    have : dec7 false 0 [85, 29, 15] = some [85, 29, 15] := by decide
    simp only [decOD, decS, this]
    rw [show arcsOf 85 [29, 15] = [2, 5, 29, 15] by decide, txC]
  rwa [h] at this
theorem a_decD : ACalls Tryd.prog envL 19 [.sl none (bys [128, 1])] (fun r => r = .d (.tup [sD [], .int .i64 6])) := by
  have := c_odec [128, 1] (by decide)
  rwa [show decOD [128, 1] = .tup [sD [], .int .i64 6] from rfl] at this
theorem a_decE : ACalls Tryd.prog envL 19 [.sl none (bys [42, 134])] (fun r => r = .d (.tup [sD [], .int .i64 6])) := by
  have := c_odec [42, 134] (by decide)
  rwa [show decOD [42, 134] = .tup [sD [], .int .i64 6] from rfl] at this
theorem a_val : ACalls Tryd.prog envL 14 [sD sC] (fun r => r = .d (.bool true)) := by
  have := c_ovalid sC (by decide)
  rwa [oidV, okC] at this
theorem a_eq (Γ : Env) (x : List UInt8) : ACalls Tryd.prog Γ 18 [.sl none (bys x), .sl none (bys x)] (fun r => r = .d (.bool true)) :=
  (c_bytes Γ x x).mono fun r h => by rw [h]; simp
theorem isAwake : IsFn Tryd.prog 8 Tryd.f8 := ⟨Tryd.func8, by decide, rfl⟩
set_option maxHeartbeats 4000000 in
theorem c_awake : ACalls Tryd.prog envL 8 [] (fun r => r = .d (.bool true)) := by
  refine acalls_of ty_ok isAwake rfl rfl ?_
  repeat' (first | ((with_reducible show AWp _ _ _ _ _); (first | refine awp_seq ?_ | refine awp_block ?_ | refine awp_skip ?_ | refine awp_exit ?_ | refine awp_run ty_ok rfl (by first | (simp only [and_true, true_and]; done) | (simp only [and_true, true_and, bys_len, ints_len, byss_len, canon_strs, canon_u32s, canon_u64s, strs_len, u32s_len, u64s_len, bA_size, ba_size_mk, ByteArray.size_append, List.size_toArray, List.length_map, List.length_cons, List.length_nil, canon_bys, canon_ints, canon_byss, Int.toNat_natCast, List.length_append, List.length_cons, List.length_nil, List.length_replicate, List.length_take, List.length_drop, List.length_set, List.length_reverse, fits_sD, fits_str, fits_int, fits_bool, fits_sl, fits_agg]; omega)) ?_ | refine awp_ret ⟨_, _, rfl, rfl, ?_⟩ | refine awp_ret ⟨_, rfl, ?_⟩ | ((refine awp_cond (ty := ty) rfl (fun hc => ?_) (fun hc => ?_)) <;> (try simp only [decide_eq_true_eq, decide_eq_false_iff_not, Bool.not_eq_true', Bool.not_eq_false', Bool.not_eq_true, Bool.not_eq_false, Bool.not_true, Bool.not_false, beq_iff_eq, beq_eq_false_iff_ne, bne_iff_ne, bne_eq_false_iff_eq, ne_eq, Decidable.not_not, gt_iff_lt, ge_iff_le, Int.not_lt, Int.not_le, Bool.true_eq_false, Bool.false_eq_true, reduceCtorEq, bys_len, ints_len, byss_len, canon_strs, canon_u32s, canon_u64s, strs_len, u32s_len, u64s_len, bA_size, ba_size_mk, ByteArray.size_append, List.size_toArray, List.length_map, List.length_cons, List.length_nil, Bool.and_eq_true, Bool.or_eq_true, Bool.and_eq_false_iff, Bool.or_eq_false_iff, not_true_eq_false, not_false_eq_true, and_self, and_true, true_and, and_false, false_and] at hc) <;> (try (exfalso; omega))))) | ((with_reducible show AOps _ _ _ _ _ _); (first | refine aops_nil ?_ | refine aops_go ty_ok rfl rfl (by first | (simp only [and_true, true_and]; done) | (simp only [and_true, true_and, bys_len, ints_len, byss_len, canon_strs, canon_u32s, canon_u64s, strs_len, u32s_len, u64s_len, bA_size, ba_size_mk, ByteArray.size_append, List.size_toArray, List.length_map, List.length_cons, List.length_nil, canon_bys, canon_ints, canon_byss, Int.toNat_natCast, List.length_append, List.length_cons, List.length_nil, List.length_replicate, List.length_take, List.length_drop, List.length_set, List.length_reverse, fits_sD, fits_str, fits_int, fits_bool, fits_sl, fits_agg]; omega)) ?_ | refine aops_gate ty_ok rfl rfl rfl (by first | (simp only [and_true, true_and]; done) | (simp only [and_true, true_and, bys_len, ints_len, byss_len, canon_strs, canon_u32s, canon_u64s, strs_len, u32s_len, u64s_len, bA_size, ba_size_mk, ByteArray.size_append, List.size_toArray, List.length_map, List.length_cons, List.length_nil, canon_bys, canon_ints, canon_byss, Int.toNat_natCast, List.length_append, List.length_cons, List.length_nil, List.length_replicate, List.length_take, List.length_drop, List.length_set, List.length_reverse, fits_sD, fits_str, fits_int, fits_bool, fits_sl, fits_agg]; omega)) ?_ | refine aops_callE (ty := ty) rfl rfl rfl rfl rfl rfl rfl (a_encA) rfl ?_ | refine aops_callE (ty := ty) rfl rfl rfl rfl rfl rfl rfl (a_encB) rfl ?_ | refine aops_callE (ty := ty) rfl rfl rfl rfl rfl rfl rfl (a_decC) rfl ?_ | refine aops_callE (ty := ty) rfl rfl rfl rfl rfl rfl rfl (a_decD) rfl ?_ | refine aops_callE (ty := ty) rfl rfl rfl rfl rfl rfl rfl (a_decE) rfl ?_ | refine aops_callE (ty := ty) rfl rfl rfl rfl rfl rfl rfl (a_val) rfl ?_ | refine aops_callE (ty := ty) rfl rfl rfl rfl rfl rfl rfl (a_eq _ [42, 134, 72, 134, 247, 13]) rfl ?_ | refine aops_callE (ty := ty) rfl rfl rfl rfl rfl rfl rfl (a_eq _ [136, 55]) rfl ?_ | refine aops_cutE ty_ok rfl rfl rfl rfl rfl rfl rfl rfl rfl (by first | (simp only [and_true, true_and]; done) | (simp only [and_true, true_and, bys_len, ints_len, byss_len, canon_strs, canon_u32s, canon_u64s, strs_len, u32s_len, u64s_len, bA_size, ba_size_mk, ByteArray.size_append, List.size_toArray, List.length_map, List.length_cons, List.length_nil, canon_bys, canon_ints, canon_byss, Int.toNat_natCast, List.length_append, List.length_cons, List.length_nil, List.length_replicate, List.length_take, List.length_drop, List.length_set, List.length_reverse, fits_sD, fits_str, fits_int, fits_bool, fits_sl, fits_agg]; omega)) rfl ?_ | ((fail_if_success (refine aops_known rfl ?_)); (refine aops_split ty_ok rfl rfl rfl rfl rfl rfl (fun hc => ⟨?_, ?_⟩) (fun hc => ⟨?_, ?_⟩)) <;> (try simp only [decide_eq_true_eq, decide_eq_false_iff_not, Bool.not_eq_true', Bool.not_eq_false', Bool.not_eq_true, Bool.not_eq_false, Bool.not_true, Bool.not_false, beq_iff_eq, beq_eq_false_iff_ne, bne_iff_ne, bne_eq_false_iff_eq, ne_eq, Decidable.not_not, gt_iff_lt, ge_iff_le, Int.not_lt, Int.not_le, Bool.true_eq_false, Bool.false_eq_true, reduceCtorEq, bys_len, ints_len, byss_len, canon_strs, canon_u32s, canon_u64s, strs_len, u32s_len, u64s_len, bA_size, ba_size_mk, ByteArray.size_append, List.size_toArray, List.length_map, List.length_cons, List.length_nil, Bool.and_eq_true, Bool.or_eq_true, Bool.and_eq_false_iff, Bool.or_eq_false_iff, not_true_eq_false, not_false_eq_true, and_self, and_true, true_and, and_false, false_and] at hc) <;> (try (exfalso; omega)) <;> (try exact (by first | (simp only [and_true, true_and]; done) | (simp only [and_true, true_and, bys_len, ints_len, byss_len, canon_strs, canon_u32s, canon_u64s, strs_len, u32s_len, u64s_len, bA_size, ba_size_mk, ByteArray.size_append, List.size_toArray, List.length_map, List.length_cons, List.length_nil, canon_bys, canon_ints, canon_byss, Int.toNat_natCast, List.length_append, List.length_cons, List.length_nil, List.length_replicate, List.length_take, List.length_drop, List.length_set, List.length_reverse, fits_sD, fits_str, fits_int, fits_bool, fits_sl, fits_agg]; omega)))))) | ((with_reducible show HeadT _ _ _ _ _ _ _ _ _ _); (first | refine head_end ?_ | refine head_goP ty_ok rfl rfl (by first | (simp only [and_true, true_and]; done) | (simp only [and_true, true_and, bys_len, ints_len, byss_len, canon_strs, canon_u32s, canon_u64s, strs_len, u32s_len, u64s_len, bA_size, ba_size_mk, ByteArray.size_append, List.size_toArray, List.length_map, List.length_cons, List.length_nil, canon_bys, canon_ints, canon_byss, Int.toNat_natCast, List.length_append, List.length_cons, List.length_nil, List.length_replicate, List.length_take, List.length_drop, List.length_set, List.length_reverse, fits_sD, fits_str, fits_int, fits_bool, fits_sl, fits_agg]; omega)) ?_ | refine head_gate ty_ok rfl rfl rfl (by first | (simp only [and_true, true_and]; done) | (simp only [and_true, true_and, bys_len, ints_len, byss_len, canon_strs, canon_u32s, canon_u64s, strs_len, u32s_len, u64s_len, bA_size, ba_size_mk, ByteArray.size_append, List.size_toArray, List.length_map, List.length_cons, List.length_nil, canon_bys, canon_ints, canon_byss, Int.toNat_natCast, List.length_append, List.length_cons, List.length_nil, List.length_replicate, List.length_take, List.length_drop, List.length_set, List.length_reverse, fits_sD, fits_str, fits_int, fits_bool, fits_sl, fits_agg]; omega)) ?_ | refine head_callE (ty := ty) rfl rfl rfl rfl rfl rfl rfl (a_encA) rfl ?_ | refine head_callE (ty := ty) rfl rfl rfl rfl rfl rfl rfl (a_encB) rfl ?_ | refine head_callE (ty := ty) rfl rfl rfl rfl rfl rfl rfl (a_decC) rfl ?_ | refine head_callE (ty := ty) rfl rfl rfl rfl rfl rfl rfl (a_decD) rfl ?_ | refine head_callE (ty := ty) rfl rfl rfl rfl rfl rfl rfl (a_decE) rfl ?_ | refine head_callE (ty := ty) rfl rfl rfl rfl rfl rfl rfl (a_val) rfl ?_ | refine head_callE (ty := ty) rfl rfl rfl rfl rfl rfl rfl (a_eq _ [42, 134, 72, 134, 247, 13]) rfl ?_ | refine head_callE (ty := ty) rfl rfl rfl rfl rfl rfl rfl (a_eq _ [136, 55]) rfl ?_ | ((fail_if_success (refine head_known rfl ?_)); (refine head_split ty_ok rfl rfl rfl rfl (fun hc => ⟨?_, ?_⟩) (fun hc => ⟨?_, ?_⟩)) <;> (try simp only [decide_eq_true_eq, decide_eq_false_iff_not, Bool.not_eq_true', Bool.not_eq_false', Bool.not_eq_true, Bool.not_eq_false, Bool.not_true, Bool.not_false, beq_iff_eq, beq_eq_false_iff_ne, bne_iff_ne, bne_eq_false_iff_eq, ne_eq, Decidable.not_not, gt_iff_lt, ge_iff_le, Int.not_lt, Int.not_le, Bool.true_eq_false, Bool.false_eq_true, reduceCtorEq, bys_len, ints_len, byss_len, canon_strs, canon_u32s, canon_u64s, strs_len, u32s_len, u64s_len, bA_size, ba_size_mk, ByteArray.size_append, List.size_toArray, List.length_map, List.length_cons, List.length_nil, Bool.and_eq_true, Bool.or_eq_true, Bool.and_eq_false_iff, Bool.or_eq_false_iff, not_true_eq_false, not_false_eq_true, and_self, and_true, true_and, and_false, false_and] at hc) <;> (try (exfalso; omega)) <;> (try exact (by first | (simp only [and_true, true_and]; done) | (simp only [and_true, true_and, bys_len, ints_len, byss_len, canon_strs, canon_u32s, canon_u64s, strs_len, u32s_len, u64s_len, bA_size, ba_size_mk, ByteArray.size_append, List.size_toArray, List.length_map, List.length_cons, List.length_nil, canon_bys, canon_ints, canon_byss, Int.toNat_natCast, List.length_append, List.length_cons, List.length_nil, List.length_replicate, List.length_take, List.length_drop, List.length_set, List.length_reverse, fits_sD, fits_str, fits_int, fits_bool, fits_sl, fits_agg]; omega)))))) | ((fail_if_success (with_reducible show AWp _ _ _ _ _)); (fail_if_success (with_reducible show AOps _ _ _ _ _ _)); (fail_if_success (with_reducible show HeadT _ _ _ _ _ _ _ _ _ _)); (first | (show AWp _ _ _ _ _) | (show AOps _ _ _ _ _ _))))
  all_goals rfl
end Go.Proofs.YtaenfbgamkieiaaDoor
