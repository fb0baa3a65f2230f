/- FormatUint at base 10, walked in the kit's own way; after the shelf's FormatInt. -/
import Derived.Test.YtaenfbgamkieiaaDoorL1
import Derived.BigCall
import Derived.BigGuard
import Derived.BigFrame
import Derived.Lib.AppendIntMem
namespace Go.Proofs.YtaenfbgamkieiaaDoor
open Go.Am Go.RowKit Go.Sort
set_option linter.unusedSimpArgs false
set_option linter.unusedVariables false

set_option maxHeartbeats 1600000 in
set_option maxRecDepth 100000 in
theorem fmt_small (i : Nat) (hi : i < 100) (w : World) : Calls Tryd.prog 41 #[.int .u64 i, .int .i64 10] w fun e w' => e = .returned (.string ⟨(Lib.decDigits i).toArray⟩) ∧ w' = w := by
  have hi2 : (i : Int) < 100 := by omega
  go_enter Tryd.func41, Tryd.ntmps41
  go_wp2_with (go_at_call 55; refine (Tryd.internal_strconv_small i hi _).mono ?_; rintro e w' ⟨rfl, rfl⟩)
  go_ret
  exact ⟨rfl, rfl⟩

set_option maxHeartbeats 6400000 in
set_option maxRecDepth 100000 in
theorem fmt_big (u : Nat) (hu : 100 ≤ u) (hu64 : u < 18446744073709551616) (w : World) (htab : Lib.TabIs Tryd.prog w "internal/strconv.uint64pow10" .u64 Lib.pow10Tab) :
    Calls Tryd.prog 41 #[.int .u64 u, .int .i64 10] w fun e w' => e = .returned (.string ⟨(Lib.decDigits u).toArray⟩) ∧ ∃ k os, w' = grow (w.drewN k) os := by
  have hu1 : 1 ≤ u := by omega
  have hnd20 : Lib.nDigits u ≤ 20 := by have := Lib.numDigits_eq u hu1 hu64; split at this <;> omega
  have hal : Tryd.prog.arrayLen 79 = 24 := by simp [Program.arrayLen, Tryd.underlying79]
  have hsl1 : ∀ W, (Instr.sliceAt 79 (.pointer (some ⟨w.heap.size, 0, none⟩)) none (some (.int .i64 (Lib.nDigits u : Int))) none).run Tryd.prog W = .ok (.slice (some ⟨w.heap.size, 0, none⟩) (Lib.nDigits u) 24) W := fun W => by
    rw [run_sliceAt_array_h W 79 ⟨w.heap.size, 0, none⟩ (by simp [Program.arrayLen, Program.elem, Tryd.underlying79]) .i64 (Lib.nDigits u : Int) (by omega) (by rw [hal]; omega)]
    go_simp
  have hH0 : Holds (fun (b : UInt8) => Value.int .u8 (b.toNat : Int)) (w.alloc (.cells Lib.zeros24 79)) w.heap.size 0 (Array.replicate (Lib.nDigits u) 0) := fun j hj => by
    have hj' : j < Lib.nDigits u := by simpa using hj
    refine ⟨?_, World.frozen?_alloc_new _ _ _ _⟩
    rw [World.cell?_alloc_new, Lib.zeros24_at _ (by omega), getElem!_pos _ j hj]
    simp
  have hfmt := Tryd.internal_strconv_formatBase10 w.heap.size 0 24 u (Array.replicate (Lib.nDigits u) 0) (w.alloc (.cells Lib.zeros24 79)) hH0 (by rw [Array.size_replicate]; exact Lib.lt_pow_nDigits u) hu64 (by rw [Array.size_replicate]; omega)
  rw [Array.size_replicate] at hfmt
  have HH0 := Lib.hid hH0
  clear hH0 hal
  have hb3 : ¬ (u : Int) < 100 := by omega
  go_enter Tryd.func41, Tryd.ntmps41
  go_wp2_with (first
    | (go_at_call 56; refine (Tryd.internal_strconv_numDigits u hu1 hu64 _ (Lib.tabIs_alloc htab _)).mono ?_; rintro e w' ⟨rfl, rfl⟩))
  go_at_call 57
  refine hfmt.mono ?_
  rintro e w' ⟨rfl, k, v', dk, rfl, hF⟩
  have hcv : (convert 32 9 (.slice (some ⟨w.heap.size, 0, none⟩) (Lib.nDigits u) 24)).run Tryd.prog ((putRow (fun (b : UInt8) => Value.int .u8 (b.toNat : Int)) (w.alloc (.cells Lib.zeros24 79)) w.heap.size 0 dk).drewN k) = .ok (.string ⟨(Lib.decDigits u).toArray⟩) ((putRow (fun (b : UInt8) => Value.int .u8 (b.toNat : Int)) (w.alloc (.cells Lib.zeros24 79)) w.heap.size 0 dk).drewN k) := by
    have h := run_convert_bytes_back (P := Tryd.prog) ((putRow (fun (b : UInt8) => Value.int .u8 (b.toNat : Int)) (w.alloc (.cells Lib.zeros24 79)) w.heap.size 0 dk).drewN k) 32 9 5 ⟨w.heap.size, 0, none⟩ 24 (Lib.decDigits u) Tryd.underlying32 Tryd.underlying5 Tryd.underlying9 (fun j hj => by
      rw [Lib.row_is_numeral hF j hj, Lib.add_plain, World.cell?_drewN]
      exact cell?_putRow (fun (b : UInt8) => Value.int .u8 (b.toNat : Int)) _ w.heap.size 0 _ dk HH0.out (by rw [hF.size, Array.size_replicate]) j (by rw [hF.size]; rw [Lib.decDigits_length] at hj; exact hj))
    rw [Lib.decDigits_length] at h
    exact h
  go_wp2
  go_ret
  refine ⟨rfl, k, ?_⟩
  rw [alloc_eq_grow]
  obtain ⟨os', _, e⟩ := putRow_grow_new (fun (b : UInt8) => Value.int .u8 (b.toNat : Int)) w #[.cells Lib.zeros24 79] w.heap.size 0 dk (Nat.le_refl _)
  exact ⟨os', by rw [e]; rfl⟩
theorem isFormatUintI : IsFn Tryd.prog 41 Tryd.f41 := ⟨Tryd.func41, by decide, rfl⟩
theorem c_formatI (u : Nat) (hu : u < 18446744073709551616) : ACalls Tryd.prog envL 41 [.int .u64 u, .int .i64 10] (fun r => r = .d (sD (Lib.decDigits u))) := by
  refine ⟨⟨_, isFormatUintI⟩, fun w pr vs hok hs hr => ?_⟩
  obtain ⟨a, b, rfl, h1, h2⟩ := two_args hs hr
  cases h1; cases h2
  by_cases h : u < 100
  · refine (fmt_small u h w).mono fun e w' ⟨he, hw⟩ => ?_
    subst hw
    exact ⟨_, .d (sD (Lib.decDigits u)), he, Below.refl _ _, .str _, rfl⟩
  · have hok' : LaidOk w := hok
    refine (fmt_big u (by omega) hu w hok'.2.1).mono fun e w' ⟨he, k, os, hw⟩ => ?_
    subst hw
    exact ⟨_, .d (sD (Lib.decDigits u)), he, Lib.below_grow _ _ (Nat.le_refl _) _ _, .str _, rfl⟩
theorem isFormatUint : IsFn Tryd.prog 27 Tryd.f27 := ⟨Tryd.func27, by decide, rfl⟩
theorem c_format (u : Nat) (hu : u < 18446744073709551616) : ACalls Tryd.prog envL 27 [.int .u64 u, .int .i64 10] (fun r => r = .d (sD (Lib.decDigits u))) := by
  refine acalls_of ty_ok isFormatUint rfl rfl ?_
  repeat' (first | ((with_reducible show AWp _ _ _ _ _); (first | refine awp_seq ?_ | refine awp_block ?_ | refine awp_skip ?_ | refine awp_exit ?_ | refine awp_run ty_ok rfl (by first | (simp only [and_true, true_and]; done) | (simp only [and_true, true_and, bys_len, ints_len, byss_len, canon_strs, canon_u32s, canon_u64s, strs_len, u32s_len, u64s_len, bA_size, ba_size_mk, ByteArray.size_append, List.size_toArray, List.length_map, List.length_cons, List.length_nil, canon_bys, canon_ints, canon_byss, Int.toNat_natCast, List.length_append, List.length_cons, List.length_nil, List.length_replicate, List.length_take, List.length_drop, List.length_set, List.length_reverse, fits_sD, fits_str, fits_int, fits_bool, fits_sl, fits_agg]; omega)) ?_ | refine awp_ret ⟨_, _, rfl, rfl, ?_⟩ | refine awp_ret ⟨_, rfl, ?_⟩ | ((refine awp_cond (ty := ty) rfl (fun hc => ?_) (fun hc => ?_)) <;> (try simp only [decide_eq_true_eq, decide_eq_false_iff_not, Bool.not_eq_true', Bool.not_eq_false', Bool.not_eq_true, Bool.not_eq_false, Bool.not_true, Bool.not_false, beq_iff_eq, beq_eq_false_iff_ne, bne_iff_ne, bne_eq_false_iff_eq, ne_eq, Decidable.not_not, gt_iff_lt, ge_iff_le, Int.not_lt, Int.not_le, Bool.true_eq_false, Bool.false_eq_true, reduceCtorEq, bys_len, ints_len, byss_len, canon_strs, canon_u32s, canon_u64s, strs_len, u32s_len, u64s_len, bA_size, ba_size_mk, ByteArray.size_append, List.size_toArray, List.length_map, List.length_cons, List.length_nil, Bool.and_eq_true, Bool.or_eq_true, Bool.and_eq_false_iff, Bool.or_eq_false_iff, not_true_eq_false, not_false_eq_true, and_self, and_true, true_and, and_false, false_and] at hc) <;> (try (exfalso; omega))))) | ((with_reducible show AOps _ _ _ _ _ _); (first | refine aops_nil ?_ | refine aops_go ty_ok rfl rfl (by first | (simp only [and_true, true_and]; done) | (simp only [and_true, true_and, bys_len, ints_len, byss_len, canon_strs, canon_u32s, canon_u64s, strs_len, u32s_len, u64s_len, bA_size, ba_size_mk, ByteArray.size_append, List.size_toArray, List.length_map, List.length_cons, List.length_nil, canon_bys, canon_ints, canon_byss, Int.toNat_natCast, List.length_append, List.length_cons, List.length_nil, List.length_replicate, List.length_take, List.length_drop, List.length_set, List.length_reverse, fits_sD, fits_str, fits_int, fits_bool, fits_sl, fits_agg]; omega)) ?_ | refine aops_gate ty_ok rfl rfl rfl (by first | (simp only [and_true, true_and]; done) | (simp only [and_true, true_and, bys_len, ints_len, byss_len, canon_strs, canon_u32s, canon_u64s, strs_len, u32s_len, u64s_len, bA_size, ba_size_mk, ByteArray.size_append, List.size_toArray, List.length_map, List.length_cons, List.length_nil, canon_bys, canon_ints, canon_byss, Int.toNat_natCast, List.length_append, List.length_cons, List.length_nil, List.length_replicate, List.length_take, List.length_drop, List.length_set, List.length_reverse, fits_sD, fits_str, fits_int, fits_bool, fits_sl, fits_agg]; omega)) ?_ | refine aops_callE (ty := ty) rfl rfl rfl rfl rfl rfl rfl (c_formatI u hu) rfl ?_ | refine aops_cutE ty_ok rfl rfl rfl rfl rfl rfl rfl rfl rfl (by first | (simp only [and_true, true_and]; done) | (simp only [and_true, true_and, bys_len, ints_len, byss_len, canon_strs, canon_u32s, canon_u64s, strs_len, u32s_len, u64s_len, bA_size, ba_size_mk, ByteArray.size_append, List.size_toArray, List.length_map, List.length_cons, List.length_nil, canon_bys, canon_ints, canon_byss, Int.toNat_natCast, List.length_append, List.length_cons, List.length_nil, List.length_replicate, List.length_take, List.length_drop, List.length_set, List.length_reverse, fits_sD, fits_str, fits_int, fits_bool, fits_sl, fits_agg]; omega)) rfl ?_ | ((fail_if_success (refine aops_known rfl ?_)); (refine aops_split ty_ok rfl rfl rfl rfl rfl rfl (fun hc => ⟨?_, ?_⟩) (fun hc => ⟨?_, ?_⟩)) <;> (try simp only [decide_eq_true_eq, decide_eq_false_iff_not, Bool.not_eq_true', Bool.not_eq_false', Bool.not_eq_true, Bool.not_eq_false, Bool.not_true, Bool.not_false, beq_iff_eq, beq_eq_false_iff_ne, bne_iff_ne, bne_eq_false_iff_eq, ne_eq, Decidable.not_not, gt_iff_lt, ge_iff_le, Int.not_lt, Int.not_le, Bool.true_eq_false, Bool.false_eq_true, reduceCtorEq, bys_len, ints_len, byss_len, canon_strs, canon_u32s, canon_u64s, strs_len, u32s_len, u64s_len, bA_size, ba_size_mk, ByteArray.size_append, List.size_toArray, List.length_map, List.length_cons, List.length_nil, Bool.and_eq_true, Bool.or_eq_true, Bool.and_eq_false_iff, Bool.or_eq_false_iff, not_true_eq_false, not_false_eq_true, and_self, and_true, true_and, and_false, false_and] at hc) <;> (try (exfalso; omega)) <;> (try exact (by first | (simp only [and_true, true_and]; done) | (simp only [and_true, true_and, bys_len, ints_len, byss_len, canon_strs, canon_u32s, canon_u64s, strs_len, u32s_len, u64s_len, bA_size, ba_size_mk, ByteArray.size_append, List.size_toArray, List.length_map, List.length_cons, List.length_nil, canon_bys, canon_ints, canon_byss, Int.toNat_natCast, List.length_append, List.length_cons, List.length_nil, List.length_replicate, List.length_take, List.length_drop, List.length_set, List.length_reverse, fits_sD, fits_str, fits_int, fits_bool, fits_sl, fits_agg]; omega)))))) | ((with_reducible show HeadT _ _ _ _ _ _ _ _ _ _); (first | refine head_end ?_ | refine head_goP ty_ok rfl rfl (by first | (simp only [and_true, true_and]; done) | (simp only [and_true, true_and, bys_len, ints_len, byss_len, canon_strs, canon_u32s, canon_u64s, strs_len, u32s_len, u64s_len, bA_size, ba_size_mk, ByteArray.size_append, List.size_toArray, List.length_map, List.length_cons, List.length_nil, canon_bys, canon_ints, canon_byss, Int.toNat_natCast, List.length_append, List.length_cons, List.length_nil, List.length_replicate, List.length_take, List.length_drop, List.length_set, List.length_reverse, fits_sD, fits_str, fits_int, fits_bool, fits_sl, fits_agg]; omega)) ?_ | refine head_gate ty_ok rfl rfl rfl (by first | (simp only [and_true, true_and]; done) | (simp only [and_true, true_and, bys_len, ints_len, byss_len, canon_strs, canon_u32s, canon_u64s, strs_len, u32s_len, u64s_len, bA_size, ba_size_mk, ByteArray.size_append, List.size_toArray, List.length_map, List.length_cons, List.length_nil, canon_bys, canon_ints, canon_byss, Int.toNat_natCast, List.length_append, List.length_cons, List.length_nil, List.length_replicate, List.length_take, List.length_drop, List.length_set, List.length_reverse, fits_sD, fits_str, fits_int, fits_bool, fits_sl, fits_agg]; omega)) ?_ | refine head_callE (ty := ty) rfl rfl rfl rfl rfl rfl rfl (c_formatI u hu) rfl ?_ | ((fail_if_success (refine head_known rfl ?_)); (refine head_split ty_ok rfl rfl rfl rfl (fun hc => ⟨?_, ?_⟩) (fun hc => ⟨?_, ?_⟩)) <;> (try simp only [decide_eq_true_eq, decide_eq_false_iff_not, Bool.not_eq_true', Bool.not_eq_false', Bool.not_eq_true, Bool.not_eq_false, Bool.not_true, Bool.not_false, beq_iff_eq, beq_eq_false_iff_ne, bne_iff_ne, bne_eq_false_iff_eq, ne_eq, Decidable.not_not, gt_iff_lt, ge_iff_le, Int.not_lt, Int.not_le, Bool.true_eq_false, Bool.false_eq_true, reduceCtorEq, bys_len, ints_len, byss_len, canon_strs, canon_u32s, canon_u64s, strs_len, u32s_len, u64s_len, bA_size, ba_size_mk, ByteArray.size_append, List.size_toArray, List.length_map, List.length_cons, List.length_nil, Bool.and_eq_true, Bool.or_eq_true, Bool.and_eq_false_iff, Bool.or_eq_false_iff, not_true_eq_false, not_false_eq_true, and_self, and_true, true_and, and_false, false_and] at hc) <;> (try (exfalso; omega)) <;> (try exact (by first | (simp only [and_true, true_and]; done) | (simp only [and_true, true_and, bys_len, ints_len, byss_len, canon_strs, canon_u32s, canon_u64s, strs_len, u32s_len, u64s_len, bA_size, ba_size_mk, ByteArray.size_append, List.size_toArray, List.length_map, List.length_cons, List.length_nil, canon_bys, canon_ints, canon_byss, Int.toNat_natCast, List.length_append, List.length_cons, List.length_nil, List.length_replicate, List.length_take, List.length_drop, List.length_set, List.length_reverse, fits_sD, fits_str, fits_int, fits_bool, fits_sl, fits_agg]; omega)))))) | ((fail_if_success (with_reducible show AWp _ _ _ _ _)); (fail_if_success (with_reducible show AOps _ _ _ _ _ _)); (fail_if_success (with_reducible show HeadT _ _ _ _ _ _ _ _ _ _)); (first | (show AWp _ _ _ _ _) | (show AOps _ _ _ _ _ _))))
  rfl
end Go.Proofs.YtaenfbgamkieiaaDoor
