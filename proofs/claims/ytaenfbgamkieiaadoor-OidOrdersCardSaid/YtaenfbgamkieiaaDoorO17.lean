/- The law OidOrders, walked by the abstract machine. -/
import Derived.Test.YtaenfbgamkieiaaDoorO12
import Derived.Test.YtaenfbgamkieiaaDoorO16
namespace Go.Proofs.YtaenfbgamkieiaaDoor
open Go.Am
set_option linter.unusedSimpArgs false
set_option linter.unusedVariables false

theorem cmpF_neg (l m : List UInt8) : cmpF m l = - cmpF l m := by
  unfold cmpF
  cases okF l with
  | none => cases okF m <;> rfl
  | some a => cases okF m with
    | none => rfl
    | some b => exact cmpL_neg a b
theorem cmpL_range : ∀ (x y : List Nat), -1 ≤ cmpL x y ∧ cmpL x y ≤ 1
  | [], [] => by simp [cmpL]
  | [], _ :: _ => by simp [cmpL]
  | _ :: _, [] => by simp [cmpL]
  | x :: xs, y :: ys => by
    rcases Nat.lt_trichotomy x y with h | rfl | h
    · rw [cmpL_lt _ _ h]; decide
    · rw [cmpL_eq]; exact cmpL_range xs ys
    · rw [cmpL_gt _ _ h]; decide
theorem cmpF_range (l m : List UInt8) : -1 ≤ cmpF l m ∧ cmpF l m ≤ 1 := by
  unfold cmpF
  cases okF l <;> cases okF m <;> simp [cmpL_range]
theorem neg_i64 (l m : List UInt8) : IntKind.i64.wrap (0 - cmpF l m) = cmpF m l := by
  have := cmpF_range l m
  rw [cmpF_neg l m, IntKind.wrap_i64]
  omega
theorem undF_le {l m : List UInt8} (h : undF l m = true) : 0 ≤ cmpF l m := by
  unfold undF at h
  unfold cmpF
  cases h1 : okF l with
  | none => exact Int.le_refl 0
  | some a => cases h2 : okF m with
    | none => exact Int.le_refl 0
    | some b =>
      rw [h1, h2] at h
      simp only [Bool.and_eq_true, decide_eq_true_eq] at h
      exact cmpL_pre a b h.2
theorem cmpF_zero {l m : List UInt8} (hl : oidV l = true) (hm : oidV m = true) : (cmpF l m == 0) = decide (bA l = bA m) := by
  unfold oidV at hl hm
  cases h1 : okF l with
  | none => rw [h1] at hl; cases hl
  | some a => cases h2 : okF m with
    | none => rw [h2] at hm; cases hm
    | some b =>
      have e1 := (okF_text h1).1
      have e2 := (okF_text h2).1
      have e3 : cmpF l m = cmpL a b := by unfold cmpF; rw [h1, h2]
      have e4 : l = m ↔ a = b := ⟨fun e => by rw [e, h2] at h1; exact (Option.some.inj h1).symm, fun e => by rw [← e1, ← e2, e]⟩
      rw [Bool.eq_iff_iff, e3, beq_iff_eq, decide_eq_true_eq, bA_inj, e4]
      exact cmpL_zero a b
theorem cmpF_trans {l m n : List UInt8} (hl : oidV l = true) (hm : oidV m = true) (hn : oidV n = true) (g1 : cmpF l m ≤ 0) (g2 : cmpF m n ≤ 0) : cmpF l n ≤ 0 := by
  unfold oidV at hl hm hn
  unfold cmpF at *
  cases h1 : okF l with
  | none => rw [h1] at hl; cases hl
  | some a => cases h2 : okF m with
    | none => rw [h2] at hm; cases hm
    | some b => cases h3 : okF n with
      | none => rw [h3] at hn; cases hn
      | some c =>
        rw [h1, h2] at g1
        rw [h2, h3] at g2
        exact cmpL_trans a b c g1 g2
theorem isLOrders : IsFn Tryd.prog 7 Tryd.f7 := ⟨Tryd.func7, by decide, rfl⟩
set_option maxHeartbeats 4000000 in
theorem l_orders (a b c : List UInt8) : ACalls Tryd.prog envL 7 [sD a, sD b, sD c] (fun r => r = .d (.bool true)) := by
  refine acalls_of ty_ok isLOrders rfl rfl ?_
  have hC : ∀ l m : List UInt8, l.length ≤ 300 → m.length ≤ 300 → ACalls Tryd.prog envL 21 [sD l, sD m] (fun r => r = .d (.int .i64 (cmpF l m))) := fun l m h h' => c_ocompare l m (by omega) (by omega)
  have hR : ∀ l m : List UInt8, l.length ≤ 300 → m.length ≤ 300 → ACalls Tryd.prog envL 22 [sD l, sD m] (fun r => r = .d (.int .i64 (cmpF l m))) := fun l m h h' => c_rcompare envL l m (by omega) (by omega)
  have hU : ∀ l m : List UInt8, l.length ≤ 300 → m.length ≤ 300 → ACalls Tryd.prog envL 23 [sD l, sD m] (fun r => r = .d (.bool (undF l m))) := fun l m h h' => c_ounder l m (by omega) (by omega)
  have hW : ∀ l m : List UInt8, l.length ≤ 300 → m.length ≤ 300 → ACalls Tryd.prog envL 24 [sD l, sD m] (fun r => r = .d (.bool (undF l m))) := fun l m h h' => c_runder envL l m (by omega) (by omega)
  have hV : ∀ l : List UInt8, l.length ≤ 300 → ACalls Tryd.prog envL 15 [sD l] (fun r => r = .d (.bool (oidV l))) := fun l h => c_rovalid envL l (by omega)
  repeat' (first | ((with_reducible show AWp _ _ _ _ _); (first | refine awp_seq ?_ | refine awp_block ?_ | refine awp_skip ?_ | refine awp_exit ?_ | refine awp_run ty_ok rfl (by first | (simp only [and_true, true_and]; done) | (simp only [and_true, true_and, bys_len, ints_len, byss_len, canon_strs, canon_u32s, canon_u64s, strs_len, u32s_len, u64s_len, bA_size, ba_size_mk, ByteArray.size_append, List.size_toArray, List.length_map, List.length_cons, List.length_nil, canon_bys, canon_ints, canon_byss, Int.toNat_natCast, List.length_append, List.length_cons, List.length_nil, List.length_replicate, List.length_take, List.length_drop, List.length_set, List.length_reverse, fits_sD, fits_str, fits_int, fits_bool, fits_sl, fits_agg]; omega)) ?_ | refine awp_ret ⟨_, _, rfl, rfl, ?_⟩ | refine awp_ret ⟨_, rfl, ?_⟩ | ((refine awp_cond (ty := ty) rfl (fun hc => ?_) (fun hc => ?_)) <;> (try simp only [decide_eq_true_eq, decide_eq_false_iff_not, Bool.not_eq_true', Bool.not_eq_false', Bool.not_eq_true, Bool.not_eq_false, Bool.not_true, Bool.not_false, beq_iff_eq, beq_eq_false_iff_ne, bne_iff_ne, bne_eq_false_iff_eq, ne_eq, Decidable.not_not, gt_iff_lt, ge_iff_le, Int.not_lt, Int.not_le, Bool.true_eq_false, Bool.false_eq_true, reduceCtorEq, bys_len, ints_len, byss_len, canon_strs, canon_u32s, canon_u64s, strs_len, u32s_len, u64s_len, bA_size, ba_size_mk, ByteArray.size_append, List.size_toArray, List.length_map, List.length_cons, List.length_nil, Bool.and_eq_true, Bool.or_eq_true, Bool.and_eq_false_iff, Bool.or_eq_false_iff, not_true_eq_false, not_false_eq_true, and_self, and_true, true_and, and_false, false_and] at hc) <;> (try (exfalso; omega))))) | ((with_reducible show AOps _ _ _ _ _ _); (first | refine aops_nil ?_ | refine aops_go ty_ok rfl rfl (by first | (simp only [and_true, true_and]; done) | (simp only [and_true, true_and, bys_len, ints_len, byss_len, canon_strs, canon_u32s, canon_u64s, strs_len, u32s_len, u64s_len, bA_size, ba_size_mk, ByteArray.size_append, List.size_toArray, List.length_map, List.length_cons, List.length_nil, canon_bys, canon_ints, canon_byss, Int.toNat_natCast, List.length_append, List.length_cons, List.length_nil, List.length_replicate, List.length_take, List.length_drop, List.length_set, List.length_reverse, fits_sD, fits_str, fits_int, fits_bool, fits_sl, fits_agg]; omega)) ?_ | refine aops_gate ty_ok rfl rfl rfl (by first | (simp only [and_true, true_and]; done) | (simp only [and_true, true_and, bys_len, ints_len, byss_len, canon_strs, canon_u32s, canon_u64s, strs_len, u32s_len, u64s_len, bA_size, ba_size_mk, ByteArray.size_append, List.size_toArray, List.length_map, List.length_cons, List.length_nil, canon_bys, canon_ints, canon_byss, Int.toNat_natCast, List.length_append, List.length_cons, List.length_nil, List.length_replicate, List.length_take, List.length_drop, List.length_set, List.length_reverse, fits_sD, fits_str, fits_int, fits_bool, fits_sl, fits_agg]; omega)) ?_ | refine aops_callE (ty := ty) rfl rfl rfl rfl rfl rfl rfl (c_awake) rfl ?_ | refine aops_callE (ty := ty) rfl rfl rfl rfl rfl rfl rfl (hC a b (by omega) (by omega)) rfl ?_ | refine aops_callE (ty := ty) rfl rfl rfl rfl rfl rfl rfl (hC b c (by omega) (by omega)) rfl ?_ | refine aops_callE (ty := ty) rfl rfl rfl rfl rfl rfl rfl (hC a c (by omega) (by omega)) rfl ?_ | refine aops_callE (ty := ty) rfl rfl rfl rfl rfl rfl rfl (hC b a (by omega) (by omega)) rfl ?_ | refine aops_callE (ty := ty) rfl rfl rfl rfl rfl rfl rfl (hR a b (by omega) (by omega)) rfl ?_ | refine aops_callE (ty := ty) rfl rfl rfl rfl rfl rfl rfl (hU a b (by omega) (by omega)) rfl ?_ | refine aops_callE (ty := ty) rfl rfl rfl rfl rfl rfl rfl (hW a b (by omega) (by omega)) rfl ?_ | refine aops_callE (ty := ty) rfl rfl rfl rfl rfl rfl rfl (hV a (by omega)) rfl ?_ | refine aops_callE (ty := ty) rfl rfl rfl rfl rfl rfl rfl (hV b (by omega)) rfl ?_ | refine aops_callE (ty := ty) rfl rfl rfl rfl rfl rfl rfl (hV c (by omega)) rfl ?_ | refine aops_cutE ty_ok rfl rfl rfl rfl rfl rfl rfl rfl rfl (by first | (simp only [and_true, true_and]; done) | (simp only [and_true, true_and, bys_len, ints_len, byss_len, canon_strs, canon_u32s, canon_u64s, strs_len, u32s_len, u64s_len, bA_size, ba_size_mk, ByteArray.size_append, List.size_toArray, List.length_map, List.length_cons, List.length_nil, canon_bys, canon_ints, canon_byss, Int.toNat_natCast, List.length_append, List.length_cons, List.length_nil, List.length_replicate, List.length_take, List.length_drop, List.length_set, List.length_reverse, fits_sD, fits_str, fits_int, fits_bool, fits_sl, fits_agg]; omega)) rfl ?_ | ((fail_if_success (refine aops_known rfl ?_)); (refine aops_split ty_ok rfl rfl rfl rfl rfl rfl (fun hc => ⟨?_, ?_⟩) (fun hc => ⟨?_, ?_⟩)) <;> (try simp only [decide_eq_true_eq, decide_eq_false_iff_not, Bool.not_eq_true', Bool.not_eq_false', Bool.not_eq_true, Bool.not_eq_false, Bool.not_true, Bool.not_false, beq_iff_eq, beq_eq_false_iff_ne, bne_iff_ne, bne_eq_false_iff_eq, ne_eq, Decidable.not_not, gt_iff_lt, ge_iff_le, Int.not_lt, Int.not_le, Bool.true_eq_false, Bool.false_eq_true, reduceCtorEq, bys_len, ints_len, byss_len, canon_strs, canon_u32s, canon_u64s, strs_len, u32s_len, u64s_len, bA_size, ba_size_mk, ByteArray.size_append, List.size_toArray, List.length_map, List.length_cons, List.length_nil, Bool.and_eq_true, Bool.or_eq_true, Bool.and_eq_false_iff, Bool.or_eq_false_iff, not_true_eq_false, not_false_eq_true, and_self, and_true, true_and, and_false, false_and] at hc) <;> (try (exfalso; omega)) <;> (try exact (by first | (simp only [and_true, true_and]; done) | (simp only [and_true, true_and, bys_len, ints_len, byss_len, canon_strs, canon_u32s, canon_u64s, strs_len, u32s_len, u64s_len, bA_size, ba_size_mk, ByteArray.size_append, List.size_toArray, List.length_map, List.length_cons, List.length_nil, canon_bys, canon_ints, canon_byss, Int.toNat_natCast, List.length_append, List.length_cons, List.length_nil, List.length_replicate, List.length_take, List.length_drop, List.length_set, List.length_reverse, fits_sD, fits_str, fits_int, fits_bool, fits_sl, fits_agg]; omega)))))) | ((fail_if_success (with_reducible show AWp _ _ _ _ _)); (fail_if_success (with_reducible show AOps _ _ _ _ _ _)); (first | (show AWp _ _ _ _ _) | (show AOps _ _ _ _ _ _))))
  all_goals simp only [neg_i64, not_true_eq_false] at *
  all_goals first | rfl | (simp; done) | skip
  all_goals first
    | (have h9 := undF_le (l := a) (m := b) (by assumption); simp only [ge_iff_le, h9, decide_true]; done)
    | (exfalso; have h9 := cmpF_trans (l := a) (m := b) (n := c) (by assumption) (by assumption) (by assumption) (by assumption) (by assumption); omega)
    | (exfalso; have h9 := cmpF_zero (l := a) (m := b) (by assumption) (by assumption); contradiction)
end Go.Proofs.YtaenfbgamkieiaaDoor
