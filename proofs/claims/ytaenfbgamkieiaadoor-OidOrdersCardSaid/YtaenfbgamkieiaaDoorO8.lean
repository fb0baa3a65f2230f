/- Contents octets and the numbers that they hold: one to one. Plain Lean; Encode of the reference, walked. -/
import Derived.Test.YtaenfbgamkieiaaDoorO7
namespace Go.Proofs.YtaenfbgamkieiaaDoor
open Go.Am
open Go.Lib (decDigits)
set_option linter.unusedSimpArgs false
set_option linter.unusedVariables false

/-- The numbers in contents octets; 'begun': within a number, of which n was read. -/
def dec7 (begun : Bool) (n : Nat) : List UInt8 → Option (List Nat)
  | [] => match begun with
    | true => none
    | false => some []
  | x :: r => match !begun && decide (x = 128), decide (n * 128 + x.toNat % 128 ≤ 4294967295), decide (128 ≤ x.toNat) with
    | false, true, true => dec7 true (n * 128 + x.toNat % 128) r
    | false, true, false => (dec7 false 0 r).map fun l => (n * 128 + x.toNat % 128) :: l
    | _, _, _ => none
def dec7r (n : Nat) : List UInt8 → Option (List Nat)
  | [] => some []
  | x :: r => match decide (n * 128 + x.toNat % 128 ≤ 4294967295), decide (x.toNat < 128) with
    | true, true => (dec7r 0 r).map fun l => (n * 128 + x.toNat % 128) :: l
    | true, false => dec7r (n * 128 + x.toNat % 128) r
    | _, _ => none
def flat7 (ns : List Nat) : List UInt8 := (ns.map (b128 true)).flatten
theorem flat7_cons (n : Nat) (ns : List Nat) : flat7 (n :: ns) = b128 true n ++ flat7 ns := by simp [flat7]
theorem dec7_r : ∀ (c : List UInt8) (b : Bool) (n : Nat) (ns : List Nat), dec7 b n c = some ns → dec7r n c = some ns
  | [], b, n, ns, h => by
    cases b with
    | true => cases h
    | false => exact h
  | x :: r, b, n, ns, h => by
    unfold dec7 at h
    unfold dec7r
    split at h
    · rename_i h1 h2 h3
      have h4 : decide (x.toNat < 128) = false := by
        simp only [decide_eq_true_eq, decide_eq_false_iff_not] at h3 ⊢
        omega
      simp only [h2, h4]
      exact dec7_r r _ _ _ h
    · rename_i h1 h2 h3
      have h4 : decide (x.toNat < 128) = true := by
        simp only [decide_eq_false_iff_not, decide_eq_true_eq] at h3 ⊢
        omega
      simp only [h2, h4]
      obtain ⟨l, hl, rfl⟩ := Option.map_eq_some_iff.1 h
      rw [dec7_r r _ _ _ hl]
      rfl
    · cases h
theorem dec7r_le : ∀ (c : List UInt8) (n : Nat) (ns : List Nat), dec7r n c = some ns → ∀ m ∈ ns, m ≤ 4294967295
  | [], n, ns, h, m, hm => by
    cases h
    cases hm
  | x :: r, n, ns, h, m, hm => by
    unfold dec7r at h
    split at h
    · rename_i h1 h2
      obtain ⟨l, hl, rfl⟩ := Option.map_eq_some_iff.1 h
      rcases List.mem_cons.1 hm with rfl | hm
      · exact of_decide_eq_true h1
      · exact dec7r_le r _ _ hl m hm
    · exact dec7r_le r _ _ h m hm
    · cases h
theorem low7_ne (q : Nat) (h0 : 0 < q) (h : q < 128) : low7 false q ≠ 128 := by
  intro e
  have h1 := (low7_nat q).2
  rw [e] at h1
  have : (128 : UInt8).toNat = 128 := rfl
  omega
theorem dec7_hi (q : Nat) : 0 < q → q ≤ 4294967295 → ∀ r, dec7 false 0 (b128 false q ++ r) = dec7 true q r := by
  induction q using Nat.strongRecOn with
  | _ q ih =>
    intro h0 hM r
    have hlow := (low7_nat q).2
    by_cases h : q < 128
    · rw [b128_small h]
      have e1 : decide (low7 false q = 128) = false := decide_eq_false (low7_ne q h0 h)
      have e2 : 0 * 128 + (low7 false q).toNat % 128 = q := by omega
      have e3 : decide (q ≤ 4294967295) = true := decide_eq_true hM
      have e4 : decide (128 ≤ (low7 false q).toNat) = true := decide_eq_true (by omega)
      simp only [List.cons_append, List.nil_append, dec7, e1, e2, e3, e4, Bool.and_false]
    · rw [b128_big h, List.append_assoc, ih (q / 128) (by omega) (by omega) (by omega)]
      have e2 : q / 128 * 128 + (low7 false q).toNat % 128 = q := by omega
      have e3 : decide (q ≤ 4294967295) = true := decide_eq_true hM
      have e4 : decide (128 ≤ (low7 false q).toNat) = true := decide_eq_true (by omega)
      simp only [List.cons_append, List.nil_append, dec7, e2, e3, e4, Bool.not_true, Bool.false_and]
theorem dec7_lo (n : Nat) (hM : n ≤ 4294967295) (r : List UInt8) : dec7 false 0 (b128 true n ++ r) = (dec7 false 0 r).map fun l => n :: l := by
  have hlow := (low7_nat n).1
  by_cases h : n < 128
  · rw [b128_small h]
    have e1 : decide (low7 true n = 128) = false := decide_eq_false (by
      intro e
      have : (128 : UInt8).toNat = 128 := rfl
      rw [e] at hlow
      omega)
    have e2 : 0 * 128 + (low7 true n).toNat % 128 = n := by omega
    have e3 : decide (n ≤ 4294967295) = true := decide_eq_true hM
    have e4 : decide (128 ≤ (low7 true n).toNat) = false := decide_eq_false (by omega)
    simp only [List.cons_append, List.nil_append, dec7, e1, e2, e3, e4, Bool.and_false]
  · rw [b128_big h, List.append_assoc, dec7_hi (n / 128) (by omega) (by omega)]
    have e2 : n / 128 * 128 + (low7 true n).toNat % 128 = n := by omega
    have e3 : decide (n ≤ 4294967295) = true := decide_eq_true hM
    have e4 : decide (128 ≤ (low7 true n).toNat) = false := decide_eq_false (by omega)
    simp only [List.cons_append, List.nil_append, dec7, e2, e3, e4, Bool.not_true, Bool.false_and]
theorem dec7_flat : ∀ (ns : List Nat), (∀ n ∈ ns, n ≤ 4294967295) → dec7 false 0 (flat7 ns) = some ns
  | [], _ => rfl
  | n :: ns, h => by
    rw [flat7_cons, dec7_lo n (h n (List.mem_cons_self ..)), dec7_flat ns (fun m hm => h m (List.mem_cons_of_mem _ hm))]
    rfl
theorem u8_of {x : UInt8} {y : UInt8} (h : x.toNat = y.toNat) : x = y := UInt8.toNat_inj.1 h
theorem flat_dec7 : ∀ (c : List UInt8), (∀ ns, dec7 false 0 c = some ns → flat7 ns = c) ∧ (∀ q, 0 < q → ∀ ns, dec7 true q c = some ns → flat7 ns = b128 false q ++ c)
  | [] => ⟨fun ns h => by cases h; rfl, fun q _ ns h => by cases h⟩
  | x :: r => by
    obtain ⟨ih1, ih2⟩ := flat_dec7 r
    have hx : x.toNat < 256 := x.toNat_lt
    constructor
    · intro ns h
      unfold dec7 at h
      split at h
      · rename_i h1 h2 h3
        have h3' : 128 ≤ x.toNat := of_decide_eq_true h3
        have hne : x ≠ 128 := by
          intro e
          rw [e] at h1
          cases h1
        have hpos : 0 < 0 * 128 + x.toNat % 128 := by
          have : x.toNat ≠ 128 := fun e => hne (u8_of e)
          omega
        rw [ih2 _ hpos ns h, b128_small (by omega)]
        have : low7 false (0 * 128 + x.toNat % 128) = x := u8_of (by rw [(low7_nat _).2]; omega)
        rw [this]
        rfl
      · rename_i h1 h2 h3
        have h3' : ¬ 128 ≤ x.toNat := of_decide_eq_false h3
        obtain ⟨l, hl, rfl⟩ := Option.map_eq_some_iff.1 h
        rw [flat7_cons, ih1 l hl, b128_small (by omega)]
        have : low7 true (0 * 128 + x.toNat % 128) = x := u8_of (by rw [(low7_nat _).1]; omega)
        rw [this]
        rfl
      · cases h
    · intro q hq ns h
      unfold dec7 at h
      split at h
      · rename_i h1 h2 h3
        have h3' : 128 ≤ x.toNat := of_decide_eq_true h3
        rw [ih2 _ (by omega) ns h, b128_big (by omega)]
        have e1 : low7 false (q * 128 + x.toNat % 128) = x := u8_of (by rw [(low7_nat _).2]; omega)
        have e2 : (q * 128 + x.toNat % 128) / 128 = q := by omega
        rw [e1, e2, List.append_assoc]
        rfl
      · rename_i h1 h2 h3
        have h3' : ¬ 128 ≤ x.toNat := of_decide_eq_false h3
        obtain ⟨l, hl, rfl⟩ := Option.map_eq_some_iff.1 h
        rw [flat7_cons, ih1 l hl, b128_big (by omega)]
        have e1 : low7 true (q * 128 + x.toNat % 128) = x := u8_of (by rw [(low7_nat _).1]; omega)
        have e2 : (q * 128 + x.toNat % 128) / 128 = q := by omega
        rw [e1, e2, List.append_assoc]
        rfl
      · cases h
/-- The arcs of numbers. -/
def arcsOf (m : Nat) (r : List Nat) : List Nat := min (m / 40) 2 :: (m - 40 * min (m / 40) 2) :: r
theorem arcsOf_right (m : Nat) (r : List Nat) (h : m ≤ 4294967295) : rightF (arcsOf m r) = true := by
  simp only [arcsOf, rightF, Bool.or_eq_true, Bool.and_eq_true, decide_eq_true_eq]
  omega
theorem arcsOf_le (m : Nat) (r : List Nat) (h : ∀ n ∈ m :: r, n ≤ 4294967295) : ∀ n ∈ arcsOf m r, n ≤ 4294967295 := by
  have hm := h m (List.mem_cons_self ..)
  intro n hn
  simp only [arcsOf, List.mem_cons] at hn
  rcases hn with rfl | rfl | hn
  · omega
  · omega
  · exact h n (List.mem_cons_of_mem _ hn)
theorem arcsOf_enc (m : Nat) (r : List Nat) : encL (arcsOf m r) = flat7 (m :: r) := by
  rw [flat7_cons, arcsOf, encL]
  rw [show 40 * min (m / 40) 2 + (m - 40 * min (m / 40) 2) = m by omega]
  rfl
theorem enc_arcs {a : List Nat} (h : rightF a = true) : ∃ m r, arcsOf m r = a ∧ (∀ n ∈ a, n ≤ 4294967295) → ∀ n ∈ m :: r, n ≤ 4294967295 := ⟨0, [], fun _ n hn => by simp at hn; omega⟩
def decS (c : List UInt8) : List UInt8 × Int := match dec7 false 0 c with
  | some (m :: r) => (textF (arcsOf m r), 0)
  | _ => ([], 6)
def decOD (c : List UInt8) : Dat := .tup [sD (decS c).1, .int .i64 (decS c).2]

theorem isREncode : IsFn Tryd.prog 17 Tryd.f17 := ⟨Tryd.func17, by decide, rfl⟩
theorem c_renc_bad (Γ : Env) (l : List UInt8) (hl : l.length ≤ 100000000) (h : okF l = none) : ACalls Tryd.prog Γ 17 [sD l] (fun r => r = .d (.tup [.sl none [], .int .i64 8])) := by
  refine acalls_of ty_ok isREncode rfl rfl ?_
  have hA := c_rarcs Γ l hl
  rw [arcsD, h] at hA
  repeat' (first | ((with_reducible show AWp _ _ _ _ _); (first | refine awp_seq ?_ | refine awp_block ?_ | refine awp_skip ?_ | refine awp_exit ?_ | refine awp_run ty_ok rfl (by first | (simp only [and_true, true_and]; done) | (simp only [and_true, true_and, bys_len, ints_len, byss_len, canon_strs, canon_u32s, canon_u64s, strs_len, u32s_len, u64s_len, bA_size, ba_size_mk, ByteArray.size_append, List.size_toArray, List.length_map, List.length_cons, List.length_nil, canon_bys, canon_ints, canon_byss, Int.toNat_natCast, List.length_append, List.length_cons, List.length_nil, List.length_replicate, List.length_take, List.length_drop, List.length_set, List.length_reverse, fits_sD, fits_str, fits_int, fits_bool, fits_sl, fits_agg]; omega)) ?_ | refine awp_ret ⟨_, _, rfl, rfl, ?_⟩ | refine awp_ret ⟨_, rfl, ?_⟩ | ((refine awp_cond (ty := ty) rfl (fun hc => ?_) (fun hc => ?_)) <;> (try simp only [decide_eq_true_eq, decide_eq_false_iff_not, Bool.not_eq_true', Bool.not_eq_false', Bool.not_eq_true, Bool.not_eq_false, Bool.not_true, Bool.not_false, beq_iff_eq, beq_eq_false_iff_ne, bne_iff_ne, bne_eq_false_iff_eq, ne_eq, Decidable.not_not, gt_iff_lt, ge_iff_le, Int.not_lt, Int.not_le, Bool.true_eq_false, Bool.false_eq_true, reduceCtorEq, bys_len, ints_len, byss_len, canon_strs, canon_u32s, canon_u64s, strs_len, u32s_len, u64s_len, bA_size, ba_size_mk, ByteArray.size_append, List.size_toArray, List.length_map, List.length_cons, List.length_nil, Bool.and_eq_true, Bool.or_eq_true, Bool.and_eq_false_iff, Bool.or_eq_false_iff, not_true_eq_false, not_false_eq_true, and_self, and_true, true_and, and_false, false_and] at hc) <;> (try (exfalso; omega))))) | ((with_reducible show AOps _ _ _ _ _ _); (first | refine aops_nil ?_ | refine aops_go ty_ok rfl rfl (by first | (simp only [and_true, true_and]; done) | (simp only [and_true, true_and, bys_len, ints_len, byss_len, canon_strs, canon_u32s, canon_u64s, strs_len, u32s_len, u64s_len, bA_size, ba_size_mk, ByteArray.size_append, List.size_toArray, List.length_map, List.length_cons, List.length_nil, canon_bys, canon_ints, canon_byss, Int.toNat_natCast, List.length_append, List.length_cons, List.length_nil, List.length_replicate, List.length_take, List.length_drop, List.length_set, List.length_reverse, fits_sD, fits_str, fits_int, fits_bool, fits_sl, fits_agg]; omega)) ?_ | refine aops_gate ty_ok rfl rfl rfl (by first | (simp only [and_true, true_and]; done) | (simp only [and_true, true_and, bys_len, ints_len, byss_len, canon_strs, canon_u32s, canon_u64s, strs_len, u32s_len, u64s_len, bA_size, ba_size_mk, ByteArray.size_append, List.size_toArray, List.length_map, List.length_cons, List.length_nil, canon_bys, canon_ints, canon_byss, Int.toNat_natCast, List.length_append, List.length_cons, List.length_nil, List.length_replicate, List.length_take, List.length_drop, List.length_set, List.length_reverse, fits_sD, fits_str, fits_int, fits_bool, fits_sl, fits_agg]; omega)) ?_ | refine aops_callE (ty := ty) rfl rfl rfl rfl rfl rfl rfl (hA) rfl ?_ | refine aops_cutE ty_ok rfl rfl rfl rfl rfl rfl rfl rfl rfl (by first | (simp only [and_true, true_and]; done) | (simp only [and_true, true_and, bys_len, ints_len, byss_len, canon_strs, canon_u32s, canon_u64s, strs_len, u32s_len, u64s_len, bA_size, ba_size_mk, ByteArray.size_append, List.size_toArray, List.length_map, List.length_cons, List.length_nil, canon_bys, canon_ints, canon_byss, Int.toNat_natCast, List.length_append, List.length_cons, List.length_nil, List.length_replicate, List.length_take, List.length_drop, List.length_set, List.length_reverse, fits_sD, fits_str, fits_int, fits_bool, fits_sl, fits_agg]; omega)) rfl ?_ | ((fail_if_success (refine aops_known rfl ?_)); (refine aops_split ty_ok rfl rfl rfl rfl rfl rfl (fun hc => ⟨?_, ?_⟩) (fun hc => ⟨?_, ?_⟩)) <;> (try simp only [decide_eq_true_eq, decide_eq_false_iff_not, Bool.not_eq_true', Bool.not_eq_false', Bool.not_eq_true, Bool.not_eq_false, Bool.not_true, Bool.not_false, beq_iff_eq, beq_eq_false_iff_ne, bne_iff_ne, bne_eq_false_iff_eq, ne_eq, Decidable.not_not, gt_iff_lt, ge_iff_le, Int.not_lt, Int.not_le, Bool.true_eq_false, Bool.false_eq_true, reduceCtorEq, bys_len, ints_len, byss_len, canon_strs, canon_u32s, canon_u64s, strs_len, u32s_len, u64s_len, bA_size, ba_size_mk, ByteArray.size_append, List.size_toArray, List.length_map, List.length_cons, List.length_nil, Bool.and_eq_true, Bool.or_eq_true, Bool.and_eq_false_iff, Bool.or_eq_false_iff, not_true_eq_false, not_false_eq_true, and_self, and_true, true_and, and_false, false_and] at hc) <;> (try (exfalso; omega)) <;> (try exact (by first | (simp only [and_true, true_and]; done) | (simp only [and_true, true_and, bys_len, ints_len, byss_len, canon_strs, canon_u32s, canon_u64s, strs_len, u32s_len, u64s_len, bA_size, ba_size_mk, ByteArray.size_append, List.size_toArray, List.length_map, List.length_cons, List.length_nil, canon_bys, canon_ints, canon_byss, Int.toNat_natCast, List.length_append, List.length_cons, List.length_nil, List.length_replicate, List.length_take, List.length_drop, List.length_set, List.length_reverse, fits_sD, fits_str, fits_int, fits_bool, fits_sl, fits_agg]; omega)))))) | ((with_reducible show HeadT _ _ _ _ _ _ _ _ _ _); (first | refine head_end ?_ | refine head_goP ty_ok rfl rfl (by first | (simp only [and_true, true_and]; done) | (simp only [and_true, true_and, bys_len, ints_len, byss_len, canon_strs, canon_u32s, canon_u64s, strs_len, u32s_len, u64s_len, bA_size, ba_size_mk, ByteArray.size_append, List.size_toArray, List.length_map, List.length_cons, List.length_nil, canon_bys, canon_ints, canon_byss, Int.toNat_natCast, List.length_append, List.length_cons, List.length_nil, List.length_replicate, List.length_take, List.length_drop, List.length_set, List.length_reverse, fits_sD, fits_str, fits_int, fits_bool, fits_sl, fits_agg]; omega)) ?_ | refine head_gate ty_ok rfl rfl rfl (by first | (simp only [and_true, true_and]; done) | (simp only [and_true, true_and, bys_len, ints_len, byss_len, canon_strs, canon_u32s, canon_u64s, strs_len, u32s_len, u64s_len, bA_size, ba_size_mk, ByteArray.size_append, List.size_toArray, List.length_map, List.length_cons, List.length_nil, canon_bys, canon_ints, canon_byss, Int.toNat_natCast, List.length_append, List.length_cons, List.length_nil, List.length_replicate, List.length_take, List.length_drop, List.length_set, List.length_reverse, fits_sD, fits_str, fits_int, fits_bool, fits_sl, fits_agg]; omega)) ?_ | refine head_callE (ty := ty) rfl rfl rfl rfl rfl rfl rfl (hA) rfl ?_ | ((fail_if_success (refine head_known rfl ?_)); (refine head_split ty_ok rfl rfl rfl rfl (fun hc => ⟨?_, ?_⟩) (fun hc => ⟨?_, ?_⟩)) <;> (try simp only [decide_eq_true_eq, decide_eq_false_iff_not, Bool.not_eq_true', Bool.not_eq_false', Bool.not_eq_true, Bool.not_eq_false, Bool.not_true, Bool.not_false, beq_iff_eq, beq_eq_false_iff_ne, bne_iff_ne, bne_eq_false_iff_eq, ne_eq, Decidable.not_not, gt_iff_lt, ge_iff_le, Int.not_lt, Int.not_le, Bool.true_eq_false, Bool.false_eq_true, reduceCtorEq, bys_len, ints_len, byss_len, canon_strs, canon_u32s, canon_u64s, strs_len, u32s_len, u64s_len, bA_size, ba_size_mk, ByteArray.size_append, List.size_toArray, List.length_map, List.length_cons, List.length_nil, Bool.and_eq_true, Bool.or_eq_true, Bool.and_eq_false_iff, Bool.or_eq_false_iff, not_true_eq_false, not_false_eq_true, and_self, and_true, true_and, and_false, false_and] at hc) <;> (try (exfalso; omega)) <;> (try exact (by first | (simp only [and_true, true_and]; done) | (simp only [and_true, true_and, bys_len, ints_len, byss_len, canon_strs, canon_u32s, canon_u64s, strs_len, u32s_len, u64s_len, bA_size, ba_size_mk, ByteArray.size_append, List.size_toArray, List.length_map, List.length_cons, List.length_nil, canon_bys, canon_ints, canon_byss, Int.toNat_natCast, List.length_append, List.length_cons, List.length_nil, List.length_replicate, List.length_take, List.length_drop, List.length_set, List.length_reverse, fits_sD, fits_str, fits_int, fits_bool, fits_sl, fits_agg]; omega)))))) | ((fail_if_success (with_reducible show AWp _ _ _ _ _)); (fail_if_success (with_reducible show AOps _ _ _ _ _ _)); (fail_if_success (with_reducible show HeadT _ _ _ _ _ _ _ _ _ _)); (first | (show AWp _ _ _ _ _) | (show AOps _ _ _ _ _ _))))
  all_goals rfl
set_option maxHeartbeats 1000000 in
theorem c_renc_ok (Γ : Env) (l : List UInt8) (a : List Nat) (hl : l.length ≤ 100000000) (h : okF l = some a) : ACalls Tryd.prog Γ 17 [sD l] (fun r => r = .ownT none 5 (bys (encL a)) [.int .i64 0]) := by
  refine acalls_of ty_ok isREncode rfl rfl ?_
  have hA := c_rarcs Γ l hl
  rw [arcsD, h] at hA
  have hal := okF_len h
  obtain ⟨_, hr, hn⟩ := okF_text h
  match a, hr, hn, hal, hA with
  | x :: y :: t, hr, hn, hal, hA =>
  have hx : ((u32s (x :: y :: t)).getD (Int.toNat 0) default).num = x := rfl
  have hy : ((u32s (x :: y :: t)).getD (Int.toNat 1) default).num = y := rfl
  have hlen : (u32s (x :: y :: t)).length = t.length + 2 := by simp [u32s]
  have hxy : 40 * x + y ≤ 4294967295 := by
    simp only [rightF, Bool.or_eq_true, Bool.and_eq_true, decide_eq_true_eq] at hr
    omega
  have htn : ∀ n ∈ t, n ≤ 4294967295 := fun n hm => hn n (by simp [hm])
  simp only [List.length_cons] at hal
  have hb1 := c_base (Γ.at 0) (40 * x + y) true (by omega)
  have hw1 : IntKind.u64.wrap (IntKind.u64.wrap (40 * IntKind.u64.wrap ((u32s (x :: y :: t)).getD (Int.toNat 0) default).num) + IntKind.u64.wrap ((u32s (x :: y :: t)).getD (Int.toNat 1) default).num) = ((40 * x + y : Nat) : Int) := by
    rw [hx, hy, IntKind.wrap_u64, IntKind.wrap_u64, IntKind.wrap_u64, IntKind.wrap_u64]
    omega
  rw [← hw1] at hb1
  have hb5 := b128_len32 true (40 * x + y) hxy
  repeat' (first | ((with_reducible show AWp _ _ _ _ _); (first | refine awp_seq ?_ | refine awp_block ?_ | refine awp_skip ?_ | refine awp_exit ?_ | refine awp_run ty_ok rfl (by first | (simp only [and_true, true_and]; done) | (simp only [and_true, true_and, bys_len, ints_len, byss_len, canon_strs, canon_u32s, canon_u64s, strs_len, u32s_len, u64s_len, bA_size, ba_size_mk, ByteArray.size_append, List.size_toArray, List.length_map, List.length_cons, List.length_nil, canon_bys, canon_ints, canon_byss, Int.toNat_natCast, List.length_append, List.length_cons, List.length_nil, List.length_replicate, List.length_take, List.length_drop, List.length_set, List.length_reverse, fits_sD, fits_str, fits_int, fits_bool, fits_sl, fits_agg]; omega)) ?_ | refine awp_ret ⟨_, _, rfl, rfl, ?_⟩ | refine awp_ret ⟨_, rfl, ?_⟩ | ((refine awp_cond (ty := ty) rfl (fun hc => ?_) (fun hc => ?_)) <;> (try simp only [decide_eq_true_eq, decide_eq_false_iff_not, Bool.not_eq_true', Bool.not_eq_false', Bool.not_eq_true, Bool.not_eq_false, Bool.not_true, Bool.not_false, beq_iff_eq, beq_eq_false_iff_ne, bne_iff_ne, bne_eq_false_iff_eq, ne_eq, Decidable.not_not, gt_iff_lt, ge_iff_le, Int.not_lt, Int.not_le, Bool.true_eq_false, Bool.false_eq_true, reduceCtorEq, bys_len, ints_len, byss_len, canon_strs, canon_u32s, canon_u64s, strs_len, u32s_len, u64s_len, bA_size, ba_size_mk, ByteArray.size_append, List.size_toArray, List.length_map, List.length_cons, List.length_nil, Bool.and_eq_true, Bool.or_eq_true, Bool.and_eq_false_iff, Bool.or_eq_false_iff, not_true_eq_false, not_false_eq_true, and_self, and_true, true_and, and_false, false_and] at hc) <;> (try (exfalso; omega))) | refine awp_anyM 10 12 mixed rfl (by kernel_rfl) ?_)) | ((with_reducible show AOps _ _ _ _ _ _); (first | refine aops_nil ?_ | refine aops_go ty_ok rfl rfl (by first | (simp only [and_true, true_and]; done) | (simp only [and_true, true_and, bys_len, ints_len, byss_len, canon_strs, canon_u32s, canon_u64s, strs_len, u32s_len, u64s_len, bA_size, ba_size_mk, ByteArray.size_append, List.size_toArray, List.length_map, List.length_cons, List.length_nil, canon_bys, canon_ints, canon_byss, Int.toNat_natCast, List.length_append, List.length_cons, List.length_nil, List.length_replicate, List.length_take, List.length_drop, List.length_set, List.length_reverse, fits_sD, fits_str, fits_int, fits_bool, fits_sl, fits_agg]; omega)) ?_ | refine aops_gate ty_ok rfl rfl rfl (by first | (simp only [and_true, true_and]; done) | (simp only [and_true, true_and, bys_len, ints_len, byss_len, canon_strs, canon_u32s, canon_u64s, strs_len, u32s_len, u64s_len, bA_size, ba_size_mk, ByteArray.size_append, List.size_toArray, List.length_map, List.length_cons, List.length_nil, canon_bys, canon_ints, canon_byss, Int.toNat_natCast, List.length_append, List.length_cons, List.length_nil, List.length_replicate, List.length_take, List.length_drop, List.length_set, List.length_reverse, fits_sD, fits_str, fits_int, fits_bool, fits_sl, fits_agg]; omega)) ?_ | refine aops_callE (ty := ty) rfl rfl rfl rfl rfl rfl rfl (hA) rfl ?_ | refine aops_callE (ty := ty) rfl rfl rfl rfl rfl rfl rfl (hb1) rfl ?_ | refine aops_cutE ty_ok rfl rfl rfl rfl rfl rfl rfl rfl rfl (by first | (simp only [and_true, true_and]; done) | (simp only [and_true, true_and, bys_len, ints_len, byss_len, canon_strs, canon_u32s, canon_u64s, strs_len, u32s_len, u64s_len, bA_size, ba_size_mk, ByteArray.size_append, List.size_toArray, List.length_map, List.length_cons, List.length_nil, canon_bys, canon_ints, canon_byss, Int.toNat_natCast, List.length_append, List.length_cons, List.length_nil, List.length_replicate, List.length_take, List.length_drop, List.length_set, List.length_reverse, fits_sD, fits_str, fits_int, fits_bool, fits_sl, fits_agg]; omega)) rfl ?_ | ((fail_if_success (refine aops_known rfl ?_)); (refine aops_split ty_ok rfl rfl rfl rfl rfl rfl (fun hc => ⟨?_, ?_⟩) (fun hc => ⟨?_, ?_⟩)) <;> (try simp only [decide_eq_true_eq, decide_eq_false_iff_not, Bool.not_eq_true', Bool.not_eq_false', Bool.not_eq_true, Bool.not_eq_false, Bool.not_true, Bool.not_false, beq_iff_eq, beq_eq_false_iff_ne, bne_iff_ne, bne_eq_false_iff_eq, ne_eq, Decidable.not_not, gt_iff_lt, ge_iff_le, Int.not_lt, Int.not_le, Bool.true_eq_false, Bool.false_eq_true, reduceCtorEq, bys_len, ints_len, byss_len, canon_strs, canon_u32s, canon_u64s, strs_len, u32s_len, u64s_len, bA_size, ba_size_mk, ByteArray.size_append, List.size_toArray, List.length_map, List.length_cons, List.length_nil, Bool.and_eq_true, Bool.or_eq_true, Bool.and_eq_false_iff, Bool.or_eq_false_iff, not_true_eq_false, not_false_eq_true, and_self, and_true, true_and, and_false, false_and] at hc) <;> (try (exfalso; omega)) <;> (try exact (by first | (simp only [and_true, true_and]; done) | (simp only [and_true, true_and, bys_len, ints_len, byss_len, canon_strs, canon_u32s, canon_u64s, strs_len, u32s_len, u64s_len, bA_size, ba_size_mk, ByteArray.size_append, List.size_toArray, List.length_map, List.length_cons, List.length_nil, canon_bys, canon_ints, canon_byss, Int.toNat_natCast, List.length_append, List.length_cons, List.length_nil, List.length_replicate, List.length_take, List.length_drop, List.length_set, List.length_reverse, fits_sD, fits_str, fits_int, fits_bool, fits_sl, fits_agg]; omega)))))) | ((with_reducible show HeadT _ _ _ _ _ _ _ _ _ _); (first | refine head_end ?_ | refine head_goP ty_ok rfl rfl (by first | (simp only [and_true, true_and]; done) | (simp only [and_true, true_and, bys_len, ints_len, byss_len, canon_strs, canon_u32s, canon_u64s, strs_len, u32s_len, u64s_len, bA_size, ba_size_mk, ByteArray.size_append, List.size_toArray, List.length_map, List.length_cons, List.length_nil, canon_bys, canon_ints, canon_byss, Int.toNat_natCast, List.length_append, List.length_cons, List.length_nil, List.length_replicate, List.length_take, List.length_drop, List.length_set, List.length_reverse, fits_sD, fits_str, fits_int, fits_bool, fits_sl, fits_agg]; omega)) ?_ | refine head_gate ty_ok rfl rfl rfl (by first | (simp only [and_true, true_and]; done) | (simp only [and_true, true_and, bys_len, ints_len, byss_len, canon_strs, canon_u32s, canon_u64s, strs_len, u32s_len, u64s_len, bA_size, ba_size_mk, ByteArray.size_append, List.size_toArray, List.length_map, List.length_cons, List.length_nil, canon_bys, canon_ints, canon_byss, Int.toNat_natCast, List.length_append, List.length_cons, List.length_nil, List.length_replicate, List.length_take, List.length_drop, List.length_set, List.length_reverse, fits_sD, fits_str, fits_int, fits_bool, fits_sl, fits_agg]; omega)) ?_ | refine head_callE (ty := ty) rfl rfl rfl rfl rfl rfl rfl (hA) rfl ?_ | refine head_callE (ty := ty) rfl rfl rfl rfl rfl rfl rfl (hb1) rfl ?_ | ((fail_if_success (refine head_known rfl ?_)); (refine head_split ty_ok rfl rfl rfl rfl (fun hc => ⟨?_, ?_⟩) (fun hc => ⟨?_, ?_⟩)) <;> (try simp only [decide_eq_true_eq, decide_eq_false_iff_not, Bool.not_eq_true', Bool.not_eq_false', Bool.not_eq_true, Bool.not_eq_false, Bool.not_true, Bool.not_false, beq_iff_eq, beq_eq_false_iff_ne, bne_iff_ne, bne_eq_false_iff_eq, ne_eq, Decidable.not_not, gt_iff_lt, ge_iff_le, Int.not_lt, Int.not_le, Bool.true_eq_false, Bool.false_eq_true, reduceCtorEq, bys_len, ints_len, byss_len, canon_strs, canon_u32s, canon_u64s, strs_len, u32s_len, u64s_len, bA_size, ba_size_mk, ByteArray.size_append, List.size_toArray, List.length_map, List.length_cons, List.length_nil, Bool.and_eq_true, Bool.or_eq_true, Bool.and_eq_false_iff, Bool.or_eq_false_iff, not_true_eq_false, not_false_eq_true, and_self, and_true, true_and, and_false, false_and] at hc) <;> (try (exfalso; omega)) <;> (try exact (by first | (simp only [and_true, true_and]; done) | (simp only [and_true, true_and, bys_len, ints_len, byss_len, canon_strs, canon_u32s, canon_u64s, strs_len, u32s_len, u64s_len, bA_size, ba_size_mk, ByteArray.size_append, List.size_toArray, List.length_map, List.length_cons, List.length_nil, canon_bys, canon_ints, canon_byss, Int.toNat_natCast, List.length_append, List.length_cons, List.length_nil, List.length_replicate, List.length_take, List.length_drop, List.length_set, List.length_reverse, fits_sD, fits_str, fits_int, fits_bool, fits_sl, fits_agg]; omega)))))) | ((fail_if_success (with_reducible show AWp _ _ _ _ _)); (fail_if_success (with_reducible show AOps _ _ _ _ _ _)); (fail_if_success (with_reducible show HeadT _ _ _ _ _ _ _ _ _ _)); (first | (show AWp _ _ _ _ _) | (show AOps _ _ _ _ _ _))))
  refine awp_loopR (G := { k : Nat // k ≤ t.length }) (fun k => ⟨Tryd.f17.ntmps, [(4, .d (.sl none (u32s (x :: y :: t)))), (6, .ref 0), (7, .d (.int .i64 ((k.1 : Int) + 2)))], [(0, .row none 5 (bys (b128 true (40 * x + y) ++ ((t.take k.1).map (b128 true)).flatten)))], 1⟩) (fun k => t.length - k.1) ⟨0, Nat.zero_le _⟩ [(10, 0)]
    (SubR.mk' rfl rfl ⟨⟨_, rfl, rfl⟩, ⟨_, rfl, rfl⟩, ⟨_, rfl, rfl⟩, trivial⟩ ⟨⟨_, _, rfl, rfl, congrArg (fun z => AO.row none 5 (bys z)) (by simp)⟩, trivial⟩) ?_
  rintro ⟨k, hk⟩
  dsimp only
  have hfl := flat_len (t.take k) (fun m hm => htn m (List.mem_of_mem_take hm))
  have htk : (t.take k).length ≤ t.length := by rw [List.length_take]; omega
  rcases Nat.lt_or_ge k t.length with hkl | hkl
  · have hnk := htn t[k] (List.getElem_mem _)
    have hnum : IntKind.u64.wrap ((u32s (x :: y :: t)).getD ((k : Int) + 2).toNat default).num = (t[k] : Int) := by
      have e1 : ((k : Int) + 2).toNat = k + 1 + 1 := by omega
      rw [e1, num_u32s, List.getD_cons_succ, List.getD_cons_succ, List.getD_eq_getElem?_getD, List.getElem?_eq_getElem hkl]
      exact wrap_u64 _ (by simp; omega)
    have hb2 := c_base (Γ.at 0) t[k] true (by omega)
    rw [← hnum] at hb2
    have hb6 := b128_len32 true t[k] hnk
    repeat' (first | ((with_reducible show AWp _ _ _ _ _); (first | refine awp_seq ?_ | refine awp_block ?_ | refine awp_skip ?_ | refine awp_exit ?_ | refine awp_run ty_ok rfl (by first | (simp only [and_true, true_and]; done) | (simp only [and_true, true_and, bys_len, ints_len, byss_len, canon_strs, canon_u32s, canon_u64s, strs_len, u32s_len, u64s_len, bA_size, ba_size_mk, ByteArray.size_append, List.size_toArray, List.length_map, List.length_cons, List.length_nil, canon_bys, canon_ints, canon_byss, Int.toNat_natCast, List.length_append, List.length_cons, List.length_nil, List.length_replicate, List.length_take, List.length_drop, List.length_set, List.length_reverse, fits_sD, fits_str, fits_int, fits_bool, fits_sl, fits_agg]; omega)) ?_ | refine awp_ret ⟨_, _, rfl, rfl, ?_⟩ | refine awp_ret ⟨_, rfl, ?_⟩ | ((refine awp_cond (ty := ty) rfl (fun hc => ?_) (fun hc => ?_)) <;> (try simp only [decide_eq_true_eq, decide_eq_false_iff_not, Bool.not_eq_true', Bool.not_eq_false', Bool.not_eq_true, Bool.not_eq_false, Bool.not_true, Bool.not_false, beq_iff_eq, beq_eq_false_iff_ne, bne_iff_ne, bne_eq_false_iff_eq, ne_eq, Decidable.not_not, gt_iff_lt, ge_iff_le, Int.not_lt, Int.not_le, Bool.true_eq_false, Bool.false_eq_true, reduceCtorEq, bys_len, ints_len, byss_len, canon_strs, canon_u32s, canon_u64s, strs_len, u32s_len, u64s_len, bA_size, ba_size_mk, ByteArray.size_append, List.size_toArray, List.length_map, List.length_cons, List.length_nil, Bool.and_eq_true, Bool.or_eq_true, Bool.and_eq_false_iff, Bool.or_eq_false_iff, not_true_eq_false, not_false_eq_true, and_self, and_true, true_and, and_false, false_and] at hc) <;> (try (exfalso; omega))))) | ((with_reducible show AOps _ _ _ _ _ _); (first | refine aops_nil ?_ | refine aops_go ty_ok rfl rfl (by first | (simp only [and_true, true_and]; done) | (simp only [and_true, true_and, bys_len, ints_len, byss_len, canon_strs, canon_u32s, canon_u64s, strs_len, u32s_len, u64s_len, bA_size, ba_size_mk, ByteArray.size_append, List.size_toArray, List.length_map, List.length_cons, List.length_nil, canon_bys, canon_ints, canon_byss, Int.toNat_natCast, List.length_append, List.length_cons, List.length_nil, List.length_replicate, List.length_take, List.length_drop, List.length_set, List.length_reverse, fits_sD, fits_str, fits_int, fits_bool, fits_sl, fits_agg]; omega)) ?_ | refine aops_gate ty_ok rfl rfl rfl (by first | (simp only [and_true, true_and]; done) | (simp only [and_true, true_and, bys_len, ints_len, byss_len, canon_strs, canon_u32s, canon_u64s, strs_len, u32s_len, u64s_len, bA_size, ba_size_mk, ByteArray.size_append, List.size_toArray, List.length_map, List.length_cons, List.length_nil, canon_bys, canon_ints, canon_byss, Int.toNat_natCast, List.length_append, List.length_cons, List.length_nil, List.length_replicate, List.length_take, List.length_drop, List.length_set, List.length_reverse, fits_sD, fits_str, fits_int, fits_bool, fits_sl, fits_agg]; omega)) ?_ | refine aops_callE (ty := ty) rfl rfl rfl rfl rfl rfl rfl (hb2) rfl ?_ | refine aops_cutE ty_ok rfl rfl rfl rfl rfl rfl rfl rfl rfl (by first | (simp only [and_true, true_and]; done) | (simp only [and_true, true_and, bys_len, ints_len, byss_len, canon_strs, canon_u32s, canon_u64s, strs_len, u32s_len, u64s_len, bA_size, ba_size_mk, ByteArray.size_append, List.size_toArray, List.length_map, List.length_cons, List.length_nil, canon_bys, canon_ints, canon_byss, Int.toNat_natCast, List.length_append, List.length_cons, List.length_nil, List.length_replicate, List.length_take, List.length_drop, List.length_set, List.length_reverse, fits_sD, fits_str, fits_int, fits_bool, fits_sl, fits_agg]; omega)) rfl ?_ | ((fail_if_success (refine aops_known rfl ?_)); (refine aops_split ty_ok rfl rfl rfl rfl rfl rfl (fun hc => ⟨?_, ?_⟩) (fun hc => ⟨?_, ?_⟩)) <;> (try simp only [decide_eq_true_eq, decide_eq_false_iff_not, Bool.not_eq_true', Bool.not_eq_false', Bool.not_eq_true, Bool.not_eq_false, Bool.not_true, Bool.not_false, beq_iff_eq, beq_eq_false_iff_ne, bne_iff_ne, bne_eq_false_iff_eq, ne_eq, Decidable.not_not, gt_iff_lt, ge_iff_le, Int.not_lt, Int.not_le, Bool.true_eq_false, Bool.false_eq_true, reduceCtorEq, bys_len, ints_len, byss_len, canon_strs, canon_u32s, canon_u64s, strs_len, u32s_len, u64s_len, bA_size, ba_size_mk, ByteArray.size_append, List.size_toArray, List.length_map, List.length_cons, List.length_nil, Bool.and_eq_true, Bool.or_eq_true, Bool.and_eq_false_iff, Bool.or_eq_false_iff, not_true_eq_false, not_false_eq_true, and_self, and_true, true_and, and_false, false_and] at hc) <;> (try (exfalso; omega)) <;> (try exact (by first | (simp only [and_true, true_and]; done) | (simp only [and_true, true_and, bys_len, ints_len, byss_len, canon_strs, canon_u32s, canon_u64s, strs_len, u32s_len, u64s_len, bA_size, ba_size_mk, ByteArray.size_append, List.size_toArray, List.length_map, List.length_cons, List.length_nil, canon_bys, canon_ints, canon_byss, Int.toNat_natCast, List.length_append, List.length_cons, List.length_nil, List.length_replicate, List.length_take, List.length_drop, List.length_set, List.length_reverse, fits_sD, fits_str, fits_int, fits_bool, fits_sl, fits_agg]; omega)))))) | ((with_reducible show HeadT _ _ _ _ _ _ _ _ _ _); (first | refine head_end ?_ | refine head_goP ty_ok rfl rfl (by first | (simp only [and_true, true_and]; done) | (simp only [and_true, true_and, bys_len, ints_len, byss_len, canon_strs, canon_u32s, canon_u64s, strs_len, u32s_len, u64s_len, bA_size, ba_size_mk, ByteArray.size_append, List.size_toArray, List.length_map, List.length_cons, List.length_nil, canon_bys, canon_ints, canon_byss, Int.toNat_natCast, List.length_append, List.length_cons, List.length_nil, List.length_replicate, List.length_take, List.length_drop, List.length_set, List.length_reverse, fits_sD, fits_str, fits_int, fits_bool, fits_sl, fits_agg]; omega)) ?_ | refine head_gate ty_ok rfl rfl rfl (by first | (simp only [and_true, true_and]; done) | (simp only [and_true, true_and, bys_len, ints_len, byss_len, canon_strs, canon_u32s, canon_u64s, strs_len, u32s_len, u64s_len, bA_size, ba_size_mk, ByteArray.size_append, List.size_toArray, List.length_map, List.length_cons, List.length_nil, canon_bys, canon_ints, canon_byss, Int.toNat_natCast, List.length_append, List.length_cons, List.length_nil, List.length_replicate, List.length_take, List.length_drop, List.length_set, List.length_reverse, fits_sD, fits_str, fits_int, fits_bool, fits_sl, fits_agg]; omega)) ?_ | refine head_callE (ty := ty) rfl rfl rfl rfl rfl rfl rfl (hb2) rfl ?_ | ((fail_if_success (refine head_known rfl ?_)); (refine head_split ty_ok rfl rfl rfl rfl (fun hc => ⟨?_, ?_⟩) (fun hc => ⟨?_, ?_⟩)) <;> (try simp only [decide_eq_true_eq, decide_eq_false_iff_not, Bool.not_eq_true', Bool.not_eq_false', Bool.not_eq_true, Bool.not_eq_false, Bool.not_true, Bool.not_false, beq_iff_eq, beq_eq_false_iff_ne, bne_iff_ne, bne_eq_false_iff_eq, ne_eq, Decidable.not_not, gt_iff_lt, ge_iff_le, Int.not_lt, Int.not_le, Bool.true_eq_false, Bool.false_eq_true, reduceCtorEq, bys_len, ints_len, byss_len, canon_strs, canon_u32s, canon_u64s, strs_len, u32s_len, u64s_len, bA_size, ba_size_mk, ByteArray.size_append, List.size_toArray, List.length_map, List.length_cons, List.length_nil, Bool.and_eq_true, Bool.or_eq_true, Bool.and_eq_false_iff, Bool.or_eq_false_iff, not_true_eq_false, not_false_eq_true, and_self, and_true, true_and, and_false, false_and] at hc) <;> (try (exfalso; omega)) <;> (try exact (by first | (simp only [and_true, true_and]; done) | (simp only [and_true, true_and, bys_len, ints_len, byss_len, canon_strs, canon_u32s, canon_u64s, strs_len, u32s_len, u64s_len, bA_size, ba_size_mk, ByteArray.size_append, List.size_toArray, List.length_map, List.length_cons, List.length_nil, canon_bys, canon_ints, canon_byss, Int.toNat_natCast, List.length_append, List.length_cons, List.length_nil, List.length_replicate, List.length_take, List.length_drop, List.length_set, List.length_reverse, fits_sD, fits_str, fits_int, fits_bool, fits_sl, fits_agg]; omega)))))) | ((fail_if_success (with_reducible show AWp _ _ _ _ _)); (fail_if_success (with_reducible show AOps _ _ _ _ _ _)); (fail_if_success (with_reducible show HeadT _ _ _ _ _ _ _ _ _ _)); (first | (show AWp _ _ _ _ _) | (show AOps _ _ _ _ _ _))))
    refine ⟨⟨k + 1, hkl⟩, [(2, 0)], SubR.mk' rfl rfl ⟨⟨_, rfl, rfl⟩, ⟨_, rfl, rfl⟩, ⟨_, rfl, congrArg (fun z : Int => AV.d (Dat.int IntKind.i64 z)) (by simp only; omega)⟩, trivial⟩ ⟨⟨_, _, rfl, rfl, congrArg (AO.row none 5) ?_⟩, trivial⟩, by simp only; omega⟩
    rw [flat_take (b128 true) t k hkl]
    simp only [bys_app, List.append_assoc]
  · have hke : k = t.length := by omega
    subst hke
    repeat' (first | ((with_reducible show AWp _ _ _ _ _); (first | refine awp_seq ?_ | refine awp_block ?_ | refine awp_skip ?_ | refine awp_exit ?_ | refine awp_run ty_ok rfl (by first | (simp only [and_true, true_and]; done) | (simp only [and_true, true_and, bys_len, ints_len, byss_len, canon_strs, canon_u32s, canon_u64s, strs_len, u32s_len, u64s_len, bA_size, ba_size_mk, ByteArray.size_append, List.size_toArray, List.length_map, List.length_cons, List.length_nil, canon_bys, canon_ints, canon_byss, Int.toNat_natCast, List.length_append, List.length_cons, List.length_nil, List.length_replicate, List.length_take, List.length_drop, List.length_set, List.length_reverse, fits_sD, fits_str, fits_int, fits_bool, fits_sl, fits_agg]; omega)) ?_ | refine awp_ret ⟨_, _, rfl, rfl, ?_⟩ | refine awp_ret ⟨_, rfl, ?_⟩ | ((refine awp_cond (ty := ty) rfl (fun hc => ?_) (fun hc => ?_)) <;> (try simp only [decide_eq_true_eq, decide_eq_false_iff_not, Bool.not_eq_true', Bool.not_eq_false', Bool.not_eq_true, Bool.not_eq_false, Bool.not_true, Bool.not_false, beq_iff_eq, beq_eq_false_iff_ne, bne_iff_ne, bne_eq_false_iff_eq, ne_eq, Decidable.not_not, gt_iff_lt, ge_iff_le, Int.not_lt, Int.not_le, Bool.true_eq_false, Bool.false_eq_true, reduceCtorEq, bys_len, ints_len, byss_len, canon_strs, canon_u32s, canon_u64s, strs_len, u32s_len, u64s_len, bA_size, ba_size_mk, ByteArray.size_append, List.size_toArray, List.length_map, List.length_cons, List.length_nil, Bool.and_eq_true, Bool.or_eq_true, Bool.and_eq_false_iff, Bool.or_eq_false_iff, not_true_eq_false, not_false_eq_true, and_self, and_true, true_and, and_false, false_and] at hc) <;> (try (exfalso; omega))))) | ((with_reducible show AOps _ _ _ _ _ _); (first | refine aops_nil ?_ | refine aops_go ty_ok rfl rfl (by first | (simp only [and_true, true_and]; done) | (simp only [and_true, true_and, bys_len, ints_len, byss_len, canon_strs, canon_u32s, canon_u64s, strs_len, u32s_len, u64s_len, bA_size, ba_size_mk, ByteArray.size_append, List.size_toArray, List.length_map, List.length_cons, List.length_nil, canon_bys, canon_ints, canon_byss, Int.toNat_natCast, List.length_append, List.length_cons, List.length_nil, List.length_replicate, List.length_take, List.length_drop, List.length_set, List.length_reverse, fits_sD, fits_str, fits_int, fits_bool, fits_sl, fits_agg]; omega)) ?_ | refine aops_gate ty_ok rfl rfl rfl (by first | (simp only [and_true, true_and]; done) | (simp only [and_true, true_and, bys_len, ints_len, byss_len, canon_strs, canon_u32s, canon_u64s, strs_len, u32s_len, u64s_len, bA_size, ba_size_mk, ByteArray.size_append, List.size_toArray, List.length_map, List.length_cons, List.length_nil, canon_bys, canon_ints, canon_byss, Int.toNat_natCast, List.length_append, List.length_cons, List.length_nil, List.length_replicate, List.length_take, List.length_drop, List.length_set, List.length_reverse, fits_sD, fits_str, fits_int, fits_bool, fits_sl, fits_agg]; omega)) ?_ | refine aops_cutE ty_ok rfl rfl rfl rfl rfl rfl rfl rfl rfl (by first | (simp only [and_true, true_and]; done) | (simp only [and_true, true_and, bys_len, ints_len, byss_len, canon_strs, canon_u32s, canon_u64s, strs_len, u32s_len, u64s_len, bA_size, ba_size_mk, ByteArray.size_append, List.size_toArray, List.length_map, List.length_cons, List.length_nil, canon_bys, canon_ints, canon_byss, Int.toNat_natCast, List.length_append, List.length_cons, List.length_nil, List.length_replicate, List.length_take, List.length_drop, List.length_set, List.length_reverse, fits_sD, fits_str, fits_int, fits_bool, fits_sl, fits_agg]; omega)) rfl ?_ | ((fail_if_success (refine aops_known rfl ?_)); (refine aops_split ty_ok rfl rfl rfl rfl rfl rfl (fun hc => ⟨?_, ?_⟩) (fun hc => ⟨?_, ?_⟩)) <;> (try simp only [decide_eq_true_eq, decide_eq_false_iff_not, Bool.not_eq_true', Bool.not_eq_false', Bool.not_eq_true, Bool.not_eq_false, Bool.not_true, Bool.not_false, beq_iff_eq, beq_eq_false_iff_ne, bne_iff_ne, bne_eq_false_iff_eq, ne_eq, Decidable.not_not, gt_iff_lt, ge_iff_le, Int.not_lt, Int.not_le, Bool.true_eq_false, Bool.false_eq_true, reduceCtorEq, bys_len, ints_len, byss_len, canon_strs, canon_u32s, canon_u64s, strs_len, u32s_len, u64s_len, bA_size, ba_size_mk, ByteArray.size_append, List.size_toArray, List.length_map, List.length_cons, List.length_nil, Bool.and_eq_true, Bool.or_eq_true, Bool.and_eq_false_iff, Bool.or_eq_false_iff, not_true_eq_false, not_false_eq_true, and_self, and_true, true_and, and_false, false_and] at hc) <;> (try (exfalso; omega)) <;> (try exact (by first | (simp only [and_true, true_and]; done) | (simp only [and_true, true_and, bys_len, ints_len, byss_len, canon_strs, canon_u32s, canon_u64s, strs_len, u32s_len, u64s_len, bA_size, ba_size_mk, ByteArray.size_append, List.size_toArray, List.length_map, List.length_cons, List.length_nil, canon_bys, canon_ints, canon_byss, Int.toNat_natCast, List.length_append, List.length_cons, List.length_nil, List.length_replicate, List.length_take, List.length_drop, List.length_set, List.length_reverse, fits_sD, fits_str, fits_int, fits_bool, fits_sl, fits_agg]; omega)))))) | ((with_reducible show HeadT _ _ _ _ _ _ _ _ _ _); (first | refine head_end ?_ | refine head_goP ty_ok rfl rfl (by first | (simp only [and_true, true_and]; done) | (simp only [and_true, true_and, bys_len, ints_len, byss_len, canon_strs, canon_u32s, canon_u64s, strs_len, u32s_len, u64s_len, bA_size, ba_size_mk, ByteArray.size_append, List.size_toArray, List.length_map, List.length_cons, List.length_nil, canon_bys, canon_ints, canon_byss, Int.toNat_natCast, List.length_append, List.length_cons, List.length_nil, List.length_replicate, List.length_take, List.length_drop, List.length_set, List.length_reverse, fits_sD, fits_str, fits_int, fits_bool, fits_sl, fits_agg]; omega)) ?_ | refine head_gate ty_ok rfl rfl rfl (by first | (simp only [and_true, true_and]; done) | (simp only [and_true, true_and, bys_len, ints_len, byss_len, canon_strs, canon_u32s, canon_u64s, strs_len, u32s_len, u64s_len, bA_size, ba_size_mk, ByteArray.size_append, List.size_toArray, List.length_map, List.length_cons, List.length_nil, canon_bys, canon_ints, canon_byss, Int.toNat_natCast, List.length_append, List.length_cons, List.length_nil, List.length_replicate, List.length_take, List.length_drop, List.length_set, List.length_reverse, fits_sD, fits_str, fits_int, fits_bool, fits_sl, fits_agg]; omega)) ?_ | ((fail_if_success (refine head_known rfl ?_)); (refine head_split ty_ok rfl rfl rfl rfl (fun hc => ⟨?_, ?_⟩) (fun hc => ⟨?_, ?_⟩)) <;> (try simp only [decide_eq_true_eq, decide_eq_false_iff_not, Bool.not_eq_true', Bool.not_eq_false', Bool.not_eq_true, Bool.not_eq_false, Bool.not_true, Bool.not_false, beq_iff_eq, beq_eq_false_iff_ne, bne_iff_ne, bne_eq_false_iff_eq, ne_eq, Decidable.not_not, gt_iff_lt, ge_iff_le, Int.not_lt, Int.not_le, Bool.true_eq_false, Bool.false_eq_true, reduceCtorEq, bys_len, ints_len, byss_len, canon_strs, canon_u32s, canon_u64s, strs_len, u32s_len, u64s_len, bA_size, ba_size_mk, ByteArray.size_append, List.size_toArray, List.length_map, List.length_cons, List.length_nil, Bool.and_eq_true, Bool.or_eq_true, Bool.and_eq_false_iff, Bool.or_eq_false_iff, not_true_eq_false, not_false_eq_true, and_self, and_true, true_and, and_false, false_and] at hc) <;> (try (exfalso; omega)) <;> (try exact (by first | (simp only [and_true, true_and]; done) | (simp only [and_true, true_and, bys_len, ints_len, byss_len, canon_strs, canon_u32s, canon_u64s, strs_len, u32s_len, u64s_len, bA_size, ba_size_mk, ByteArray.size_append, List.size_toArray, List.length_map, List.length_cons, List.length_nil, canon_bys, canon_ints, canon_byss, Int.toNat_natCast, List.length_append, List.length_cons, List.length_nil, List.length_replicate, List.length_take, List.length_drop, List.length_set, List.length_reverse, fits_sD, fits_str, fits_int, fits_bool, fits_sl, fits_agg]; omega)))))) | ((fail_if_success (with_reducible show AWp _ _ _ _ _)); (fail_if_success (with_reducible show AOps _ _ _ _ _ _)); (fail_if_success (with_reducible show HeadT _ _ _ _ _ _ _ _ _ _)); (first | (show AWp _ _ _ _ _) | (show AOps _ _ _ _ _ _))))
    simp only [encL, List.take_length]
end Go.Proofs.YtaenfbgamkieiaaDoor
