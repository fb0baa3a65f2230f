/- EncodeNamed of the reference, walked by the abstract machine. -/
import Derived.Test.YtaenfbgamkieiaaF7
namespace Go.Proofs.Ytaenfbgamkieiaa
open Go.Am
set_option linter.unusedSimpArgs false
set_option linter.unusedVariables false

theorem isREncodeNamed : IsFn Try.prog 23 Try.f23 := ⟨Try.func23, by decide, rfl⟩
theorem c_rencn (Γ : Env) (n k : Int) (hn : n ≤ 9223372036854775807) : ACalls Try.prog Γ 23 [.int .i64 n, .int .i64 k] (encNR n k) := by
  refine acalls_of ty_ok isREncodeNamed rfl rfl ?_
  repeat (first | refine awp_reg ty_ok rfl (by first | (simp only [and_true, true_and]; done) | (simp only [and_true, true_and, bys_len, ints_len, natI_len, byss_len, canon_bys, canon_ints, canon_byss, Int.toNat_natCast, List.length_append, List.length_cons, List.length_nil, List.length_replicate]; omega)) ?_ | refine awp_seq ?_ | refine awp_all ty_ok rfl (by first | (simp only [and_true, true_and]; done) | (simp only [and_true, true_and, bys_len, ints_len, natI_len, byss_len, canon_bys, canon_ints, canon_byss, Int.toNat_natCast, List.length_append, List.length_cons, List.length_nil, List.length_replicate]; omega)) ?_ | refine awp_block ?_ | refine awp_skip ?_ | refine awp_exit ?_)
  refine awp_mono (Q := fun e σ => e = .normal ∧ Sub σ ⟨Try.f23.ntmps, [(0, .d (.int .i64 n)), (1, .d (.int .i64 k)), (20, .d (.bool (decide (k < 1 ∨ k > 32 ∨ n < 0))))], [], 0⟩) ?_ ?_
  · refine awp_run ty_ok rfl (by first | (simp only [and_true, true_and]; done) | (simp only [and_true, true_and, bys_len, ints_len, natI_len, byss_len, canon_bys, canon_ints, canon_byss, Int.toNat_natCast, List.length_append, List.length_cons, List.length_nil, List.length_replicate]; omega)) ?_
    by_cases h1 : k < 1
    · simp only [h1, decide_true]
      refine aops_run ty_ok [2, 6] rfl (by first | (simp only [and_true, true_and]; done) | (simp only [and_true, true_and, bys_len, ints_len, natI_len, byss_len, canon_bys, canon_ints, canon_byss, Int.toNat_natCast, List.length_append, List.length_cons, List.length_nil, List.length_replicate]; omega)) ?_
      refine aops_nil ?_
      exact ⟨rfl, Sub.mk' rfl rfl ⟨rfl, rfl, by simp; rfl, trivial⟩ trivial⟩
    · simp only [h1, decide_false]
      refine aops_run ty_ok [2] rfl (by first | (simp only [and_true, true_and]; done) | (simp only [and_true, true_and, bys_len, ints_len, natI_len, byss_len, canon_bys, canon_ints, canon_byss, Int.toNat_natCast, List.length_append, List.length_cons, List.length_nil, List.length_replicate]; omega)) ?_
      by_cases h2 : k > 32
      · simp only [h2, decide_true]
        refine aops_run ty_ok [2, 6] rfl (by first | (simp only [and_true, true_and]; done) | (simp only [and_true, true_and, bys_len, ints_len, natI_len, byss_len, canon_bys, canon_ints, canon_byss, Int.toNat_natCast, List.length_append, List.length_cons, List.length_nil, List.length_replicate]; omega)) ?_
        refine aops_nil ?_
        exact ⟨rfl, Sub.mk' rfl rfl ⟨rfl, rfl, by simp [h2]; rfl, trivial⟩ trivial⟩
      · simp only [h2, decide_false]
        refine aops_run ty_ok [2, 6] rfl (by first | (simp only [and_true, true_and]; done) | (simp only [and_true, true_and, bys_len, ints_len, natI_len, byss_len, canon_bys, canon_ints, canon_byss, Int.toNat_natCast, List.length_append, List.length_cons, List.length_nil, List.length_replicate]; omega)) ?_
        refine aops_nil ?_
        exact ⟨rfl, Sub.mk' rfl rfl ⟨rfl, rfl, by simp [h1, h2]; rfl, trivial⟩ trivial⟩
  rintro _ σ ⟨rfl, hs⟩
  refine awp_sub hs ?_
  refine awp_cond (ty := ty) rfl (fun hc => ?_) (fun hc => ?_)
  · have hbf : badF n k = true := by
      simp at hc
      simp [badF]
      omega
    repeat (first | refine awp_reg ty_ok rfl (by first | (simp only [and_true, true_and]; done) | (simp only [and_true, true_and, bys_len, ints_len, natI_len, byss_len, canon_bys, canon_ints, canon_byss, Int.toNat_natCast, List.length_append, List.length_cons, List.length_nil, List.length_replicate]; omega)) ?_ | refine awp_seq ?_ | refine awp_all ty_ok rfl (by first | (simp only [and_true, true_and]; done) | (simp only [and_true, true_and, bys_len, ints_len, natI_len, byss_len, canon_bys, canon_ints, canon_byss, Int.toNat_natCast, List.length_append, List.length_cons, List.length_nil, List.length_replicate]; omega)) ?_ | refine awp_block ?_ | refine awp_skip ?_ | refine awp_exit ?_)
    refine awp_ret ⟨_, _, rfl, rfl, ?_⟩
    exact ⟨fun _ => rfl, fun h => (by rw [hbf] at h; cases h), fun h => (by rw [hbf] at h; cases h)⟩
  simp at hc
  obtain ⟨h1, h2, h3⟩ := hc
  obtain ⟨N, rfl⟩ := Int.eq_ofNat_of_zero_le h3
  obtain ⟨K, rfl⟩ := Int.eq_ofNat_of_zero_le (show 0 ≤ k by omega)
  repeat (first | refine awp_reg ty_ok rfl (by first | (simp only [and_true, true_and]; done) | (simp only [and_true, true_and, bys_len, ints_len, natI_len, byss_len, canon_bys, canon_ints, canon_byss, Int.toNat_natCast, List.length_append, List.length_cons, List.length_nil, List.length_replicate]; omega)) ?_ | refine awp_seq ?_ | refine awp_all ty_ok rfl (by first | (simp only [and_true, true_and]; done) | (simp only [and_true, true_and, bys_len, ints_len, natI_len, byss_len, canon_bys, canon_ints, canon_byss, Int.toNat_natCast, List.length_append, List.length_cons, List.length_nil, List.length_replicate]; omega)) ?_ | refine awp_block ?_ | refine awp_skip ?_ | refine awp_exit ?_)
  refine awp_run ty_ok rfl (by first | (simp only [and_true, true_and]; done) | (simp only [and_true, true_and, bys_len, ints_len, natI_len, byss_len, canon_bys, canon_ints, canon_byss, Int.toNat_natCast, List.length_append, List.length_cons, List.length_nil, List.length_replicate]; omega)) ?_
  refine aops_call (ty := ty) rfl rfl rfl rfl rfl rfl rfl (c_rmembers _ N hn) (fun r hr => ?_)
  subst hr
  refine aops_run ty_ok [] rfl (by first | (simp only [and_true, true_and]; done) | (simp only [and_true, true_and, bys_len, ints_len, natI_len, byss_len, canon_bys, canon_ints, canon_byss, Int.toNat_natCast, List.length_append, List.length_cons, List.length_nil, List.length_replicate]; omega)) ?_
  refine aops_nil ?_
  repeat (first | refine awp_reg ty_ok rfl (by first | (simp only [and_true, true_and]; done) | (simp only [and_true, true_and, bys_len, ints_len, natI_len, byss_len, canon_bys, canon_ints, canon_byss, Int.toNat_natCast, List.length_append, List.length_cons, List.length_nil, List.length_replicate]; omega)) ?_ | refine awp_seq ?_ | refine awp_all ty_ok rfl (by first | (simp only [and_true, true_and]; done) | (simp only [and_true, true_and, bys_len, ints_len, natI_len, byss_len, canon_bys, canon_ints, canon_byss, Int.toNat_natCast, List.length_append, List.length_cons, List.length_nil, List.length_replicate]; omega)) ?_ | refine awp_block ?_ | refine awp_skip ?_ | refine awp_exit ?_)
  have hmi : memI (N : Int) = natI (memF N) := by simp only [memI, Int.toNat_natCast]
  simp only [hmi]
  rcases List.eq_nil_or_concat (memF N) with he | ⟨q, m, he⟩
  · simp only [he]
    refine awp_cond (ty := ty) rfl (fun hc => ?_) (fun hc => ?_)
    · repeat (first | refine awp_reg ty_ok rfl (by first | (simp only [and_true, true_and]; done) | (simp only [and_true, true_and, bys_len, ints_len, natI_len, byss_len, canon_bys, canon_ints, canon_byss, Int.toNat_natCast, List.length_append, List.length_cons, List.length_nil, List.length_replicate]; omega)) ?_ | refine awp_seq ?_ | refine awp_all ty_ok rfl (by first | (simp only [and_true, true_and]; done) | (simp only [and_true, true_and, bys_len, ints_len, natI_len, byss_len, canon_bys, canon_ints, canon_byss, Int.toNat_natCast, List.length_append, List.length_cons, List.length_nil, List.length_replicate]; omega)) ?_ | refine awp_block ?_ | refine awp_skip ?_ | refine awp_exit ?_)
      refine awp_ret ⟨_, _, rfl, rfl, ?_⟩
      have hN0 := memF_nil (by omega) he
      have hbf : badF (N : Int) (K : Int) = false := by
        subst hN0
        have := Nat.two_pow_pos K
        simp [badF]
        omega
      exact ⟨fun h => (by rw [hbf] at h; cases h), fun _ _ => rfl, fun _ q m h => (by rw [Int.toNat_natCast, he] at h; simp at h)⟩
    · exfalso
      simp [natI, ints] at *
  · rw [List.concat_eq_append] at he
    simp only [he]
    have hmK := memF_lt (K := K) (by omega) he
    have hm64 : m < 64 := by
      have : m ∈ memF N := by rw [he]; simp
      have := (List.mem_filter.1 this).1
      exact List.mem_range.1 this
    have hq64 : q.length ≤ 63 := by
      have := memTo_len N 64
      have h9 : memTo N 64 = memF N := rfl
      rw [h9, he] at this
      simp at this
      omega
    refine awp_cond (ty := ty) rfl (fun hc => ?_) (fun hc => ?_)
    · exfalso
      simp [natI, ints] at *
      omega
    have hlast : ((ints (natI (q ++ [m]))).getD (((ints (natI (q ++ [m]))).length : Int) - 1).toNat default).num = (m : Int) := by
      rw [num_ints, ints_len, natI_len]
      simp [natI]
    have hq : IntKind.i64.wrap (Int.tdiv (m : Int) 8) = ((m / 8 : Nat) : Int) := by
      rw [Int.tdiv_eq_ediv_of_nonneg (by omega), IntKind.wrap_i64]
      omega
    have hm : Int.tmod (m : Int) 8 = ((m % 8 : Nat) : Int) := rfl
    repeat (first | refine awp_reg ty_ok rfl (by first | (simp only [and_true, true_and]; done) | (simp only [and_true, true_and, bys_len, ints_len, natI_len, byss_len, canon_bys, canon_ints, canon_byss, Int.toNat_natCast, List.length_append, List.length_cons, List.length_nil, List.length_replicate]; omega)) ?_ | refine awp_seq ?_ | refine awp_all ty_ok rfl (by first | (simp only [and_true, true_and]; done) | (simp only [and_true, true_and, bys_len, ints_len, natI_len, byss_len, canon_bys, canon_ints, canon_byss, Int.toNat_natCast, List.length_append, List.length_cons, List.length_nil, List.length_replicate]; omega)) ?_ | refine awp_block ?_ | refine awp_skip ?_ | refine awp_exit ?_)
    simp only [hlast]
    repeat (first | refine awp_reg ty_ok rfl (by first | (simp only [and_true, true_and]; done) | (simp only [and_true, true_and, bys_len, ints_len, natI_len, byss_len, canon_bys, canon_ints, canon_byss, Int.toNat_natCast, List.length_append, List.length_cons, List.length_nil, List.length_replicate]; omega)) ?_ | refine awp_seq ?_ | refine awp_all ty_ok rfl (by first | (simp only [and_true, true_and]; done) | (simp only [and_true, true_and, bys_len, ints_len, natI_len, byss_len, canon_bys, canon_ints, canon_byss, Int.toNat_natCast, List.length_append, List.length_cons, List.length_nil, List.length_replicate]; omega)) ?_ | refine awp_block ?_ | refine awp_skip ?_ | refine awp_exit ?_)
    refine awp_cond (ty := ty) rfl (fun hc => ?_) (fun hc => ?_)
    · have hbf : badF (N : Int) (K : Int) = true := by
        have h9 : ¬ N < 2 ^ K := fun h => (by have := hmK.2 h; simp at hc; omega)
        simp [badF]
        omega
      repeat (first | refine awp_reg ty_ok rfl (by first | (simp only [and_true, true_and]; done) | (simp only [and_true, true_and, bys_len, ints_len, natI_len, byss_len, canon_bys, canon_ints, canon_byss, Int.toNat_natCast, List.length_append, List.length_cons, List.length_nil, List.length_replicate]; omega)) ?_ | refine awp_seq ?_ | refine awp_all ty_ok rfl (by first | (simp only [and_true, true_and]; done) | (simp only [and_true, true_and, bys_len, ints_len, natI_len, byss_len, canon_bys, canon_ints, canon_byss, Int.toNat_natCast, List.length_append, List.length_cons, List.length_nil, List.length_replicate]; omega)) ?_ | refine awp_block ?_ | refine awp_skip ?_ | refine awp_exit ?_)
      refine awp_ret ⟨_, _, rfl, rfl, ?_⟩
      exact ⟨fun _ => rfl, fun h => (by rw [hbf] at h; cases h), fun h => (by rw [hbf] at h; cases h)⟩
    have hmK2 : m < K := by simp at hc; omega
    have hbf : badF (N : Int) (K : Int) = false := by
      have h9 := hmK.1 hmK2
      simp [badF]
      omega
    repeat (first | refine awp_reg ty_ok rfl (by first | (simp only [and_true, true_and]; done) | (simp only [and_true, true_and, bys_len, ints_len, natI_len, byss_len, canon_bys, canon_ints, canon_byss, Int.toNat_natCast, List.length_append, List.length_cons, List.length_nil, List.length_replicate]; omega)) ?_ | refine awp_seq ?_ | refine awp_all ty_ok rfl (by first | (simp only [and_true, true_and]; done) | (simp only [and_true, true_and, bys_len, ints_len, natI_len, byss_len, canon_bys, canon_ints, canon_byss, Int.toNat_natCast, List.length_append, List.length_cons, List.length_nil, List.length_replicate]; omega)) ?_ | refine awp_block ?_ | refine awp_skip ?_ | refine awp_exit ?_)
    simp only [hq, hm]
    refine awp_loopR (G := { j : Nat // j ≤ (q ++ [m]).length }) (fun j => ⟨Try.f23.ntmps, [(6, .ref 0), (8, .ptr 2 0), (9, .ref 3), (10, .d (.int .i64 j.1))], [(0, .row none 3 (ints (natI (q ++ [m])))), (1, .row none 5 (bys (outP ((q ++ [m]).take j.1) m).tail)), (2, .box 24 [.ref 1, .d (.int .i64 ((7 - m % 8 : Nat) : Int))]), (3, .row none 5 (bys [128, 64, 32, 16, 8, 4, 2, 1]))], 4⟩) (fun j => (q ++ [m]).length - j.1) ⟨0, Nat.zero_le _⟩ [(0, 0), (1, 1), (2, 2), (3, 3)]
      (SubR.mk' rfl rfl ⟨⟨_, rfl, rfl⟩, ⟨_, rfl, rfl⟩, ⟨_, rfl, rfl⟩, ⟨_, rfl, rfl⟩, trivial⟩ ⟨⟨_, _, rfl, rfl, rfl⟩, ⟨_, _, rfl, rfl, congrArg (AO.row none 5) ?_⟩, ⟨_, _, rfl, rfl, congrArg (fun z => AO.box 24 [.ref 1, .d (.int .i64 z)]) (by omega)⟩, ⟨_, _, rfl, rfl, rfl⟩, trivial⟩) ?_
    · rw [show (((m / 8 : Nat) : Int) + 1).toNat = m / 8 + 1 by omega]
      exact zeros_outP m
    rintro ⟨j, hj⟩
    repeat (first | refine awp_reg ty_ok rfl (by first | (simp only [and_true, true_and]; done) | (simp only [and_true, true_and, bys_len, ints_len, natI_len, byss_len, canon_bys, canon_ints, canon_byss, Int.toNat_natCast, List.length_append, List.length_cons, List.length_nil, List.length_replicate]; omega)) ?_ | refine awp_seq ?_ | refine awp_all ty_ok rfl (by first | (simp only [and_true, true_and]; done) | (simp only [and_true, true_and, bys_len, ints_len, natI_len, byss_len, canon_bys, canon_ints, canon_byss, Int.toNat_natCast, List.length_append, List.length_cons, List.length_nil, List.length_replicate]; omega)) ?_ | refine awp_block ?_ | refine awp_skip ?_ | refine awp_exit ?_)
    refine awp_cond (ty := ty) rfl (fun hc => ?_) (fun hc => ?_)
    · have hj1 : j < q.length + 1 := by simp [ints_len, natI_len] at hc; omega
      have hj2 : j < (q ++ [m]).length := by simpa using hj1
      obtain ⟨mj, hmj⟩ : ∃ mj, mj = (q ++ [m])[j] := ⟨_, rfl⟩
      have hinc : Inc (q ++ [m]) := by rw [← he]; exact memF_inc N
      have hle : mj ≤ m := by
        have h9 : mj ∈ q ++ [m] := by rw [hmj]; exact List.getElem_mem hj2
        rcases List.mem_append.1 h9 with h9 | h9
        · exact Nat.le_of_lt ((inc_snoc hinc).2 mj h9)
        · simp at h9; omega
      have htake : (q ++ [m]).take (j + 1) = (q ++ [m]).take j ++ [mj] := by rw [hmj, List.take_succ_eq_append_getElem hj2]
      have hinc2 : Inc ((q ++ [m]).take (j + 1)) := List.Pairwise.sublist (List.take_sublist _ _) hinc
      rw [htake] at hinc2
      have hel : ((ints (natI (q ++ [m]))).getD (Int.toNat (j : Int)) default).num = (mj : Int) := by
        rw [num_ints, Int.toNat_natCast, natI, List.getD_eq_getElem?_getD, List.getElem?_map, List.getElem?_eq_getElem hj2, hmj]
        rfl
      have hel2 := hel
      rw [Int.toNat_natCast] at hel2
      have hel3 : (ints (natI (q ++ [m]))).getD j default = Dat.int .i64 (mj : Int) := by
        rw [(canon_ints (natI (q ++ [m])) j).2 (by rw [natI_len]; exact hj2), hel2]
      have hqj : IntKind.i64.wrap (Int.tdiv (mj : Int) 8) = ((mj / 8 : Nat) : Int) := by
        rw [Int.tdiv_eq_ediv_of_nonneg (by omega), IntKind.wrap_i64]
        omega
      have hmm : Int.tmod (mj : Int) 8 = ((mj % 8 : Nat) : Int) := rfl
      have hlen : (outP ((q ++ [m]).take j) m).tail.length = m / 8 + 1 := by simp [outP]
      repeat (first | refine awp_reg ty_ok rfl (by first | (simp only [and_true, true_and]; done) | (simp only [and_true, true_and, bys_len, ints_len, natI_len, byss_len, canon_bys, canon_ints, canon_byss, Int.toNat_natCast, List.length_append, List.length_cons, List.length_nil, List.length_replicate]; omega)) ?_ | refine awp_seq ?_ | refine awp_all ty_ok rfl (by first | (simp only [and_true, true_and]; done) | (simp only [and_true, true_and, bys_len, ints_len, natI_len, byss_len, canon_bys, canon_ints, canon_byss, Int.toNat_natCast, List.length_append, List.length_cons, List.length_nil, List.length_replicate]; omega)) ?_ | refine awp_block ?_ | refine awp_skip ?_ | refine awp_exit ?_)
      refine awp_any 26 mixed (by kernel_rfl) ?_
      refine head_go ty_ok [] rfl ?_ ?_
      · simp only [and_true, true_and, hel, hel2, hqj, hmm, canon_ints, canon_bys, bys_len, ints_len, natI_len, hlen, Int.toNat_natCast, List.length_append, List.length_cons, List.length_nil]
        have h8 : mj / 8 ≤ m / 8 := Nat.div_le_div_right hle
        have h9 : mj % 8 < 8 := Nat.mod_lt _ (by omega)
        repeat' apply And.intro
        all_goals first | omega | exact hel3
      simp only [hel, hqj, hmm, num_bys]
      refine head_end ?_
      refine aops_run ty_ok [] rfl ?_ ?_
      · simp only [true_and, bys_len, hlen, Int.toNat_natCast]
        repeat' apply And.intro
        all_goals first | rfl | omega
      refine aops_nil ?_
      repeat (first | refine awp_reg ty_ok rfl (by first | (simp only [and_true, true_and]; done) | (simp only [and_true, true_and, bys_len, ints_len, natI_len, byss_len, canon_bys, canon_ints, canon_byss, Int.toNat_natCast, List.length_append, List.length_cons, List.length_nil, List.length_replicate]; omega)) ?_ | refine awp_seq ?_ | refine awp_all ty_ok rfl (by first | (simp only [and_true, true_and]; done) | (simp only [and_true, true_and, bys_len, ints_len, natI_len, byss_len, canon_bys, canon_ints, canon_byss, Int.toNat_natCast, List.length_append, List.length_cons, List.length_nil, List.length_replicate]; omega)) ?_ | refine awp_block ?_ | refine awp_skip ?_ | refine awp_exit ?_)
      refine ⟨⟨j + 1, hj2⟩, [(0, 0), (1, 1), (2, 2), (3, 3)], SubR.mk' rfl rfl ⟨⟨_, rfl, rfl⟩, ⟨_, rfl, rfl⟩, ⟨_, rfl, rfl⟩, ⟨_, rfl, rfl⟩, trivial⟩ ⟨⟨_, _, rfl, rfl, rfl⟩, ⟨_, _, rfl, rfl, congrArg (AO.row none 5) ?_⟩, ⟨_, _, rfl, rfl, rfl⟩, ⟨_, _, rfl, rfl, rfl⟩, trivial⟩, by simp only; omega⟩
      simp only [htake, Int.toNat_natCast]
      exact set_outR _ m mj hle hinc2
    · have hje : j = (q ++ [m]).length := by
        simp [ints_len, natI_len] at hc
        simp at hj
        simp
        omega
      subst hje
      have hinc : Inc (q ++ [m]) := by rw [← he]; exact memF_inc N
      have hv := outP_valid q m hinc
      simp only [List.take_length]
      repeat (first | refine awp_reg ty_ok rfl (by first | (simp only [and_true, true_and]; done) | (simp only [and_true, true_and, bys_len, ints_len, natI_len, byss_len, canon_bys, canon_ints, canon_byss, Int.toNat_natCast, List.length_append, List.length_cons, List.length_nil, List.length_replicate]; omega)) ?_ | refine awp_seq ?_ | refine awp_all ty_ok rfl (by first | (simp only [and_true, true_and]; done) | (simp only [and_true, true_and, bys_len, ints_len, natI_len, byss_len, canon_bys, canon_ints, canon_byss, Int.toNat_natCast, List.length_append, List.length_cons, List.length_nil, List.length_replicate]; omega)) ?_ | refine awp_block ?_ | refine awp_skip ?_ | refine awp_exit ?_)
      refine awp_run ty_ok rfl (by first | (simp only [and_true, true_and]; done) | (simp only [and_true, true_and, bys_len, ints_len, natI_len, byss_len, canon_bys, canon_ints, canon_byss, Int.toNat_natCast, List.length_append, List.length_cons, List.length_nil, List.length_replicate]; omega)) ?_
      refine aops_call (ty := ty) rfl rfl rfl rfl rfl rfl rfl (c_rencode _ (outP (q ++ [m]) m).tail ((7 - m % 8 : Nat) : Int) (by simp [outP]; omega)) (fun r hr => ?_)
      have hr1 := hr.1 hv
      subst hr1
      refine aops_run ty_ok [] rfl (by first | (simp only [and_true, true_and]; done) | (simp only [and_true, true_and, bys_len, ints_len, natI_len, byss_len, canon_bys, canon_ints, canon_byss, Int.toNat_natCast, List.length_append, List.length_cons, List.length_nil, List.length_replicate]; omega)) ?_
      refine aops_nil ?_
      refine awp_ret ⟨_, _, rfl, rfl, ?_⟩
      refine ⟨fun h => (by rw [hbf] at h; cases h), fun _ h => (by rw [Int.toNat_natCast, he] at h; simp at h), fun _ q' m' h => ?_⟩
      rw [Int.toNat_natCast, he] at h
      obtain ⟨rfl, h2⟩ := List.append_inj' h rfl
      cases h2
      rfl
end Go.Proofs.Ytaenfbgamkieiaa
