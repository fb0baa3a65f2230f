/- At of the reference, members of sets, walked by the abstract machine. -/
import Derived.Test.YtaenfbgamkieiaaF4
namespace Go.Proofs.Ytaenfbgamkieiaa
open Go.Am
set_option linter.unusedSimpArgs false
set_option linter.unusedVariables false

theorem isMembers : IsFn Try.prog 25 Try.f25 := ⟨Try.func25, by decide, rfl⟩
theorem c_members (Γ : Env) (n : Int) (hn : n ≤ 9223372036854775807) : ACalls Try.prog Γ 25 [.int .i64 n] (fun r => r = .own none 3 (ints (memI n))) := by
  refine acalls_of ty_ok isMembers rfl rfl ?_
  repeat (first | refine awp_reg ty_ok rfl (by first | (simp only [and_true, true_and]; done) | (simp only [and_true, true_and, bys_len, ints_len, natI_len, byss_len, canon_bys, canon_ints, canon_byss, Int.toNat_natCast, List.length_append, List.length_cons, List.length_nil, List.length_replicate]; omega)) ?_ | refine awp_seq ?_ | refine awp_all ty_ok rfl (by first | (simp only [and_true, true_and]; done) | (simp only [and_true, true_and, bys_len, ints_len, natI_len, byss_len, canon_bys, canon_ints, canon_byss, Int.toNat_natCast, List.length_append, List.length_cons, List.length_nil, List.length_replicate]; omega)) ?_ | refine awp_block ?_ | refine awp_skip ?_ | refine awp_exit ?_)
  refine awp_cond (ty := ty) rfl (fun hc => ?_) (fun hc => ?_)
  · repeat (first | refine awp_reg ty_ok rfl (by first | (simp only [and_true, true_and]; done) | (simp only [and_true, true_and, bys_len, ints_len, natI_len, byss_len, canon_bys, canon_ints, canon_byss, Int.toNat_natCast, List.length_append, List.length_cons, List.length_nil, List.length_replicate]; omega)) ?_ | refine awp_seq ?_ | refine awp_all ty_ok rfl (by first | (simp only [and_true, true_and]; done) | (simp only [and_true, true_and, bys_len, ints_len, natI_len, byss_len, canon_bys, canon_ints, canon_byss, Int.toNat_natCast, List.length_append, List.length_cons, List.length_nil, List.length_replicate]; omega)) ?_ | refine awp_block ?_ | refine awp_skip ?_ | refine awp_exit ?_)
    refine awp_nilrow 2 3 rfl ?_
    refine awp_ret ⟨_, _, rfl, rfl, ?_⟩
    have : n.toNat = 0 := by simp at hc; omega
    rw [memI, this, memF_zero]
    rfl
  have h0 : 0 ≤ n := by simpa using hc
  obtain ⟨N, rfl⟩ := Int.eq_ofNat_of_zero_le h0
  repeat (first | refine awp_reg ty_ok rfl (by first | (simp only [and_true, true_and]; done) | (simp only [and_true, true_and, bys_len, ints_len, natI_len, byss_len, canon_bys, canon_ints, canon_byss, Int.toNat_natCast, List.length_append, List.length_cons, List.length_nil, List.length_replicate]; omega)) ?_ | refine awp_seq ?_ | refine awp_all ty_ok rfl (by first | (simp only [and_true, true_and]; done) | (simp only [and_true, true_and, bys_len, ints_len, natI_len, byss_len, canon_bys, canon_ints, canon_byss, Int.toNat_natCast, List.length_append, List.length_cons, List.length_nil, List.length_replicate]; omega)) ?_ | refine awp_block ?_ | refine awp_skip ?_ | refine awp_exit ?_)
  refine awp_nilrow 3 3 rfl ?_
  refine awp_loopR (G := { k : Nat // k ≤ 63 }) (fun k => ⟨Try.f25.ntmps, [(0, .d (.int .i64 N)), (3, .ref 0), (4, .d (.int .i64 k.1))], [(0, .row none 3 (ints (natI (memTo N k.1))))], 1⟩) (fun k => 63 - k.1) ⟨0, Nat.zero_le _⟩ [(0, 0)]
    (SubR.mk' rfl rfl ⟨⟨_, rfl, rfl⟩, ⟨_, rfl, rfl⟩, ⟨_, rfl, rfl⟩, trivial⟩ ⟨⟨_, _, rfl, rfl, rfl⟩, trivial⟩) ?_
  rintro ⟨k, hk⟩
  repeat (first | refine awp_reg ty_ok rfl (by first | (simp only [and_true, true_and]; done) | (simp only [and_true, true_and, bys_len, ints_len, natI_len, byss_len, canon_bys, canon_ints, canon_byss, Int.toNat_natCast, List.length_append, List.length_cons, List.length_nil, List.length_replicate]; omega)) ?_ | refine awp_seq ?_ | refine awp_all ty_ok rfl (by first | (simp only [and_true, true_and]; done) | (simp only [and_true, true_and, bys_len, ints_len, natI_len, byss_len, canon_bys, canon_ints, canon_byss, Int.toNat_natCast, List.length_append, List.length_cons, List.length_nil, List.length_replicate]; omega)) ?_ | refine awp_block ?_ | refine awp_skip ?_ | refine awp_exit ?_)
  refine awp_cond (ty := ty) rfl (fun hc => ?_) (fun hc => ?_)
  · have h1 : N / 2 ^ k ≠ 0 := by
      rw [shr_i64 N k (by omega)] at hc
      simp only [bne_iff_ne, ne_eq] at hc
      intro h
      rw [h] at hc
      exact hc rfl
    have h2 : 2 ^ k ≤ N := by
      have h9 := (Nat.le_div_iff_mul_le (Nat.two_pow_pos k)).1 (Nat.pos_of_ne_zero h1)
      simpa using h9
    have h3 : k < 63 := by
      rcases Nat.lt_or_ge k 63 with h | h
      · exact h
      · have := Nat.pow_le_pow_right (show 0 < 2 by omega) h
        omega
    have hlen := memTo_len N k
    repeat (first | refine awp_reg ty_ok rfl (by first | (simp only [and_true, true_and]; done) | (simp only [and_true, true_and, bys_len, ints_len, natI_len, byss_len, canon_bys, canon_ints, canon_byss, Int.toNat_natCast, List.length_append, List.length_cons, List.length_nil, List.length_replicate]; omega)) ?_ | refine awp_seq ?_ | refine awp_all ty_ok rfl (by first | (simp only [and_true, true_and]; done) | (simp only [and_true, true_and, bys_len, ints_len, natI_len, byss_len, canon_bys, canon_ints, canon_byss, Int.toNat_natCast, List.length_append, List.length_cons, List.length_nil, List.length_replicate]; omega)) ?_ | refine awp_block ?_ | refine awp_skip ?_ | refine awp_exit ?_)
    refine awp_cond (ty := ty) rfl (fun hc => ?_) (fun hc => ?_)
    · rw [bit_i64 N k (by omega) (by omega)] at hc
      repeat (first | refine awp_reg ty_ok rfl (by first | (simp only [and_true, true_and]; done) | (simp only [and_true, true_and, bys_len, ints_len, natI_len, byss_len, canon_bys, canon_ints, canon_byss, Int.toNat_natCast, List.length_append, List.length_cons, List.length_nil, List.length_replicate]; omega)) ?_ | refine awp_seq ?_ | refine awp_all ty_ok rfl (by first | (simp only [and_true, true_and]; done) | (simp only [and_true, true_and, bys_len, ints_len, natI_len, byss_len, canon_bys, canon_ints, canon_byss, Int.toNat_natCast, List.length_append, List.length_cons, List.length_nil, List.length_replicate]; omega)) ?_ | refine awp_block ?_ | refine awp_skip ?_ | refine awp_exit ?_)
      refine ⟨⟨k + 1, h3⟩, [(2, 0)], SubR.mk' rfl rfl ⟨⟨_, rfl, rfl⟩, ⟨_, rfl, rfl⟩, ⟨_, rfl, rfl⟩, trivial⟩ ⟨⟨_, _, rfl, rfl, congrArg (AO.row none 3) (by rw [memTo_succ, hc, natI_app, ints_app]; rfl)⟩, trivial⟩, by simp only; omega⟩
    · rw [bit_i64 N k (by omega) (by omega)] at hc
      repeat (first | refine awp_reg ty_ok rfl (by first | (simp only [and_true, true_and]; done) | (simp only [and_true, true_and, bys_len, ints_len, natI_len, byss_len, canon_bys, canon_ints, canon_byss, Int.toNat_natCast, List.length_append, List.length_cons, List.length_nil, List.length_replicate]; omega)) ?_ | refine awp_seq ?_ | refine awp_all ty_ok rfl (by first | (simp only [and_true, true_and]; done) | (simp only [and_true, true_and, bys_len, ints_len, natI_len, byss_len, canon_bys, canon_ints, canon_byss, Int.toNat_natCast, List.length_append, List.length_cons, List.length_nil, List.length_replicate]; omega)) ?_ | refine awp_block ?_ | refine awp_skip ?_ | refine awp_exit ?_)
      refine ⟨⟨k + 1, h3⟩, [(0, 0)], SubR.mk' rfl rfl ⟨⟨_, rfl, rfl⟩, ⟨_, rfl, rfl⟩, ⟨_, rfl, rfl⟩, trivial⟩ ⟨⟨_, _, rfl, rfl, congrArg (fun l => AO.row none 3 (ints (natI l))) (by rw [memTo_succ, hc]; simp)⟩, trivial⟩, by simp only; omega⟩
  · have h1 : N / 2 ^ k = 0 := by
      rw [shr_i64 N k (by omega)] at hc
      simp only [bne_eq_false_iff_eq] at hc
      exact Int.ofNat.inj hc
    have h2 : N < 2 ^ k := by
      rcases Nat.lt_or_ge N (2 ^ k) with h | h
      · exact h
      · have := Nat.div_pos h (Nat.two_pow_pos k)
        omega
    repeat (first | refine awp_reg ty_ok rfl (by first | (simp only [and_true, true_and]; done) | (simp only [and_true, true_and, bys_len, ints_len, natI_len, byss_len, canon_bys, canon_ints, canon_byss, Int.toNat_natCast, List.length_append, List.length_cons, List.length_nil, List.length_replicate]; omega)) ?_ | refine awp_seq ?_ | refine awp_all ty_ok rfl (by first | (simp only [and_true, true_and]; done) | (simp only [and_true, true_and, bys_len, ints_len, natI_len, byss_len, canon_bys, canon_ints, canon_byss, Int.toNat_natCast, List.length_append, List.length_cons, List.length_nil, List.length_replicate]; omega)) ?_ | refine awp_block ?_ | refine awp_skip ?_ | refine awp_exit ?_)
    refine awp_ret ⟨_, _, rfl, rfl, ?_⟩
    simp only [memI, Int.toNat_natCast, memTo_stop N k h2 (by omega)]

theorem isRMembers : IsFn Try.prog 27 Try.f27 := ⟨Try.func27, by decide, rfl⟩
theorem c_rmembers (Γ : Env) (n : Int) (hn : n ≤ 9223372036854775807) : ACalls Try.prog Γ 27 [.int .i64 n] (fun r => r = .own none 3 (ints (memI n))) := by
  refine acalls_of ty_ok isRMembers rfl rfl ?_
  repeat (first | refine awp_reg ty_ok rfl (by first | (simp only [and_true, true_and]; done) | (simp only [and_true, true_and, bys_len, ints_len, natI_len, byss_len, canon_bys, canon_ints, canon_byss, Int.toNat_natCast, List.length_append, List.length_cons, List.length_nil, List.length_replicate]; omega)) ?_ | refine awp_seq ?_ | refine awp_all ty_ok rfl (by first | (simp only [and_true, true_and]; done) | (simp only [and_true, true_and, bys_len, ints_len, natI_len, byss_len, canon_bys, canon_ints, canon_byss, Int.toNat_natCast, List.length_append, List.length_cons, List.length_nil, List.length_replicate]; omega)) ?_ | refine awp_block ?_ | refine awp_skip ?_ | refine awp_exit ?_)
  refine awp_nilrow 3 3 rfl ?_
  by_cases h0 : n < 0
  · refine awp_loopR (G := Unit) (fun k => ⟨Try.f27.ntmps, [(0, .d (.int .i64 n)), (3, .ref 0), (4, .d (.int .i64 0))], [(0, .row none 3 [])], 1⟩) (fun k => 0) () [(0, 0)]
      (SubR.mk' rfl rfl ⟨⟨_, rfl, rfl⟩, ⟨_, rfl, rfl⟩, ⟨_, rfl, rfl⟩, trivial⟩ ⟨⟨_, _, rfl, rfl, rfl⟩, trivial⟩) ?_
    rintro ⟨⟩
    repeat (first | refine awp_reg ty_ok rfl (by first | (simp only [and_true, true_and]; done) | (simp only [and_true, true_and, bys_len, ints_len, natI_len, byss_len, canon_bys, canon_ints, canon_byss, Int.toNat_natCast, List.length_append, List.length_cons, List.length_nil, List.length_replicate]; omega)) ?_ | refine awp_seq ?_ | refine awp_all ty_ok rfl (by first | (simp only [and_true, true_and]; done) | (simp only [and_true, true_and, bys_len, ints_len, natI_len, byss_len, canon_bys, canon_ints, canon_byss, Int.toNat_natCast, List.length_append, List.length_cons, List.length_nil, List.length_replicate]; omega)) ?_ | refine awp_block ?_ | refine awp_skip ?_ | refine awp_exit ?_)
    refine awp_cond (ty := ty) rfl (fun hc => ?_) (fun hc => ?_)
    · exfalso
      simp at hc
      omega
    repeat (first | refine awp_reg ty_ok rfl (by first | (simp only [and_true, true_and]; done) | (simp only [and_true, true_and, bys_len, ints_len, natI_len, byss_len, canon_bys, canon_ints, canon_byss, Int.toNat_natCast, List.length_append, List.length_cons, List.length_nil, List.length_replicate]; omega)) ?_ | refine awp_seq ?_ | refine awp_all ty_ok rfl (by first | (simp only [and_true, true_and]; done) | (simp only [and_true, true_and, bys_len, ints_len, natI_len, byss_len, canon_bys, canon_ints, canon_byss, Int.toNat_natCast, List.length_append, List.length_cons, List.length_nil, List.length_replicate]; omega)) ?_ | refine awp_block ?_ | refine awp_skip ?_ | refine awp_exit ?_)
    refine awp_ret ⟨_, _, rfl, rfl, ?_⟩
    have : n.toNat = 0 := by omega
    rw [memI, this, memF_zero]
    rfl
  have h0 : 0 ≤ n := by omega
  obtain ⟨N, rfl⟩ := Int.eq_ofNat_of_zero_le h0
  refine awp_loopR (G := { k : Nat // k ≤ 63 }) (fun k => ⟨Try.f27.ntmps, [(0, .d (.int .i64 ((N / 2 ^ k.1 : Nat) : Int))), (3, .ref 0), (4, .d (.int .i64 k.1))], [(0, .row none 3 (ints (natI (memTo N k.1))))], 1⟩) (fun k => 63 - k.1) ⟨0, Nat.zero_le _⟩ [(0, 0)]
    (SubR.mk' rfl rfl ⟨⟨_, rfl, congrArg (fun z : Nat => AV.d (Dat.int IntKind.i64 z)) (by simp)⟩, ⟨_, rfl, rfl⟩, ⟨_, rfl, rfl⟩, trivial⟩ ⟨⟨_, _, rfl, rfl, rfl⟩, trivial⟩) ?_
  rintro ⟨k, hk⟩
  repeat (first | refine awp_reg ty_ok rfl (by first | (simp only [and_true, true_and]; done) | (simp only [and_true, true_and, bys_len, ints_len, natI_len, byss_len, canon_bys, canon_ints, canon_byss, Int.toNat_natCast, List.length_append, List.length_cons, List.length_nil, List.length_replicate]; omega)) ?_ | refine awp_seq ?_ | refine awp_all ty_ok rfl (by first | (simp only [and_true, true_and]; done) | (simp only [and_true, true_and, bys_len, ints_len, natI_len, byss_len, canon_bys, canon_ints, canon_byss, Int.toNat_natCast, List.length_append, List.length_cons, List.length_nil, List.length_replicate]; omega)) ?_ | refine awp_block ?_ | refine awp_skip ?_ | refine awp_exit ?_)
  obtain ⟨D, hD⟩ : ∃ D, D = N / 2 ^ k := ⟨_, rfl⟩
  have hDN : D ≤ N := by rw [hD]; exact Nat.div_le_self _ _
  have hbit : N.testBit k = decide (D % 2 = 1) := by rw [hD, Nat.testBit_eq_decide_div_mod_eq]
  have hD2 : N / 2 ^ (k + 1) = D / 2 := by rw [Nat.pow_succ, ← Nat.div_div_eq_div_mul, hD]
  simp only [← hD]
  refine awp_cond (ty := ty) rfl (fun hc => ?_) (fun hc => ?_)
  · have h1 : 0 < D := by simpa using hc
    have h2 : 2 ^ k ≤ N := by
      have h9 := (Nat.le_div_iff_mul_le (Nat.two_pow_pos k)).1 (show 0 < N / 2 ^ k by rw [← hD]; exact h1)
      simpa using h9
    have h3 : k < 63 := by
      rcases Nat.lt_or_ge k 63 with h | h
      · exact h
      · have := Nat.pow_le_pow_right (show 0 < 2 by omega) h
        omega
    have hlen := memTo_len N k
    have hq : IntKind.i64.wrap (Int.tdiv (D : Int) 2) = ((N / 2 ^ (k + 1) : Nat) : Int) := by
      rw [hD2, Int.tdiv_eq_ediv_of_nonneg (by omega), IntKind.wrap_i64]
      omega
    have hm : Int.tmod (D : Int) 2 = ((D % 2 : Nat) : Int) := rfl
    repeat (first | refine awp_reg ty_ok rfl (by first | (simp only [and_true, true_and]; done) | (simp only [and_true, true_and, bys_len, ints_len, natI_len, byss_len, canon_bys, canon_ints, canon_byss, Int.toNat_natCast, List.length_append, List.length_cons, List.length_nil, List.length_replicate]; omega)) ?_ | refine awp_seq ?_ | refine awp_all ty_ok rfl (by first | (simp only [and_true, true_and]; done) | (simp only [and_true, true_and, bys_len, ints_len, natI_len, byss_len, canon_bys, canon_ints, canon_byss, Int.toNat_natCast, List.length_append, List.length_cons, List.length_nil, List.length_replicate]; omega)) ?_ | refine awp_block ?_ | refine awp_skip ?_ | refine awp_exit ?_)
    refine awp_cond (ty := ty) rfl (fun hc => ?_) (fun hc => ?_)
    · have hb : N.testBit k = true := by
        rw [hm] at hc
        simp at hc
        rw [hbit]
        simp
        omega
      repeat (first | refine awp_reg ty_ok rfl (by first | (simp only [and_true, true_and]; done) | (simp only [and_true, true_and, bys_len, ints_len, natI_len, byss_len, canon_bys, canon_ints, canon_byss, Int.toNat_natCast, List.length_append, List.length_cons, List.length_nil, List.length_replicate]; omega)) ?_ | refine awp_seq ?_ | refine awp_all ty_ok rfl (by first | (simp only [and_true, true_and]; done) | (simp only [and_true, true_and, bys_len, ints_len, natI_len, byss_len, canon_bys, canon_ints, canon_byss, Int.toNat_natCast, List.length_append, List.length_cons, List.length_nil, List.length_replicate]; omega)) ?_ | refine awp_block ?_ | refine awp_skip ?_ | refine awp_exit ?_)
      refine ⟨⟨k + 1, h3⟩, [(2, 0)], SubR.mk' rfl rfl ⟨⟨_, rfl, congrArg (fun z : Int => AV.d (Dat.int IntKind.i64 z)) hq⟩, ⟨_, rfl, rfl⟩, ⟨_, rfl, rfl⟩, trivial⟩ ⟨⟨_, _, rfl, rfl, congrArg (AO.row none 3) (by rw [memTo_succ, hb, natI_app, ints_app]; rfl)⟩, trivial⟩, by simp only; omega⟩
    · have hb : N.testBit k = false := by
        rw [hm] at hc
        simp at hc
        rw [hbit]
        simp
        omega
      repeat (first | refine awp_reg ty_ok rfl (by first | (simp only [and_true, true_and]; done) | (simp only [and_true, true_and, bys_len, ints_len, natI_len, byss_len, canon_bys, canon_ints, canon_byss, Int.toNat_natCast, List.length_append, List.length_cons, List.length_nil, List.length_replicate]; omega)) ?_ | refine awp_seq ?_ | refine awp_all ty_ok rfl (by first | (simp only [and_true, true_and]; done) | (simp only [and_true, true_and, bys_len, ints_len, natI_len, byss_len, canon_bys, canon_ints, canon_byss, Int.toNat_natCast, List.length_append, List.length_cons, List.length_nil, List.length_replicate]; omega)) ?_ | refine awp_block ?_ | refine awp_skip ?_ | refine awp_exit ?_)
      refine ⟨⟨k + 1, h3⟩, [(0, 0)], SubR.mk' rfl rfl ⟨⟨_, rfl, congrArg (fun z : Int => AV.d (Dat.int IntKind.i64 z)) hq⟩, ⟨_, rfl, rfl⟩, ⟨_, rfl, rfl⟩, trivial⟩ ⟨⟨_, _, rfl, rfl, congrArg (fun l => AO.row none 3 (ints (natI l))) (by rw [memTo_succ, hb]; simp)⟩, trivial⟩, by simp only; omega⟩
  · have h1 : D = 0 := by
      simp at hc
      omega
    have h2 : N < 2 ^ k := by
      rcases Nat.lt_or_ge N (2 ^ k) with h | h
      · exact h
      · have := Nat.div_pos h (Nat.two_pow_pos k)
        omega
    repeat (first | refine awp_reg ty_ok rfl (by first | (simp only [and_true, true_and]; done) | (simp only [and_true, true_and, bys_len, ints_len, natI_len, byss_len, canon_bys, canon_ints, canon_byss, Int.toNat_natCast, List.length_append, List.length_cons, List.length_nil, List.length_replicate]; omega)) ?_ | refine awp_seq ?_ | refine awp_all ty_ok rfl (by first | (simp only [and_true, true_and]; done) | (simp only [and_true, true_and, bys_len, ints_len, natI_len, byss_len, canon_bys, canon_ints, canon_byss, Int.toNat_natCast, List.length_append, List.length_cons, List.length_nil, List.length_replicate]; omega)) ?_ | refine awp_block ?_ | refine awp_skip ?_ | refine awp_exit ?_)
    refine awp_ret ⟨_, _, rfl, rfl, ?_⟩
    simp only [memI, Int.toNat_natCast, memTo_stop N k h2 (by omega)]
end Go.Proofs.Ytaenfbgamkieiaa
