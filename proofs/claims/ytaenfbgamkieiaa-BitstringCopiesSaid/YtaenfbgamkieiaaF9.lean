/- DecodeNamed, walked by the abstract machine. -/
import Derived.Test.YtaenfbgamkieiaaF8
namespace Go.Proofs.Ytaenfbgamkieiaa
open Go.Am
set_option linter.unusedSimpArgs false
set_option linter.unusedVariables false

def bitF (x : List UInt8) (u : Int) (i : Nat) : Bool := atF x u i
/-- The set of contents octets, and the code. -/
def dnF (c : List UInt8) (k : Int) : Int × Int := match decide (k < 1 ∨ k > 32) with
  | true => (0, 9)
  | false => match decide ((decF c).2.2 ≠ 0 ∨ lenF (decF c).1 (decF c).2.1 > k ∨ (lenF (decF c).1 (decF c).2.1 > 0 ∧ atF (decF c).1 (decF c).2.1 (lenF (decF c).1 (decF c).2.1 - 1) = false)) with
    | true => (0, 6)
    | false => ((setTo (bitF (decF c).1 (decF c).2.1) (lenF (decF c).1 (decF c).2.1).toNat : Int), 0)
theorem isIn : IsFn Try.prog 31 Try.f31 := ⟨Try.func31, by decide, rfl⟩
theorem isDecodeNamed : IsFn Try.prog 24 Try.f24 := ⟨Try.func24, by decide, rfl⟩
theorem c_decn (Γ : Env) (c : List UInt8) (k : Int) (hx : c.length ≤ 1099511627) : ACalls Try.prog Γ 24 [.sl none (bys c), .int .i64 k] (fun r => r = .d (.tup [.int .i64 (dnF c k).1, .int .i64 (dnF c k).2])) := by
  refine acalls_of ty_ok isDecodeNamed rfl rfl ?_
  repeat (first | refine awp_reg ty_ok rfl (by first | (simp only [and_true, true_and]; done) | (simp only [and_true, true_and, bys_len, ints_len, byss_len, canon_bys, canon_ints, canon_byss, Int.toNat_natCast, List.length_append, List.length_cons, List.length_nil, List.length_replicate]; omega)) ?_ | refine awp_seq ?_ | refine awp_all ty_ok rfl (by first | (simp only [and_true, true_and]; done) | (simp only [and_true, true_and, bys_len, ints_len, byss_len, canon_bys, canon_ints, canon_byss, Int.toNat_natCast, List.length_append, List.length_cons, List.length_nil, List.length_replicate]; omega)) ?_ | refine awp_block ?_ | refine awp_skip ?_ | refine awp_exit ?_)
  refine awp_mono (Q := fun e σ => e = .normal ∧ Sub σ ⟨Try.f24.ntmps, [(0, .d (.sl none (bys c))), (1, .d (.int .i64 k)), (17, .d (.bool (decide (k < 1 ∨ k > 32))))], [], 0⟩) ?_ ?_
  · refine awp_run ty_ok rfl (by first | (simp only [and_true, true_and]; done) | (simp only [and_true, true_and, bys_len, ints_len, byss_len, canon_bys, canon_ints, canon_byss, Int.toNat_natCast, List.length_append, List.length_cons, List.length_nil, List.length_replicate]; omega)) ?_
    by_cases h1 : k < 1
    · simp only [h1, decide_true]
      refine aops_run ty_ok [2] rfl (by first | (simp only [and_true, true_and]; done) | (simp only [and_true, true_and, bys_len, ints_len, byss_len, canon_bys, canon_ints, canon_byss, Int.toNat_natCast, List.length_append, List.length_cons, List.length_nil, List.length_replicate]; omega)) ?_
      refine aops_nil ?_
      exact ⟨rfl, Sub.mk' rfl rfl ⟨rfl, rfl, by simp; rfl, trivial⟩ trivial⟩
    · simp only [h1, decide_false]
      refine aops_run ty_ok [2] rfl (by first | (simp only [and_true, true_and]; done) | (simp only [and_true, true_and, bys_len, ints_len, byss_len, canon_bys, canon_ints, canon_byss, Int.toNat_natCast, List.length_append, List.length_cons, List.length_nil, List.length_replicate]; omega)) ?_
      refine aops_nil ?_
      exact ⟨rfl, Sub.mk' rfl rfl ⟨rfl, rfl, by simp [h1]; rfl, trivial⟩ trivial⟩
  rintro _ σ ⟨rfl, hs⟩
  refine awp_sub hs ?_
  refine awp_cond (ty := ty) rfl (fun hc => ?_) (fun hc => ?_)
  · repeat (first | refine awp_reg ty_ok rfl (by first | (simp only [and_true, true_and]; done) | (simp only [and_true, true_and, bys_len, ints_len, byss_len, canon_bys, canon_ints, canon_byss, Int.toNat_natCast, List.length_append, List.length_cons, List.length_nil, List.length_replicate]; omega)) ?_ | refine awp_seq ?_ | refine awp_all ty_ok rfl (by first | (simp only [and_true, true_and]; done) | (simp only [and_true, true_and, bys_len, ints_len, byss_len, canon_bys, canon_ints, canon_byss, Int.toNat_natCast, List.length_append, List.length_cons, List.length_nil, List.length_replicate]; omega)) ?_ | refine awp_block ?_ | refine awp_skip ?_ | refine awp_exit ?_)
    refine awp_ret ⟨_, _, rfl, rfl, ?_⟩
    simp only [dnF, hc]
  repeat (first | refine awp_reg ty_ok rfl (by first | (simp only [and_true, true_and]; done) | (simp only [and_true, true_and, bys_len, ints_len, byss_len, canon_bys, canon_ints, canon_byss, Int.toNat_natCast, List.length_append, List.length_cons, List.length_nil, List.length_replicate]; omega)) ?_ | refine awp_seq ?_ | refine awp_all ty_ok rfl (by first | (simp only [and_true, true_and]; done) | (simp only [and_true, true_and, bys_len, ints_len, byss_len, canon_bys, canon_ints, canon_byss, Int.toNat_natCast, List.length_append, List.length_cons, List.length_nil, List.length_replicate]; omega)) ?_ | refine awp_block ?_ | refine awp_skip ?_ | refine awp_exit ?_)
  refine awp_run ty_ok rfl (by first | (simp only [and_true, true_and]; done) | (simp only [and_true, true_and, bys_len, ints_len, byss_len, canon_bys, canon_ints, canon_byss, Int.toNat_natCast, List.length_append, List.length_cons, List.length_nil, List.length_replicate]; omega)) ?_
  refine aops_call (ty := ty) rfl rfl rfl rfl rfl rfl rfl (c_decode _ c hx) (fun r hr => ?_)
  subst hr
  have hk : k ≤ 32 := by
    simp at hc
    omega
  obtain ⟨x, hx1⟩ : ∃ x, x = (decF c).1 := ⟨_, rfl⟩
  obtain ⟨u, hu1⟩ : ∃ u, u = (decF c).2.1 := ⟨_, rfl⟩
  obtain ⟨e, he1⟩ : ∃ e, e = (decF c).2.2 := ⟨_, rfl⟩
  have hxl : x.length ≤ c.length := by
    rw [hx1]
    unfold decF
    split
    · simp
    · split <;> simp
  have hdd : decD c = .tup [bitsD x u, .int .i64 e] := by rw [hx1, hu1, he1]; rfl
  rw [hdd]
  simp only [dnF, hc, ← hx1, ← hu1, ← he1]
  refine aops_run ty_ok [] rfl (by first | (simp only [and_true, true_and]; done) | (simp only [and_true, true_and, bys_len, ints_len, byss_len, canon_bys, canon_ints, canon_byss, Int.toNat_natCast, List.length_append, List.length_cons, List.length_nil, List.length_replicate]; omega)) ?_
  refine aops_nil ?_
  repeat (first | refine awp_reg ty_ok rfl (by first | (simp only [and_true, true_and]; done) | (simp only [and_true, true_and, bys_len, ints_len, byss_len, canon_bys, canon_ints, canon_byss, Int.toNat_natCast, List.length_append, List.length_cons, List.length_nil, List.length_replicate]; omega)) ?_ | refine awp_seq ?_ | refine awp_all ty_ok rfl (by first | (simp only [and_true, true_and]; done) | (simp only [and_true, true_and, bys_len, ints_len, byss_len, canon_bys, canon_ints, canon_byss, Int.toNat_natCast, List.length_append, List.length_cons, List.length_nil, List.length_replicate]; omega)) ?_ | refine awp_block ?_ | refine awp_skip ?_ | refine awp_exit ?_)
  refine awp_run ty_ok rfl (by first | (simp only [and_true, true_and]; done) | (simp only [and_true, true_and, bys_len, ints_len, byss_len, canon_bys, canon_ints, canon_byss, Int.toNat_natCast, List.length_append, List.length_cons, List.length_nil, List.length_replicate]; omega)) ?_
  refine aops_call (ty := ty) rfl rfl rfl rfl rfl rfl rfl (c_len _ x u (by omega)) (fun r hr => ?_)
  subst hr
  refine aops_run ty_ok [] rfl (by first | (simp only [and_true, true_and]; done) | (simp only [and_true, true_and, bys_len, ints_len, byss_len, canon_bys, canon_ints, canon_byss, Int.toNat_natCast, List.length_append, List.length_cons, List.length_nil, List.length_replicate]; omega)) ?_
  refine aops_nil ?_
  repeat (first | refine awp_reg ty_ok rfl (by first | (simp only [and_true, true_and]; done) | (simp only [and_true, true_and, bys_len, ints_len, byss_len, canon_bys, canon_ints, canon_byss, Int.toNat_natCast, List.length_append, List.length_cons, List.length_nil, List.length_replicate]; omega)) ?_ | refine awp_seq ?_ | refine awp_all ty_ok rfl (by first | (simp only [and_true, true_and]; done) | (simp only [and_true, true_and, bys_len, ints_len, byss_len, canon_bys, canon_ints, canon_byss, Int.toNat_natCast, List.length_append, List.length_cons, List.length_nil, List.length_replicate]; omega)) ?_ | refine awp_block ?_ | refine awp_skip ?_ | refine awp_exit ?_)
  generalize hL : lenF x u = L
  have hL0 : 0 ≤ L := by rw [← hL]; exact lenF_nonneg x u
  have hL1 := lenF_le x u
  rw [hL] at hL1
  refine awp_ren (σ' := ⟨Try.f24.ntmps, [(1, .d (.int .i64 k)), (7, .d (.int .i64 e)), (8, .d (.int .i64 L)), (9, .fn 31 [.ptr 0 0])], [(0, .box 24 [.d (.sl none (bys x)), .d (.int .i64 u)])], 1⟩) [(0, 0)] (SubR.mk' rfl rfl ⟨⟨_, rfl, rfl⟩, ⟨_, rfl, rfl⟩, ⟨_, rfl, rfl⟩, ⟨_, rfl, rfl⟩, trivial⟩ ⟨⟨_, _, rfl, rfl, rfl⟩, trivial⟩) ?_
  refine awp_mono (Q := fun ex σ => ex = .normal ∧ Sub σ ⟨Try.f24.ntmps, [(8, .d (.int .i64 L)), (9, .fn 31 [.ptr 0 0]), (43, .d (.bool (decide (e ≠ 0 ∨ L > k ∨ (L > 0 ∧ atF x u (L - 1) = false)))))], [(0, .box 24 [.d (.sl none (bys x)), .d (.int .i64 u)])], 1⟩) ?_ ?_
  · refine awp_run ty_ok rfl (by first | (simp only [and_true, true_and]; done) | (simp only [and_true, true_and, bys_len, ints_len, byss_len, canon_bys, canon_ints, canon_byss, Int.toNat_natCast, List.length_append, List.length_cons, List.length_nil, List.length_replicate]; omega)) ?_
    by_cases h1 : e = 0
    · simp only [show (e != 0) = false by simp [h1]]
      refine aops_run ty_ok [2] rfl (by first | (simp only [and_true, true_and]; done) | (simp only [and_true, true_and, bys_len, ints_len, byss_len, canon_bys, canon_ints, canon_byss, Int.toNat_natCast, List.length_append, List.length_cons, List.length_nil, List.length_replicate]; omega)) ?_
      by_cases h2 : L > k
      · simp only [h2, decide_true]
        refine aops_run ty_ok [2, 7, 10] rfl (by first | (simp only [and_true, true_and]; done) | (simp only [and_true, true_and, bys_len, ints_len, byss_len, canon_bys, canon_ints, canon_byss, Int.toNat_natCast, List.length_append, List.length_cons, List.length_nil, List.length_replicate]; omega)) ?_
        refine aops_nil ?_
        exact ⟨rfl, Sub.mk' rfl rfl ⟨rfl, rfl, by simp [h2]; rfl, trivial⟩ ⟨rfl, trivial⟩⟩
      · simp only [h2, decide_false]
        refine aops_run ty_ok [2, 7] rfl (by first | (simp only [and_true, true_and]; done) | (simp only [and_true, true_and, bys_len, ints_len, byss_len, canon_bys, canon_ints, canon_byss, Int.toNat_natCast, List.length_append, List.length_cons, List.length_nil, List.length_replicate]; omega)) ?_
        by_cases h3 : L > 0
        · simp only [h3, decide_true]
          refine aops_run ty_ok [2, 7, 10] rfl (by first | (simp only [and_true, true_and]; done) | (simp only [and_true, true_and, bys_len, ints_len, byss_len, canon_bys, canon_ints, canon_byss, Int.toNat_natCast, List.length_append, List.length_cons, List.length_nil, List.length_replicate]; omega)) ?_
          refine aops_inline ty_ok rfl rfl rfl rfl rfl rfl isIn rfl rfl ?_
          repeat (first | refine awp_reg ty_ok rfl (by first | (simp only [and_true, true_and]; done) | (simp only [and_true, true_and, bys_len, ints_len, byss_len, canon_bys, canon_ints, canon_byss, Int.toNat_natCast, List.length_append, List.length_cons, List.length_nil, List.length_replicate]; omega)) ?_ | refine awp_seq ?_ | refine awp_all ty_ok rfl (by first | (simp only [and_true, true_and]; done) | (simp only [and_true, true_and, bys_len, ints_len, byss_len, canon_bys, canon_ints, canon_byss, Int.toNat_natCast, List.length_append, List.length_cons, List.length_nil, List.length_replicate]; omega)) ?_ | refine awp_block ?_ | refine awp_skip ?_ | refine awp_exit ?_)
          refine awp_run ty_ok rfl (by first | (simp only [and_true, true_and]; done) | (simp only [and_true, true_and, bys_len, ints_len, byss_len, canon_bys, canon_ints, canon_byss, Int.toNat_natCast, List.length_append, List.length_cons, List.length_nil, List.length_replicate]; omega)) ?_
          refine aops_call (ty := ty) rfl rfl rfl rfl rfl rfl rfl (c_at _ x u (L - 1) (by omega)) (fun r hr => ?_)
          subst hr
          refine aops_run ty_ok [] rfl (by first | (simp only [and_true, true_and]; done) | (simp only [and_true, true_and, bys_len, ints_len, byss_len, canon_bys, canon_ints, canon_byss, Int.toNat_natCast, List.length_append, List.length_cons, List.length_nil, List.length_replicate]; omega)) ?_
          refine aops_nil ?_
          refine awp_ret ⟨_, rfl, ?_⟩
          refine aops_run ty_ok [2, 7, 10] rfl (by first | (simp only [and_true, true_and]; done) | (simp only [and_true, true_and, bys_len, ints_len, byss_len, canon_bys, canon_ints, canon_byss, Int.toNat_natCast, List.length_append, List.length_cons, List.length_nil, List.length_replicate]; omega)) ?_
          refine aops_nil ?_
          exact ⟨rfl, Sub.mk' rfl rfl ⟨rfl, rfl, by simp [h1, h2, h3]; rfl, trivial⟩ ⟨rfl, trivial⟩⟩
        · simp only [h3, decide_false]
          refine aops_run ty_ok [2, 7, 10] rfl (by first | (simp only [and_true, true_and]; done) | (simp only [and_true, true_and, bys_len, ints_len, byss_len, canon_bys, canon_ints, canon_byss, Int.toNat_natCast, List.length_append, List.length_cons, List.length_nil, List.length_replicate]; omega)) ?_
          refine aops_nil ?_
          exact ⟨rfl, Sub.mk' rfl rfl ⟨rfl, rfl, by simp [h1, h2, h3]; rfl, trivial⟩ ⟨rfl, trivial⟩⟩
    · simp only [show (e != 0) = true by simp [h1]]
      refine aops_run ty_ok [2, 7, 10] rfl (by first | (simp only [and_true, true_and]; done) | (simp only [and_true, true_and, bys_len, ints_len, byss_len, canon_bys, canon_ints, canon_byss, Int.toNat_natCast, List.length_append, List.length_cons, List.length_nil, List.length_replicate]; omega)) ?_
      refine aops_nil ?_
      exact ⟨rfl, Sub.mk' rfl rfl ⟨rfl, rfl, by simp [h1]; rfl, trivial⟩ ⟨rfl, trivial⟩⟩
  rintro _ σ' ⟨rfl, hs'⟩
  refine awp_sub hs' ?_
  refine awp_cond (ty := ty) rfl (fun hc => ?_) (fun hc => ?_)
  · repeat (first | refine awp_reg ty_ok rfl (by first | (simp only [and_true, true_and]; done) | (simp only [and_true, true_and, bys_len, ints_len, byss_len, canon_bys, canon_ints, canon_byss, Int.toNat_natCast, List.length_append, List.length_cons, List.length_nil, List.length_replicate]; omega)) ?_ | refine awp_seq ?_ | refine awp_all ty_ok rfl (by first | (simp only [and_true, true_and]; done) | (simp only [and_true, true_and, bys_len, ints_len, byss_len, canon_bys, canon_ints, canon_byss, Int.toNat_natCast, List.length_append, List.length_cons, List.length_nil, List.length_replicate]; omega)) ?_ | refine awp_block ?_ | refine awp_skip ?_ | refine awp_exit ?_)
    refine awp_ret ⟨_, _, rfl, rfl, ?_⟩
    rw [hc]
  rw [hc]
  have hb : e = 0 ∧ L ≤ k := by
    simp at hc
    omega
  repeat (first | refine awp_reg ty_ok rfl (by first | (simp only [and_true, true_and]; done) | (simp only [and_true, true_and, bys_len, ints_len, byss_len, canon_bys, canon_ints, canon_byss, Int.toNat_natCast, List.length_append, List.length_cons, List.length_nil, List.length_replicate]; omega)) ?_ | refine awp_seq ?_ | refine awp_all ty_ok rfl (by first | (simp only [and_true, true_and]; done) | (simp only [and_true, true_and, bys_len, ints_len, byss_len, canon_bys, canon_ints, canon_byss, Int.toNat_natCast, List.length_append, List.length_cons, List.length_nil, List.length_replicate]; omega)) ?_ | refine awp_block ?_ | refine awp_skip ?_ | refine awp_exit ?_)
  obtain ⟨M, rfl⟩ := Int.eq_ofNat_of_zero_le hL0
  refine awp_loopR (G := { j : Nat // j ≤ M }) (fun j => ⟨Try.f24.ntmps, [(9, .fn 31 [.ptr 0 0]), (10, .d (.int .i64 ((setTo (bitF x u) j.1 : Nat) : Int))), (44, .d (.int .i64 M)), (45, .d (.int .i64 j.1))], [(0, .box 24 [.d (.sl none (bys x)), .d (.int .i64 u)])], 1⟩) (fun j => M - j.1) ⟨0, Nat.zero_le _⟩ [(0, 0)]
    (SubR.mk' rfl rfl ⟨⟨_, rfl, rfl⟩, ⟨_, rfl, rfl⟩, ⟨_, rfl, rfl⟩, ⟨_, rfl, rfl⟩, trivial⟩ ⟨⟨_, _, rfl, rfl, rfl⟩, trivial⟩) ?_
  rintro ⟨j, hj⟩
  repeat (first | refine awp_reg ty_ok rfl (by first | (simp only [and_true, true_and]; done) | (simp only [and_true, true_and, bys_len, ints_len, byss_len, canon_bys, canon_ints, canon_byss, Int.toNat_natCast, List.length_append, List.length_cons, List.length_nil, List.length_replicate]; omega)) ?_ | refine awp_seq ?_ | refine awp_all ty_ok rfl (by first | (simp only [and_true, true_and]; done) | (simp only [and_true, true_and, bys_len, ints_len, byss_len, canon_bys, canon_ints, canon_byss, Int.toNat_natCast, List.length_append, List.length_cons, List.length_nil, List.length_replicate]; omega)) ?_ | refine awp_block ?_ | refine awp_skip ?_ | refine awp_exit ?_)
  refine awp_cond (ty := ty) rfl (fun hc => ?_) (fun hc => ?_)
  · have hj1 : j < M := by simpa using hc
    repeat (first | refine awp_reg ty_ok rfl (by first | (simp only [and_true, true_and]; done) | (simp only [and_true, true_and, bys_len, ints_len, byss_len, canon_bys, canon_ints, canon_byss, Int.toNat_natCast, List.length_append, List.length_cons, List.length_nil, List.length_replicate]; omega)) ?_ | refine awp_seq ?_ | refine awp_all ty_ok rfl (by first | (simp only [and_true, true_and]; done) | (simp only [and_true, true_and, bys_len, ints_len, byss_len, canon_bys, canon_ints, canon_byss, Int.toNat_natCast, List.length_append, List.length_cons, List.length_nil, List.length_replicate]; omega)) ?_ | refine awp_block ?_ | refine awp_skip ?_ | refine awp_exit ?_)
    refine awp_run ty_ok rfl (by first | (simp only [and_true, true_and]; done) | (simp only [and_true, true_and, bys_len, ints_len, byss_len, canon_bys, canon_ints, canon_byss, Int.toNat_natCast, List.length_append, List.length_cons, List.length_nil, List.length_replicate]; omega)) ?_
    refine aops_inline ty_ok rfl rfl rfl rfl rfl rfl isIn rfl rfl ?_
    repeat (first | refine awp_reg ty_ok rfl (by first | (simp only [and_true, true_and]; done) | (simp only [and_true, true_and, bys_len, ints_len, byss_len, canon_bys, canon_ints, canon_byss, Int.toNat_natCast, List.length_append, List.length_cons, List.length_nil, List.length_replicate]; omega)) ?_ | refine awp_seq ?_ | refine awp_all ty_ok rfl (by first | (simp only [and_true, true_and]; done) | (simp only [and_true, true_and, bys_len, ints_len, byss_len, canon_bys, canon_ints, canon_byss, Int.toNat_natCast, List.length_append, List.length_cons, List.length_nil, List.length_replicate]; omega)) ?_ | refine awp_block ?_ | refine awp_skip ?_ | refine awp_exit ?_)
    refine awp_run ty_ok rfl (by first | (simp only [and_true, true_and]; done) | (simp only [and_true, true_and, bys_len, ints_len, byss_len, canon_bys, canon_ints, canon_byss, Int.toNat_natCast, List.length_append, List.length_cons, List.length_nil, List.length_replicate]; omega)) ?_
    refine aops_call (ty := ty) rfl rfl rfl rfl rfl rfl rfl (c_at _ x u (j : Int) (by omega)) (fun r hr => ?_)
    subst hr
    refine aops_run ty_ok [] rfl (by first | (simp only [and_true, true_and]; done) | (simp only [and_true, true_and, bys_len, ints_len, byss_len, canon_bys, canon_ints, canon_byss, Int.toNat_natCast, List.length_append, List.length_cons, List.length_nil, List.length_replicate]; omega)) ?_
    refine aops_nil ?_
    refine awp_ret ⟨_, rfl, ?_⟩
    refine aops_run ty_ok [] rfl (by first | (simp only [and_true, true_and]; done) | (simp only [and_true, true_and, bys_len, ints_len, byss_len, canon_bys, canon_ints, canon_byss, Int.toNat_natCast, List.length_append, List.length_cons, List.length_nil, List.length_replicate]; omega)) ?_
    refine aops_nil ?_
    refine awp_cond (ty := ty) rfl (fun hc => ?_) (fun hc => ?_)
    · repeat (first | refine awp_reg ty_ok rfl (by first | (simp only [and_true, true_and]; done) | (simp only [and_true, true_and, bys_len, ints_len, byss_len, canon_bys, canon_ints, canon_byss, Int.toNat_natCast, List.length_append, List.length_cons, List.length_nil, List.length_replicate]; omega)) ?_ | refine awp_seq ?_ | refine awp_all ty_ok rfl (by first | (simp only [and_true, true_and]; done) | (simp only [and_true, true_and, bys_len, ints_len, byss_len, canon_bys, canon_ints, canon_byss, Int.toNat_natCast, List.length_append, List.length_cons, List.length_nil, List.length_replicate]; omega)) ?_ | refine awp_block ?_ | refine awp_skip ?_ | refine awp_exit ?_)
      refine ⟨⟨j + 1, hj1⟩, [(0, 0)], SubR.mk' rfl rfl ⟨⟨_, rfl, rfl⟩, ⟨_, rfl, congrArg (fun z : Int => AV.d (Dat.int IntKind.i64 z)) (setTo_step (bitF x u) j (by omega) hc)⟩, ⟨_, rfl, rfl⟩, ⟨_, rfl, rfl⟩, trivial⟩ ⟨⟨_, _, rfl, rfl, rfl⟩, trivial⟩, by simp only; omega⟩
    · repeat (first | refine awp_reg ty_ok rfl (by first | (simp only [and_true, true_and]; done) | (simp only [and_true, true_and, bys_len, ints_len, byss_len, canon_bys, canon_ints, canon_byss, Int.toNat_natCast, List.length_append, List.length_cons, List.length_nil, List.length_replicate]; omega)) ?_ | refine awp_seq ?_ | refine awp_all ty_ok rfl (by first | (simp only [and_true, true_and]; done) | (simp only [and_true, true_and, bys_len, ints_len, byss_len, canon_bys, canon_ints, canon_byss, Int.toNat_natCast, List.length_append, List.length_cons, List.length_nil, List.length_replicate]; omega)) ?_ | refine awp_block ?_ | refine awp_skip ?_ | refine awp_exit ?_)
      have h9 : setTo (bitF x u) (j + 1) = setTo (bitF x u) j := by
        have h8 : bitF x u j = false := hc
        simp [setTo, h8]
      refine ⟨⟨j + 1, hj1⟩, [(0, 0)], SubR.mk' rfl rfl ⟨⟨_, rfl, rfl⟩, ⟨_, rfl, congrArg (fun z : Nat => AV.d (Dat.int IntKind.i64 (z : Int))) h9.symm⟩, ⟨_, rfl, rfl⟩, ⟨_, rfl, rfl⟩, trivial⟩ ⟨⟨_, _, rfl, rfl, rfl⟩, trivial⟩, by simp only; omega⟩
  · have hje : j = M := by
      simp at hc
      omega
    subst hje
    repeat (first | refine awp_reg ty_ok rfl (by first | (simp only [and_true, true_and]; done) | (simp only [and_true, true_and, bys_len, ints_len, byss_len, canon_bys, canon_ints, canon_byss, Int.toNat_natCast, List.length_append, List.length_cons, List.length_nil, List.length_replicate]; omega)) ?_ | refine awp_seq ?_ | refine awp_all ty_ok rfl (by first | (simp only [and_true, true_and]; done) | (simp only [and_true, true_and, bys_len, ints_len, byss_len, canon_bys, canon_ints, canon_byss, Int.toNat_natCast, List.length_append, List.length_cons, List.length_nil, List.length_replicate]; omega)) ?_ | refine awp_block ?_ | refine awp_skip ?_ | refine awp_exit ?_)
    refine awp_ret ⟨_, _, rfl, rfl, ?_⟩
    simp
end Go.Proofs.Ytaenfbgamkieiaa
