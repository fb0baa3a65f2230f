/- Functions of package bitstring, walked by the abstract machine. -/
import Derived.Test.YtaenfbgamkieiaaF1
import Derived.Test.YtaenfbgamkieiaaBits
namespace Go.Proofs.Ytaenfbgamkieiaa
open Go.Am
set_option linter.unusedSimpArgs false
set_option linter.unusedVariables false

def bitsD (x : List UInt8) (u : Int) : Dat := .agg [.sl none (bys x), .int .i64 u]
theorem isValid : IsFn Try.prog 13 Try.f13 := ⟨Try.func13, by decide, rfl⟩
theorem c_valid (Γ : Env) (x : List UInt8) (u : Int) (hx : x.length ≤ 1099511627776) : ACalls Try.prog Γ 13 [bitsD x u] (fun r => r = .d (.bool (valF x u))) := by
  refine acalls_of ty_ok isValid rfl rfl ?_
  repeat (first | refine awp_reg ty_ok rfl (by first | (simp only [and_true, true_and]; done) | (simp only [and_true, true_and, bys_len, ints_len, byss_len, canon_bys, canon_ints, canon_byss, Int.toNat_natCast, List.length_append, List.length_cons, List.length_nil, List.length_replicate]; omega)) ?_ | refine awp_seq ?_ | refine awp_all ty_ok rfl (by first | (simp only [and_true, true_and]; done) | (simp only [and_true, true_and, bys_len, ints_len, byss_len, canon_bys, canon_ints, canon_byss, Int.toNat_natCast, List.length_append, List.length_cons, List.length_nil, List.length_replicate]; omega)) ?_ | refine awp_block ?_ | refine awp_skip ?_ | refine awp_exit ?_)
  refine awp_cond (ty := ty) rfl (fun hc => ?_) (fun hc => ?_)
  · repeat (first | refine awp_reg ty_ok rfl (by first | (simp only [and_true, true_and]; done) | (simp only [and_true, true_and, bys_len, ints_len, byss_len, canon_bys, canon_ints, canon_byss, Int.toNat_natCast, List.length_append, List.length_cons, List.length_nil, List.length_replicate]; omega)) ?_ | refine awp_seq ?_ | refine awp_all ty_ok rfl (by first | (simp only [and_true, true_and]; done) | (simp only [and_true, true_and, bys_len, ints_len, byss_len, canon_bys, canon_ints, canon_byss, Int.toNat_natCast, List.length_append, List.length_cons, List.length_nil, List.length_replicate]; omega)) ?_ | refine awp_block ?_ | refine awp_skip ?_ | refine awp_exit ?_)
    refine awp_ret ⟨_, _, rfl, rfl, ?_⟩
    cases x with
    | nil => simp [valF]; rfl
    | cons b x => simp [bys] at hc; omega
  repeat (first | refine awp_reg ty_ok rfl (by first | (simp only [and_true, true_and]; done) | (simp only [and_true, true_and, bys_len, ints_len, byss_len, canon_bys, canon_ints, canon_byss, Int.toNat_natCast, List.length_append, List.length_cons, List.length_nil, List.length_replicate]; omega)) ?_ | refine awp_seq ?_ | refine awp_all ty_ok rfl (by first | (simp only [and_true, true_and]; done) | (simp only [and_true, true_and, bys_len, ints_len, byss_len, canon_bys, canon_ints, canon_byss, Int.toNat_natCast, List.length_append, List.length_cons, List.length_nil, List.length_replicate]; omega)) ?_ | refine awp_block ?_ | refine awp_skip ?_ | refine awp_exit ?_)
  have h0 : 0 < x.length := by
    cases x with
    | nil => simp [bys] at hc
    | cons b x => simp
  refine awp_any 24 mixed (by kernel_rfl) ?_
  have hv : valF x u = decide (0 ≤ u ∧ u ≤ 7 ∧ (x.getD (x.length - 1) 0).toNat % 2 ^ u.toNat = 0) := by
    cases x with
    | nil => simp at h0
    | cons b x => rfl
  by_cases h1 : u ≥ 0
  · refine head_go ty_ok [] rfl (by first | (simp only [and_true, true_and]; done) | (simp only [and_true, true_and, bys_len, ints_len, byss_len, canon_bys, canon_ints, canon_byss, Int.toNat_natCast, List.length_append, List.length_cons, List.length_nil, List.length_replicate]; omega)) ?_
    simp only [h1, decide_true]
    refine head_go ty_ok [3] rfl (by first | (simp only [and_true, true_and]; done) | (simp only [and_true, true_and, bys_len, ints_len, byss_len, canon_bys, canon_ints, canon_byss, Int.toNat_natCast, List.length_append, List.length_cons, List.length_nil, List.length_replicate]; omega)) ?_
    by_cases h2 : u ≤ 7
    · simp only [h2, decide_true]
      refine head_go ty_ok [3, 8] rfl (by first | (simp only [and_true, true_and]; done) | (simp only [and_true, true_and, bys_len, ints_len, byss_len, canon_bys, canon_ints, canon_byss, Int.toNat_natCast, List.length_append, List.length_cons, List.length_nil, List.length_replicate]; omega)) ?_
      refine head_end ?_
      refine aops_run ty_ok [] rfl (by first | (simp only [and_true, true_and]; done) | (simp only [and_true, true_and, bys_len, ints_len, byss_len, canon_bys, canon_ints, canon_byss, Int.toNat_natCast, List.length_append, List.length_cons, List.length_nil, List.length_replicate]; omega)) ?_
      refine aops_nil ?_
      refine awp_ret ⟨_, _, rfl, rfl, ?_⟩
      rw [num_bys, bys_len, mask_u8 _ _ h1 h2, hv]
      have h3 : ((x.length : Int) - 1).toNat = x.length - 1 := by omega
      have h4 : 0 ≤ u := h1
      simp [h3, h4, h2]
    · simp only [h2, decide_false]
      refine head_go ty_ok [3, 8] rfl (by first | (simp only [and_true, true_and]; done) | (simp only [and_true, true_and, bys_len, ints_len, byss_len, canon_bys, canon_ints, canon_byss, Int.toNat_natCast, List.length_append, List.length_cons, List.length_nil, List.length_replicate]; omega)) ?_
      refine head_end ?_
      refine aops_run ty_ok [] rfl (by first | (simp only [and_true, true_and]; done) | (simp only [and_true, true_and, bys_len, ints_len, byss_len, canon_bys, canon_ints, canon_byss, Int.toNat_natCast, List.length_append, List.length_cons, List.length_nil, List.length_replicate]; omega)) ?_
      refine aops_nil ?_
      refine awp_ret ⟨_, _, rfl, rfl, ?_⟩
      rw [hv]
      simp [h2]
  · refine head_go ty_ok [] rfl (by first | (simp only [and_true, true_and]; done) | (simp only [and_true, true_and, bys_len, ints_len, byss_len, canon_bys, canon_ints, canon_byss, Int.toNat_natCast, List.length_append, List.length_cons, List.length_nil, List.length_replicate]; omega)) ?_
    simp only [h1, decide_false]
    refine head_go ty_ok [3, 8] rfl (by first | (simp only [and_true, true_and]; done) | (simp only [and_true, true_and, bys_len, ints_len, byss_len, canon_bys, canon_ints, canon_byss, Int.toNat_natCast, List.length_append, List.length_cons, List.length_nil, List.length_replicate]; omega)) ?_
    refine head_end ?_
    refine aops_run ty_ok [] rfl (by first | (simp only [and_true, true_and]; done) | (simp only [and_true, true_and, bys_len, ints_len, byss_len, canon_bys, canon_ints, canon_byss, Int.toNat_natCast, List.length_append, List.length_cons, List.length_nil, List.length_replicate]; omega)) ?_
    refine aops_nil ?_
    refine awp_ret ⟨_, _, rfl, rfl, ?_⟩
    rw [hv]
    simp [h1]

theorem isRValid : IsFn Try.prog 14 Try.f14 := ⟨Try.func14, by decide, rfl⟩
theorem c_rvalid (Γ : Env) (x : List UInt8) (u : Int) (hx : x.length ≤ 1099511627776) : ACalls Try.prog Γ 14 [bitsD x u] (fun r => r = .d (.bool (valF x u))) := by
  refine acalls_of ty_ok isRValid rfl rfl ?_
  repeat (first | refine awp_reg ty_ok rfl (by first | (simp only [and_true, true_and]; done) | (simp only [and_true, true_and, bys_len, ints_len, byss_len, canon_bys, canon_ints, canon_byss, Int.toNat_natCast, List.length_append, List.length_cons, List.length_nil, List.length_replicate]; omega)) ?_ | refine awp_seq ?_ | refine awp_all ty_ok rfl (by first | (simp only [and_true, true_and]; done) | (simp only [and_true, true_and, bys_len, ints_len, byss_len, canon_bys, canon_ints, canon_byss, Int.toNat_natCast, List.length_append, List.length_cons, List.length_nil, List.length_replicate]; omega)) ?_ | refine awp_block ?_ | refine awp_skip ?_ | refine awp_exit ?_)
  refine awp_mono (Q := fun e σ => e = .normal ∧ Sub σ ⟨Try.f14.ntmps, [(1, .ptr 0 0), (23, .d (.bool (decide (u < 0 ∨ u > 7 ∨ (x = [] ∧ u > 0)))))], [(0, .box 24 [.d (.sl none (bys x)), .d (.int .i64 u)])], 1⟩) ?_ ?_
  · by_cases h1 : u < 0
    · refine awp_run ty_ok rfl (by first | (simp only [and_true, true_and]; done) | (simp only [and_true, true_and, bys_len, ints_len, byss_len, canon_bys, canon_ints, canon_byss, Int.toNat_natCast, List.length_append, List.length_cons, List.length_nil, List.length_replicate]; omega)) ?_
      simp only [h1, decide_true]
      refine aops_run ty_ok [3, 8, 13] rfl (by first | (simp only [and_true, true_and]; done) | (simp only [and_true, true_and, bys_len, ints_len, byss_len, canon_bys, canon_ints, canon_byss, Int.toNat_natCast, List.length_append, List.length_cons, List.length_nil, List.length_replicate]; omega)) ?_
      refine aops_nil ?_
      exact ⟨rfl, Sub.mk' rfl rfl ⟨rfl, by simp; rfl, trivial⟩ ⟨rfl, trivial⟩⟩
    · refine awp_run ty_ok rfl (by first | (simp only [and_true, true_and]; done) | (simp only [and_true, true_and, bys_len, ints_len, byss_len, canon_bys, canon_ints, canon_byss, Int.toNat_natCast, List.length_append, List.length_cons, List.length_nil, List.length_replicate]; omega)) ?_
      simp only [h1, decide_false]
      refine aops_run ty_ok [3] rfl (by first | (simp only [and_true, true_and]; done) | (simp only [and_true, true_and, bys_len, ints_len, byss_len, canon_bys, canon_ints, canon_byss, Int.toNat_natCast, List.length_append, List.length_cons, List.length_nil, List.length_replicate]; omega)) ?_
      by_cases h2 : u > 7
      · simp only [h2, decide_true]
        refine aops_run ty_ok [3, 8, 13] rfl (by first | (simp only [and_true, true_and]; done) | (simp only [and_true, true_and, bys_len, ints_len, byss_len, canon_bys, canon_ints, canon_byss, Int.toNat_natCast, List.length_append, List.length_cons, List.length_nil, List.length_replicate]; omega)) ?_
        refine aops_nil ?_
        exact ⟨rfl, Sub.mk' rfl rfl ⟨rfl, by simp [h2]; rfl, trivial⟩ ⟨rfl, trivial⟩⟩
      · simp only [h2, decide_false]
        refine aops_run ty_ok [3, 8] rfl (by first | (simp only [and_true, true_and]; done) | (simp only [and_true, true_and, bys_len, ints_len, byss_len, canon_bys, canon_ints, canon_byss, Int.toNat_natCast, List.length_append, List.length_cons, List.length_nil, List.length_replicate]; omega)) ?_
        cases x with
        | nil =>
          simp only [show ((((bys ([] : List UInt8)).length : Nat) : Int) == 0) = true from rfl]
          refine aops_run ty_ok [3, 8, 13] rfl (by first | (simp only [and_true, true_and]; done) | (simp only [and_true, true_and, bys_len, ints_len, byss_len, canon_bys, canon_ints, canon_byss, Int.toNat_natCast, List.length_append, List.length_cons, List.length_nil, List.length_replicate]; omega)) ?_
          refine aops_nil ?_
          exact ⟨rfl, Sub.mk' rfl rfl ⟨rfl, by simp [h1, h2]; rfl, trivial⟩ ⟨rfl, trivial⟩⟩
        | cons b x =>
          simp only [show ((((bys (b :: x)).length : Nat) : Int) == 0) = false by simp [bys]; omega]
          refine aops_run ty_ok [3, 8, 13] rfl (by first | (simp only [and_true, true_and]; done) | (simp only [and_true, true_and, bys_len, ints_len, byss_len, canon_bys, canon_ints, canon_byss, Int.toNat_natCast, List.length_append, List.length_cons, List.length_nil, List.length_replicate]; omega)) ?_
          refine aops_nil ?_
          exact ⟨rfl, Sub.mk' rfl rfl ⟨rfl, by simp [h1, h2]; rfl, trivial⟩ ⟨rfl, trivial⟩⟩
  rintro _ σ ⟨rfl, hs⟩
  refine awp_sub hs ?_
  refine awp_cond (ty := ty) rfl (fun hc => ?_) (fun hc => ?_)
  · repeat (first | refine awp_reg ty_ok rfl (by first | (simp only [and_true, true_and]; done) | (simp only [and_true, true_and, bys_len, ints_len, byss_len, canon_bys, canon_ints, canon_byss, Int.toNat_natCast, List.length_append, List.length_cons, List.length_nil, List.length_replicate]; omega)) ?_ | refine awp_seq ?_ | refine awp_all ty_ok rfl (by first | (simp only [and_true, true_and]; done) | (simp only [and_true, true_and, bys_len, ints_len, byss_len, canon_bys, canon_ints, canon_byss, Int.toNat_natCast, List.length_append, List.length_cons, List.length_nil, List.length_replicate]; omega)) ?_ | refine awp_block ?_ | refine awp_skip ?_ | refine awp_exit ?_)
    refine awp_ret ⟨_, _, rfl, rfl, ?_⟩
    simp at hc
    have hf : valF x u = false := by
      cases x with
      | nil => simp [valF]; simp at hc; omega
      | cons b x => simp [valF]; simp at hc; omega
    rw [hf]
  · simp at hc
    obtain ⟨h1, h2, h3⟩ := hc
    repeat (first | refine awp_reg ty_ok rfl (by first | (simp only [and_true, true_and]; done) | (simp only [and_true, true_and, bys_len, ints_len, byss_len, canon_bys, canon_ints, canon_byss, Int.toNat_natCast, List.length_append, List.length_cons, List.length_nil, List.length_replicate]; omega)) ?_ | refine awp_seq ?_ | refine awp_all ty_ok rfl (by first | (simp only [and_true, true_and]; done) | (simp only [and_true, true_and, bys_len, ints_len, byss_len, canon_bys, canon_ints, canon_byss, Int.toNat_natCast, List.length_append, List.length_cons, List.length_nil, List.length_replicate]; omega)) ?_ | refine awp_block ?_ | refine awp_skip ?_ | refine awp_exit ?_)
    refine awp_loop (G := { k : Nat // k ≤ u.toNat }) (fun k => ⟨Try.f14.ntmps, [(1, .ptr 0 0), (3, .d (.int .i64 ((2 ^ k.1 : Nat) : Int))), (4, .d (.int .i64 k.1))], [(0, .box 24 [.d (.sl none (bys x)), .d (.int .i64 u)])], 1⟩) (fun k => u.toNat - k.1) ⟨0, Nat.zero_le _⟩ (Sub.mk' rfl rfl ⟨rfl, rfl, rfl, trivial⟩ ⟨rfl, trivial⟩) ?_
    rintro ⟨k, hk⟩
    repeat (first | refine awp_reg ty_ok rfl (by first | (simp only [and_true, true_and]; done) | (simp only [and_true, true_and, bys_len, ints_len, byss_len, canon_bys, canon_ints, canon_byss, Int.toNat_natCast, List.length_append, List.length_cons, List.length_nil, List.length_replicate]; omega)) ?_ | refine awp_seq ?_ | refine awp_all ty_ok rfl (by first | (simp only [and_true, true_and]; done) | (simp only [and_true, true_and, bys_len, ints_len, byss_len, canon_bys, canon_ints, canon_byss, Int.toNat_natCast, List.length_append, List.length_cons, List.length_nil, List.length_replicate]; omega)) ?_ | refine awp_block ?_ | refine awp_skip ?_ | refine awp_exit ?_)
    refine awp_cond (ty := ty) rfl (fun hc => ?_) (fun hc => ?_)
    · have hk1 : (k : Int) < u := by simpa using hc
      have hp : 2 ^ k ≤ 2 ^ 7 := Nat.pow_le_pow_right (by omega) (by omega)
      have hq : ((2 ^ (k + 1) : Nat) : Int) = ((2 ^ k : Nat) : Int) * 2 := by rw [Nat.pow_succ]; omega
      obtain ⟨pw, hpw⟩ : ∃ pw, pw = 2 ^ k := ⟨_, rfl⟩
      rw [← hpw] at hp hq
      simp only [← hpw]
      repeat (first | refine awp_reg ty_ok rfl (by first | (simp only [and_true, true_and]; done) | (simp only [and_true, true_and, bys_len, ints_len, byss_len, canon_bys, canon_ints, canon_byss, Int.toNat_natCast, List.length_append, List.length_cons, List.length_nil, List.length_replicate]; omega)) ?_ | refine awp_seq ?_ | refine awp_all ty_ok rfl (by first | (simp only [and_true, true_and]; done) | (simp only [and_true, true_and, bys_len, ints_len, byss_len, canon_bys, canon_ints, canon_byss, Int.toNat_natCast, List.length_append, List.length_cons, List.length_nil, List.length_replicate]; omega)) ?_ | refine awp_block ?_ | refine awp_skip ?_ | refine awp_exit ?_)
      refine ⟨⟨k + 1, by omega⟩, Sub.mk' rfl rfl ⟨rfl, congrArg (fun z => some (AV.d (Dat.int IntKind.i64 z))) hq.symm, rfl, trivial⟩ ⟨rfl, trivial⟩, by simp only; omega⟩
    · have hk1 : k = u.toNat := by
        simp at hc
        omega
      subst hk1
      have hp : 2 ^ u.toNat ≤ 2 ^ 7 := Nat.pow_le_pow_right (by omega) (by omega)
      have hp0 : 0 < 2 ^ u.toNat := Nat.two_pow_pos _
      repeat (first | refine awp_reg ty_ok rfl (by first | (simp only [and_true, true_and]; done) | (simp only [and_true, true_and, bys_len, ints_len, byss_len, canon_bys, canon_ints, canon_byss, Int.toNat_natCast, List.length_append, List.length_cons, List.length_nil, List.length_replicate]; omega)) ?_ | refine awp_seq ?_ | refine awp_all ty_ok rfl (by first | (simp only [and_true, true_and]; done) | (simp only [and_true, true_and, bys_len, ints_len, byss_len, canon_bys, canon_ints, canon_byss, Int.toNat_natCast, List.length_append, List.length_cons, List.length_nil, List.length_replicate]; omega)) ?_ | refine awp_block ?_ | refine awp_skip ?_ | refine awp_exit ?_)
      refine awp_run ty_ok rfl (by first | (simp only [and_true, true_and]; done) | (simp only [and_true, true_and, bys_len, ints_len, byss_len, canon_bys, canon_ints, canon_byss, Int.toNat_natCast, List.length_append, List.length_cons, List.length_nil, List.length_replicate]; omega)) ?_
      cases x with
      | nil =>
        simp only [show ((((bys ([] : List UInt8)).length : Nat) : Int) == 0) = true from rfl]
        refine aops_run ty_ok [4] rfl (by first | (simp only [and_true, true_and]; done) | (simp only [and_true, true_and, bys_len, ints_len, byss_len, canon_bys, canon_ints, canon_byss, Int.toNat_natCast, List.length_append, List.length_cons, List.length_nil, List.length_replicate]; omega)) ?_
        refine aops_nil ?_
        refine awp_ret ⟨_, _, rfl, rfl, ?_⟩
        have : u = 0 := by simp at h3; omega
        simp [valF, this]
      | cons b x =>
        simp only [show ((((bys (b :: x)).length : Nat) : Int) == 0) = false by simp [bys]; omega]
        refine aops_run ty_ok [4] rfl ?_ ?_
        · simp only [and_true, true_and, canon_bys, bys_len, List.length_cons] at *
          omega
        refine aops_nil ?_
        refine awp_ret ⟨_, _, rfl, rfl, ?_⟩
        have h4 : (((b :: x).length : Int) - 1).toNat = (b :: x).length - 1 := by omega
        rw [num_bys, bys_len, h4]
        generalize hl : (b :: x).getD ((b :: x).length - 1) 0 = lb
        have hlb : lb.toNat < 256 := lb.toNat_lt
        have hw : IntKind.i64.wrap (lb.toNat : Int) = lb.toNat := by rw [IntKind.wrap_i64]; omega
        rw [hw]
        have hv : valF (b :: x) u = decide (lb.toNat % 2 ^ u.toNat = 0) := by
          simp only [valF, hl]
          simp [h1, h2]
        rw [hv]
        generalize 2 ^ u.toNat = pw
        show Res.d (Dat.bool (Int.tmod (lb.toNat : Int) (pw : Int) == 0)) = _
        rw [show Int.tmod (lb.toNat : Int) (pw : Int) = ((lb.toNat % pw : Nat) : Int) from rfl]
        by_cases h5 : lb.toNat % pw = 0
        · simp [h5]
        · have : ¬ ((lb.toNat % pw : Nat) : Int) = 0 := by omega
          simp [h5]
          exact this
end Go.Proofs.Ytaenfbgamkieiaa
