/- At of the reference, Ints, walked by the abstract machine. -/
import Derived.Test.YtaenfbgamkieiaaF5
namespace Go.Proofs.Ytaenfbgamkieiaa
open Go.Am
set_option linter.unusedSimpArgs false
set_option linter.unusedVariables false

theorem isRAt : IsFn Try.prog 21 Try.f21 := ⟨Try.func21, by decide, rfl⟩
theorem c_rat (Γ : Env) (x : List UInt8) (u i : Int) (hx : x.length ≤ 1099511627) : ACalls Try.prog Γ 21 [bitsD x u, .int .i64 i] (fun r => r = .d (.bool (atF x u i))) := by
  refine acalls_of ty_ok isRAt rfl rfl ?_
  repeat (first | refine awp_reg ty_ok rfl (by first | (simp only [and_true, true_and]; done) | (simp only [and_true, true_and, bys_len, ints_len, byss_len, canon_bys, canon_ints, canon_byss, Int.toNat_natCast, List.length_append, List.length_cons, List.length_nil, List.length_replicate]; omega)) ?_ | refine awp_seq ?_ | refine awp_all ty_ok rfl (by first | (simp only [and_true, true_and]; done) | (simp only [and_true, true_and, bys_len, ints_len, byss_len, canon_bys, canon_ints, canon_byss, Int.toNat_natCast, List.length_append, List.length_cons, List.length_nil, List.length_replicate]; omega)) ?_ | refine awp_block ?_ | refine awp_skip ?_ | refine awp_exit ?_)
  refine awp_mono (Q := fun e σ => e = .normal ∧ Sub σ ⟨Try.f21.ntmps, [(1, .d (.int .i64 i)), (2, .ptr 0 0), (14, .d (.bool (decide (i < 0 ∨ i ≥ lenF x u))))], [(0, .box 24 [.d (.sl none (bys x)), .d (.int .i64 u)])], 1⟩) ?_ ?_
  · refine awp_run ty_ok rfl (by first | (simp only [and_true, true_and]; done) | (simp only [and_true, true_and, bys_len, ints_len, byss_len, canon_bys, canon_ints, canon_byss, Int.toNat_natCast, List.length_append, List.length_cons, List.length_nil, List.length_replicate]; omega)) ?_
    by_cases h0 : i < 0
    · simp only [h0, decide_true]
      refine aops_run ty_ok [2] rfl (by first | (simp only [and_true, true_and]; done) | (simp only [and_true, true_and, bys_len, ints_len, byss_len, canon_bys, canon_ints, canon_byss, Int.toNat_natCast, List.length_append, List.length_cons, List.length_nil, List.length_replicate]; omega)) ?_
      refine aops_nil ?_
      exact ⟨rfl, Sub.mk' rfl rfl ⟨rfl, rfl, by simp; rfl, trivial⟩ ⟨rfl, trivial⟩⟩
    · simp only [h0, decide_false]
      refine aops_run ty_ok [2] rfl (by first | (simp only [and_true, true_and]; done) | (simp only [and_true, true_and, bys_len, ints_len, byss_len, canon_bys, canon_ints, canon_byss, Int.toNat_natCast, List.length_append, List.length_cons, List.length_nil, List.length_replicate]; omega)) ?_
      refine aops_call (ty := ty) rfl rfl rfl rfl rfl rfl rfl (c_rlen _ x u (by omega)) (fun r hr => ?_)
      subst hr
      refine aops_run ty_ok [2] rfl (by first | (simp only [and_true, true_and]; done) | (simp only [and_true, true_and, bys_len, ints_len, byss_len, canon_bys, canon_ints, canon_byss, Int.toNat_natCast, List.length_append, List.length_cons, List.length_nil, List.length_replicate]; omega)) ?_
      refine aops_nil ?_
      exact ⟨rfl, Sub.mk' rfl rfl ⟨rfl, rfl, by simp [h0]; rfl, trivial⟩ ⟨rfl, trivial⟩⟩
  rintro _ σ ⟨rfl, hs⟩
  refine awp_sub hs ?_
  refine awp_cond (ty := ty) rfl (fun hc => ?_) (fun hc => ?_)
  · repeat (first | refine awp_reg ty_ok rfl (by first | (simp only [and_true, true_and]; done) | (simp only [and_true, true_and, bys_len, ints_len, byss_len, canon_bys, canon_ints, canon_byss, Int.toNat_natCast, List.length_append, List.length_cons, List.length_nil, List.length_replicate]; omega)) ?_ | refine awp_seq ?_ | refine awp_all ty_ok rfl (by first | (simp only [and_true, true_and]; done) | (simp only [and_true, true_and, bys_len, ints_len, byss_len, canon_bys, canon_ints, canon_byss, Int.toNat_natCast, List.length_append, List.length_cons, List.length_nil, List.length_replicate]; omega)) ?_ | refine awp_block ?_ | refine awp_skip ?_ | refine awp_exit ?_)
    refine awp_ret ⟨_, _, rfl, rfl, ?_⟩
    have hf : atF x u i = false := by
      simp at hc
      simp [atF]
      omega
    rw [hf]
  · simp at hc
    obtain ⟨h0, h1⟩ := hc
    have hle := lenF_le x u
    have hq : IntKind.i64.wrap (i.tdiv 8) = i / 8 := by rw [Int.tdiv_eq_ediv_of_nonneg h0, IntKind.wrap_i64]; omega
    have hm : i.tmod 8 = i % 8 := Int.tmod_eq_emod_of_nonneg h0
    refine awp_skip ?_
    refine awp_seq ?_
    refine awp_all ty_ok rfl ?_ ?_
    · simp only [and_true, true_and, canon_bys, bys_len, hq, hm]
      omega
    obtain ⟨b, hb⟩ : ∃ b, b = x.getD (i / 8).toNat 0 := ⟨_, rfl⟩
    have hb2 : b.toNat < 256 := b.toNat_lt
    have hw : IntKind.i64.wrap (b.toNat : Int) = b.toNat := by rw [IntKind.wrap_i64]; omega
    simp only [hq, num_bys, ← hb, hw]
    repeat (first | refine awp_reg ty_ok rfl (by first | (simp only [and_true, true_and]; done) | (simp only [and_true, true_and, bys_len, ints_len, byss_len, canon_bys, canon_ints, canon_byss, Int.toNat_natCast, List.length_append, List.length_cons, List.length_nil, List.length_replicate]; omega)) ?_ | refine awp_seq ?_ | refine awp_all ty_ok rfl (by first | (simp only [and_true, true_and]; done) | (simp only [and_true, true_and, bys_len, ints_len, byss_len, canon_bys, canon_ints, canon_byss, Int.toNat_natCast, List.length_append, List.length_cons, List.length_nil, List.length_replicate]; omega)) ?_ | refine awp_block ?_ | refine awp_skip ?_ | refine awp_exit ?_)
    refine awp_loop (G := { k : Nat // (i % 8).toNat ≤ k ∧ k ≤ 7 }) (fun k => ⟨Try.f21.ntmps, [(1, .d (.int .i64 i)), (5, .d (.int .i64 ((b.toNat / 2 ^ (7 - k.1) : Nat) : Int))), (6, .d (.int .i64 k.1))], [], 1⟩) (fun k => k.1) ⟨7, by omega⟩
      (Sub.mk' rfl rfl ⟨rfl, congrArg (fun z : Nat => some (AV.d (Dat.int IntKind.i64 z))) (by simp), rfl, trivial⟩ trivial) ?_
    rintro ⟨k, hk1, hk2⟩
    repeat (first | refine awp_reg ty_ok rfl (by first | (simp only [and_true, true_and]; done) | (simp only [and_true, true_and, bys_len, ints_len, byss_len, canon_bys, canon_ints, canon_byss, Int.toNat_natCast, List.length_append, List.length_cons, List.length_nil, List.length_replicate]; omega)) ?_ | refine awp_seq ?_ | refine awp_all ty_ok rfl (by first | (simp only [and_true, true_and]; done) | (simp only [and_true, true_and, bys_len, ints_len, byss_len, canon_bys, canon_ints, canon_byss, Int.toNat_natCast, List.length_append, List.length_cons, List.length_nil, List.length_replicate]; omega)) ?_ | refine awp_block ?_ | refine awp_skip ?_ | refine awp_exit ?_)
    simp only [hm]
    refine awp_cond (ty := ty) rfl (fun hc => ?_) (fun hc => ?_)
    · have h3 : (i % 8).toNat < k := by
        simp at hc
        omega
      obtain ⟨D, hD⟩ : ∃ D, D = b.toNat / 2 ^ (7 - k) := ⟨_, rfl⟩
      have hDN : D ≤ b.toNat := by rw [hD]; exact Nat.div_le_self _ _
      have hD2 : b.toNat / 2 ^ (7 - (k - 1)) = D / 2 := by
        rw [show 7 - (k - 1) = (7 - k) + 1 by omega, Nat.pow_succ, ← Nat.div_div_eq_div_mul, hD]
      have hqq : IntKind.i64.wrap (Int.tdiv (D : Int) 2) = ((b.toNat / 2 ^ (7 - (k - 1)) : Nat) : Int) := by
        rw [hD2, Int.tdiv_eq_ediv_of_nonneg (by omega), IntKind.wrap_i64]
        omega
      simp only [← hD]
      repeat (first | refine awp_reg ty_ok rfl (by first | (simp only [and_true, true_and]; done) | (simp only [and_true, true_and, bys_len, ints_len, byss_len, canon_bys, canon_ints, canon_byss, Int.toNat_natCast, List.length_append, List.length_cons, List.length_nil, List.length_replicate]; omega)) ?_ | refine awp_seq ?_ | refine awp_all ty_ok rfl (by first | (simp only [and_true, true_and]; done) | (simp only [and_true, true_and, bys_len, ints_len, byss_len, canon_bys, canon_ints, canon_byss, Int.toNat_natCast, List.length_append, List.length_cons, List.length_nil, List.length_replicate]; omega)) ?_ | refine awp_block ?_ | refine awp_skip ?_ | refine awp_exit ?_)
      refine ⟨⟨k - 1, by omega⟩, Sub.mk' rfl rfl ⟨rfl, congrArg (fun z : Int => some (AV.d (Dat.int IntKind.i64 z))) hqq, congrArg (fun z : Int => some (AV.d (Dat.int IntKind.i64 z))) (by show (k : Int) - 1 = ((k - 1 : Nat) : Int); omega), trivial⟩ trivial, by simp only; omega⟩
    · have h3 : k = (i % 8).toNat := by
        simp at hc
        omega
      subst h3
      repeat (first | refine awp_reg ty_ok rfl (by first | (simp only [and_true, true_and]; done) | (simp only [and_true, true_and, bys_len, ints_len, byss_len, canon_bys, canon_ints, canon_byss, Int.toNat_natCast, List.length_append, List.length_cons, List.length_nil, List.length_replicate]; omega)) ?_ | refine awp_seq ?_ | refine awp_all ty_ok rfl (by first | (simp only [and_true, true_and]; done) | (simp only [and_true, true_and, bys_len, ints_len, byss_len, canon_bys, canon_ints, canon_byss, Int.toNat_natCast, List.length_append, List.length_cons, List.length_nil, List.length_replicate]; omega)) ?_ | refine awp_block ?_ | refine awp_skip ?_ | refine awp_exit ?_)
      refine awp_ret ⟨_, _, rfl, rfl, ?_⟩
      have h4 : (7 - i % 8).toNat = 7 - (i % 8).toNat := by omega
      have h5 : atF x u i = b.toNat.testBit (7 - (i % 8).toNat) := by
        simp only [atF, ← hb, h4]
        simp [h0, h1]
      rw [h5, Nat.testBit_eq_decide_div_mod_eq]
      generalize b.toNat / 2 ^ (7 - (i % 8).toNat) = D
      rw [show Int.tmod (D : Int) 2 = ((D % 2 : Nat) : Int) from rfl]
      have h6 : D % 2 = 0 ∨ D % 2 = 1 := by omega
      rcases h6 with h6 | h6 <;> rw [h6] <;> rfl

/-- Are two lists of numbers equal? -/
theorem isInts : IsFn Try.prog 26 Try.f26 := ⟨Try.func26, by decide, rfl⟩
theorem c_ints (Γ : Env) (x y : List Int) (hx : x.length ≤ 1099511627) : ACalls Try.prog Γ 26 [.sl none (ints x), .sl none (ints y)] (fun r => r = .d (.bool (decide (x = y)))) := by
  refine acalls_of ty_ok isInts rfl rfl ?_
  repeat (first | refine awp_reg ty_ok rfl (by first | (simp only [and_true, true_and]; done) | (simp only [and_true, true_and, bys_len, ints_len, byss_len, canon_bys, canon_ints, canon_byss, Int.toNat_natCast, List.length_append, List.length_cons, List.length_nil, List.length_replicate]; omega)) ?_ | refine awp_seq ?_ | refine awp_all ty_ok rfl (by first | (simp only [and_true, true_and]; done) | (simp only [and_true, true_and, bys_len, ints_len, byss_len, canon_bys, canon_ints, canon_byss, Int.toNat_natCast, List.length_append, List.length_cons, List.length_nil, List.length_replicate]; omega)) ?_ | refine awp_block ?_ | refine awp_skip ?_ | refine awp_exit ?_)
  refine awp_loopR (G := { k : Nat // k ≤ x.length ∧ k ≤ y.length ∧ x.take k = y.take k }) (fun k => ⟨Try.f26.ntmps, [(0, .d (.sl none (ints x))), (1, .d (.sl none (ints y))), (5, .d (.int .i64 k.1))], [], 0⟩) (fun k => x.length - k.1) ⟨0, by simp⟩ []
      (SubR.mk' rfl rfl ⟨⟨_, rfl, rfl⟩, ⟨_, rfl, rfl⟩, ⟨_, rfl, rfl⟩, trivial⟩ trivial) ?_
  rintro ⟨k, hk1, hk2, hk3⟩
  repeat (first | refine awp_reg ty_ok rfl (by first | (simp only [and_true, true_and]; done) | (simp only [and_true, true_and, bys_len, ints_len, byss_len, canon_bys, canon_ints, canon_byss, Int.toNat_natCast, List.length_append, List.length_cons, List.length_nil, List.length_replicate]; omega)) ?_ | refine awp_seq ?_ | refine awp_all ty_ok rfl (by first | (simp only [and_true, true_and]; done) | (simp only [and_true, true_and, bys_len, ints_len, byss_len, canon_bys, canon_ints, canon_byss, Int.toNat_natCast, List.length_append, List.length_cons, List.length_nil, List.length_replicate]; omega)) ?_ | refine awp_block ?_ | refine awp_skip ?_ | refine awp_exit ?_)
  refine awp_mono (Q := fun e σ => e = .normal ∧ Sub σ ⟨Try.f26.ntmps, [(0, .d (.sl none (ints x))), (1, .d (.sl none (ints y))), (5, .d (.int .i64 k)), (15, .d (.bool (decide (k < x.length ∧ k < y.length))))], [], 0⟩) ?_ ?_
  · refine awp_run ty_ok rfl (by first | (simp only [and_true, true_and]; done) | (simp only [and_true, true_and, bys_len, ints_len, byss_len, canon_bys, canon_ints, canon_byss, Int.toNat_natCast, List.length_append, List.length_cons, List.length_nil, List.length_replicate]; omega)) ?_
    by_cases h1 : k < x.length
    · have e1 : decide ((k : Int) < ((ints x).length : Int)) = true := by simp [ints_len, h1]
      simp only [e1]
      refine aops_run ty_ok [4] rfl (by first | (simp only [and_true, true_and]; done) | (simp only [and_true, true_and, bys_len, ints_len, byss_len, canon_bys, canon_ints, canon_byss, Int.toNat_natCast, List.length_append, List.length_cons, List.length_nil, List.length_replicate]; omega)) ?_
      refine aops_nil ?_
      exact ⟨rfl, Sub.mk' rfl rfl ⟨rfl, rfl, rfl, by simp [ints_len, h1]; rfl, trivial⟩ trivial⟩
    · have e1 : decide ((k : Int) < ((ints x).length : Int)) = false := by simp [ints_len]; omega
      simp only [e1]
      refine aops_run ty_ok [4] rfl (by first | (simp only [and_true, true_and]; done) | (simp only [and_true, true_and, bys_len, ints_len, byss_len, canon_bys, canon_ints, canon_byss, Int.toNat_natCast, List.length_append, List.length_cons, List.length_nil, List.length_replicate]; omega)) ?_
      refine aops_nil ?_
      exact ⟨rfl, Sub.mk' rfl rfl ⟨rfl, rfl, rfl, by simp [h1]; rfl, trivial⟩ trivial⟩
  rintro _ σ ⟨rfl, hs⟩
  refine awp_sub hs ?_
  refine awp_cond (ty := ty) rfl (fun hc => ?_) (fun hc => ?_)
  · have h1 : k < x.length ∧ k < y.length := by simpa using hc
    repeat (first | refine awp_reg ty_ok rfl (by first | (simp only [and_true, true_and]; done) | (simp only [and_true, true_and, bys_len, ints_len, byss_len, canon_bys, canon_ints, canon_byss, Int.toNat_natCast, List.length_append, List.length_cons, List.length_nil, List.length_replicate]; omega)) ?_ | refine awp_seq ?_ | refine awp_all ty_ok rfl (by first | (simp only [and_true, true_and]; done) | (simp only [and_true, true_and, bys_len, ints_len, byss_len, canon_bys, canon_ints, canon_byss, Int.toNat_natCast, List.length_append, List.length_cons, List.length_nil, List.length_replicate]; omega)) ?_ | refine awp_block ?_ | refine awp_skip ?_ | refine awp_exit ?_)
    refine awp_any 8 mixed (by kernel_rfl) ?_
    refine head_go ty_ok [] rfl (by first | (simp only [and_true, true_and]; done) | (simp only [and_true, true_and, bys_len, ints_len, byss_len, canon_bys, canon_ints, canon_byss, Int.toNat_natCast, List.length_append, List.length_cons, List.length_nil, List.length_replicate]; omega)) ?_
    simp only [num_ints, Int.toNat_natCast]
    refine head_end ?_
    refine aops_run ty_ok [] rfl (by first | (simp only [and_true, true_and]; done) | (simp only [and_true, true_and, bys_len, ints_len, byss_len, canon_bys, canon_ints, canon_byss, Int.toNat_natCast, List.length_append, List.length_cons, List.length_nil, List.length_replicate]; omega)) ?_
    refine aops_nil ?_
    refine awp_cond (ty := ty) rfl (fun hc => ?_) (fun hc => ?_)
    · repeat (first | refine awp_reg ty_ok rfl (by first | (simp only [and_true, true_and]; done) | (simp only [and_true, true_and, bys_len, ints_len, byss_len, canon_bys, canon_ints, canon_byss, Int.toNat_natCast, List.length_append, List.length_cons, List.length_nil, List.length_replicate]; omega)) ?_ | refine awp_seq ?_ | refine awp_all ty_ok rfl (by first | (simp only [and_true, true_and]; done) | (simp only [and_true, true_and, bys_len, ints_len, byss_len, canon_bys, canon_ints, canon_byss, Int.toNat_natCast, List.length_append, List.length_cons, List.length_nil, List.length_replicate]; omega)) ?_ | refine awp_block ?_ | refine awp_skip ?_ | refine awp_exit ?_)
      refine awp_ret ⟨_, _, rfl, rfl, ?_⟩
      have hne : x ≠ y := by
        rintro rfl
        simp at hc
      simp [hne]
    · repeat (first | refine awp_reg ty_ok rfl (by first | (simp only [and_true, true_and]; done) | (simp only [and_true, true_and, bys_len, ints_len, byss_len, canon_bys, canon_ints, canon_byss, Int.toNat_natCast, List.length_append, List.length_cons, List.length_nil, List.length_replicate]; omega)) ?_ | refine awp_seq ?_ | refine awp_all ty_ok rfl (by first | (simp only [and_true, true_and]; done) | (simp only [and_true, true_and, bys_len, ints_len, byss_len, canon_bys, canon_ints, canon_byss, Int.toNat_natCast, List.length_append, List.length_cons, List.length_nil, List.length_replicate]; omega)) ?_ | refine awp_block ?_ | refine awp_skip ?_ | refine awp_exit ?_)
      have he : x[k] = y[k] := by
        simpa [h1.1, h1.2] using hc
      refine ⟨⟨k + 1, h1.1, h1.2, ?_⟩, [], SubR.mk' rfl rfl ⟨⟨_, rfl, rfl⟩, ⟨_, rfl, rfl⟩, ⟨_, rfl, rfl⟩, trivial⟩ trivial, by simp only; omega⟩
      rw [List.take_succ_eq_append_getElem h1.1, List.take_succ_eq_append_getElem h1.2, hk3, he]
  · have h1 : ¬ (k < x.length ∧ k < y.length) := by simpa using hc
    repeat (first | refine awp_reg ty_ok rfl (by first | (simp only [and_true, true_and]; done) | (simp only [and_true, true_and, bys_len, ints_len, byss_len, canon_bys, canon_ints, canon_byss, Int.toNat_natCast, List.length_append, List.length_cons, List.length_nil, List.length_replicate]; omega)) ?_ | refine awp_seq ?_ | refine awp_all ty_ok rfl (by first | (simp only [and_true, true_and]; done) | (simp only [and_true, true_and, bys_len, ints_len, byss_len, canon_bys, canon_ints, canon_byss, Int.toNat_natCast, List.length_append, List.length_cons, List.length_nil, List.length_replicate]; omega)) ?_ | refine awp_block ?_ | refine awp_skip ?_ | refine awp_exit ?_)
    refine awp_ret ⟨_, _, rfl, rfl, ?_⟩
    have : (x = y) ↔ x.length = y.length := by
      constructor
      · rintro rfl; rfl
      · intro h
        have e1 : x.take k = x := List.take_of_length_le (by omega)
        have e2 : y.take k = y := List.take_of_length_le (by omega)
        rw [e1, e2] at hk3
        exact hk3
    rw [ints_len, ints_len]
    by_cases h : x.length = y.length
    · simp [h, this.2 h]
    · have h3 : ¬ x = y := fun e => h (this.1 e)
      have h4 : ¬ (x.length : Int) = y.length := by omega
      simp [h3, h4]
end Go.Proofs.Ytaenfbgamkieiaa
