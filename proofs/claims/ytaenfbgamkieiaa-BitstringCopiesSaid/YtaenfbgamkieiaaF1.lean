/- Functions of Go's library and of package cretulabase, walked by the abstract machine. -/
import Derived.Test.YtaenfbgamkieiaaTy
namespace Go.Proofs.Ytaenfbgamkieiaa
open Go.Am
set_option linter.unusedSimpArgs false
set_option linter.unusedVariables false

theorem isBytes : IsFn Try.prog 12 Try.f12 := ⟨Try.func12, by decide, rfl⟩
theorem c_bytes (Γ : Env) (x y : List UInt8) : ACalls Try.prog Γ 12 [.sl none (bys x), .sl none (bys y)] (fun r => r = .d (.bool (decide (x = y)))) := by
  refine acalls_of ty_ok isBytes rfl rfl ?_
  refine awp_reg ty_ok rfl (by first | (simp only [and_true, true_and]; done) | (simp only [and_true, true_and, bys_len, ints_len, byss_len, canon_bys, canon_ints, canon_byss, Int.toNat_natCast, List.length_append, List.length_cons, List.length_nil, List.length_replicate]; omega)) ?_
  refine awp_reg ty_ok rfl ?_ ?_
  · simp only [and_true, true_and]
    exact ⟨bys_u8 _, bys_u8 _⟩
  refine awp_ret ⟨_, _, rfl, rfl, ?_⟩
  simp only [strOf_eq]

theorem isClone : IsFn Try.prog 30 Try.f30 := ⟨Try.func30, by decide, rfl⟩
theorem c_clone (Γ : Env) (x : List UInt8) (hx : x.length ≤ 1099511627776) : ACalls Try.prog Γ 30 [.sl none (bys x)] (fun r => r = .own none 5 (bys x)) := by
  refine acalls_of ty_ok isClone rfl rfl ?_
  refine awp_reg ty_ok rfl (by first | (simp only [and_true, true_and]; done) | (simp only [and_true, true_and, bys_len, ints_len, byss_len, canon_bys, canon_ints, canon_byss, Int.toNat_natCast, List.length_append, List.length_cons, List.length_nil, List.length_replicate]; omega)) ?_
  refine awp_seq ?_
  refine awp_regs ty_ok rfl (by first | (simp only [and_true, true_and]; done) | (simp only [and_true, true_and, bys_len, ints_len, byss_len, canon_bys, canon_ints, canon_byss, Int.toNat_natCast, List.length_append, List.length_cons, List.length_nil, List.length_replicate]; omega)) ?_
  refine aops_isnil ty_ok rfl rfl rfl rfl rfl rfl rfl rfl (fun b hb => ?_)
  refine aops_nil ?_
  refine awp_cond (ty := ty) rfl (fun hc => ?_) (fun hc => ?_)
  · refine awp_reg ty_ok rfl (by first | (simp only [and_true, true_and]; done) | (simp only [and_true, true_and, bys_len, ints_len, byss_len, canon_bys, canon_ints, canon_byss, Int.toNat_natCast, List.length_append, List.length_cons, List.length_nil, List.length_replicate]; omega)) ?_
    refine awp_nilrow 2 5 rfl ?_
    refine awp_ret ⟨_, _, rfl, rfl, ?_⟩
    rw [hb hc]
    rfl
  · refine awp_skip ?_
    refine awp_reg ty_ok rfl (by first | (simp only [and_true, true_and]; done) | (simp only [and_true, true_and, bys_len, ints_len, byss_len, canon_bys, canon_ints, canon_byss, Int.toNat_natCast, List.length_append, List.length_cons, List.length_nil, List.length_replicate]; omega)) ?_
    refine awp_ret ⟨_, _, rfl, rfl, ?_⟩
    rfl

def sumL (l : List (List UInt8)) : Nat := (l.map List.length).sum
theorem sumL_take (l : List (List UInt8)) (n : Nat) (h : n < l.length) : sumL (l.take (n + 1)) = sumL (l.take n) + l[n].length := by
  unfold sumL
  rw [List.take_succ_eq_append_getElem h, List.map_append, List.sum_append]
  simp
theorem sumL_le (l : List (List UInt8)) (n : Nat) : sumL (l.take n) ≤ sumL l := by
  have : sumL l = sumL (l.take n) + sumL (l.drop n) := by
    unfold sumL
    rw [← List.sum_append, ← List.map_append, List.take_append_drop]
  omega
theorem sumL_flat (l : List (List UInt8)) : l.flatten.length = sumL l := by simp [sumL, List.length_flatten]

theorem isGrow : IsFn Try.prog 32 Try.f32 := ⟨Try.func32, by decide, rfl⟩
theorem isConcat : IsFn Try.prog 29 Try.f29 := ⟨Try.func29, by decide, rfl⟩
theorem c_concat (Γ : Env) (ps : List (List UInt8)) (h1 : ps.length ≤ 1099511627776) (h2 : sumL ps ≤ 1099511627776) : ACalls Try.prog Γ 29 [.sl none (byss ps)] (fun r => r = .own none 5 (bys ps.flatten)) := by
  refine acalls_of ty_ok isConcat rfl rfl ?_
  repeat (first | refine awp_reg ty_ok rfl (by first | (simp only [and_true, true_and]; done) | (simp only [and_true, true_and, bys_len, ints_len, byss_len, canon_bys, canon_ints, canon_byss, Int.toNat_natCast, List.length_append, List.length_cons, List.length_nil, List.length_replicate]; omega)) ?_ | refine awp_seq ?_ | refine awp_all ty_ok rfl (by first | (simp only [and_true, true_and]; done) | (simp only [and_true, true_and, bys_len, ints_len, byss_len, canon_bys, canon_ints, canon_byss, Int.toNat_natCast, List.length_append, List.length_cons, List.length_nil, List.length_replicate]; omega)) ?_ | refine awp_block ?_ | refine awp_skip ?_ | refine awp_exit ?_)
  refine awp_loop (G := { k : Nat // k ≤ ps.length }) (fun k => ⟨Try.f29.ntmps, [(0, .d (.sl none (byss ps))), (3, .d (.int .i64 (sumL (ps.take k.1)))), (9, .d (.sl none (byss ps))), (10, .d (.int .i64 ps.length)), (11, .d (.int .i64 k.1))], [], 0⟩) (fun k => ps.length - k.1) ⟨0, Nat.zero_le _⟩ (Sub.mk' rfl rfl ⟨rfl, rfl, rfl, congrArg (fun z : Nat => some (AV.d (Dat.int IntKind.i64 z))) (byss_len ps), rfl, trivial⟩ trivial) ?_
  rintro ⟨k, hk⟩
  repeat (first | refine awp_reg ty_ok rfl (by first | (simp only [and_true, true_and]; done) | (simp only [and_true, true_and, bys_len, ints_len, byss_len, canon_bys, canon_ints, canon_byss, Int.toNat_natCast, List.length_append, List.length_cons, List.length_nil, List.length_replicate]; omega)) ?_ | refine awp_seq ?_ | refine awp_all ty_ok rfl (by first | (simp only [and_true, true_and]; done) | (simp only [and_true, true_and, bys_len, ints_len, byss_len, canon_bys, canon_ints, canon_byss, Int.toNat_natCast, List.length_append, List.length_cons, List.length_nil, List.length_replicate]; omega)) ?_ | refine awp_block ?_ | refine awp_skip ?_ | refine awp_exit ?_)
  refine awp_cond (ty := ty) rfl (fun hc => ?_) (fun hc => ?_)
  · have hk1 : k < ps.length := by simpa using hc
    repeat (first | refine awp_reg ty_ok rfl (by first | (simp only [and_true, true_and]; done) | (simp only [and_true, true_and, bys_len, ints_len, byss_len, canon_bys, canon_ints, canon_byss, Int.toNat_natCast, List.length_append, List.length_cons, List.length_nil, List.length_replicate]; omega)) ?_ | refine awp_seq ?_ | refine awp_all ty_ok rfl (by first | (simp only [and_true, true_and]; done) | (simp only [and_true, true_and, bys_len, ints_len, byss_len, canon_bys, canon_ints, canon_byss, Int.toNat_natCast, List.length_append, List.length_cons, List.length_nil, List.length_replicate]; omega)) ?_ | refine awp_block ?_ | refine awp_skip ?_ | refine awp_exit ?_)
    have he : ((byss ps).getD k default).els = bys ps[k] := by
      rw [els_byss]
      simp [hk1]
    simp only [Int.toNat_natCast, he]
    have hs := sumL_take ps k hk1
    have hs2 := sumL_le ps (k + 1)
    repeat (first | refine awp_reg ty_ok rfl (by first | (simp only [and_true, true_and]; done) | (simp only [and_true, true_and, bys_len, ints_len, byss_len, canon_bys, canon_ints, canon_byss, Int.toNat_natCast, List.length_append, List.length_cons, List.length_nil, List.length_replicate]; omega)) ?_ | refine awp_seq ?_ | refine awp_all ty_ok rfl (by first | (simp only [and_true, true_and]; done) | (simp only [and_true, true_and, bys_len, ints_len, byss_len, canon_bys, canon_ints, canon_byss, Int.toNat_natCast, List.length_append, List.length_cons, List.length_nil, List.length_replicate]; omega)) ?_ | refine awp_block ?_ | refine awp_skip ?_ | refine awp_exit ?_)
    refine awp_cond (ty := ty) rfl (fun hc => ?_) (fun hc => ?_)
    · exfalso
      simp at hc
      omega
    repeat (first | refine awp_reg ty_ok rfl (by first | (simp only [and_true, true_and]; done) | (simp only [and_true, true_and, bys_len, ints_len, byss_len, canon_bys, canon_ints, canon_byss, Int.toNat_natCast, List.length_append, List.length_cons, List.length_nil, List.length_replicate]; omega)) ?_ | refine awp_seq ?_ | refine awp_all ty_ok rfl (by first | (simp only [and_true, true_and]; done) | (simp only [and_true, true_and, bys_len, ints_len, byss_len, canon_bys, canon_ints, canon_byss, Int.toNat_natCast, List.length_append, List.length_cons, List.length_nil, List.length_replicate]; omega)) ?_ | refine awp_block ?_ | refine awp_skip ?_ | refine awp_exit ?_)
    refine ⟨⟨k + 1, hk1⟩, Sub.mk' rfl rfl ⟨rfl, congrArg (fun z => some (AV.d (Dat.int IntKind.i64 z))) (by rw [hs, bys_len]; simp), rfl, rfl, rfl, trivial⟩ trivial, by simp only; omega⟩
  · simp at hc
    repeat (first | refine awp_reg ty_ok rfl (by first | (simp only [and_true, true_and]; done) | (simp only [and_true, true_and, bys_len, ints_len, byss_len, canon_bys, canon_ints, canon_byss, Int.toNat_natCast, List.length_append, List.length_cons, List.length_nil, List.length_replicate]; omega)) ?_ | refine awp_seq ?_ | refine awp_all ty_ok rfl (by first | (simp only [and_true, true_and]; done) | (simp only [and_true, true_and, bys_len, ints_len, byss_len, canon_bys, canon_ints, canon_byss, Int.toNat_natCast, List.length_append, List.length_cons, List.length_nil, List.length_replicate]; omega)) ?_ | refine awp_block ?_ | refine awp_skip ?_ | refine awp_exit ?_)
    have hke : k = ps.length := by omega
    subst hke
    rw [List.take_length]
    refine awp_mono (Q := fun e σ => e = .normal ∧ ∃ m, SubR 0 m σ ⟨Try.f29.ntmps, [(0, .d (.sl none (byss ps))), (6, .ref 0)], [(0, .row none 5 [])], 1⟩) ?_ ?_
    · by_cases h0 : sumL ps = 0
      · refine awp_run ty_ok rfl (by first | (simp only [and_true, true_and]; done) | (simp only [and_true, true_and, bys_len, ints_len, byss_len, canon_bys, canon_ints, canon_byss, Int.toNat_natCast, List.length_append, List.length_cons, List.length_nil, List.length_replicate]; omega)) ?_
        refine aops_inline ty_ok rfl rfl rfl rfl rfl rfl isGrow rfl rfl ?_
        repeat (first | refine awp_reg ty_ok rfl (by first | (simp only [and_true, true_and]; done) | (simp only [and_true, true_and, bys_len, ints_len, byss_len, canon_bys, canon_ints, canon_byss, Int.toNat_natCast, List.length_append, List.length_cons, List.length_nil, List.length_replicate]; omega)) ?_ | refine awp_seq ?_ | refine awp_all ty_ok rfl (by first | (simp only [and_true, true_and]; done) | (simp only [and_true, true_and, bys_len, ints_len, byss_len, canon_bys, canon_ints, canon_byss, Int.toNat_natCast, List.length_append, List.length_cons, List.length_nil, List.length_replicate]; omega)) ?_ | refine awp_block ?_ | refine awp_skip ?_ | refine awp_exit ?_)
        refine awp_cond (ty := ty) rfl (fun hc => ?_) (fun hc => ?_)
        · exfalso
          simp at hc
          omega
        repeat (first | refine awp_reg ty_ok rfl (by first | (simp only [and_true, true_and]; done) | (simp only [and_true, true_and, bys_len, ints_len, byss_len, canon_bys, canon_ints, canon_byss, Int.toNat_natCast, List.length_append, List.length_cons, List.length_nil, List.length_replicate]; omega)) ?_ | refine awp_seq ?_ | refine awp_all ty_ok rfl (by first | (simp only [and_true, true_and]; done) | (simp only [and_true, true_and, bys_len, ints_len, byss_len, canon_bys, canon_ints, canon_byss, Int.toNat_natCast, List.length_append, List.length_cons, List.length_nil, List.length_replicate]; omega)) ?_ | refine awp_block ?_ | refine awp_skip ?_ | refine awp_exit ?_)
        refine awp_run ty_ok rfl (by first | (simp only [and_true, true_and]; done) | (simp only [and_true, true_and, bys_len, ints_len, byss_len, canon_bys, canon_ints, canon_byss, Int.toNat_natCast, List.length_append, List.length_cons, List.length_nil, List.length_replicate]; omega)) ?_
        refine aops_capnil ty_ok rfl rfl rfl rfl rfl rfl ?_
        refine aops_run ty_ok [] rfl (by first | (simp only [and_true, true_and]; done) | (simp only [and_true, true_and, bys_len, ints_len, byss_len, canon_bys, canon_ints, canon_byss, Int.toNat_natCast, List.length_append, List.length_cons, List.length_nil, List.length_replicate]; omega)) ?_
        refine aops_nil ?_
        repeat (first | refine awp_reg ty_ok rfl (by first | (simp only [and_true, true_and]; done) | (simp only [and_true, true_and, bys_len, ints_len, byss_len, canon_bys, canon_ints, canon_byss, Int.toNat_natCast, List.length_append, List.length_cons, List.length_nil, List.length_replicate]; omega)) ?_ | refine awp_seq ?_ | refine awp_all ty_ok rfl (by first | (simp only [and_true, true_and]; done) | (simp only [and_true, true_and, bys_len, ints_len, byss_len, canon_bys, canon_ints, canon_byss, Int.toNat_natCast, List.length_append, List.length_cons, List.length_nil, List.length_replicate]; omega)) ?_ | refine awp_block ?_ | refine awp_skip ?_ | refine awp_exit ?_)
        refine awp_cond (ty := ty) rfl (fun hc => ?_) (fun hc => ?_)
        · exfalso
          simp at hc
          omega
        repeat (first | refine awp_reg ty_ok rfl (by first | (simp only [and_true, true_and]; done) | (simp only [and_true, true_and, bys_len, ints_len, byss_len, canon_bys, canon_ints, canon_byss, Int.toNat_natCast, List.length_append, List.length_cons, List.length_nil, List.length_replicate]; omega)) ?_ | refine awp_seq ?_ | refine awp_all ty_ok rfl (by first | (simp only [and_true, true_and]; done) | (simp only [and_true, true_and, bys_len, ints_len, byss_len, canon_bys, canon_ints, canon_byss, Int.toNat_natCast, List.length_append, List.length_cons, List.length_nil, List.length_replicate]; omega)) ?_ | refine awp_block ?_ | refine awp_skip ?_ | refine awp_exit ?_)
        refine awp_ret ⟨_, rfl, ?_⟩
        refine aops_run ty_ok [] rfl (by first | (simp only [and_true, true_and]; done) | (simp only [and_true, true_and, bys_len, ints_len, byss_len, canon_bys, canon_ints, canon_byss, Int.toNat_natCast, List.length_append, List.length_cons, List.length_nil, List.length_replicate]; omega)) ?_
        refine aops_nilrow 6 5 rfl ?_
        refine aops_nil ?_
        exact ⟨rfl, [(0, 0)], SubR.mk' rfl rfl ⟨⟨_, rfl, rfl⟩, ⟨_, rfl, rfl⟩, trivial⟩ ⟨⟨_, _, rfl, rfl, rfl⟩, trivial⟩⟩
      · refine awp_run ty_ok rfl (by first | (simp only [and_true, true_and]; done) | (simp only [and_true, true_and, bys_len, ints_len, byss_len, canon_bys, canon_ints, canon_byss, Int.toNat_natCast, List.length_append, List.length_cons, List.length_nil, List.length_replicate]; omega)) ?_
        refine aops_inline ty_ok rfl rfl rfl rfl rfl rfl isGrow rfl rfl ?_
        repeat (first | refine awp_reg ty_ok rfl (by first | (simp only [and_true, true_and]; done) | (simp only [and_true, true_and, bys_len, ints_len, byss_len, canon_bys, canon_ints, canon_byss, Int.toNat_natCast, List.length_append, List.length_cons, List.length_nil, List.length_replicate]; omega)) ?_ | refine awp_seq ?_ | refine awp_all ty_ok rfl (by first | (simp only [and_true, true_and]; done) | (simp only [and_true, true_and, bys_len, ints_len, byss_len, canon_bys, canon_ints, canon_byss, Int.toNat_natCast, List.length_append, List.length_cons, List.length_nil, List.length_replicate]; omega)) ?_ | refine awp_block ?_ | refine awp_skip ?_ | refine awp_exit ?_)
        refine awp_cond (ty := ty) rfl (fun hc => ?_) (fun hc => ?_)
        · exfalso
          simp at hc
          omega
        repeat (first | refine awp_reg ty_ok rfl (by first | (simp only [and_true, true_and]; done) | (simp only [and_true, true_and, bys_len, ints_len, byss_len, canon_bys, canon_ints, canon_byss, Int.toNat_natCast, List.length_append, List.length_cons, List.length_nil, List.length_replicate]; omega)) ?_ | refine awp_seq ?_ | refine awp_all ty_ok rfl (by first | (simp only [and_true, true_and]; done) | (simp only [and_true, true_and, bys_len, ints_len, byss_len, canon_bys, canon_ints, canon_byss, Int.toNat_natCast, List.length_append, List.length_cons, List.length_nil, List.length_replicate]; omega)) ?_ | refine awp_block ?_ | refine awp_skip ?_ | refine awp_exit ?_)
        refine awp_run ty_ok rfl (by first | (simp only [and_true, true_and]; done) | (simp only [and_true, true_and, bys_len, ints_len, byss_len, canon_bys, canon_ints, canon_byss, Int.toNat_natCast, List.length_append, List.length_cons, List.length_nil, List.length_replicate]; omega)) ?_
        refine aops_capnil ty_ok rfl rfl rfl rfl rfl rfl ?_
        refine aops_run ty_ok [] rfl (by first | (simp only [and_true, true_and]; done) | (simp only [and_true, true_and, bys_len, ints_len, byss_len, canon_bys, canon_ints, canon_byss, Int.toNat_natCast, List.length_append, List.length_cons, List.length_nil, List.length_replicate]; omega)) ?_
        refine aops_nil ?_
        repeat (first | refine awp_reg ty_ok rfl (by first | (simp only [and_true, true_and]; done) | (simp only [and_true, true_and, bys_len, ints_len, byss_len, canon_bys, canon_ints, canon_byss, Int.toNat_natCast, List.length_append, List.length_cons, List.length_nil, List.length_replicate]; omega)) ?_ | refine awp_seq ?_ | refine awp_all ty_ok rfl (by first | (simp only [and_true, true_and]; done) | (simp only [and_true, true_and, bys_len, ints_len, byss_len, canon_bys, canon_ints, canon_byss, Int.toNat_natCast, List.length_append, List.length_cons, List.length_nil, List.length_replicate]; omega)) ?_ | refine awp_block ?_ | refine awp_skip ?_ | refine awp_exit ?_)
        refine awp_cond (ty := ty) rfl (fun hc => ?_) (fun hc => ?_)
        · repeat (first | refine awp_reg ty_ok rfl (by first | (simp only [and_true, true_and]; done) | (simp only [and_true, true_and, bys_len, ints_len, byss_len, canon_bys, canon_ints, canon_byss, Int.toNat_natCast, List.length_append, List.length_cons, List.length_nil, List.length_replicate]; omega)) ?_ | refine awp_seq ?_ | refine awp_all ty_ok rfl (by first | (simp only [and_true, true_and]; done) | (simp only [and_true, true_and, bys_len, ints_len, byss_len, canon_bys, canon_ints, canon_byss, Int.toNat_natCast, List.length_append, List.length_cons, List.length_nil, List.length_replicate]; omega)) ?_ | refine awp_block ?_ | refine awp_skip ?_ | refine awp_exit ?_)
          refine awp_run ty_ok rfl (by first | (simp only [and_true, true_and]; done) | (simp only [and_true, true_and, bys_len, ints_len, byss_len, canon_bys, canon_ints, canon_byss, Int.toNat_natCast, List.length_append, List.length_cons, List.length_nil, List.length_replicate]; omega)) ?_
          refine aops_capnil ty_ok rfl rfl rfl rfl rfl rfl ?_
          refine aops_cutnil ty_ok rfl rfl rfl rfl rfl rfl rfl rfl ?_
          refine aops_run ty_ok [] rfl (by first | (simp only [and_true, true_and]; done) | (simp only [and_true, true_and, bys_len, ints_len, byss_len, canon_bys, canon_ints, canon_byss, Int.toNat_natCast, List.length_append, List.length_cons, List.length_nil, List.length_replicate]; omega)) ?_
          refine aops_zeros ty_ok rfl rfl rfl rfl rfl rfl rfl rfl rfl rfl rfl rfl (by simp; omega) (by simp; omega) ?_
          refine aops_run ty_ok [] rfl (by first | (simp only [and_true, true_and]; done) | (simp only [and_true, true_and, bys_len, ints_len, byss_len, canon_bys, canon_ints, canon_byss, Int.toNat_natCast, List.length_append, List.length_cons, List.length_nil, List.length_replicate]; omega)) ?_
          refine aops_cut ty_ok rfl rfl rfl rfl rfl rfl rfl rfl rfl (by simp) (by simp) ?_
          refine aops_run ty_ok [] rfl (by first | (simp only [and_true, true_and]; done) | (simp only [and_true, true_and, bys_len, ints_len, byss_len, canon_bys, canon_ints, canon_byss, Int.toNat_natCast, List.length_append, List.length_cons, List.length_nil, List.length_replicate]; omega)) ?_
          refine aops_nil ?_
          repeat (first | refine awp_reg ty_ok rfl (by first | (simp only [and_true, true_and]; done) | (simp only [and_true, true_and, bys_len, ints_len, byss_len, canon_bys, canon_ints, canon_byss, Int.toNat_natCast, List.length_append, List.length_cons, List.length_nil, List.length_replicate]; omega)) ?_ | refine awp_seq ?_ | refine awp_all ty_ok rfl (by first | (simp only [and_true, true_and]; done) | (simp only [and_true, true_and, bys_len, ints_len, byss_len, canon_bys, canon_ints, canon_byss, Int.toNat_natCast, List.length_append, List.length_cons, List.length_nil, List.length_replicate]; omega)) ?_ | refine awp_block ?_ | refine awp_skip ?_ | refine awp_exit ?_)
          refine awp_ret ⟨_, rfl, ?_⟩
          refine aops_run ty_ok [] rfl (by first | (simp only [and_true, true_and]; done) | (simp only [and_true, true_and, bys_len, ints_len, byss_len, canon_bys, canon_ints, canon_byss, Int.toNat_natCast, List.length_append, List.length_cons, List.length_nil, List.length_replicate]; omega)) ?_
          refine aops_nil ?_
          exact ⟨rfl, [(1, 0)], SubR.mk' rfl rfl ⟨⟨_, rfl, rfl⟩, ⟨_, rfl, rfl⟩, trivial⟩ ⟨⟨_, _, rfl, rfl, rfl⟩, trivial⟩⟩
        · exfalso
          simp at hc
          omega
    · rintro _ σ ⟨rfl, m, hs⟩
      refine awp_ren m hs ?_
      repeat (first | refine awp_reg ty_ok rfl (by first | (simp only [and_true, true_and]; done) | (simp only [and_true, true_and, bys_len, ints_len, byss_len, canon_bys, canon_ints, canon_byss, Int.toNat_natCast, List.length_append, List.length_cons, List.length_nil, List.length_replicate]; omega)) ?_ | refine awp_seq ?_ | refine awp_all ty_ok rfl (by first | (simp only [and_true, true_and]; done) | (simp only [and_true, true_and, bys_len, ints_len, byss_len, canon_bys, canon_ints, canon_byss, Int.toNat_natCast, List.length_append, List.length_cons, List.length_nil, List.length_replicate]; omega)) ?_ | refine awp_block ?_ | refine awp_skip ?_ | refine awp_exit ?_)
      refine awp_loopR (G := { k : Nat // k ≤ ps.length }) (fun k => ⟨Try.f29.ntmps, [(6, .ref 0), (25, .d (.sl none (byss ps))), (26, .d (.int .i64 ps.length)), (27, .d (.int .i64 k.1))], [(0, .row none 5 (bys (ps.take k.1).flatten))], 1⟩) (fun k => ps.length - k.1) ⟨0, Nat.zero_le _⟩ [(0, 0)]
        (SubR.mk' rfl rfl ⟨⟨_, rfl, rfl⟩, ⟨_, rfl, rfl⟩, ⟨_, rfl, congrArg (fun z : Nat => AV.d (Dat.int IntKind.i64 z)) (byss_len ps)⟩, ⟨_, rfl, rfl⟩, trivial⟩ ⟨⟨_, _, rfl, rfl, rfl⟩, trivial⟩) ?_
      rintro ⟨k, hk⟩
      repeat (first | refine awp_reg ty_ok rfl (by first | (simp only [and_true, true_and]; done) | (simp only [and_true, true_and, bys_len, ints_len, byss_len, canon_bys, canon_ints, canon_byss, Int.toNat_natCast, List.length_append, List.length_cons, List.length_nil, List.length_replicate]; omega)) ?_ | refine awp_seq ?_ | refine awp_all ty_ok rfl (by first | (simp only [and_true, true_and]; done) | (simp only [and_true, true_and, bys_len, ints_len, byss_len, canon_bys, canon_ints, canon_byss, Int.toNat_natCast, List.length_append, List.length_cons, List.length_nil, List.length_replicate]; omega)) ?_ | refine awp_block ?_ | refine awp_skip ?_ | refine awp_exit ?_)
      refine awp_cond (ty := ty) rfl (fun hc => ?_) (fun hc => ?_)
      · have hk1 : k < ps.length := by simpa using hc
        repeat (first | refine awp_reg ty_ok rfl (by first | (simp only [and_true, true_and]; done) | (simp only [and_true, true_and, bys_len, ints_len, byss_len, canon_bys, canon_ints, canon_byss, Int.toNat_natCast, List.length_append, List.length_cons, List.length_nil, List.length_replicate]; omega)) ?_ | refine awp_seq ?_ | refine awp_all ty_ok rfl (by first | (simp only [and_true, true_and]; done) | (simp only [and_true, true_and, bys_len, ints_len, byss_len, canon_bys, canon_ints, canon_byss, Int.toNat_natCast, List.length_append, List.length_cons, List.length_nil, List.length_replicate]; omega)) ?_ | refine awp_block ?_ | refine awp_skip ?_ | refine awp_exit ?_)
        have he : ((byss ps).getD k default).els = bys ps[k] := by
          rw [els_byss]
          simp [hk1]
        simp only [Int.toNat_natCast, he]
        have hs := sumL_take ps k hk1
        have hs2 := sumL_le ps (k + 1)
        have hfl := sumL_flat (ps.take k)
        repeat (first | refine awp_reg ty_ok rfl (by first | (simp only [and_true, true_and]; done) | (simp only [and_true, true_and, bys_len, ints_len, byss_len, canon_bys, canon_ints, canon_byss, Int.toNat_natCast, List.length_append, List.length_cons, List.length_nil, List.length_replicate]; omega)) ?_ | refine awp_seq ?_ | refine awp_all ty_ok rfl (by first | (simp only [and_true, true_and]; done) | (simp only [and_true, true_and, bys_len, ints_len, byss_len, canon_bys, canon_ints, canon_byss, Int.toNat_natCast, List.length_append, List.length_cons, List.length_nil, List.length_replicate]; omega)) ?_ | refine awp_block ?_ | refine awp_skip ?_ | refine awp_exit ?_)
        refine ⟨⟨k + 1, hk1⟩, [(1, 0)], SubR.mk' rfl rfl ⟨⟨_, rfl, rfl⟩, ⟨_, rfl, rfl⟩, ⟨_, rfl, rfl⟩, ⟨_, rfl, rfl⟩, trivial⟩ ⟨⟨_, _, rfl, rfl, congrArg (AO.row none 5) ?_⟩, trivial⟩, by simp only; omega⟩
        rw [List.take_succ_eq_append_getElem hk1, List.flatten_append, bys_app]
        simp
      · have hke : k = ps.length := by
          simp at hc
          omega
        subst hke
        repeat (first | refine awp_reg ty_ok rfl (by first | (simp only [and_true, true_and]; done) | (simp only [and_true, true_and, bys_len, ints_len, byss_len, canon_bys, canon_ints, canon_byss, Int.toNat_natCast, List.length_append, List.length_cons, List.length_nil, List.length_replicate]; omega)) ?_ | refine awp_seq ?_ | refine awp_all ty_ok rfl (by first | (simp only [and_true, true_and]; done) | (simp only [and_true, true_and, bys_len, ints_len, byss_len, canon_bys, canon_ints, canon_byss, Int.toNat_natCast, List.length_append, List.length_cons, List.length_nil, List.length_replicate]; omega)) ?_ | refine awp_block ?_ | refine awp_skip ?_ | refine awp_exit ?_)
        refine awp_ret ⟨_, _, rfl, rfl, ?_⟩
        simp
end Go.Proofs.Ytaenfbgamkieiaa
