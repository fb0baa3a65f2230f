/- DecodeNamed of the reference, walked by the abstract machine. -/
import Derived.Test.YtaenfbgamkieiaaF9
namespace Go.Proofs.Ytaenfbgamkieiaa
open Go.Am
set_option linter.unusedSimpArgs false
set_option linter.unusedVariables false

/-- The contents octets of a set. -/
def namF (S : Nat) : List UInt8 := match (memF S).getLast? with
  | none => [0]
  | some m => outP (memF S) m
def encRes (n k : Int) : Res := match badF n k with
  | true => .d (.tup [.sl none [], .int .i64 9])
  | false => .ownT none 5 (bys (namF n.toNat)) [.int .i64 0]
theorem encRes_of {n k : Int} {r : Res} (h : encNR n k r) : r = encRes n k := by
  unfold encRes
  cases hb : badF n k with
  | true => exact h.1 hb
  | false =>
    rcases List.eq_nil_or_concat (memF n.toNat) with he | ⟨q, m, he⟩
    · rw [h.2.1 hb he]
      simp [namF, he]
    · rw [List.concat_eq_append] at he
      rw [h.2.2 hb q m he]
      simp [namF, he]
theorem c_encn1 (Γ : Env) (n k : Int) (hn : n ≤ 9223372036854775807) : ACalls Try.prog Γ 22 [.int .i64 n, .int .i64 k] (fun r => r = encRes n k) := (c_encn Γ n k hn).mono fun r h => encRes_of h
theorem c_rencn1 (Γ : Env) (n k : Int) (hn : n ≤ 9223372036854775807) : ACalls Try.prog Γ 23 [.int .i64 n, .int .i64 k] (fun r => r = encRes n k) := (c_rencn Γ n k hn).mono fun r h => encRes_of h

def rdnF (c : List UInt8) (k : Int) : Int × Int := match decide (k < 1 ∨ k > 32) with
  | true => (0, 9)
  | false => match decide (namF (setTo (bitF (decF c).1 (decF c).2.1) k.toNat) = c) with
    | true => ((setTo (bitF (decF c).1 (decF c).2.1) k.toNat : Int), 0)
    | false => (0, 6)
theorem isRDecodeNamed : IsFn Try.prog 28 Try.f28 := ⟨Try.func28, by decide, rfl⟩
theorem c_rdecn (Γ : Env) (c : List UInt8) (k : Int) (hx : c.length ≤ 1099511627) : ACalls Try.prog Γ 28 [.sl none (bys c), .int .i64 k] (fun r => r = .d (.tup [.int .i64 (rdnF c k).1, .int .i64 (rdnF c k).2])) := by
  refine acalls_of ty_ok isRDecodeNamed rfl rfl ?_
  repeat (first | refine awp_reg ty_ok rfl (by first | (simp only [and_true, true_and]; done) | (simp only [and_true, true_and, bys_len, ints_len, byss_len, canon_bys, canon_ints, canon_byss, Int.toNat_natCast, List.length_append, List.length_cons, List.length_nil, List.length_replicate]; omega)) ?_ | refine awp_seq ?_ | refine awp_all ty_ok rfl (by first | (simp only [and_true, true_and]; done) | (simp only [and_true, true_and, bys_len, ints_len, byss_len, canon_bys, canon_ints, canon_byss, Int.toNat_natCast, List.length_append, List.length_cons, List.length_nil, List.length_replicate]; omega)) ?_ | refine awp_block ?_ | refine awp_skip ?_ | refine awp_exit ?_)
  refine awp_mono (Q := fun e σ => e = .normal ∧ Sub σ ⟨Try.f28.ntmps, [(0, .d (.sl none (bys c))), (1, .d (.int .i64 k)), (18, .d (.bool (decide (k < 1 ∨ k > 32))))], [], 0⟩) ?_ ?_
  · refine awp_run ty_ok rfl (by first | (simp only [and_true, true_and]; done) | (simp only [and_true, true_and, bys_len, ints_len, byss_len, canon_bys, canon_ints, canon_byss, Int.toNat_natCast, List.length_append, List.length_cons, List.length_nil, List.length_replicate]; omega)) ?_
    by_cases h1 : k < 1
    · simp only [h1, decide_true]
      refine aops_run ty_ok [2] rfl (by first | (simp only [and_true, true_and]; done) | (simp only [and_true, true_and, bys_len, ints_len, byss_len, canon_bys, canon_ints, canon_byss, Int.toNat_natCast, List.length_append, List.length_cons, List.length_nil, List.length_replicate]; omega)) ?_
      refine aops_nil ?_
      exact ⟨rfl, Sub.mk' rfl rfl ⟨rfl, rfl, by simp; rfl, trivial⟩ trivial⟩
    · simp only [h1, decide_false]
      refine aops_run ty_ok [2] rfl (by first | (simp only [and_true, true_and]; done) | (simp only [and_true, true_and, bys_len, ints_len, byss_len, canon_bys, canon_ints, canon_byss, Int.toNat_natCast, List.length_append, List.length_cons, List.length_nil, List.length_replicate]; omega)) ?_
      refine aops_nil ?_
      exact ⟨rfl, Sub.mk' rfl rfl ⟨rfl, rfl, by simp [h1]; rfl, trivial⟩ trivial⟩
  rintro _ σ ⟨rfl, hs⟩
  refine awp_sub hs ?_
  refine awp_cond (ty := ty) rfl (fun hc => ?_) (fun hc => ?_)
  · repeat (first | refine awp_reg ty_ok rfl (by first | (simp only [and_true, true_and]; done) | (simp only [and_true, true_and, bys_len, ints_len, byss_len, canon_bys, canon_ints, canon_byss, Int.toNat_natCast, List.length_append, List.length_cons, List.length_nil, List.length_replicate]; omega)) ?_ | refine awp_seq ?_ | refine awp_all ty_ok rfl (by first | (simp only [and_true, true_and]; done) | (simp only [and_true, true_and, bys_len, ints_len, byss_len, canon_bys, canon_ints, canon_byss, Int.toNat_natCast, List.length_append, List.length_cons, List.length_nil, List.length_replicate]; omega)) ?_ | refine awp_block ?_ | refine awp_skip ?_ | refine awp_exit ?_)
    refine awp_ret ⟨_, _, rfl, rfl, ?_⟩
    simp only [rdnF, hc]
  have hk : 1 ≤ k ∧ k ≤ 32 := by
    simp at hc
    omega
  repeat (first | refine awp_reg ty_ok rfl (by first | (simp only [and_true, true_and]; done) | (simp only [and_true, true_and, bys_len, ints_len, byss_len, canon_bys, canon_ints, canon_byss, Int.toNat_natCast, List.length_append, List.length_cons, List.length_nil, List.length_replicate]; omega)) ?_ | refine awp_seq ?_ | refine awp_all ty_ok rfl (by first | (simp only [and_true, true_and]; done) | (simp only [and_true, true_and, bys_len, ints_len, byss_len, canon_bys, canon_ints, canon_byss, Int.toNat_natCast, List.length_append, List.length_cons, List.length_nil, List.length_replicate]; omega)) ?_ | refine awp_block ?_ | refine awp_skip ?_ | refine awp_exit ?_)
  refine awp_run ty_ok rfl (by first | (simp only [and_true, true_and]; done) | (simp only [and_true, true_and, bys_len, ints_len, byss_len, canon_bys, canon_ints, canon_byss, Int.toNat_natCast, List.length_append, List.length_cons, List.length_nil, List.length_replicate]; omega)) ?_
  refine aops_call (ty := ty) rfl rfl rfl rfl rfl rfl rfl (c_rdecode _ c hx) (fun r hr => ?_)
  subst hr
  obtain ⟨x, hx1⟩ : ∃ x, x = (decF c).1 := ⟨_, rfl⟩
  obtain ⟨u, hu1⟩ : ∃ u, u = (decF c).2.1 := ⟨_, rfl⟩
  obtain ⟨e, he1⟩ : ∃ e, e = (decF c).2.2 := ⟨_, rfl⟩
  have hxl : x.length ≤ c.length := by
    rw [hx1]
    unfold decF
    split
    · simp
    · split <;> simp
  have hdd : decD c = .tup [bitsD x u, .int .i64 e] := by rw [hx1, hu1, he1]; rfl
  rw [hdd]
  simp only [rdnF, hc, ← hx1, ← hu1]
  refine aops_run ty_ok [] rfl (by first | (simp only [and_true, true_and]; done) | (simp only [and_true, true_and, bys_len, ints_len, byss_len, canon_bys, canon_ints, canon_byss, Int.toNat_natCast, List.length_append, List.length_cons, List.length_nil, List.length_replicate]; omega)) ?_
  refine aops_nil ?_
  repeat (first | refine awp_reg ty_ok rfl (by first | (simp only [and_true, true_and]; done) | (simp only [and_true, true_and, bys_len, ints_len, byss_len, canon_bys, canon_ints, canon_byss, Int.toNat_natCast, List.length_append, List.length_cons, List.length_nil, List.length_replicate]; omega)) ?_ | refine awp_seq ?_ | refine awp_all ty_ok rfl (by first | (simp only [and_true, true_and]; done) | (simp only [and_true, true_and, bys_len, ints_len, byss_len, canon_bys, canon_ints, canon_byss, Int.toNat_natCast, List.length_append, List.length_cons, List.length_nil, List.length_replicate]; omega)) ?_ | refine awp_block ?_ | refine awp_skip ?_ | refine awp_exit ?_)
  obtain ⟨M, rfl⟩ := Int.eq_ofNat_of_zero_le (show 0 ≤ k by omega)
  refine awp_loopR (G := { j : Nat // j ≤ M }) (fun j => ⟨Try.f28.ntmps, [(0, .d (.sl none (bys c))), (1, .d (.int .i64 M)), (6, .ptr 0 0), (8, .d (.int .i64 ((setTo (bitF x u) j.1 : Nat) : Int))), (9, .d (.int .i64 ((2 ^ j.1 : Nat) : Int))), (10, .d (.int .i64 j.1))], [(0, .box 24 [.d (.sl none (bys x)), .d (.int .i64 u)])], 1⟩) (fun j => M - j.1) ⟨0, Nat.zero_le _⟩ [(0, 0)]
    (SubR.mk' rfl rfl ⟨⟨_, rfl, rfl⟩, ⟨_, rfl, rfl⟩, ⟨_, rfl, rfl⟩, ⟨_, rfl, rfl⟩, ⟨_, rfl, rfl⟩, ⟨_, rfl, rfl⟩, trivial⟩ ⟨⟨_, _, rfl, rfl, rfl⟩, trivial⟩) ?_
  rintro ⟨j, hj⟩
  repeat (first | refine awp_reg ty_ok rfl (by first | (simp only [and_true, true_and]; done) | (simp only [and_true, true_and, bys_len, ints_len, byss_len, canon_bys, canon_ints, canon_byss, Int.toNat_natCast, List.length_append, List.length_cons, List.length_nil, List.length_replicate]; omega)) ?_ | refine awp_seq ?_ | refine awp_all ty_ok rfl (by first | (simp only [and_true, true_and]; done) | (simp only [and_true, true_and, bys_len, ints_len, byss_len, canon_bys, canon_ints, canon_byss, Int.toNat_natCast, List.length_append, List.length_cons, List.length_nil, List.length_replicate]; omega)) ?_ | refine awp_block ?_ | refine awp_skip ?_ | refine awp_exit ?_)
  refine awp_cond (ty := ty) rfl (fun hc => ?_) (fun hc => ?_)
  · have hj1 : j < M := by simpa using hc
    repeat (first | refine awp_reg ty_ok rfl (by first | (simp only [and_true, true_and]; done) | (simp only [and_true, true_and, bys_len, ints_len, byss_len, canon_bys, canon_ints, canon_byss, Int.toNat_natCast, List.length_append, List.length_cons, List.length_nil, List.length_replicate]; omega)) ?_ | refine awp_seq ?_ | refine awp_all ty_ok rfl (by first | (simp only [and_true, true_and]; done) | (simp only [and_true, true_and, bys_len, ints_len, byss_len, canon_bys, canon_ints, canon_byss, Int.toNat_natCast, List.length_append, List.length_cons, List.length_nil, List.length_replicate]; omega)) ?_ | refine awp_block ?_ | refine awp_skip ?_ | refine awp_exit ?_)
    refine awp_run ty_ok rfl (by first | (simp only [and_true, true_and]; done) | (simp only [and_true, true_and, bys_len, ints_len, byss_len, canon_bys, canon_ints, canon_byss, Int.toNat_natCast, List.length_append, List.length_cons, List.length_nil, List.length_replicate]; omega)) ?_
    refine aops_call (ty := ty) rfl rfl rfl rfl rfl rfl rfl (c_rat _ x u (j : Int) (by omega)) (fun r hr => ?_)
    subst hr
    refine aops_run ty_ok [] rfl (by first | (simp only [and_true, true_and]; done) | (simp only [and_true, true_and, bys_len, ints_len, byss_len, canon_bys, canon_ints, canon_byss, Int.toNat_natCast, List.length_append, List.length_cons, List.length_nil, List.length_replicate]; omega)) ?_
    refine aops_nil ?_
    have h1 := setTo_lt (bitF x u) j
    have hp : 2 ^ j ≤ 2 ^ 32 := Nat.pow_le_pow_right (by omega) (by omega)
    have hq : ((2 ^ (j + 1) : Nat) : Int) = ((2 ^ j : Nat) : Int) * 2 := by rw [Nat.pow_succ]; omega
    obtain ⟨pw, hpw⟩ : ∃ pw, pw = 2 ^ j := ⟨_, rfl⟩
    rw [← hpw] at hp hq h1
    simp only [← hpw]
    refine awp_cond (ty := ty) rfl (fun hc => ?_) (fun hc => ?_)
    · have hst : setTo (bitF x u) (j + 1) = setTo (bitF x u) j + pw := by
        have h8 : bitF x u j = true := hc
        simp [setTo, h8, hpw]
      repeat (first | refine awp_reg ty_ok rfl (by first | (simp only [and_true, true_and]; done) | (simp only [and_true, true_and, bys_len, ints_len, byss_len, canon_bys, canon_ints, canon_byss, Int.toNat_natCast, List.length_append, List.length_cons, List.length_nil, List.length_replicate]; omega)) ?_ | refine awp_seq ?_ | refine awp_all ty_ok rfl (by first | (simp only [and_true, true_and]; done) | (simp only [and_true, true_and, bys_len, ints_len, byss_len, canon_bys, canon_ints, canon_byss, Int.toNat_natCast, List.length_append, List.length_cons, List.length_nil, List.length_replicate]; omega)) ?_ | refine awp_block ?_ | refine awp_skip ?_ | refine awp_exit ?_)
      refine ⟨⟨j + 1, hj1⟩, [(0, 0)], SubR.mk' rfl rfl ⟨⟨_, rfl, rfl⟩, ⟨_, rfl, rfl⟩, ⟨_, rfl, rfl⟩, ⟨_, rfl, congrArg (fun z : Nat => AV.d (Dat.int IntKind.i64 (z : Int))) hst.symm⟩, ⟨_, rfl, congrArg (fun z : Int => AV.d (Dat.int IntKind.i64 z)) hq.symm⟩, ⟨_, rfl, rfl⟩, trivial⟩ ⟨⟨_, _, rfl, rfl, rfl⟩, trivial⟩, by simp only; omega⟩
    · have hst : setTo (bitF x u) (j + 1) = setTo (bitF x u) j := by
        have h8 : bitF x u j = false := hc
        simp [setTo, h8]
      repeat (first | refine awp_reg ty_ok rfl (by first | (simp only [and_true, true_and]; done) | (simp only [and_true, true_and, bys_len, ints_len, byss_len, canon_bys, canon_ints, canon_byss, Int.toNat_natCast, List.length_append, List.length_cons, List.length_nil, List.length_replicate]; omega)) ?_ | refine awp_seq ?_ | refine awp_all ty_ok rfl (by first | (simp only [and_true, true_and]; done) | (simp only [and_true, true_and, bys_len, ints_len, byss_len, canon_bys, canon_ints, canon_byss, Int.toNat_natCast, List.length_append, List.length_cons, List.length_nil, List.length_replicate]; omega)) ?_ | refine awp_block ?_ | refine awp_skip ?_ | refine awp_exit ?_)
      refine ⟨⟨j + 1, hj1⟩, [(0, 0)], SubR.mk' rfl rfl ⟨⟨_, rfl, rfl⟩, ⟨_, rfl, rfl⟩, ⟨_, rfl, rfl⟩, ⟨_, rfl, congrArg (fun z : Nat => AV.d (Dat.int IntKind.i64 (z : Int))) hst.symm⟩, ⟨_, rfl, congrArg (fun z : Int => AV.d (Dat.int IntKind.i64 z)) hq.symm⟩, ⟨_, rfl, rfl⟩, trivial⟩ ⟨⟨_, _, rfl, rfl, rfl⟩, trivial⟩, by simp only; omega⟩
  · have hje : j = M := by
      simp at hc
      omega
    subst hje
    have h1 := setTo_lt (bitF x u) j
    have hp : 2 ^ j ≤ 2 ^ 32 := Nat.pow_le_pow_right (by omega) (by omega)
    repeat (first | refine awp_reg ty_ok rfl (by first | (simp only [and_true, true_and]; done) | (simp only [and_true, true_and, bys_len, ints_len, byss_len, canon_bys, canon_ints, canon_byss, Int.toNat_natCast, List.length_append, List.length_cons, List.length_nil, List.length_replicate]; omega)) ?_ | refine awp_seq ?_ | refine awp_all ty_ok rfl (by first | (simp only [and_true, true_and]; done) | (simp only [and_true, true_and, bys_len, ints_len, byss_len, canon_bys, canon_ints, canon_byss, Int.toNat_natCast, List.length_append, List.length_cons, List.length_nil, List.length_replicate]; omega)) ?_ | refine awp_block ?_ | refine awp_skip ?_ | refine awp_exit ?_)
    refine awp_run ty_ok rfl (by first | (simp only [and_true, true_and]; done) | (simp only [and_true, true_and, bys_len, ints_len, byss_len, canon_bys, canon_ints, canon_byss, Int.toNat_natCast, List.length_append, List.length_cons, List.length_nil, List.length_replicate]; omega)) ?_
    refine aops_call (ty := ty) rfl rfl rfl rfl rfl rfl rfl (c_rencn1 _ (setTo (bitF x u) j : Nat) (j : Int) (by omega)) (fun r hr => ?_)
    have hbf : badF ((setTo (bitF x u) j : Nat) : Int) (j : Int) = false := by
      simp [badF]
      omega
    have hr1 : r = .ownT none 5 (bys (namF (setTo (bitF x u) j))) [.int .i64 0] := by
      rw [hr, encRes, hbf]
      simp
    subst hr1
    refine aops_run ty_ok [] rfl (by first | (simp only [and_true, true_and]; done) | (simp only [and_true, true_and, bys_len, ints_len, byss_len, canon_bys, canon_ints, canon_byss, Int.toNat_natCast, List.length_append, List.length_cons, List.length_nil, List.length_replicate]; omega)) ?_
    refine aops_nil ?_
    repeat (first | refine awp_reg ty_ok rfl (by first | (simp only [and_true, true_and]; done) | (simp only [and_true, true_and, bys_len, ints_len, byss_len, canon_bys, canon_ints, canon_byss, Int.toNat_natCast, List.length_append, List.length_cons, List.length_nil, List.length_replicate]; omega)) ?_ | refine awp_seq ?_ | refine awp_all ty_ok rfl (by first | (simp only [and_true, true_and]; done) | (simp only [and_true, true_and, bys_len, ints_len, byss_len, canon_bys, canon_ints, canon_byss, Int.toNat_natCast, List.length_append, List.length_cons, List.length_nil, List.length_replicate]; omega)) ?_ | refine awp_block ?_ | refine awp_skip ?_ | refine awp_exit ?_)
    refine awp_run ty_ok rfl (by first | (simp only [and_true, true_and]; done) | (simp only [and_true, true_and, bys_len, ints_len, byss_len, canon_bys, canon_ints, canon_byss, Int.toNat_natCast, List.length_append, List.length_cons, List.length_nil, List.length_replicate]; omega)) ?_
    refine aops_call (ty := ty) rfl rfl rfl rfl rfl rfl rfl (c_bytes _ (namF (setTo (bitF x u) j)) c) (fun r hr => ?_)
    subst hr
    refine aops_run ty_ok [] rfl (by first | (simp only [and_true, true_and]; done) | (simp only [and_true, true_and, bys_len, ints_len, byss_len, canon_bys, canon_ints, canon_byss, Int.toNat_natCast, List.length_append, List.length_cons, List.length_nil, List.length_replicate]; omega)) ?_
    refine aops_nil ?_
    refine awp_cond (ty := ty) rfl (fun hc => ?_) (fun hc => ?_)
    · have h3 : decide (namF (setTo (bitF x u) j) = c) = false := by simpa using hc
      repeat (first | refine awp_reg ty_ok rfl (by first | (simp only [and_true, true_and]; done) | (simp only [and_true, true_and, bys_len, ints_len, byss_len, canon_bys, canon_ints, canon_byss, Int.toNat_natCast, List.length_append, List.length_cons, List.length_nil, List.length_replicate]; omega)) ?_ | refine awp_seq ?_ | refine awp_all ty_ok rfl (by first | (simp only [and_true, true_and]; done) | (simp only [and_true, true_and, bys_len, ints_len, byss_len, canon_bys, canon_ints, canon_byss, Int.toNat_natCast, List.length_append, List.length_cons, List.length_nil, List.length_replicate]; omega)) ?_ | refine awp_block ?_ | refine awp_skip ?_ | refine awp_exit ?_)
      refine awp_ret ⟨_, _, rfl, rfl, ?_⟩
      simp only [Int.toNat_natCast, h3]
    · have h3 : decide (namF (setTo (bitF x u) j) = c) = true := by simpa using hc
      repeat (first | refine awp_reg ty_ok rfl (by first | (simp only [and_true, true_and]; done) | (simp only [and_true, true_and, bys_len, ints_len, byss_len, canon_bys, canon_ints, canon_byss, Int.toNat_natCast, List.length_append, List.length_cons, List.length_nil, List.length_replicate]; omega)) ?_ | refine awp_seq ?_ | refine awp_all ty_ok rfl (by first | (simp only [and_true, true_and]; done) | (simp only [and_true, true_and, bys_len, ints_len, byss_len, canon_bys, canon_ints, canon_byss, Int.toNat_natCast, List.length_append, List.length_cons, List.length_nil, List.length_replicate]; omega)) ?_ | refine awp_block ?_ | refine awp_skip ?_ | refine awp_exit ?_)
      refine awp_ret ⟨_, _, rfl, rfl, ?_⟩
      simp only [Int.toNat_natCast, h3]
end Go.Proofs.Ytaenfbgamkieiaa
