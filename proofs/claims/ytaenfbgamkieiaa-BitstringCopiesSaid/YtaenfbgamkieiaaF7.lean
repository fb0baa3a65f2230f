/- EncodeNamed, walked by the abstract machine. -/
import Derived.Test.YtaenfbgamkieiaaF6
import Derived.Test.YtaenfbgamkieiaaNamed
namespace Go.Proofs.Ytaenfbgamkieiaa
open Go.Am
set_option linter.unusedSimpArgs false
set_option linter.unusedVariables false

def badF (n k : Int) : Bool := decide (k < 1 ∨ k > 32 ∨ n < 0 ∨ ¬ n.toNat < 2 ^ k.toNat)
def encNR (n k : Int) (r : Res) : Prop := (badF n k = true → r = .d (.tup [.sl none [], .int .i64 9])) ∧ (badF n k = false → memF n.toNat = [] → r = .ownT none 5 (bys [0]) [.int .i64 0]) ∧
  (badF n k = false → ∀ q m, memF n.toNat = q ++ [m] → r = .ownT none 5 (bys (outP (q ++ [m]) m)) [.int .i64 0])

theorem isEncodeNamed : IsFn Try.prog 22 Try.f22 := ⟨Try.func22, by decide, rfl⟩
theorem c_encn (Γ : Env) (n k : Int) (hn : n ≤ 9223372036854775807) : ACalls Try.prog Γ 22 [.int .i64 n, .int .i64 k] (encNR n k) := by
  refine acalls_of ty_ok isEncodeNamed rfl rfl ?_
  repeat (first | refine awp_reg ty_ok rfl (by first | (simp only [and_true, true_and]; done) | (simp only [and_true, true_and, bys_len, ints_len, natI_len, byss_len, canon_bys, canon_ints, canon_byss, Int.toNat_natCast, List.length_append, List.length_cons, List.length_nil, List.length_replicate]; omega)) ?_ | refine awp_seq ?_ | refine awp_all ty_ok rfl (by first | (simp only [and_true, true_and]; done) | (simp only [and_true, true_and, bys_len, ints_len, natI_len, byss_len, canon_bys, canon_ints, canon_byss, Int.toNat_natCast, List.length_append, List.length_cons, List.length_nil, List.length_replicate]; omega)) ?_ | refine awp_block ?_ | refine awp_skip ?_ | refine awp_exit ?_)
  refine awp_mono (Q := fun e σ => e = .normal ∧ Sub σ ⟨Try.f22.ntmps, [(0, .d (.int .i64 n)), (1, .d (.int .i64 k)), (26, .d (.bool (badF n k)))], [], 0⟩) ?_ ?_
  · refine awp_run ty_ok rfl (by first | (simp only [and_true, true_and]; done) | (simp only [and_true, true_and, bys_len, ints_len, natI_len, byss_len, canon_bys, canon_ints, canon_byss, Int.toNat_natCast, List.length_append, List.length_cons, List.length_nil, List.length_replicate]; omega)) ?_
    by_cases h1 : k < 1
    · simp only [h1, decide_true]
      refine aops_run ty_ok [2, 6, 10] rfl (by first | (simp only [and_true, true_and]; done) | (simp only [and_true, true_and, bys_len, ints_len, natI_len, byss_len, canon_bys, canon_ints, canon_byss, Int.toNat_natCast, List.length_append, List.length_cons, List.length_nil, List.length_replicate]; omega)) ?_
      refine aops_nil ?_
      exact ⟨rfl, Sub.mk' rfl rfl ⟨rfl, rfl, by simp [badF, h1]; rfl, trivial⟩ trivial⟩
    · simp only [h1, decide_false]
      refine aops_run ty_ok [2] rfl (by first | (simp only [and_true, true_and]; done) | (simp only [and_true, true_and, bys_len, ints_len, natI_len, byss_len, canon_bys, canon_ints, canon_byss, Int.toNat_natCast, List.length_append, List.length_cons, List.length_nil, List.length_replicate]; omega)) ?_
      by_cases h2 : k > 32
      · simp only [h2, decide_true]
        refine aops_run ty_ok [2, 6, 10] rfl (by first | (simp only [and_true, true_and]; done) | (simp only [and_true, true_and, bys_len, ints_len, natI_len, byss_len, canon_bys, canon_ints, canon_byss, Int.toNat_natCast, List.length_append, List.length_cons, List.length_nil, List.length_replicate]; omega)) ?_
        refine aops_nil ?_
        exact ⟨rfl, Sub.mk' rfl rfl ⟨rfl, rfl, by simp [badF, h2]; rfl, trivial⟩ trivial⟩
      · simp only [h2, decide_false]
        refine aops_run ty_ok [2, 6] rfl (by first | (simp only [and_true, true_and]; done) | (simp only [and_true, true_and, bys_len, ints_len, natI_len, byss_len, canon_bys, canon_ints, canon_byss, Int.toNat_natCast, List.length_append, List.length_cons, List.length_nil, List.length_replicate]; omega)) ?_
        by_cases h3 : n < 0
        · simp only [h3, decide_true]
          refine aops_run ty_ok [2, 6, 10] rfl (by first | (simp only [and_true, true_and]; done) | (simp only [and_true, true_and, bys_len, ints_len, natI_len, byss_len, canon_bys, canon_ints, canon_byss, Int.toNat_natCast, List.length_append, List.length_cons, List.length_nil, List.length_replicate]; omega)) ?_
          refine aops_nil ?_
          exact ⟨rfl, Sub.mk' rfl rfl ⟨rfl, rfl, by simp [badF, h3]; rfl, trivial⟩ trivial⟩
        · simp only [h3, decide_false]
          refine aops_run ty_ok [2, 6, 10] rfl (by first | (simp only [and_true, true_and]; done) | (simp only [and_true, true_and, bys_len, ints_len, natI_len, byss_len, canon_bys, canon_ints, canon_byss, Int.toNat_natCast, List.length_append, List.length_cons, List.length_nil, List.length_replicate]; omega)) ?_
          refine aops_nil ?_
          refine ⟨rfl, Sub.mk' rfl rfl ⟨rfl, rfl, ?_, trivial⟩ trivial⟩
          obtain ⟨N, rfl⟩ := Int.eq_ofNat_of_zero_le (show 0 ≤ n by omega)
          obtain ⟨K, rfl⟩ := Int.eq_ofNat_of_zero_le (show 0 ≤ k by omega)
          refine congrArg (fun b => some (AV.d (Dat.bool b))) (?_ : (shft .shr .i64 (N : Int) (K : Int) != 0) = _)
          rw [shr_i64 N K (by omega)]
          have hlt : N / 2 ^ K = 0 ↔ N < 2 ^ K := Nat.div_eq_zero_iff_lt (Nat.two_pow_pos K)
          by_cases h4 : N < 2 ^ K
          · rw [hlt.2 h4]
            simp [badF, h1, h2, h3, h4]
          · have h5 : ¬ N / 2 ^ K = 0 := fun h => h4 (hlt.1 h)
            have h6 : ¬ ((N / 2 ^ K : Nat) : Int) = 0 := fun h => h5 (Int.ofNat.inj h)
            have h7 : badF (N : Int) (K : Int) = true := by
              simp only [badF, Int.toNat_natCast]
              simp [h4]
            rw [h7]
            simpa using h6
  rintro _ σ ⟨rfl, hs⟩
  refine awp_sub hs ?_
  refine awp_cond (ty := ty) rfl (fun hc => ?_) (fun hc => ?_)
  · repeat (first | refine awp_reg ty_ok rfl (by first | (simp only [and_true, true_and]; done) | (simp only [and_true, true_and, bys_len, ints_len, natI_len, byss_len, canon_bys, canon_ints, canon_byss, Int.toNat_natCast, List.length_append, List.length_cons, List.length_nil, List.length_replicate]; omega)) ?_ | refine awp_seq ?_ | refine awp_all ty_ok rfl (by first | (simp only [and_true, true_and]; done) | (simp only [and_true, true_and, bys_len, ints_len, natI_len, byss_len, canon_bys, canon_ints, canon_byss, Int.toNat_natCast, List.length_append, List.length_cons, List.length_nil, List.length_replicate]; omega)) ?_ | refine awp_block ?_ | refine awp_skip ?_ | refine awp_exit ?_)
    refine awp_ret ⟨_, _, rfl, rfl, ?_⟩
    exact ⟨fun _ => rfl, fun h => (by rw [hc] at h; cases h), fun h => (by rw [hc] at h; cases h)⟩
  have hb := hc
  have hbf : badF n k = false := hc
  simp [badF] at hb
  obtain ⟨h1, h2, h3, h4⟩ := hb
  obtain ⟨N, rfl⟩ := Int.eq_ofNat_of_zero_le h3
  obtain ⟨K, rfl⟩ := Int.eq_ofNat_of_zero_le (show 0 ≤ k by omega)
  repeat (first | refine awp_reg ty_ok rfl (by first | (simp only [and_true, true_and]; done) | (simp only [and_true, true_and, bys_len, ints_len, natI_len, byss_len, canon_bys, canon_ints, canon_byss, Int.toNat_natCast, List.length_append, List.length_cons, List.length_nil, List.length_replicate]; omega)) ?_ | refine awp_seq ?_ | refine awp_all ty_ok rfl (by first | (simp only [and_true, true_and]; done) | (simp only [and_true, true_and, bys_len, ints_len, natI_len, byss_len, canon_bys, canon_ints, canon_byss, Int.toNat_natCast, List.length_append, List.length_cons, List.length_nil, List.length_replicate]; omega)) ?_ | refine awp_block ?_ | refine awp_skip ?_ | refine awp_exit ?_)
  refine awp_run ty_ok rfl (by first | (simp only [and_true, true_and]; done) | (simp only [and_true, true_and, bys_len, ints_len, natI_len, byss_len, canon_bys, canon_ints, canon_byss, Int.toNat_natCast, List.length_append, List.length_cons, List.length_nil, List.length_replicate]; omega)) ?_
  refine aops_call (ty := ty) rfl rfl rfl rfl rfl rfl rfl (c_members _ N hn) (fun r hr => ?_)
  subst hr
  refine aops_run ty_ok [] rfl (by first | (simp only [and_true, true_and]; done) | (simp only [and_true, true_and, bys_len, ints_len, natI_len, byss_len, canon_bys, canon_ints, canon_byss, Int.toNat_natCast, List.length_append, List.length_cons, List.length_nil, List.length_replicate]; omega)) ?_
  refine aops_nil ?_
  repeat (first | refine awp_reg ty_ok rfl (by first | (simp only [and_true, true_and]; done) | (simp only [and_true, true_and, bys_len, ints_len, natI_len, byss_len, canon_bys, canon_ints, canon_byss, Int.toNat_natCast, List.length_append, List.length_cons, List.length_nil, List.length_replicate]; omega)) ?_ | refine awp_seq ?_ | refine awp_all ty_ok rfl (by first | (simp only [and_true, true_and]; done) | (simp only [and_true, true_and, bys_len, ints_len, natI_len, byss_len, canon_bys, canon_ints, canon_byss, Int.toNat_natCast, List.length_append, List.length_cons, List.length_nil, List.length_replicate]; omega)) ?_ | refine awp_block ?_ | refine awp_skip ?_ | refine awp_exit ?_)
  have hmi : memI (N : Int) = natI (memF N) := by simp only [memI, Int.toNat_natCast]
  simp only [hmi]
  rcases List.eq_nil_or_concat (memF N) with he | ⟨q, m, he⟩
  · simp only [he]
    refine awp_cond (ty := ty) rfl (fun hc => ?_) (fun hc => ?_)
    · repeat (first | refine awp_reg ty_ok rfl (by first | (simp only [and_true, true_and]; done) | (simp only [and_true, true_and, bys_len, ints_len, natI_len, byss_len, canon_bys, canon_ints, canon_byss, Int.toNat_natCast, List.length_append, List.length_cons, List.length_nil, List.length_replicate]; omega)) ?_ | refine awp_seq ?_ | refine awp_all ty_ok rfl (by first | (simp only [and_true, true_and]; done) | (simp only [and_true, true_and, bys_len, ints_len, natI_len, byss_len, canon_bys, canon_ints, canon_byss, Int.toNat_natCast, List.length_append, List.length_cons, List.length_nil, List.length_replicate]; omega)) ?_ | refine awp_block ?_ | refine awp_skip ?_ | refine awp_exit ?_)
      refine awp_ret ⟨_, _, rfl, rfl, ?_⟩
      exact ⟨fun h => (by rw [hbf] at h; cases h), fun _ _ => rfl, fun _ q m h => (by rw [Int.toNat_natCast, he] at h; simp at h)⟩
    · exfalso
      simp [natI, ints] at *
  · rw [List.concat_eq_append] at he
    simp only [he]
    have hm64 : m < 64 := by
      have : m ∈ memF N := by rw [he]; simp
      have := (List.mem_filter.1 this).1
      exact List.mem_range.1 this
    have hq64 : q.length ≤ 63 := by
      have := memTo_len N 64
      have h9 : memTo N 64 = memF N := rfl
      rw [h9, he] at this
      simp at this
      omega
    refine awp_cond (ty := ty) rfl (fun hc => ?_) (fun hc => ?_)
    · exfalso
      simp [natI, ints] at *
      omega
    have hlast : ((ints (natI (q ++ [m]))).getD (((ints (natI (q ++ [m]))).length : Int) - 1).toNat default).num = (m : Int) := by
      rw [num_ints, ints_len, natI_len]
      simp [natI]
    have hq : IntKind.i64.wrap (Int.tdiv (m : Int) 8) = ((m / 8 : Nat) : Int) := by
      rw [Int.tdiv_eq_ediv_of_nonneg (by omega), IntKind.wrap_i64]
      omega
    have hm : Int.tmod (m : Int) 8 = ((m % 8 : Nat) : Int) := rfl
    repeat (first | refine awp_reg ty_ok rfl (by first | (simp only [and_true, true_and]; done) | (simp only [and_true, true_and, bys_len, ints_len, natI_len, byss_len, canon_bys, canon_ints, canon_byss, Int.toNat_natCast, List.length_append, List.length_cons, List.length_nil, List.length_replicate]; omega)) ?_ | refine awp_seq ?_ | refine awp_all ty_ok rfl (by first | (simp only [and_true, true_and]; done) | (simp only [and_true, true_and, bys_len, ints_len, natI_len, byss_len, canon_bys, canon_ints, canon_byss, Int.toNat_natCast, List.length_append, List.length_cons, List.length_nil, List.length_replicate]; omega)) ?_ | refine awp_block ?_ | refine awp_skip ?_ | refine awp_exit ?_)
    simp only [hlast]
    refine awp_all ty_ok rfl ?_ ?_
    · simp only [and_true, true_and, hq]
      omega
    simp only [hq]
    repeat (first | refine awp_reg ty_ok rfl (by first | (simp only [and_true, true_and]; done) | (simp only [and_true, true_and, bys_len, ints_len, natI_len, byss_len, canon_bys, canon_ints, canon_byss, Int.toNat_natCast, List.length_append, List.length_cons, List.length_nil, List.length_replicate]; omega)) ?_ | refine awp_seq ?_ | refine awp_all ty_ok rfl (by first | (simp only [and_true, true_and]; done) | (simp only [and_true, true_and, bys_len, ints_len, natI_len, byss_len, canon_bys, canon_ints, canon_byss, Int.toNat_natCast, List.length_append, List.length_cons, List.length_nil, List.length_replicate]; omega)) ?_ | refine awp_block ?_ | refine awp_skip ?_ | refine awp_exit ?_)
    refine awp_all ty_ok rfl ?_ ?_
    · simp only [and_true, true_and, hm, List.length_replicate]
      exact ⟨⟨by omega, by omega⟩, rfl, by omega⟩
    repeat (first | refine awp_reg ty_ok rfl (by first | (simp only [and_true, true_and]; done) | (simp only [and_true, true_and, bys_len, ints_len, natI_len, byss_len, canon_bys, canon_ints, canon_byss, Int.toNat_natCast, List.length_append, List.length_cons, List.length_nil, List.length_replicate]; omega)) ?_ | refine awp_seq ?_ | refine awp_all ty_ok rfl (by first | (simp only [and_true, true_and]; done) | (simp only [and_true, true_and, bys_len, ints_len, natI_len, byss_len, canon_bys, canon_ints, canon_byss, Int.toNat_natCast, List.length_append, List.length_cons, List.length_nil, List.length_replicate]; omega)) ?_ | refine awp_block ?_ | refine awp_skip ?_ | refine awp_exit ?_)
    refine awp_loopR (G := { j : Nat // j ≤ (q ++ [m]).length }) (fun j => ⟨Try.f22.ntmps, [(8, .ref 1), (49, .ref 0), (50, .d (.int .i64 (q ++ [m]).length)), (51, .d (.int .i64 j.1))], [(0, .row none 3 (ints (natI (q ++ [m])))), (1, .row none 5 (bys (outP ((q ++ [m]).take j.1) m)))], 2⟩) (fun j => (q ++ [m]).length - j.1) ⟨0, Nat.zero_le _⟩ [(0, 0), (1, 1)]
      (SubR.mk' rfl rfl ⟨⟨_, rfl, rfl⟩, ⟨_, rfl, rfl⟩, ⟨_, rfl, congrArg (fun z : Nat => AV.d (Dat.int IntKind.i64 z)) (by rw [ints_len, natI_len])⟩, ⟨_, rfl, rfl⟩, trivial⟩ ⟨⟨_, _, rfl, rfl, rfl⟩, ⟨_, _, rfl, rfl, congrArg (AO.row none 5) ?_⟩, trivial⟩) ?_
    · rw [hm, wrap_u8 _ (by omega) (by omega), show (2 + ((m / 8 : Nat) : Int)).toNat = (m / 8 + 1) + 1 by omega, List.replicate_succ]
      have e1 : (7 - ((m % 8 : Nat) : Int)).toNat = 7 - m % 8 := by omega
      rw [e1]
      show Dat.int .u8 _ :: List.replicate (m / 8 + 1) (Dat.int .u8 0) = Dat.int .u8 _ :: bys ((List.range (m / 8 + 1)).map fun j => UInt8.ofNat (byteP [] j))
      congr 1
      simp only [byteP_nil]
      symm
      rw [List.eq_replicate_iff]
      refine ⟨by simp [bys], fun b hb => ?_⟩
      simp [bys] at hb
      obtain ⟨_, _, rfl⟩ := hb
      rfl
    rintro ⟨j, hj⟩
    repeat (first | refine awp_reg ty_ok rfl (by first | (simp only [and_true, true_and]; done) | (simp only [and_true, true_and, bys_len, ints_len, natI_len, byss_len, canon_bys, canon_ints, canon_byss, Int.toNat_natCast, List.length_append, List.length_cons, List.length_nil, List.length_replicate]; omega)) ?_ | refine awp_seq ?_ | refine awp_all ty_ok rfl (by first | (simp only [and_true, true_and]; done) | (simp only [and_true, true_and, bys_len, ints_len, natI_len, byss_len, canon_bys, canon_ints, canon_byss, Int.toNat_natCast, List.length_append, List.length_cons, List.length_nil, List.length_replicate]; omega)) ?_ | refine awp_block ?_ | refine awp_skip ?_ | refine awp_exit ?_)
    refine awp_cond (ty := ty) rfl (fun hc => ?_) (fun hc => ?_)
    · have hj1 : j < q.length + 1 := by simp at hc; omega
      have hj2 : j < (q ++ [m]).length := by simpa using hj1
      obtain ⟨mj, hmj⟩ : ∃ mj, mj = (q ++ [m])[j] := ⟨_, rfl⟩
      have hinc : Inc (q ++ [m]) := by rw [← he]; exact memF_inc N
      have hle : mj ≤ m := by
        have h9 : mj ∈ q ++ [m] := by rw [hmj]; exact List.getElem_mem hj2
        rcases List.mem_append.1 h9 with h9 | h9
        · exact Nat.le_of_lt ((inc_snoc hinc).2 mj h9)
        · simp at h9; omega
      have htake : (q ++ [m]).take (j + 1) = (q ++ [m]).take j ++ [mj] := by rw [hmj, List.take_succ_eq_append_getElem hj2]
      have hinc2 : Inc ((q ++ [m]).take (j + 1)) := List.Pairwise.sublist (List.take_sublist _ _) hinc
      rw [htake] at hinc2
      have hlt := (inc_snoc hinc2).2
      have hel : ((ints (natI (q ++ [m]))).getD (Int.toNat (j : Int)) default).num = (mj : Int) := by
        rw [num_ints, Int.toNat_natCast, natI, List.getD_eq_getElem?_getD, List.getElem?_map, List.getElem?_eq_getElem hj2, hmj]
        rfl
      have hqj : IntKind.i64.wrap (Int.tdiv (mj : Int) 8) = ((mj / 8 : Nat) : Int) := by
        rw [Int.tdiv_eq_ediv_of_nonneg (by omega), IntKind.wrap_i64]
        omega
      have hmm : Int.tmod (mj : Int) 8 = ((mj % 8 : Nat) : Int) := rfl
      repeat (first | refine awp_reg ty_ok rfl (by first | (simp only [and_true, true_and]; done) | (simp only [and_true, true_and, bys_len, ints_len, natI_len, byss_len, canon_bys, canon_ints, canon_byss, Int.toNat_natCast, List.length_append, List.length_cons, List.length_nil, List.length_replicate]; omega)) ?_ | refine awp_seq ?_ | refine awp_all ty_ok rfl (by first | (simp only [and_true, true_and]; done) | (simp only [and_true, true_and, bys_len, ints_len, natI_len, byss_len, canon_bys, canon_ints, canon_byss, Int.toNat_natCast, List.length_append, List.length_cons, List.length_nil, List.length_replicate]; omega)) ?_ | refine awp_block ?_ | refine awp_skip ?_ | refine awp_exit ?_)
      simp only [hel]
      refine awp_any 10 mixed (by kernel_rfl) ?_
      refine head_go ty_ok [] rfl ?_ ?_
      · simp only [and_true, true_and, hqj, hmm, canon_bys, bys_len, outP_len]
        omega
      simp only [hqj, hmm, num_bys]
      refine head_end ?_
      refine aops_run ty_ok [] rfl ?_ ?_
      · simp only [true_and, bys_len, outP_len]
        exact ⟨⟨by omega, by omega⟩, rfl, by omega⟩
      refine aops_nil ?_
      repeat (first | refine awp_reg ty_ok rfl (by first | (simp only [and_true, true_and]; done) | (simp only [and_true, true_and, bys_len, ints_len, natI_len, byss_len, canon_bys, canon_ints, canon_byss, Int.toNat_natCast, List.length_append, List.length_cons, List.length_nil, List.length_replicate]; omega)) ?_ | refine awp_seq ?_ | refine awp_all ty_ok rfl (by first | (simp only [and_true, true_and]; done) | (simp only [and_true, true_and, bys_len, ints_len, natI_len, byss_len, canon_bys, canon_ints, canon_byss, Int.toNat_natCast, List.length_append, List.length_cons, List.length_nil, List.length_replicate]; omega)) ?_ | refine awp_block ?_ | refine awp_skip ?_ | refine awp_exit ?_)
      refine ⟨⟨j + 1, hj2⟩, [(0, 0), (1, 1)], SubR.mk' rfl rfl ⟨⟨_, rfl, rfl⟩, ⟨_, rfl, rfl⟩, ⟨_, rfl, rfl⟩, ⟨_, rfl, rfl⟩, trivial⟩ ⟨⟨_, _, rfl, rfl, rfl⟩, ⟨_, _, rfl, rfl, congrArg (AO.row none 5) ?_⟩, trivial⟩, by simp only; omega⟩
      simp only [htake]
      exact set_outP _ m mj hle hinc2
    · have hje : j = (q ++ [m]).length := by
        simp at hc
        simp at hj
        simp
        omega
      subst hje
      repeat (first | refine awp_reg ty_ok rfl (by first | (simp only [and_true, true_and]; done) | (simp only [and_true, true_and, bys_len, ints_len, natI_len, byss_len, canon_bys, canon_ints, canon_byss, Int.toNat_natCast, List.length_append, List.length_cons, List.length_nil, List.length_replicate]; omega)) ?_ | refine awp_seq ?_ | refine awp_all ty_ok rfl (by first | (simp only [and_true, true_and]; done) | (simp only [and_true, true_and, bys_len, ints_len, natI_len, byss_len, canon_bys, canon_ints, canon_byss, Int.toNat_natCast, List.length_append, List.length_cons, List.length_nil, List.length_replicate]; omega)) ?_ | refine awp_block ?_ | refine awp_skip ?_ | refine awp_exit ?_)
      refine awp_ret ⟨_, _, rfl, rfl, ?_⟩
      refine ⟨fun h => (by rw [hbf] at h; cases h), fun _ h => (by rw [Int.toNat_natCast, he] at h; simp at h), fun _ q' m' h => ?_⟩
      rw [Int.toNat_natCast, he] at h
      obtain ⟨rfl, h2⟩ := List.append_inj' h rfl
      cases h2
      rw [List.take_length]
end Go.Proofs.Ytaenfbgamkieiaa
