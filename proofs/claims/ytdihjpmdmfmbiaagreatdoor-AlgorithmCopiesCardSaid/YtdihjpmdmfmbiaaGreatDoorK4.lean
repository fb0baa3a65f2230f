/- Part 4 of the texts of this proof: an abstract machine for walks, the walks of the functions, plain laws. Each part says in its own first lines what is proved there. -/
import Derived.Test.YtdihjpmdmfmbiaaGreatDoorK3
import Derived.MapKept

/- Arcs, Valid of package oid and of its reference, walked by the abstract machine. -/
namespace Go.Proofs.YtdihjpmdmfmbiaaGreatDoor
open Go.Am
open Go.Lib (decDigits)
set_option linter.unusedSimpArgs false
set_option linter.unusedVariables false

theorem c_parse_ok (l : List UInt8) (hl : l.length ≤ 1000000000) (u : Nat) (h : Lib.parseUintB 32 l = .ok u) : ACalls Tryz.prog envL 78 [sD l, .int .i64 10, .int .i64 32] (fun r => r = .d (.tup [.int .u64 u, .nilIf])) := (c_parse l (by omega)).mono fun r hr => by
  simpa only [parR, h] using hr
theorem c_parse_syn (l : List UInt8) (hl : l.length ≤ 1000000000) (h : Lib.parseUintB 32 l = Lib.parseUintB 32 []) : ACalls Tryz.prog envL 78 [sD l, .int .i64 10, .int .i64 32] (fun r => r = .d (.tup [.int .u64 0, .someIf])) := (c_parse l (by omega)).mono fun r hr => by
  unfold parR at hr
  rw [h] at hr
  exact hr
theorem c_parse_rng (l : List UInt8) (hl : l.length ≤ 1000000000) (h : Lib.parseUintB 32 l = .range) : ACalls Tryz.prog envL 78 [sD l, .int .i64 10, .int .i64 32] (fun r => r = .d (.tup [.int .u64 4294967295, .someIf])) := (c_parse l (by omega)).mono fun r hr => by
  simpa only [parR, h] using hr
def arcsD (l : List UInt8) : Dat := match okF l with
  | some a => .tup [.sl none (u32s a), .int .i64 0]
  | none => .tup [.sl none [], .int .i64 11]
theorem u32s_app (x y : List Nat) : u32s (x ++ y) = u32s x ++ u32s y := by simp [u32s]
theorem wrap_u32 (n : Nat) (h : n ≤ 4294967295) : IntKind.u32.wrap (n : Int) = n := by rw [IntKind.wrap_u32]; omega
theorem okF_none_of {l p : List UInt8} (hm : p ∈ splitL l) (h : arcF p = none) : okF l = none := by
  unfold okF
  rw [mapM_none_of hm h]
theorem isArcs : IsFn Tryz.prog 58 Tryz.f58 := ⟨Tryz.func58, by decide, rfl⟩
set_option maxHeartbeats 1000000 in
theorem c_arcs (l : List UInt8) (hl : l.length ≤ 100000000) : ACalls Tryz.prog envL 58 [sD l] (fun r => r = .d (arcsD l)) := by
  refine acalls_of ty_ok isArcs rfl rfl ?_
  have hlen := splitL_len l
  have hcl := count_le l
  have hpl := splitL_drop l
  repeat' (first | ((with_reducible show AWp _ _ _ _ _); (first | refine awp_seq ?_ | refine awp_block ?_ | refine awp_skip ?_ | refine awp_exit ?_ | refine awp_scope ?_ | refine awp_label ?_ | refine awp_run ty_ok rfl sd ?_ | refine awp_ret ⟨_, _, rfl, rfl, ?_⟩ | refine awp_ret ⟨_, rfl, ?_⟩ | ((refine awp_cond (ty := ty) rfl (fun hc => ?_) (fun hc => ?_)) <;> (try simp only [nms, reduceCtorEq] at hc) <;> (try (exfalso; omega))))) | ((with_reducible show AOps _ _ _ _ _ _); (first | refine aops_nil ?_ | refine aops_go ty_ok rfl rfl sd ?_ | refine aops_gate ty_ok rfl rfl rfl sd ?_ | refine aops_callE (ty := ty) rfl rfl rfl rfl rfl rfl rfl (c_split _ l (by omega)) rfl ?_ | refine aops_litE ty_ok rfl rfl rfl rfl rfl rfl rfl rfl rfl rfl rfl rfl ?_ | refine aops_cutE ty_ok rfl rfl rfl rfl rfl rfl rfl rfl rfl sd rfl ?_ | ((fail_if_success (refine aops_known rfl ?_)); (refine aops_split ty_ok rfl rfl rfl rfl rfl rfl (fun hc => ⟨?_, ?_⟩) (fun hc => ⟨?_, ?_⟩)) <;> (try simp only [nms, reduceCtorEq] at hc) <;> (try (exfalso; omega)) <;> (try exact sd)))) | ((fail_if_success (with_reducible show AWp _ _ _ _ _)); (fail_if_success (with_reducible show AOps _ _ _ _ _ _)); (first | (show AWp _ _ _ _ _) | (show AOps _ _ _ _ _ _))))
  refine awp_nilrow 4 97 rfl ?_
  refine awp_loopR (G := { p : Nat × List Nat // p.1 ≤ (splitL l).length ∧ ((splitL l).take p.1).mapM arcF = some p.2 ∧ p.2.length = p.1 }) (fun p => ⟨Tryz.f58.ntmps, [(4, .ref 1), (10, .ref 0), (11, .d (.int .i64 (splitL l).length)), (12, .d (.int .i64 p.1.1))], [(0, .row none 9 (strs (splitL l))), (1, .row none 97 (u32s p.1.2))], 2⟩) (fun p => (splitL l).length - p.1.1) ⟨(0, []), Nat.zero_le _, rfl, rfl⟩ [(0, 0), (1, 1)]
    (SubR.mk' rfl rfl ⟨⟨_, rfl, rfl⟩, ⟨_, rfl, rfl⟩, ⟨_, rfl, congrArg (fun z : Nat => AV.d (Dat.int IntKind.i64 z)) (strs_len _)⟩, ⟨_, rfl, rfl⟩, trivial⟩ ⟨⟨_, _, rfl, rfl, rfl⟩, ⟨_, _, rfl, rfl, rfl⟩, trivial⟩) ?_
  rintro ⟨⟨k, a⟩, hk, ha, hal⟩
  simp only at hk ha hal
  dsimp only
  rcases Nat.lt_or_ge k (splitL l).length with hkl | hkl
  · obtain ⟨p, hp⟩ : ∃ p, p = (splitL l)[k] := ⟨_, rfl⟩
    have hmem : p ∈ splitL l := by rw [hp]; exact List.getElem_mem _
    have htx : ((strs (splitL l)).getD (k : Int).toNat default).txt = bA p := by
      rw [txt_strs, Int.toNat_natCast, List.getD_eq_getElem?_getD, List.getElem?_eq_getElem hkl, hp]
      rfl
    have hplen := hpl p hmem
    have hsnoc : ((splitL l).take (k + 1)).mapM arcF = match arcF p with
        | some n => some (a ++ [n])
        | none => none := by
      rw [List.take_succ_eq_append_getElem hkl, mapM_snoc, ha, ← hp]
      cases arcF p <;> rfl
    have hap := arcF_parse p
    cases hpu : Lib.parseUintB 32 p with
    | ok u =>
      have hu := parse32_le hpu
      have hc1 := c_parse_ok p (by omega) u hpu
      rw [hpu] at hap
      simp only at hap
      unfold sD at hc1
      rw [← htx] at hc1
      repeat' (first | ((with_reducible show AWp _ _ _ _ _); (first | refine awp_seq ?_ | refine awp_block ?_ | refine awp_skip ?_ | refine awp_exit ?_ | refine awp_scope ?_ | refine awp_label ?_ | refine awp_run ty_ok rfl sd ?_ | refine awp_ret ⟨_, _, rfl, rfl, ?_⟩ | refine awp_ret ⟨_, rfl, ?_⟩ | ((refine awp_cond (ty := ty) rfl (fun hc => ?_) (fun hc => ?_)) <;> (try simp only [nms, reduceCtorEq] at hc) <;> (try (exfalso; omega))))) | ((with_reducible show AOps _ _ _ _ _ _); (first | refine aops_nil ?_ | refine aops_go ty_ok rfl rfl sd ?_ | refine aops_gate ty_ok rfl rfl rfl sd ?_ | refine aops_callE (ty := ty) rfl rfl rfl rfl rfl rfl rfl (hc1) rfl ?_ | refine aops_callE (ty := ty) rfl rfl rfl rfl rfl rfl rfl (c_format u (by omega)) rfl ?_ | refine aops_litE ty_ok rfl rfl rfl rfl rfl rfl rfl rfl rfl rfl rfl rfl ?_ | refine aops_cutE ty_ok rfl rfl rfl rfl rfl rfl rfl rfl rfl sd rfl ?_ | ((fail_if_success (refine aops_known rfl ?_)); (refine aops_split ty_ok rfl rfl rfl rfl rfl rfl (fun hc => ⟨?_, ?_⟩) (fun hc => ⟨?_, ?_⟩)) <;> (try simp only [nms, reduceCtorEq] at hc) <;> (try (exfalso; omega)) <;> (try exact sd)))) | ((fail_if_success (with_reducible show AWp _ _ _ _ _)); (fail_if_success (with_reducible show AOps _ _ _ _ _ _)); (first | (show AWp _ _ _ _ _) | (show AOps _ _ _ _ _ _))))
      · rw [htx, bA_inj] at hc
        have : arcF p = none := by rw [hap, decide_eq_false hc]
        rw [arcsD, okF_none_of hmem this]
        rfl
      · rw [htx, bA_inj] at hc
        rw [decide_eq_true hc] at hap
        rw [hap] at hsnoc
        refine ⟨⟨(k + 1, a ++ [u]), hkl, hsnoc, by simp [hal]⟩, [(0, 0), (3, 1)], SubR.mk' rfl rfl ⟨⟨_, rfl, rfl⟩, ⟨_, rfl, rfl⟩, ⟨_, rfl, rfl⟩, ⟨_, rfl, rfl⟩, trivial⟩ ⟨⟨_, _, rfl, rfl, rfl⟩, ⟨_, _, rfl, rfl, congrArg (AO.row none 97) ?_⟩, trivial⟩, by simp only; omega⟩
        rw [u32s_app, wrap_u32 u hu]
        rfl
    | range =>
      have hc1 := c_parse_rng p (by omega) hpu
      rw [hpu] at hap
      simp only at hap
      unfold sD at hc1
      rw [← htx] at hc1
      repeat' (first | ((with_reducible show AWp _ _ _ _ _); (first | refine awp_seq ?_ | refine awp_block ?_ | refine awp_skip ?_ | refine awp_exit ?_ | refine awp_scope ?_ | refine awp_label ?_ | refine awp_run ty_ok rfl sd ?_ | refine awp_ret ⟨_, _, rfl, rfl, ?_⟩ | refine awp_ret ⟨_, rfl, ?_⟩ | ((refine awp_cond (ty := ty) rfl (fun hc => ?_) (fun hc => ?_)) <;> (try simp only [nms, reduceCtorEq] at hc) <;> (try (exfalso; omega))))) | ((with_reducible show AOps _ _ _ _ _ _); (first | refine aops_nil ?_ | refine aops_go ty_ok rfl rfl sd ?_ | refine aops_gate ty_ok rfl rfl rfl sd ?_ | refine aops_callE (ty := ty) rfl rfl rfl rfl rfl rfl rfl (hc1) rfl ?_ | refine aops_litE ty_ok rfl rfl rfl rfl rfl rfl rfl rfl rfl rfl rfl rfl ?_ | refine aops_cutE ty_ok rfl rfl rfl rfl rfl rfl rfl rfl rfl sd rfl ?_ | ((fail_if_success (refine aops_known rfl ?_)); (refine aops_split ty_ok rfl rfl rfl rfl rfl rfl (fun hc => ⟨?_, ?_⟩) (fun hc => ⟨?_, ?_⟩)) <;> (try simp only [nms, reduceCtorEq] at hc) <;> (try (exfalso; omega)) <;> (try exact sd)))) | ((fail_if_success (with_reducible show AWp _ _ _ _ _)); (fail_if_success (with_reducible show AOps _ _ _ _ _ _)); (first | (show AWp _ _ _ _ _) | (show AOps _ _ _ _ _ _))))
      rw [arcsD, okF_none_of hmem hap]
      rfl
    | _ =>
      have hc1 := c_parse_syn p (by omega) hpu
      rw [hpu] at hap
      simp only at hap
      unfold sD at hc1
      rw [← htx] at hc1
      repeat' (first | ((with_reducible show AWp _ _ _ _ _); (first | refine awp_seq ?_ | refine awp_block ?_ | refine awp_skip ?_ | refine awp_exit ?_ | refine awp_scope ?_ | refine awp_label ?_ | refine awp_run ty_ok rfl sd ?_ | refine awp_ret ⟨_, _, rfl, rfl, ?_⟩ | refine awp_ret ⟨_, rfl, ?_⟩ | ((refine awp_cond (ty := ty) rfl (fun hc => ?_) (fun hc => ?_)) <;> (try simp only [nms, reduceCtorEq] at hc) <;> (try (exfalso; omega))))) | ((with_reducible show AOps _ _ _ _ _ _); (first | refine aops_nil ?_ | refine aops_go ty_ok rfl rfl sd ?_ | refine aops_gate ty_ok rfl rfl rfl sd ?_ | refine aops_callE (ty := ty) rfl rfl rfl rfl rfl rfl rfl (hc1) rfl ?_ | refine aops_litE ty_ok rfl rfl rfl rfl rfl rfl rfl rfl rfl rfl rfl rfl ?_ | refine aops_cutE ty_ok rfl rfl rfl rfl rfl rfl rfl rfl rfl sd rfl ?_ | ((fail_if_success (refine aops_known rfl ?_)); (refine aops_split ty_ok rfl rfl rfl rfl rfl rfl (fun hc => ⟨?_, ?_⟩) (fun hc => ⟨?_, ?_⟩)) <;> (try simp only [nms, reduceCtorEq] at hc) <;> (try (exfalso; omega)) <;> (try exact sd)))) | ((fail_if_success (with_reducible show AWp _ _ _ _ _)); (fail_if_success (with_reducible show AOps _ _ _ _ _ _)); (first | (show AWp _ _ _ _ _) | (show AOps _ _ _ _ _ _))))
      rw [arcsD, okF_none_of hmem hap]
      rfl
  · have hke : k = (splitL l).length := by omega
    subst hke
    rw [List.take_length] at ha
    repeat' (first | ((with_reducible show AWp _ _ _ _ _); (first | refine awp_seq ?_ | refine awp_block ?_ | refine awp_skip ?_ | refine awp_exit ?_ | refine awp_scope ?_ | refine awp_label ?_ | refine awp_run ty_ok rfl sd ?_ | refine awp_ret ⟨_, _, rfl, rfl, ?_⟩ | refine awp_ret ⟨_, rfl, ?_⟩ | ((refine awp_cond (ty := ty) rfl (fun hc => ?_) (fun hc => ?_)) <;> (try simp only [nms, reduceCtorEq] at hc) <;> (try (exfalso; omega))))) | ((with_reducible show AOps _ _ _ _ _ _); (first | refine aops_nil ?_ | refine aops_go ty_ok rfl rfl sd ?_ | refine aops_gate ty_ok rfl rfl rfl sd ?_ | refine aops_callE (ty := ty) rfl rfl rfl rfl rfl rfl rfl (c_right _ a) rfl ?_ | refine aops_litE ty_ok rfl rfl rfl rfl rfl rfl rfl rfl rfl rfl rfl rfl ?_ | refine aops_cutE ty_ok rfl rfl rfl rfl rfl rfl rfl rfl rfl sd rfl ?_ | ((fail_if_success (refine aops_known rfl ?_)); (refine aops_split ty_ok rfl rfl rfl rfl rfl rfl (fun hc => ⟨?_, ?_⟩) (fun hc => ⟨?_, ?_⟩)) <;> (try simp only [nms, reduceCtorEq] at hc) <;> (try (exfalso; omega)) <;> (try exact sd)))) | ((fail_if_success (with_reducible show AWp _ _ _ _ _)); (fail_if_success (with_reducible show AOps _ _ _ _ _ _)); (first | (show AWp _ _ _ _ _) | (show AOps _ _ _ _ _ _))))
    · have : okF l = none := by
        unfold okF
        rw [ha]
        simp only [hc]
      rw [arcsD, this]
      rfl
    · have : okF l = some a := by
        unfold okF
        rw [ha]
        simp only [hc]
      rw [arcsD, this]

/-- Is it the string of an object identifier? -/
def oidV (l : List UInt8) : Bool := (okF l).isSome
theorem isOValid : IsFn Tryz.prog 34 Tryz.f34 := ⟨Tryz.func34, by decide, rfl⟩
theorem c_ovalid (l : List UInt8) (hl : l.length ≤ 100000000) : ACalls Tryz.prog envL 34 [sD l] (fun r => r = .d (.bool (oidV l))) := by
  refine acalls_of ty_ok isOValid rfl rfl ?_
  have hA := c_arcs l hl
  unfold oidV
  cases h : okF l with
  | none =>
    rw [arcsD, h] at hA
    repeat' (first | ((with_reducible show AWp _ _ _ _ _); (first | refine awp_seq ?_ | refine awp_block ?_ | refine awp_skip ?_ | refine awp_exit ?_ | refine awp_scope ?_ | refine awp_label ?_ | refine awp_run ty_ok rfl sd ?_ | refine awp_ret ⟨_, _, rfl, rfl, ?_⟩ | refine awp_ret ⟨_, rfl, ?_⟩ | ((refine awp_cond (ty := ty) rfl (fun hc => ?_) (fun hc => ?_)) <;> (try simp only [nms, reduceCtorEq] at hc) <;> (try (exfalso; omega))))) | ((with_reducible show AOps _ _ _ _ _ _); (first | refine aops_nil ?_ | refine aops_go ty_ok rfl rfl sd ?_ | refine aops_gate ty_ok rfl rfl rfl sd ?_ | refine aops_callE (ty := ty) rfl rfl rfl rfl rfl rfl rfl (hA) rfl ?_ | refine aops_litE ty_ok rfl rfl rfl rfl rfl rfl rfl rfl rfl rfl rfl rfl ?_ | refine aops_cutE ty_ok rfl rfl rfl rfl rfl rfl rfl rfl rfl sd rfl ?_ | ((fail_if_success (refine aops_known rfl ?_)); (refine aops_split ty_ok rfl rfl rfl rfl rfl rfl (fun hc => ⟨?_, ?_⟩) (fun hc => ⟨?_, ?_⟩)) <;> (try simp only [nms, reduceCtorEq] at hc) <;> (try (exfalso; omega)) <;> (try exact sd)))) | ((fail_if_success (with_reducible show AWp _ _ _ _ _)); (fail_if_success (with_reducible show AOps _ _ _ _ _ _)); (first | (show AWp _ _ _ _ _) | (show AOps _ _ _ _ _ _))))
    all_goals rfl
  | some a =>
    rw [arcsD, h] at hA
    repeat' (first | ((with_reducible show AWp _ _ _ _ _); (first | refine awp_seq ?_ | refine awp_block ?_ | refine awp_skip ?_ | refine awp_exit ?_ | refine awp_scope ?_ | refine awp_label ?_ | refine awp_run ty_ok rfl sd ?_ | refine awp_ret ⟨_, _, rfl, rfl, ?_⟩ | refine awp_ret ⟨_, rfl, ?_⟩ | ((refine awp_cond (ty := ty) rfl (fun hc => ?_) (fun hc => ?_)) <;> (try simp only [nms, reduceCtorEq] at hc) <;> (try (exfalso; omega))))) | ((with_reducible show AOps _ _ _ _ _ _); (first | refine aops_nil ?_ | refine aops_go ty_ok rfl rfl sd ?_ | refine aops_gate ty_ok rfl rfl rfl sd ?_ | refine aops_callE (ty := ty) rfl rfl rfl rfl rfl rfl rfl (hA) rfl ?_ | refine aops_litE ty_ok rfl rfl rfl rfl rfl rfl rfl rfl rfl rfl rfl rfl ?_ | refine aops_cutE ty_ok rfl rfl rfl rfl rfl rfl rfl rfl rfl sd rfl ?_ | ((fail_if_success (refine aops_known rfl ?_)); (refine aops_split ty_ok rfl rfl rfl rfl rfl rfl (fun hc => ⟨?_, ?_⟩) (fun hc => ⟨?_, ?_⟩)) <;> (try simp only [nms, reduceCtorEq] at hc) <;> (try (exfalso; omega)) <;> (try exact sd)))) | ((fail_if_success (with_reducible show AWp _ _ _ _ _)); (fail_if_success (with_reducible show AOps _ _ _ _ _ _)); (first | (show AWp _ _ _ _ _) | (show AOps _ _ _ _ _ _))))
    all_goals rfl
end Go.Proofs.YtdihjpmdmfmbiaaGreatDoor

/- Arcs of the reference; Text of both; same. Walked by the abstract machine. -/
namespace Go.Proofs.YtdihjpmdmfmbiaaGreatDoor
open Go.Am
open Go.Lib (decDigits)
set_option linter.unusedSimpArgs false
set_option linter.unusedVariables false

theorem c_number_ok (Γ : Env) (p : List UInt8) (hp : p.length ≤ 1000000000) (n : Nat) (h : arcF p = some n) : ACalls Tryz.prog Γ 81 [sD p] (fun r => r = .d (.tup [.int .u64 n, .bool true])) := (c_number Γ p hp).mono fun r hr => by
  have hv : numV p = n := by
    unfold arcF at h
    unfold numV
    cases hv : valD 0 p with
    | none => rw [hv] at h; cases h
    | some m =>
      rw [hv] at h
      simp only at h ⊢
      split at h
      · cases h; rfl
      · cases h
  rw [hr, hv, h]
  rfl
theorem c_number_bad (Γ : Env) (p : List UInt8) (hp : p.length ≤ 1000000000) (h : arcF p = none) : ACalls Tryz.prog Γ 81 [sD p] (fun r => r = .d (.tup [.int .u64 (numV p), .bool false])) := (c_number Γ p hp).mono fun r hr => by
  rw [hr, h]
  rfl
theorem isRArcs : IsFn Tryz.prog 59 Tryz.f59 := ⟨Tryz.func59, by decide, rfl⟩
set_option maxHeartbeats 2000000 in
theorem c_rarcs (Γ : Env) (l : List UInt8) (hl : l.length ≤ 100000000) : ACalls Tryz.prog Γ 59 [sD l] (fun r => r = .d (arcsD l)) := by
  refine acalls_of ty_ok isRArcs rfl rfl ?_
  repeat' (first | ((with_reducible show AWp _ _ _ _ _); (first | refine awp_seq ?_ | refine awp_block ?_ | refine awp_skip ?_ | refine awp_exit ?_ | refine awp_scope ?_ | refine awp_label ?_ | refine awp_run ty_ok rfl sd ?_ | refine awp_ret ⟨_, _, rfl, rfl, ?_⟩ | refine awp_ret ⟨_, rfl, ?_⟩ | ((refine awp_cond (ty := ty) rfl (fun hc => ?_) (fun hc => ?_)) <;> (try simp only [nms, reduceCtorEq] at hc) <;> (try (exfalso; omega))))) | ((with_reducible show AOps _ _ _ _ _ _); (first | refine aops_nil ?_ | refine aops_go ty_ok rfl rfl sd ?_ | refine aops_gate ty_ok rfl rfl rfl sd ?_ | refine aops_litE ty_ok rfl rfl rfl rfl rfl rfl rfl rfl rfl rfl rfl rfl ?_ | refine aops_cutE ty_ok rfl rfl rfl rfl rfl rfl rfl rfl rfl sd rfl ?_ | ((fail_if_success (refine aops_known rfl ?_)); (refine aops_split ty_ok rfl rfl rfl rfl rfl rfl (fun hc => ⟨?_, ?_⟩) (fun hc => ⟨?_, ?_⟩)) <;> (try simp only [nms, reduceCtorEq] at hc) <;> (try (exfalso; omega)) <;> (try exact sd)))) | ((fail_if_success (with_reducible show AWp _ _ _ _ _)); (fail_if_success (with_reducible show AOps _ _ _ _ _ _)); (first | (show AWp _ _ _ _ _) | (show AOps _ _ _ _ _ _))))
  refine awp_nilrow 4 97 rfl ?_
  refine awp_loopR (G := { p : Nat × Nat × List Nat // p.2.2.length ≤ p.2.1 ∧ ((p.2.1 ≤ l.length ∧ p.1 ≤ p.2.1 ∧ (∀ c ∈ (l.drop p.1).take (p.2.1 - p.1), c ≠ 46) ∧ ∃ done, splitL l = done ++ splitL (l.drop p.1) ∧ done.mapM arcF = some p.2.2) ∨ (p.2.1 = l.length + 1 ∧ (splitL l).mapM arcF = some p.2.2)) })
    (fun p => ⟨Tryz.f59.ntmps, [(0, .d (sD l)), (4, .ref 0), (5, .d (.int .i64 p.1.1)), (6, .d (.int .i64 p.1.2.1))], [(0, .row none 97 (u32s p.1.2.2))], 1⟩) (fun p => l.length + 1 - p.1.2.1) ⟨(0, 0, []), Nat.le_refl _, .inl ⟨Nat.zero_le _, Nat.le_refl _, by simp, [], rfl, rfl⟩⟩ [(0, 0)]
    (SubR.mk' rfl rfl ⟨⟨_, rfl, rfl⟩, ⟨_, rfl, rfl⟩, ⟨_, rfl, rfl⟩, ⟨_, rfl, rfl⟩, trivial⟩ ⟨⟨_, _, rfl, rfl, rfl⟩, trivial⟩) ?_
  rintro ⟨⟨f, i, a⟩, hal, hinv⟩
  simp only at hal hinv
  dsimp only
  rcases hinv with ⟨hi, hfi, hnd, done, hdone, hda⟩ | ⟨hi, hfin⟩
  · obtain ⟨p, hp⟩ : ∃ p, p = (l.drop f).take (i - f) := ⟨_, rfl⟩
    rw [← hp] at hnd
    have hplen : p.length = i - f := by rw [hp]; simp; omega
    have hcut : (bA l).extract (f : Int).toNat (i : Int).toNat = bA p := by
      rw [bA_ext, Int.toNat_natCast, Int.toNat_natCast, hp, cutL, List.drop_take]
    have hmem : ∀ r, splitL (l.drop f) = p :: r → p ∈ splitL l := by
      intro r hr
      rw [hdone, hr]
      simp
    rcases Nat.lt_or_ge i l.length with hil | hil
    · have hci : ((bA l).data.toList.getD (i : Int).toNat 0) = l[i] := by
        rw [bA_list, Int.toNat_natCast, List.getD_eq_getElem?_getD, List.getElem?_eq_getElem hil]
        rfl
      by_cases hdot : l[i] = 46
      · have hsp : splitL (l.drop f) = p :: splitL (l.drop (i + 1)) := by
          have : l.drop f = p ++ 46 :: l.drop (i + 1) := by
            rw [hp, ← hdot, ← List.drop_eq_getElem_cons hil]
            conv => lhs; rw [← List.take_append_drop (i - f) (l.drop f), List.drop_drop]
            rw [show f + (i - f) = i by omega]
          rw [this, splitL_app hnd]
        have hd46 : ((((bA l).data.toList.getD (i : Int).toNat 0).toNat : Int) != 46) = false := by rw [hci, hdot]; rfl
        cases hap : arcF p with
        | none =>
          have hc1 := c_number_bad (Γ.at 0) p (by omega) hap
          unfold sD at hc1
          rw [← hcut] at hc1
          repeat' (first | ((with_reducible show AWp _ _ _ _ _); (first | refine awp_seq ?_ | refine awp_block ?_ | refine awp_skip ?_ | refine awp_exit ?_ | refine awp_scope ?_ | refine awp_label ?_ | refine awp_run ty_ok rfl sd ?_ | refine awp_ret ⟨_, _, rfl, rfl, ?_⟩ | refine awp_ret ⟨_, rfl, ?_⟩ | ((refine awp_cond (ty := ty) rfl (fun hc => ?_) (fun hc => ?_)) <;> (try simp only [nms, reduceCtorEq] at hc) <;> (try (exfalso; omega))))) | ((with_reducible show AOps _ _ _ _ _ _); (first | refine aops_nil ?_ | refine aops_go ty_ok rfl rfl sd ?_ | refine aops_gate ty_ok rfl rfl rfl sd ?_ | refine aops_callE (ty := ty) rfl rfl rfl rfl rfl rfl rfl (hc1) rfl ?_ | refine aops_litE ty_ok rfl rfl rfl rfl rfl rfl rfl rfl rfl rfl rfl rfl ?_ | refine aops_cutE ty_ok rfl rfl rfl rfl rfl rfl rfl rfl rfl sd rfl ?_ | ((fail_if_success (refine aops_known rfl ?_)); (refine aops_split ty_ok rfl rfl rfl rfl rfl rfl (fun hc => ⟨?_, ?_⟩) (fun hc => ⟨?_, ?_⟩)) <;> (try simp only [nms, reduceCtorEq] at hc) <;> (try (exfalso; omega)) <;> (try exact sd)))) | ((fail_if_success (with_reducible show AWp _ _ _ _ _)); (fail_if_success (with_reducible show AOps _ _ _ _ _ _)); (first | (show AWp _ _ _ _ _) | (show AOps _ _ _ _ _ _))))
          all_goals first | (exfalso; rw [hci, hdot] at hc; exact hc rfl) | skip
          rw [arcsD, okF_none_of (hmem _ hsp) hap]
          rfl
        | some n =>
          have hc1 := c_number_ok (Γ.at 0) p (by omega) n hap
          have hn := (arcF_some.1 hap).1
          unfold sD at hc1
          rw [← hcut] at hc1
          repeat' (first | ((with_reducible show AWp _ _ _ _ _); (first | refine awp_seq ?_ | refine awp_block ?_ | refine awp_skip ?_ | refine awp_exit ?_ | refine awp_scope ?_ | refine awp_label ?_ | refine awp_run ty_ok rfl sd ?_ | refine awp_ret ⟨_, _, rfl, rfl, ?_⟩ | refine awp_ret ⟨_, rfl, ?_⟩ | ((refine awp_cond (ty := ty) rfl (fun hc => ?_) (fun hc => ?_)) <;> (try simp only [nms, reduceCtorEq] at hc) <;> (try (exfalso; omega))))) | ((with_reducible show AOps _ _ _ _ _ _); (first | refine aops_nil ?_ | refine aops_go ty_ok rfl rfl sd ?_ | refine aops_gate ty_ok rfl rfl rfl sd ?_ | refine aops_callE (ty := ty) rfl rfl rfl rfl rfl rfl rfl (hc1) rfl ?_ | refine aops_litE ty_ok rfl rfl rfl rfl rfl rfl rfl rfl rfl rfl rfl rfl ?_ | refine aops_cutE ty_ok rfl rfl rfl rfl rfl rfl rfl rfl rfl sd rfl ?_ | ((fail_if_success (refine aops_known rfl ?_)); (refine aops_split ty_ok rfl rfl rfl rfl rfl rfl (fun hc => ⟨?_, ?_⟩) (fun hc => ⟨?_, ?_⟩)) <;> (try simp only [nms, reduceCtorEq] at hc) <;> (try (exfalso; omega)) <;> (try exact sd)))) | ((fail_if_success (with_reducible show AWp _ _ _ _ _)); (fail_if_success (with_reducible show AOps _ _ _ _ _ _)); (first | (show AWp _ _ _ _ _) | (show AOps _ _ _ _ _ _))))
          all_goals first | (exfalso; rw [hci, hdot] at hc; exact hc rfl) | skip
          refine ⟨⟨(i + 1, i + 1, a ++ [n]), by simp; omega, .inl ⟨hil, Nat.le_refl _, by simp, done ++ [p], ?_, ?_⟩⟩, [(2, 0)], SubR.mk' rfl rfl ⟨⟨_, rfl, rfl⟩, ⟨_, rfl, rfl⟩, ⟨_, rfl, rfl⟩, ⟨_, rfl, rfl⟩, trivial⟩ ⟨⟨_, _, rfl, rfl, congrArg (AO.row none 97) ?_⟩, trivial⟩, by simp only; omega⟩
          · rw [hdone, hsp]; simp
          · rw [mapM_snoc, hda, hap]
          · rw [u32s_app, wrap_u32 n hn]
            rfl
      · repeat' (first | ((with_reducible show AWp _ _ _ _ _); (first | refine awp_seq ?_ | refine awp_block ?_ | refine awp_skip ?_ | refine awp_exit ?_ | refine awp_scope ?_ | refine awp_label ?_ | refine awp_run ty_ok rfl sd ?_ | refine awp_ret ⟨_, _, rfl, rfl, ?_⟩ | refine awp_ret ⟨_, rfl, ?_⟩ | ((refine awp_cond (ty := ty) rfl (fun hc => ?_) (fun hc => ?_)) <;> (try simp only [nms, reduceCtorEq] at hc) <;> (try (exfalso; omega))))) | ((with_reducible show AOps _ _ _ _ _ _); (first | refine aops_nil ?_ | refine aops_go ty_ok rfl rfl sd ?_ | refine aops_gate ty_ok rfl rfl rfl sd ?_ | refine aops_litE ty_ok rfl rfl rfl rfl rfl rfl rfl rfl rfl rfl rfl rfl ?_ | refine aops_cutE ty_ok rfl rfl rfl rfl rfl rfl rfl rfl rfl sd rfl ?_ | ((fail_if_success (refine aops_known rfl ?_)); (refine aops_split ty_ok rfl rfl rfl rfl rfl rfl (fun hc => ⟨?_, ?_⟩) (fun hc => ⟨?_, ?_⟩)) <;> (try simp only [nms, reduceCtorEq] at hc) <;> (try (exfalso; omega)) <;> (try exact sd)))) | ((fail_if_success (with_reducible show AWp _ _ _ _ _)); (fail_if_success (with_reducible show AOps _ _ _ _ _ _)); (first | (show AWp _ _ _ _ _) | (show AOps _ _ _ _ _ _))))
        all_goals first | (exfalso; rw [hci] at hc; exact hdot (UInt8.toNat_inj.1 (by have h2 : ((46 : UInt8).toNat) = 46 := rfl; omega))) | skip
        refine ⟨⟨(f, i + 1, a), by simp; omega, .inl ⟨hil, by simp only; omega, ?_, done, hdone, hda⟩⟩, [(0, 0)], SubR.mk' rfl rfl ⟨⟨_, rfl, rfl⟩, ⟨_, rfl, rfl⟩, ⟨_, rfl, rfl⟩, ⟨_, rfl, rfl⟩, trivial⟩ ⟨⟨_, _, rfl, rfl, rfl⟩, trivial⟩, by simp only; omega⟩
        intro c hcm
        simp only at hcm
        rw [show i + 1 - f = (i - f) + 1 by omega, List.take_succ_eq_append_getElem (by simp; omega), ← hp] at hcm
        rcases List.mem_append.1 hcm with h | h
        · exact hnd c h
        · simp only [List.mem_singleton, List.getElem_drop] at h
          rw [h]
          have : f + (i - f) = i := by omega
          simpa only [this] using hdot
    · have hie : i = l.length := by omega
      subst hie
      have hpd : l.drop f = p := by
        rw [hp, List.take_of_length_le (by simp)]
      have hsp : splitL (l.drop f) = [p] := by rw [hpd]; exact splitL_one hnd
      cases hap : arcF p with
      | none =>
        have hc1 := c_number_bad (Γ.at 0) p (by omega) hap
        unfold sD at hc1
        rw [← hcut] at hc1
        repeat' (first | ((with_reducible show AWp _ _ _ _ _); (first | refine awp_seq ?_ | refine awp_block ?_ | refine awp_skip ?_ | refine awp_exit ?_ | refine awp_scope ?_ | refine awp_label ?_ | refine awp_run ty_ok rfl sd ?_ | refine awp_ret ⟨_, _, rfl, rfl, ?_⟩ | refine awp_ret ⟨_, rfl, ?_⟩ | ((refine awp_cond (ty := ty) rfl (fun hc => ?_) (fun hc => ?_)) <;> (try simp only [nms, reduceCtorEq] at hc) <;> (try (exfalso; omega))))) | ((with_reducible show AOps _ _ _ _ _ _); (first | refine aops_nil ?_ | refine aops_go ty_ok rfl rfl sd ?_ | refine aops_gate ty_ok rfl rfl rfl sd ?_ | refine aops_callE (ty := ty) rfl rfl rfl rfl rfl rfl rfl (hc1) rfl ?_ | refine aops_litE ty_ok rfl rfl rfl rfl rfl rfl rfl rfl rfl rfl rfl rfl ?_ | refine aops_cutE ty_ok rfl rfl rfl rfl rfl rfl rfl rfl rfl sd rfl ?_ | ((fail_if_success (refine aops_known rfl ?_)); (refine aops_split ty_ok rfl rfl rfl rfl rfl rfl (fun hc => ⟨?_, ?_⟩) (fun hc => ⟨?_, ?_⟩)) <;> (try simp only [nms, reduceCtorEq] at hc) <;> (try (exfalso; omega)) <;> (try exact sd)))) | ((fail_if_success (with_reducible show AWp _ _ _ _ _)); (fail_if_success (with_reducible show AOps _ _ _ _ _ _)); (first | (show AWp _ _ _ _ _) | (show AOps _ _ _ _ _ _))))
        rw [arcsD, okF_none_of (hmem _ hsp) hap]
        rfl
      | some n =>
        have hc1 := c_number_ok (Γ.at 0) p (by omega) n hap
        have hn := (arcF_some.1 hap).1
        unfold sD at hc1
        rw [← hcut] at hc1
        repeat' (first | ((with_reducible show AWp _ _ _ _ _); (first | refine awp_seq ?_ | refine awp_block ?_ | refine awp_skip ?_ | refine awp_exit ?_ | refine awp_scope ?_ | refine awp_label ?_ | refine awp_run ty_ok rfl sd ?_ | refine awp_ret ⟨_, _, rfl, rfl, ?_⟩ | refine awp_ret ⟨_, rfl, ?_⟩ | ((refine awp_cond (ty := ty) rfl (fun hc => ?_) (fun hc => ?_)) <;> (try simp only [nms, reduceCtorEq] at hc) <;> (try (exfalso; omega))))) | ((with_reducible show AOps _ _ _ _ _ _); (first | refine aops_nil ?_ | refine aops_go ty_ok rfl rfl sd ?_ | refine aops_gate ty_ok rfl rfl rfl sd ?_ | refine aops_callE (ty := ty) rfl rfl rfl rfl rfl rfl rfl (hc1) rfl ?_ | refine aops_litE ty_ok rfl rfl rfl rfl rfl rfl rfl rfl rfl rfl rfl rfl ?_ | refine aops_cutE ty_ok rfl rfl rfl rfl rfl rfl rfl rfl rfl sd rfl ?_ | ((fail_if_success (refine aops_known rfl ?_)); (refine aops_split ty_ok rfl rfl rfl rfl rfl rfl (fun hc => ⟨?_, ?_⟩) (fun hc => ⟨?_, ?_⟩)) <;> (try simp only [nms, reduceCtorEq] at hc) <;> (try (exfalso; omega)) <;> (try exact sd)))) | ((fail_if_success (with_reducible show AWp _ _ _ _ _)); (fail_if_success (with_reducible show AOps _ _ _ _ _ _)); (first | (show AWp _ _ _ _ _) | (show AOps _ _ _ _ _ _))))
        refine ⟨⟨(l.length + 1, l.length + 1, a ++ [n]), by simp; omega, .inr ⟨rfl, ?_⟩⟩, [(2, 0)], SubR.mk' rfl rfl ⟨⟨_, rfl, rfl⟩, ⟨_, rfl, rfl⟩, ⟨_, rfl, rfl⟩, ⟨_, rfl, rfl⟩, trivial⟩ ⟨⟨_, _, rfl, rfl, congrArg (AO.row none 97) ?_⟩, trivial⟩, by simp only; omega⟩
        · rw [hdone, hsp, mapM_snoc, hda, hap]
        · rw [u32s_app, wrap_u32 n hn]
          rfl
  · subst hi
    repeat' (first | ((with_reducible show AWp _ _ _ _ _); (first | refine awp_seq ?_ | refine awp_block ?_ | refine awp_skip ?_ | refine awp_exit ?_ | refine awp_scope ?_ | refine awp_label ?_ | refine awp_run ty_ok rfl sd ?_ | refine awp_ret ⟨_, _, rfl, rfl, ?_⟩ | refine awp_ret ⟨_, rfl, ?_⟩ | ((refine awp_cond (ty := ty) rfl (fun hc => ?_) (fun hc => ?_)) <;> (try simp only [nms, reduceCtorEq] at hc) <;> (try (exfalso; omega))))) | ((with_reducible show AOps _ _ _ _ _ _); (first | refine aops_nil ?_ | refine aops_go ty_ok rfl rfl sd ?_ | refine aops_gate ty_ok rfl rfl rfl sd ?_ | refine aops_callE (ty := ty) rfl rfl rfl rfl rfl rfl rfl (c_rright _ a) rfl ?_ | refine aops_litE ty_ok rfl rfl rfl rfl rfl rfl rfl rfl rfl rfl rfl rfl ?_ | refine aops_cutE ty_ok rfl rfl rfl rfl rfl rfl rfl rfl rfl sd rfl ?_ | ((fail_if_success (refine aops_known rfl ?_)); (refine aops_split ty_ok rfl rfl rfl rfl rfl rfl (fun hc => ⟨?_, ?_⟩) (fun hc => ⟨?_, ?_⟩)) <;> (try simp only [nms, reduceCtorEq] at hc) <;> (try (exfalso; omega)) <;> (try exact sd)))) | ((fail_if_success (with_reducible show AWp _ _ _ _ _)); (fail_if_success (with_reducible show AOps _ _ _ _ _ _)); (first | (show AWp _ _ _ _ _) | (show AOps _ _ _ _ _ _))))
    · have : okF l = none := by
        unfold okF
        rw [hfin]
        simp only [hc]
      rw [arcsD, this]
      rfl
    · have : okF l = some a := by
        unfold okF
        rw [hfin]
        simp only [hc]
      rw [arcsD, this]
theorem isROValid : IsFn Tryz.prog 36 Tryz.f36 := ⟨Tryz.func36, by decide, rfl⟩
theorem c_rovalid (Γ : Env) (l : List UInt8) (hl : l.length ≤ 100000000) : ACalls Tryz.prog Γ 36 [sD l] (fun r => r = .d (.bool (oidV l))) := by
  refine acalls_of ty_ok isROValid rfl rfl ?_
  have hA := c_rarcs Γ l hl
  unfold oidV
  cases h : okF l with
  | none =>
    rw [arcsD, h] at hA
    repeat' (first | ((with_reducible show AWp _ _ _ _ _); (first | refine awp_seq ?_ | refine awp_block ?_ | refine awp_skip ?_ | refine awp_exit ?_ | refine awp_scope ?_ | refine awp_label ?_ | refine awp_run ty_ok rfl sd ?_ | refine awp_ret ⟨_, _, rfl, rfl, ?_⟩ | refine awp_ret ⟨_, rfl, ?_⟩ | ((refine awp_cond (ty := ty) rfl (fun hc => ?_) (fun hc => ?_)) <;> (try simp only [nms, reduceCtorEq] at hc) <;> (try (exfalso; omega))))) | ((with_reducible show AOps _ _ _ _ _ _); (first | refine aops_nil ?_ | refine aops_go ty_ok rfl rfl sd ?_ | refine aops_gate ty_ok rfl rfl rfl sd ?_ | refine aops_callE (ty := ty) rfl rfl rfl rfl rfl rfl rfl (hA) rfl ?_ | refine aops_litE ty_ok rfl rfl rfl rfl rfl rfl rfl rfl rfl rfl rfl rfl ?_ | refine aops_cutE ty_ok rfl rfl rfl rfl rfl rfl rfl rfl rfl sd rfl ?_ | ((fail_if_success (refine aops_known rfl ?_)); (refine aops_split ty_ok rfl rfl rfl rfl rfl rfl (fun hc => ⟨?_, ?_⟩) (fun hc => ⟨?_, ?_⟩)) <;> (try simp only [nms, reduceCtorEq] at hc) <;> (try (exfalso; omega)) <;> (try exact sd)))) | ((fail_if_success (with_reducible show AWp _ _ _ _ _)); (fail_if_success (with_reducible show AOps _ _ _ _ _ _)); (first | (show AWp _ _ _ _ _) | (show AOps _ _ _ _ _ _))))
    all_goals rfl
  | some a =>
    rw [arcsD, h] at hA
    repeat' (first | ((with_reducible show AWp _ _ _ _ _); (first | refine awp_seq ?_ | refine awp_block ?_ | refine awp_skip ?_ | refine awp_exit ?_ | refine awp_scope ?_ | refine awp_label ?_ | refine awp_run ty_ok rfl sd ?_ | refine awp_ret ⟨_, _, rfl, rfl, ?_⟩ | refine awp_ret ⟨_, rfl, ?_⟩ | ((refine awp_cond (ty := ty) rfl (fun hc => ?_) (fun hc => ?_)) <;> (try simp only [nms, reduceCtorEq] at hc) <;> (try (exfalso; omega))))) | ((with_reducible show AOps _ _ _ _ _ _); (first | refine aops_nil ?_ | refine aops_go ty_ok rfl rfl sd ?_ | refine aops_gate ty_ok rfl rfl rfl sd ?_ | refine aops_callE (ty := ty) rfl rfl rfl rfl rfl rfl rfl (hA) rfl ?_ | refine aops_litE ty_ok rfl rfl rfl rfl rfl rfl rfl rfl rfl rfl rfl rfl ?_ | refine aops_cutE ty_ok rfl rfl rfl rfl rfl rfl rfl rfl rfl sd rfl ?_ | ((fail_if_success (refine aops_known rfl ?_)); (refine aops_split ty_ok rfl rfl rfl rfl rfl rfl (fun hc => ⟨?_, ?_⟩) (fun hc => ⟨?_, ?_⟩)) <;> (try simp only [nms, reduceCtorEq] at hc) <;> (try (exfalso; omega)) <;> (try exact sd)))) | ((fail_if_success (with_reducible show AWp _ _ _ _ _)); (fail_if_success (with_reducible show AOps _ _ _ _ _ _)); (first | (show AWp _ _ _ _ _) | (show AOps _ _ _ _ _ _))))
    all_goals rfl
end Go.Proofs.YtdihjpmdmfmbiaaGreatDoor

/- strings.Join at a dot, as a contract on data. -/
namespace Go.Proofs.YtdihjpmdmfmbiaaGreatDoor
open Go.Am Go.RowKit Go.Sort
set_option linter.unusedSimpArgs false
set_option linter.unusedVariables false

/-! ### Join -/
theorem isJoin : IsFn Tryz.prog 84 Tryz.f84 := ⟨Tryz.func84, by decide, rfl⟩
theorem c_join (Γ : Env) (l : List (List UInt8)) (h1 : l.length ≤ 1099511627776) (h2 : (joinL l).length ≤ 1099511627776) : ACalls Tryz.prog Γ 84 [.sl none (strs l), sD [46]] (fun r => r = .d (sD (joinL l))) := by
  refine ⟨⟨_, isJoin⟩, fun w pr vs hok hs hr => ?_⟩
  obtain ⟨a, b, rfl, h3, h4⟩ := two_args hs hr
  cases h4
  rcases h3.sl_inv with ⟨rfl, hx⟩ | ⟨bk, off, spot, cap, rfl, hc, hm, hsp, hf, hcell⟩
  · have : l = [] := by simpa [strs] using hx
    subst this
    refine (Tryz.strings_Join_none none 0 (bA [46]) w).mono fun e w' ⟨he, hw⟩ => ?_
    subst hw
    exact ⟨_, .d (sD (joinL [])), he, Below.refl _ _, .str _, rfl⟩
  · cases l with
    | nil =>
      refine (Tryz.strings_Join_none (some ⟨bk, off, spot⟩) cap (bA [46]) w).mono fun e w' ⟨he, hw⟩ => ?_
      subst hw
      exact ⟨_, .d (sD (joinL [])), he, Below.refl _ _, .str _, rfl⟩
    | cons p ps =>
      have hsp0 := hsp (by simp [strs])
      subst hsp0
      have hcells : ∀ (j : Nat) x, ((p :: ps).map bA)[j]? = some x → w.cell? ⟨bk, off + j, none⟩ = some (.string x) := by
        intro j x hj
        rw [List.getElem?_map] at hj
        obtain ⟨q, hq, rfl⟩ := Option.map_eq_some_iff.1 hj
        have hk : (strs (p :: ps))[j]? = some (sD q) := by rw [strs, List.getElem?_map, hq]; rfl
        obtain ⟨_, _, u, hu, hr2⟩ := hcell j (sD q) hk 0 (sD q) rfl
        cases hr2
        rw [← hu]
        simp [Am.esz]
      have hbk : bk < w.heap.size := World.block_lt_of_cell? w _ (hcells 0 (bA p) rfl)
      have hml : ((p :: ps).map bA).map (·.data.toList) = p :: ps := by
        rw [List.map_map]
        conv => rhs; rw [← List.map_id (p :: ps)]
        exact List.map_congr_left fun x _ => bA_list x
      have hJ := Tryz.strings_Join bk off cap ((p :: ps).map bA) (bA [46]) w hcells hbk (by simp at h1 ⊢; omega) (by simpa [strs] using hc) (by rw [hml, bA_list]; exact Nat.le_trans h2 (by omega))
      rw [hml, bA_list] at hJ
      have hlen : (strs (p :: ps)).length = ((p :: ps).map bA).length := by simp [strs]
      rw [hlen]
      refine hJ.mono fun e w' ⟨he, hw⟩ => ?_
      exact ⟨_, .d (sD (joinL (p :: ps))), he, hw, .str _, rfl⟩
end Go.Proofs.YtdihjpmdmfmbiaaGreatDoor

/- Text of package oid and of its reference; same. Walked by the abstract machine. -/
namespace Go.Proofs.YtdihjpmdmfmbiaaGreatDoor
open Go.Am
open Go.Lib (decDigits)
set_option linter.unusedSimpArgs false
set_option linter.unusedVariables false

def textD (a : List Nat) : Dat := match rightF a with
  | true => .tup [sD (textF a), .int .i64 0]
  | false => .tup [sD [], .int .i64 8]
theorem u32_at {a : List Nat} {k : Nat} (h : k < a.length) : ((u32s a).getD (k : Int).toNat default).num = (a[k] : Int) := by
  rw [num_u32s, Int.toNat_natCast, List.getD_eq_getElem?_getD, List.getElem?_eq_getElem h]
  rfl
theorem textF_len' {a : List Nat} (h : ∀ n ∈ a, n ≤ 4294967295) : (joinL (a.map decDigits)).length ≤ a.length * 11 := by
  rw [joinL, joinD_lib]
  exact textF_len a h
theorem isText : IsFn Tryz.prog 63 Tryz.f63 := ⟨Tryz.func63, by decide, rfl⟩
set_option maxHeartbeats 1000000 in
theorem c_text (a : List Nat) (hl : a.length ≤ 100000000) (ha : ∀ n ∈ a, n ≤ 4294967295) : ACalls Tryz.prog envL 63 [.sl none (u32s a)] (fun r => r = .d (textD a)) := by
  refine acalls_of ty_ok isText rfl rfl ?_
  cases hr : rightF a with
  | false =>
    have hc1 := c_right (envL.at 0) a
    rw [hr] at hc1
    repeat' (first | ((with_reducible show AWp _ _ _ _ _); (first | refine awp_seq ?_ | refine awp_block ?_ | refine awp_skip ?_ | refine awp_exit ?_ | refine awp_scope ?_ | refine awp_label ?_ | refine awp_run ty_ok rfl sd ?_ | refine awp_ret ⟨_, _, rfl, rfl, ?_⟩ | refine awp_ret ⟨_, rfl, ?_⟩ | ((refine awp_cond (ty := ty) rfl (fun hc => ?_) (fun hc => ?_)) <;> (try simp only [nms, reduceCtorEq] at hc) <;> (try (exfalso; omega))))) | ((with_reducible show AOps _ _ _ _ _ _); (first | refine aops_nil ?_ | refine aops_go ty_ok rfl rfl sd ?_ | refine aops_gate ty_ok rfl rfl rfl sd ?_ | refine aops_callE (ty := ty) rfl rfl rfl rfl rfl rfl rfl (hc1) rfl ?_ | refine aops_litE ty_ok rfl rfl rfl rfl rfl rfl rfl rfl rfl rfl rfl rfl ?_ | refine aops_cutE ty_ok rfl rfl rfl rfl rfl rfl rfl rfl rfl sd rfl ?_ | ((fail_if_success (refine aops_known rfl ?_)); (refine aops_split ty_ok rfl rfl rfl rfl rfl rfl (fun hc => ⟨?_, ?_⟩) (fun hc => ⟨?_, ?_⟩)) <;> (try simp only [nms, reduceCtorEq] at hc) <;> (try (exfalso; omega)) <;> (try exact sd)))) | ((fail_if_success (with_reducible show AWp _ _ _ _ _)); (fail_if_success (with_reducible show AOps _ _ _ _ _ _)); (first | (show AWp _ _ _ _ _) | (show AOps _ _ _ _ _ _))))
    rw [textD, hr]
    rfl
  | true =>
    have hc1 := c_right (envL.at 0) a
    rw [hr] at hc1
    have hjl := textF_len' ha
    repeat' (first | ((with_reducible show AWp _ _ _ _ _); (first | refine awp_seq ?_ | refine awp_block ?_ | refine awp_skip ?_ | refine awp_exit ?_ | refine awp_scope ?_ | refine awp_label ?_ | refine awp_run ty_ok rfl sd ?_ | refine awp_ret ⟨_, _, rfl, rfl, ?_⟩ | refine awp_ret ⟨_, rfl, ?_⟩ | ((refine awp_cond (ty := ty) rfl (fun hc => ?_) (fun hc => ?_)) <;> (try simp only [nms, reduceCtorEq] at hc) <;> (try (exfalso; omega))))) | ((with_reducible show AOps _ _ _ _ _ _); (first | refine aops_nil ?_ | refine aops_go ty_ok rfl rfl sd ?_ | refine aops_gate ty_ok rfl rfl rfl sd ?_ | refine aops_callE (ty := ty) rfl rfl rfl rfl rfl rfl rfl (hc1) rfl ?_ | refine aops_litE ty_ok rfl rfl rfl rfl rfl rfl rfl rfl rfl rfl rfl rfl ?_ | refine aops_cutE ty_ok rfl rfl rfl rfl rfl rfl rfl rfl rfl sd rfl ?_ | ((fail_if_success (refine aops_known rfl ?_)); (refine aops_split ty_ok rfl rfl rfl rfl rfl rfl (fun hc => ⟨?_, ?_⟩) (fun hc => ⟨?_, ?_⟩)) <;> (try simp only [nms, reduceCtorEq] at hc) <;> (try (exfalso; omega)) <;> (try exact sd)))) | ((fail_if_success (with_reducible show AWp _ _ _ _ _)); (fail_if_success (with_reducible show AOps _ _ _ _ _ _)); (first | (show AWp _ _ _ _ _) | (show AOps _ _ _ _ _ _))))
    refine awp_nilrow 4 9 rfl ?_
    refine awp_loopR (G := { k : Nat // k ≤ a.length }) (fun k => ⟨Tryz.f63.ntmps, [(4, .ref 0), (10, .d (.sl none (u32s a))), (11, .d (.int .i64 a.length)), (12, .d (.int .i64 k.1))], [(0, .row none 9 (strs ((a.take k.1).map decDigits)))], 1⟩) (fun k => a.length - k.1) ⟨0, Nat.zero_le _⟩ [(0, 0)]
      (SubR.mk' rfl rfl ⟨⟨_, rfl, rfl⟩, ⟨_, rfl, rfl⟩, ⟨_, rfl, congrArg (fun z : Nat => AV.d (Dat.int IntKind.i64 z)) (u32s_len _)⟩, ⟨_, rfl, rfl⟩, trivial⟩ ⟨⟨_, _, rfl, rfl, rfl⟩, trivial⟩) ?_
    rintro ⟨k, hk⟩
    dsimp only
    rcases Nat.lt_or_ge k a.length with hkl | hkl
    · have hn := ha a[k] (List.getElem_mem _)
      have hnum := u32_at hkl
      have hc2 := c_format a[k] (by omega)
      have hw : IntKind.u64.wrap ((u32s a).getD (k : Int).toNat default).num = (a[k] : Int) := by rw [hnum]; exact wrap_u64 _ (by omega)
      rw [← hw] at hc2
      repeat' (first | ((with_reducible show AWp _ _ _ _ _); (first | refine awp_seq ?_ | refine awp_block ?_ | refine awp_skip ?_ | refine awp_exit ?_ | refine awp_scope ?_ | refine awp_label ?_ | refine awp_run ty_ok rfl sd ?_ | refine awp_ret ⟨_, _, rfl, rfl, ?_⟩ | refine awp_ret ⟨_, rfl, ?_⟩ | ((refine awp_cond (ty := ty) rfl (fun hc => ?_) (fun hc => ?_)) <;> (try simp only [nms, reduceCtorEq] at hc) <;> (try (exfalso; omega))))) | ((with_reducible show AOps _ _ _ _ _ _); (first | refine aops_nil ?_ | refine aops_go ty_ok rfl rfl sd ?_ | refine aops_gate ty_ok rfl rfl rfl sd ?_ | refine aops_callE (ty := ty) rfl rfl rfl rfl rfl rfl rfl (hc2) rfl ?_ | refine aops_litE ty_ok rfl rfl rfl rfl rfl rfl rfl rfl rfl rfl rfl rfl ?_ | refine aops_cutE ty_ok rfl rfl rfl rfl rfl rfl rfl rfl rfl sd rfl ?_ | ((fail_if_success (refine aops_known rfl ?_)); (refine aops_split ty_ok rfl rfl rfl rfl rfl rfl (fun hc => ⟨?_, ?_⟩) (fun hc => ⟨?_, ?_⟩)) <;> (try simp only [nms, reduceCtorEq] at hc) <;> (try (exfalso; omega)) <;> (try exact sd)))) | ((fail_if_success (with_reducible show AWp _ _ _ _ _)); (fail_if_success (with_reducible show AOps _ _ _ _ _ _)); (first | (show AWp _ _ _ _ _) | (show AOps _ _ _ _ _ _))))
      refine ⟨⟨k + 1, hkl⟩, [(2, 0)], SubR.mk' rfl rfl ⟨⟨_, rfl, rfl⟩, ⟨_, rfl, rfl⟩, ⟨_, rfl, rfl⟩, ⟨_, rfl, rfl⟩, trivial⟩ ⟨⟨_, _, rfl, rfl, congrArg (AO.row none 9) ?_⟩, trivial⟩, by simp only; omega⟩
      rw [List.take_succ_eq_append_getElem hkl, List.map_append, strs_app]
      rfl
    · have hke : k = a.length := by omega
      subst hke
      rw [List.take_length]
      repeat' (first | ((with_reducible show AWp _ _ _ _ _); (first | refine awp_seq ?_ | refine awp_block ?_ | refine awp_skip ?_ | refine awp_exit ?_ | refine awp_scope ?_ | refine awp_label ?_ | refine awp_run ty_ok rfl sd ?_ | refine awp_ret ⟨_, _, rfl, rfl, ?_⟩ | refine awp_ret ⟨_, rfl, ?_⟩ | ((refine awp_cond (ty := ty) rfl (fun hc => ?_) (fun hc => ?_)) <;> (try simp only [nms, reduceCtorEq] at hc) <;> (try (exfalso; omega))))) | ((with_reducible show AOps _ _ _ _ _ _); (first | refine aops_nil ?_ | refine aops_go ty_ok rfl rfl sd ?_ | refine aops_gate ty_ok rfl rfl rfl sd ?_ | refine aops_callE (ty := ty) rfl rfl rfl rfl rfl rfl rfl (c_join _ (a.map decDigits) (by simp; omega) (by omega)) rfl ?_ | refine aops_litE ty_ok rfl rfl rfl rfl rfl rfl rfl rfl rfl rfl rfl rfl ?_ | refine aops_cutE ty_ok rfl rfl rfl rfl rfl rfl rfl rfl rfl sd rfl ?_ | ((fail_if_success (refine aops_known rfl ?_)); (refine aops_split ty_ok rfl rfl rfl rfl rfl rfl (fun hc => ⟨?_, ?_⟩) (fun hc => ⟨?_, ?_⟩)) <;> (try simp only [nms, reduceCtorEq] at hc) <;> (try (exfalso; omega)) <;> (try exact sd)))) | ((fail_if_success (with_reducible show AWp _ _ _ _ _)); (fail_if_success (with_reducible show AOps _ _ _ _ _ _)); (first | (show AWp _ _ _ _ _) | (show AOps _ _ _ _ _ _))))
      rw [textD, hr, joinL, joinD_lib]
      rfl

theorem joinD_snoc : ∀ (ps : List (List UInt8)) (p : List UInt8), ps ≠ [] → joinD (ps ++ [p]) = joinD ps ++ 46 :: p
  | [], p, h => absurd rfl h
  | [q], p, _ => by simp [joinD]
  | q :: q2 :: r, p, _ => by
    have := joinD_snoc (q2 :: r) p (by simp)
    simp only [List.cons_append, joinD] at this ⊢
    rw [this]
    simp
theorem isRText : IsFn Tryz.prog 105 Tryz.f105 := ⟨Tryz.func105, by decide, rfl⟩
set_option maxHeartbeats 1000000 in
theorem c_rtext (Γ : Env) (a : List Nat) (hl : a.length ≤ 100000000) (ha : ∀ n ∈ a, n ≤ 4294967295) : ACalls Tryz.prog Γ 105 [.sl none (u32s a)] (fun r => r = .d (textD a)) := by
  refine acalls_of ty_ok isRText rfl rfl ?_
  have hc1 := c_rright (Γ.at 0) a
  cases hr : rightF a with
  | false =>
    rw [hr] at hc1
    repeat' (first | ((with_reducible show AWp _ _ _ _ _); (first | refine awp_seq ?_ | refine awp_block ?_ | refine awp_skip ?_ | refine awp_exit ?_ | refine awp_scope ?_ | refine awp_label ?_ | refine awp_run ty_ok rfl sd ?_ | refine awp_ret ⟨_, _, rfl, rfl, ?_⟩ | refine awp_ret ⟨_, rfl, ?_⟩ | ((refine awp_cond (ty := ty) rfl (fun hc => ?_) (fun hc => ?_)) <;> (try simp only [nms, reduceCtorEq] at hc) <;> (try (exfalso; omega))))) | ((with_reducible show AOps _ _ _ _ _ _); (first | refine aops_nil ?_ | refine aops_go ty_ok rfl rfl sd ?_ | refine aops_gate ty_ok rfl rfl rfl sd ?_ | refine aops_callE (ty := ty) rfl rfl rfl rfl rfl rfl rfl (hc1) rfl ?_ | refine aops_litE ty_ok rfl rfl rfl rfl rfl rfl rfl rfl rfl rfl rfl rfl ?_ | refine aops_cutE ty_ok rfl rfl rfl rfl rfl rfl rfl rfl rfl sd rfl ?_ | ((fail_if_success (refine aops_known rfl ?_)); (refine aops_split ty_ok rfl rfl rfl rfl rfl rfl (fun hc => ⟨?_, ?_⟩) (fun hc => ⟨?_, ?_⟩)) <;> (try simp only [nms, reduceCtorEq] at hc) <;> (try (exfalso; omega)) <;> (try exact sd)))) | ((fail_if_success (with_reducible show AWp _ _ _ _ _)); (fail_if_success (with_reducible show AOps _ _ _ _ _ _)); (first | (show AWp _ _ _ _ _) | (show AOps _ _ _ _ _ _))))
    rw [textD, hr]
    rfl
  | true =>
    rw [hr] at hc1
    have h0 : 0 < a.length := by
      cases a with
      | nil => simp [rightF] at hr
      | cons x t => simp
    have hw : ∀ k (h : k < a.length), IntKind.u64.wrap ((u32s a).getD (k : Int).toNat default).num = (a[k] : Int) := fun k h => by
      rw [u32_at h]
      exact wrap_u64 _ (by have := ha a[k] (List.getElem_mem _); omega)
    have hc0 := c_digits (Γ.at 0) a[0] (by have := ha a[0] (List.getElem_mem _); omega)
    rw [← hw 0 h0] at hc0
    repeat' (first | ((with_reducible show AWp _ _ _ _ _); (first | refine awp_seq ?_ | refine awp_block ?_ | refine awp_skip ?_ | refine awp_exit ?_ | refine awp_scope ?_ | refine awp_label ?_ | refine awp_run ty_ok rfl sd ?_ | refine awp_ret ⟨_, _, rfl, rfl, ?_⟩ | refine awp_ret ⟨_, rfl, ?_⟩ | ((refine awp_cond (ty := ty) rfl (fun hc => ?_) (fun hc => ?_)) <;> (try simp only [nms, reduceCtorEq] at hc) <;> (try (exfalso; omega))))) | ((with_reducible show AOps _ _ _ _ _ _); (first | refine aops_nil ?_ | refine aops_go ty_ok rfl rfl sd ?_ | refine aops_gate ty_ok rfl rfl rfl sd ?_ | refine aops_callE (ty := ty) rfl rfl rfl rfl rfl rfl rfl (hc1) rfl ?_ | refine aops_callE (ty := ty) rfl rfl rfl rfl rfl rfl rfl (hc0) rfl ?_ | refine aops_litE ty_ok rfl rfl rfl rfl rfl rfl rfl rfl rfl rfl rfl rfl ?_ | refine aops_cutE ty_ok rfl rfl rfl rfl rfl rfl rfl rfl rfl sd rfl ?_ | ((fail_if_success (refine aops_known rfl ?_)); (refine aops_split ty_ok rfl rfl rfl rfl rfl rfl (fun hc => ⟨?_, ?_⟩) (fun hc => ⟨?_, ?_⟩)) <;> (try simp only [nms, reduceCtorEq] at hc) <;> (try (exfalso; omega)) <;> (try exact sd)))) | ((fail_if_success (with_reducible show AWp _ _ _ _ _)); (fail_if_success (with_reducible show AOps _ _ _ _ _ _)); (first | (show AWp _ _ _ _ _) | (show AOps _ _ _ _ _ _))))
    refine awp_loopR (G := { k : Nat // 1 ≤ k ∧ k ≤ a.length }) (fun k => ⟨Tryz.f105.ntmps, [(0, .d (.sl none (u32s a))), (4, .d (sD (textF (a.take k.1)))), (5, .d (.int .i64 k.1))], [], 0⟩) (fun k => a.length - k.1) ⟨1, Nat.le_refl _, h0⟩ []
      (SubR.mk' rfl rfl ⟨⟨_, rfl, rfl⟩, ⟨_, rfl, congrArg AV.d ?_⟩, ⟨_, rfl, rfl⟩, trivial⟩ trivial) ?_
    · congr 2
      cases a with
      | nil => simp at h0
      | cons x t => simp [textF, joinD]
    rintro ⟨k, hk1, hk⟩
    dsimp only
    rcases Nat.lt_or_ge k a.length with hkl | hkl
    · have hn := ha a[k] (List.getElem_mem _)
      have hc2 := c_digits (Γ.at 0) a[k] (by omega)
      rw [← hw k hkl] at hc2
      have hl1 := textF_len (a.take k) (fun n hn => ha n (List.mem_of_mem_take hn))
      have hl2 := dec_len32 a[k] hn
      have hl3 : (a.take k).length ≤ a.length := by rw [List.length_take]; omega
      repeat' (first | ((with_reducible show AWp _ _ _ _ _); (first | refine awp_seq ?_ | refine awp_block ?_ | refine awp_skip ?_ | refine awp_exit ?_ | refine awp_scope ?_ | refine awp_label ?_ | refine awp_run ty_ok rfl sd ?_ | refine awp_ret ⟨_, _, rfl, rfl, ?_⟩ | refine awp_ret ⟨_, rfl, ?_⟩ | ((refine awp_cond (ty := ty) rfl (fun hc => ?_) (fun hc => ?_)) <;> (try simp only [nms, reduceCtorEq] at hc) <;> (try (exfalso; omega))))) | ((with_reducible show AOps _ _ _ _ _ _); (first | refine aops_nil ?_ | refine aops_go ty_ok rfl rfl sd ?_ | refine aops_gate ty_ok rfl rfl rfl sd ?_ | refine aops_callE (ty := ty) rfl rfl rfl rfl rfl rfl rfl (hc2) rfl ?_ | refine aops_litE ty_ok rfl rfl rfl rfl rfl rfl rfl rfl rfl rfl rfl rfl ?_ | refine aops_cutE ty_ok rfl rfl rfl rfl rfl rfl rfl rfl rfl sd rfl ?_ | ((fail_if_success (refine aops_known rfl ?_)); (refine aops_split ty_ok rfl rfl rfl rfl rfl rfl (fun hc => ⟨?_, ?_⟩) (fun hc => ⟨?_, ?_⟩)) <;> (try simp only [nms, reduceCtorEq] at hc) <;> (try (exfalso; omega)) <;> (try exact sd)))) | ((fail_if_success (with_reducible show AWp _ _ _ _ _)); (fail_if_success (with_reducible show AOps _ _ _ _ _ _)); (first | (show AWp _ _ _ _ _) | (show AOps _ _ _ _ _ _))))
      refine ⟨⟨k + 1, by omega, hkl⟩, [], SubR.mk' rfl rfl ⟨⟨_, rfl, rfl⟩, ⟨_, rfl, congrArg AV.d ?_⟩, ⟨_, rfl, rfl⟩, trivial⟩ trivial, by simp only; omega⟩
      have : textF (a.take (k + 1)) = textF (a.take k) ++ 46 :: decDigits a[k] := by
        rw [List.take_succ_eq_append_getElem hkl, textF, List.map_append, List.map_cons, List.map_nil, joinD_snoc _ _ (by
          intro h
          have := congrArg List.length h
          rw [List.length_map, List.length_take, List.length_nil] at this
          omega)]
        rfl
      simp only [this, sD]
      rw [show textF (a.take k) ++ 46 :: decDigits a[k] = (textF (a.take k) ++ [46]) ++ decDigits a[k] by simp, ← bA_app, ← bA_app]
      rfl
    · have hke : k = a.length := by omega
      subst hke
      repeat' (first | ((with_reducible show AWp _ _ _ _ _); (first | refine awp_seq ?_ | refine awp_block ?_ | refine awp_skip ?_ | refine awp_exit ?_ | refine awp_scope ?_ | refine awp_label ?_ | refine awp_run ty_ok rfl sd ?_ | refine awp_ret ⟨_, _, rfl, rfl, ?_⟩ | refine awp_ret ⟨_, rfl, ?_⟩ | ((refine awp_cond (ty := ty) rfl (fun hc => ?_) (fun hc => ?_)) <;> (try simp only [nms, reduceCtorEq] at hc) <;> (try (exfalso; omega))))) | ((with_reducible show AOps _ _ _ _ _ _); (first | refine aops_nil ?_ | refine aops_go ty_ok rfl rfl sd ?_ | refine aops_gate ty_ok rfl rfl rfl sd ?_ | refine aops_callE (ty := ty) rfl rfl rfl rfl rfl rfl rfl (hc1) rfl ?_ | refine aops_litE ty_ok rfl rfl rfl rfl rfl rfl rfl rfl rfl rfl rfl rfl ?_ | refine aops_cutE ty_ok rfl rfl rfl rfl rfl rfl rfl rfl rfl sd rfl ?_ | ((fail_if_success (refine aops_known rfl ?_)); (refine aops_split ty_ok rfl rfl rfl rfl rfl rfl (fun hc => ⟨?_, ?_⟩) (fun hc => ⟨?_, ?_⟩)) <;> (try simp only [nms, reduceCtorEq] at hc) <;> (try (exfalso; omega)) <;> (try exact sd)))) | ((fail_if_success (with_reducible show AWp _ _ _ _ _)); (fail_if_success (with_reducible show AOps _ _ _ _ _ _)); (first | (show AWp _ _ _ _ _) | (show AOps _ _ _ _ _ _))))
      rw [textD, hr, List.take_length]

end Go.Proofs.YtdihjpmdmfmbiaaGreatDoor

/- Contents octets of object identifiers: Encode of both. Walked by the abstract machine. -/
namespace Go.Proofs.YtdihjpmdmfmbiaaGreatDoor
open Go.Am
open Go.Lib (decDigits)
set_option linter.unusedSimpArgs false
set_option linter.unusedVariables false

/-- The octets of a subidentifier. -/
def low7 (last : Bool) (n : Nat) : UInt8 := UInt8.ofNat (n % 128 + (match last with
  | true => 0
  | false => 128))
def b128 (last : Bool) (n : Nat) : List UInt8 := if n < 128 then [low7 last n] else b128 false (n / 128) ++ [low7 last n]
  termination_by n
  decreasing_by omega
theorem b128_small {last : Bool} {n : Nat} (h : n < 128) : b128 last n = [low7 last n] := by rw [b128, if_pos h]
theorem b128_big {last : Bool} {n : Nat} (h : ¬ n < 128) : b128 last n = b128 false (n / 128) ++ [low7 last n] := by rw [b128, if_neg h]
theorem b128_len (k : Nat) : ∀ last n, n < 128 ^ (k + 1) → (b128 last n).length ≤ k + 1 := by
  induction k with
  | zero =>
    intro last n h
    rw [b128_small (by simpa using h)]
    exact Nat.le_refl _
  | succ k ih =>
    intro last n h
    by_cases h1 : n < 128
    · rw [b128_small h1]
      exact Nat.succ_le_succ (Nat.zero_le _)
    · rw [b128_big h1]
      have h2 : n / 128 < 128 ^ (k + 1) := by
        rw [Nat.div_lt_iff_lt_mul (Nat.succ_pos 127), ← Nat.pow_succ]
        exact h
      have := ih false (n / 128) h2
      rw [List.length_append, List.length_singleton]
      omega
theorem b128_len32 (last : Bool) (n : Nat) (h : n ≤ 4294967295) : (b128 last n).length ≤ 5 := b128_len 4 last n (Nat.lt_of_le_of_lt h (by decide))
/-- The octets after the last one, lowest first. -/
def rest7 (n : Nat) : List UInt8 := if n = 0 then [] else low7 false n :: rest7 (n / 128)
  termination_by n
  decreasing_by omega
theorem rest7_zero : rest7 0 = [] := by rw [rest7, if_pos rfl]
theorem rest7_pos {n : Nat} (h : n ≠ 0) : rest7 n = low7 false n :: rest7 (n / 128) := by rw [rest7, if_neg h]
theorem rest7_b128 (n : Nat) (h : n ≠ 0) : (rest7 n).reverse = b128 false n := by
  induction n using Nat.strongRecOn with
  | _ n ih =>
    rw [rest7_pos h, List.reverse_cons]
    by_cases h1 : n < 128
    · rw [b128_small h1, show n / 128 = 0 by omega, rest7_zero]
      rfl
    · rw [b128_big h1, ih (n / 128) (by omega) (by omega)]
theorem b128_rest (n : Nat) : b128 true n = (low7 true n :: rest7 (n / 128)).reverse := by
  rw [List.reverse_cons]
  by_cases h1 : n < 128
  · rw [b128_small h1, show n / 128 = 0 by omega, rest7_zero]
    rfl
  · rw [b128_big h1, rest7_b128 _ (by omega)]
theorem low7_nat (n : Nat) : (low7 true n).toNat = n % 128 ∧ (low7 false n).toNat = n % 128 + 128 := by
  constructor <;> simp [low7, UInt8.toNat_ofNat'] <;> omega
theorem bys_one (b : UInt8) : bys [b] = [Dat.int .u8 b.toNat] := rfl

theorem isBase : IsFn Tryz.prog 76 Tryz.f76 := ⟨Tryz.func76, by decide, rfl⟩
theorem c_base (Γ : Env) (n : Nat) : ∀ (last : Bool), n ≤ 1099511627775 → ACalls Tryz.prog Γ 76 [.int .u64 n, .bool last] (fun r => r = .own none 5 (bys (b128 last n))) := by
  induction n using Nat.strongRecOn with
  | _ n ih =>
    intro last hn
    have htm : (n : Int).tmod 128 = ((n % 128 : Nat) : Int) := by rw [Int.tmod_eq_emod_of_nonneg (by omega)]; omega
    have hq : IntKind.u64.wrap ((n : Int).tdiv 128) = ((n / 128 : Nat) : Int) := by rw [Int.tdiv_eq_ediv_of_nonneg (by omega), IntKind.wrap_u64]; omega
    have hx : IntKind.u8.wrap (((n : Int).tmod 128)) = ((n % 128 : Nat) : Int) := by rw [htm, IntKind.wrap_u8]; omega
    have hy : IntKind.u8.wrap (((n % 128 : Nat) : Int) + 128) = ((n % 128 + 128 : Nat) : Int) := by rw [IntKind.wrap_u8]; omega
    obtain ⟨l1, l2⟩ := low7_nat n
    refine acalls_of ty_ok isBase rfl rfl ?_
    by_cases h : n < 128
    · cases last with
      | true =>
        repeat' (first | ((with_reducible show AWp _ _ _ _ _); (first | refine awp_seq ?_ | refine awp_block ?_ | refine awp_skip ?_ | refine awp_exit ?_ | refine awp_scope ?_ | refine awp_label ?_ | refine awp_run ty_ok rfl sd ?_ | refine awp_ret ⟨_, _, rfl, rfl, ?_⟩ | refine awp_ret ⟨_, rfl, ?_⟩ | ((refine awp_cond (ty := ty) rfl (fun hc => ?_) (fun hc => ?_)) <;> (try simp only [nms, reduceCtorEq] at hc) <;> (try (exfalso; omega))))) | ((with_reducible show AOps _ _ _ _ _ _); (first | refine aops_nil ?_ | refine aops_go ty_ok rfl rfl sd ?_ | refine aops_gate ty_ok rfl rfl rfl sd ?_ | refine aops_litE ty_ok rfl rfl rfl rfl rfl rfl rfl rfl rfl rfl rfl rfl ?_ | refine aops_cutE ty_ok rfl rfl rfl rfl rfl rfl rfl rfl rfl sd rfl ?_ | ((fail_if_success (refine aops_known rfl ?_)); (refine aops_split ty_ok rfl rfl rfl rfl rfl rfl (fun hc => ⟨?_, ?_⟩) (fun hc => ⟨?_, ?_⟩)) <;> (try simp only [nms, reduceCtorEq] at hc) <;> (try (exfalso; omega)) <;> (try exact sd)))) | ((fail_if_success (with_reducible show AWp _ _ _ _ _)); (fail_if_success (with_reducible show AOps _ _ _ _ _ _)); (first | (show AWp _ _ _ _ _) | (show AOps _ _ _ _ _ _))))
        all_goals simp only [hx, b128_small h, bys_one, l1]
      | false =>
        repeat' (first | ((with_reducible show AWp _ _ _ _ _); (first | refine awp_seq ?_ | refine awp_block ?_ | refine awp_skip ?_ | refine awp_exit ?_ | refine awp_scope ?_ | refine awp_label ?_ | refine awp_run ty_ok rfl sd ?_ | refine awp_ret ⟨_, _, rfl, rfl, ?_⟩ | refine awp_ret ⟨_, rfl, ?_⟩ | ((refine awp_cond (ty := ty) rfl (fun hc => ?_) (fun hc => ?_)) <;> (try simp only [nms, reduceCtorEq] at hc) <;> (try (exfalso; omega))))) | ((with_reducible show AOps _ _ _ _ _ _); (first | refine aops_nil ?_ | refine aops_go ty_ok rfl rfl sd ?_ | refine aops_gate ty_ok rfl rfl rfl sd ?_ | refine aops_litE ty_ok rfl rfl rfl rfl rfl rfl rfl rfl rfl rfl rfl rfl ?_ | refine aops_cutE ty_ok rfl rfl rfl rfl rfl rfl rfl rfl rfl sd rfl ?_ | ((fail_if_success (refine aops_known rfl ?_)); (refine aops_split ty_ok rfl rfl rfl rfl rfl rfl (fun hc => ⟨?_, ?_⟩) (fun hc => ⟨?_, ?_⟩)) <;> (try simp only [nms, reduceCtorEq] at hc) <;> (try (exfalso; omega)) <;> (try exact sd)))) | ((fail_if_success (with_reducible show AWp _ _ _ _ _)); (fail_if_success (with_reducible show AOps _ _ _ _ _ _)); (first | (show AWp _ _ _ _ _) | (show AOps _ _ _ _ _ _))))
        all_goals simp only [hx, hy, b128_small h, bys_one, l2]
    · have hih := ih (n / 128) (by omega) false (by omega)
      rw [← hq] at hih
      have hbl := b128_len 5 false (n / 128) (by omega)
      cases last with
      | true =>
        repeat' (first | ((with_reducible show AWp _ _ _ _ _); (first | refine awp_seq ?_ | refine awp_block ?_ | refine awp_skip ?_ | refine awp_exit ?_ | refine awp_scope ?_ | refine awp_label ?_ | refine awp_run ty_ok rfl sd ?_ | refine awp_ret ⟨_, _, rfl, rfl, ?_⟩ | refine awp_ret ⟨_, rfl, ?_⟩ | ((refine awp_cond (ty := ty) rfl (fun hc => ?_) (fun hc => ?_)) <;> (try simp only [nms, reduceCtorEq] at hc) <;> (try (exfalso; omega))))) | ((with_reducible show AOps _ _ _ _ _ _); (first | refine aops_nil ?_ | refine aops_go ty_ok rfl rfl sd ?_ | refine aops_gate ty_ok rfl rfl rfl sd ?_ | refine aops_callE (ty := ty) rfl rfl rfl rfl rfl rfl rfl (hih) rfl ?_ | refine aops_litE ty_ok rfl rfl rfl rfl rfl rfl rfl rfl rfl rfl rfl rfl ?_ | refine aops_cutE ty_ok rfl rfl rfl rfl rfl rfl rfl rfl rfl sd rfl ?_ | ((fail_if_success (refine aops_known rfl ?_)); (refine aops_split ty_ok rfl rfl rfl rfl rfl rfl (fun hc => ⟨?_, ?_⟩) (fun hc => ⟨?_, ?_⟩)) <;> (try simp only [nms, reduceCtorEq] at hc) <;> (try (exfalso; omega)) <;> (try exact sd)))) | ((fail_if_success (with_reducible show AWp _ _ _ _ _)); (fail_if_success (with_reducible show AOps _ _ _ _ _ _)); (first | (show AWp _ _ _ _ _) | (show AOps _ _ _ _ _ _))))
        all_goals simp only [hx, b128_big h, bys_app, bys_one, l1]
      | false =>
        repeat' (first | ((with_reducible show AWp _ _ _ _ _); (first | refine awp_seq ?_ | refine awp_block ?_ | refine awp_skip ?_ | refine awp_exit ?_ | refine awp_scope ?_ | refine awp_label ?_ | refine awp_run ty_ok rfl sd ?_ | refine awp_ret ⟨_, _, rfl, rfl, ?_⟩ | refine awp_ret ⟨_, rfl, ?_⟩ | ((refine awp_cond (ty := ty) rfl (fun hc => ?_) (fun hc => ?_)) <;> (try simp only [nms, reduceCtorEq] at hc) <;> (try (exfalso; omega))))) | ((with_reducible show AOps _ _ _ _ _ _); (first | refine aops_nil ?_ | refine aops_go ty_ok rfl rfl sd ?_ | refine aops_gate ty_ok rfl rfl rfl sd ?_ | refine aops_callE (ty := ty) rfl rfl rfl rfl rfl rfl rfl (hih) rfl ?_ | refine aops_litE ty_ok rfl rfl rfl rfl rfl rfl rfl rfl rfl rfl rfl rfl ?_ | refine aops_cutE ty_ok rfl rfl rfl rfl rfl rfl rfl rfl rfl sd rfl ?_ | ((fail_if_success (refine aops_known rfl ?_)); (refine aops_split ty_ok rfl rfl rfl rfl rfl rfl (fun hc => ⟨?_, ?_⟩) (fun hc => ⟨?_, ?_⟩)) <;> (try simp only [nms, reduceCtorEq] at hc) <;> (try (exfalso; omega)) <;> (try exact sd)))) | ((fail_if_success (with_reducible show AWp _ _ _ _ _)); (fail_if_success (with_reducible show AOps _ _ _ _ _ _)); (first | (show AWp _ _ _ _ _) | (show AOps _ _ _ _ _ _))))
        all_goals simp only [hx, hy, b128_big h, bys_app, bys_one, l2]
end Go.Proofs.YtdihjpmdmfmbiaaGreatDoor

/- Encode of package oid, walked by the abstract machine. -/
namespace Go.Proofs.YtdihjpmdmfmbiaaGreatDoor
open Go.Am
open Go.Lib (decDigits)
set_option linter.unusedSimpArgs false
set_option linter.unusedVariables false

theorem and_u32 (n : Nat) (h : n ≤ 4294967295) : bits .and .u32 (n : Int) 127 = ((n % 128 : Nat) : Int) := by
  have h1 := (bits_nat .u32 32 (by decide) (fun n h0 h1 => by rw [IntKind.wrap_u32]; omega) n 127 (by omega) (by omega)).1
  have h2 : n &&& 127 = n % 128 := Nat.and_two_pow_sub_one_eq_mod n 7
  rw [h2] at h1
  exact h1
theorem or_u32 (d : Nat) (h : d < 128) : bits .or .u32 (d : Int) 128 = ((d + 128 : Nat) : Int) := by
  have h1 := (bits_nat .u32 32 (by decide) (fun n h0 h1 => by rw [IntKind.wrap_u32]; omega) d 128 (by omega) (by omega)).2
  have h2 : d ||| 128 = d + 128 := by
    have : ∀ d : Fin 128, d.1 ||| 128 = d.1 + 128 := by decide
    exact this ⟨d, h⟩
  rw [h2] at h1
  exact h1
theorem shr_u32 (n : Nat) : shft .shr .u32 (n : Int) 7 = ((n / 128 : Nat) : Int) := by
  simp [shft, IntKind.bits, Int.fdiv_eq_ediv_of_nonneg]
theorem isPut : IsFn Tryz.prog 73 Tryz.f73 := ⟨Tryz.func73, by decide, rfl⟩
set_option maxHeartbeats 1000000 in
theorem put_in (Γ : Env) (o : List UInt8) (n : Nat) (hn : n ≤ 4294967295) (ho : o.length ≤ 1000000000) (K : List (Nat × AO) → Nat → AV → Prop)
    (hK : ∀ ob, Am.look 0 ob = some (.box 22 [.ref 3]) → Am.look 3 ob = some (.row none 5 (bys (o ++ b128 true n))) → K ob 4 (.tup [])) :
    AWp Tryz.prog (Γ.at 2) Tryz.f73.body.get! (BackOk ty Tryz.f73 K) (entry Tryz.f73.ntmps [.d (.int .u32 n), .ptr 0 0] [(0, .box 22 [.ref 1]), (1, .row none 5 (bys o))] 2) := by
  have e1 := and_u32 n hn
  have e2 := shr_u32 n
  have hl := b128_len32 true n hn
  obtain ⟨l1, l2⟩ := low7_nat n
  repeat' (first | ((with_reducible show AWp _ _ _ _ _); (first | refine awp_seq ?_ | refine awp_block ?_ | refine awp_skip ?_ | refine awp_exit ?_ | refine awp_scope ?_ | refine awp_label ?_ | refine awp_run ty_ok rfl sd ?_ | refine awp_ret ⟨_, _, rfl, rfl, ?_⟩ | refine awp_ret ⟨_, rfl, ?_⟩ | ((refine awp_cond (ty := ty) rfl (fun hc => ?_) (fun hc => ?_)) <;> (try simp only [nms, reduceCtorEq] at hc) <;> (try (exfalso; omega))))) | ((with_reducible show AOps _ _ _ _ _ _); (first | refine aops_nil ?_ | refine aops_go ty_ok rfl rfl sd ?_ | refine aops_gate ty_ok rfl rfl rfl sd ?_ | refine aops_around (ty := ty) rfl rfl rfl rfl rfl rfl rfl (turns) sd rfl ?_ | refine aops_litE ty_ok rfl rfl rfl rfl rfl rfl rfl rfl rfl rfl rfl rfl ?_ | refine aops_cutE ty_ok rfl rfl rfl rfl rfl rfl rfl rfl rfl sd rfl ?_ | ((fail_if_success (refine aops_known rfl ?_)); (refine aops_split ty_ok rfl rfl rfl rfl rfl rfl (fun hc => ⟨?_, ?_⟩) (fun hc => ⟨?_, ?_⟩)) <;> (try simp only [nms, reduceCtorEq] at hc) <;> (try (exfalso; omega)) <;> (try exact sd)))) | ((fail_if_success (with_reducible show AWp _ _ _ _ _)); (fail_if_success (with_reducible show AOps _ _ _ _ _ _)); (first | (show AWp _ _ _ _ _) | (show AOps _ _ _ _ _ _))))
  have hrl : (rest7 (n / 128)).length + 1 ≤ 5 := by
    have := congrArg List.length (b128_rest n)
    simp at this
    omega
  refine awp_loopR (G := { p : Nat × List UInt8 // p.2 ++ rest7 p.1 = rest7 (n / 128) ∧ p.1 ≤ n / 128 }) (fun p => ⟨Tryz.f73.ntmps, [(0, .d (.int .u32 p.1.1)), (1, .ptr 0 0), (3, .ref 2)], [(0, .box 22 [.ref 1]), (1, .row none 5 (bys o)), (2, .row none 5 (bys (low7 true n :: p.1.2)))], 3⟩) (fun p => p.1.1) ⟨(n / 128, []), rfl, Nat.le_refl _⟩ [(2, 2)]
    (SubR.mk' rfl rfl ⟨⟨_, rfl, congrArg (fun z : Int => AV.d (Dat.int IntKind.u32 z)) e2⟩, ⟨_, rfl, rfl⟩, ⟨_, rfl, rfl⟩, trivial⟩ ⟨⟨_, _, rfl, rfl, rfl⟩, ⟨_, _, rfl, rfl, rfl⟩, ⟨_, _, rfl, rfl, congrArg (AO.row none 5) (by rw [e1, IntKind.wrap_u8, bys_one, l1]; congr 2; omega)⟩, trivial⟩) ?_
  rintro ⟨⟨m, pre⟩, hp, hm⟩
  simp only at hp hm
  dsimp only
  have hpl : pre.length + (rest7 m).length = (rest7 (n / 128)).length := by rw [← hp, List.length_append]
  have f1 := and_u32 m (by omega)
  have f2 := shr_u32 m
  have f3 := or_u32 (m % 128) (by omega)
  obtain ⟨l3, l4⟩ := low7_nat m
  by_cases h0 : m = 0
  · subst h0
    rw [rest7_zero, List.append_nil] at hp
    repeat' (first | ((with_reducible show AWp _ _ _ _ _); (first | refine awp_seq ?_ | refine awp_block ?_ | refine awp_skip ?_ | refine awp_exit ?_ | refine awp_scope ?_ | refine awp_label ?_ | refine awp_run ty_ok rfl sd ?_ | refine awp_ret ⟨_, _, rfl, rfl, ?_⟩ | refine awp_ret ⟨_, rfl, ?_⟩ | ((refine awp_cond (ty := ty) rfl (fun hc => ?_) (fun hc => ?_)) <;> (try simp only [nms, reduceCtorEq] at hc) <;> (try (exfalso; omega))))) | ((with_reducible show AOps _ _ _ _ _ _); (first | refine aops_nil ?_ | refine aops_go ty_ok rfl rfl sd ?_ | refine aops_gate ty_ok rfl rfl rfl sd ?_ | refine aops_around (ty := ty) rfl rfl rfl rfl rfl rfl rfl (turns) sd rfl ?_ | refine aops_litE ty_ok rfl rfl rfl rfl rfl rfl rfl rfl rfl rfl rfl rfl ?_ | refine aops_cutE ty_ok rfl rfl rfl rfl rfl rfl rfl rfl rfl sd rfl ?_ | ((fail_if_success (refine aops_known rfl ?_)); (refine aops_split ty_ok rfl rfl rfl rfl rfl rfl (fun hc => ⟨?_, ?_⟩) (fun hc => ⟨?_, ?_⟩)) <;> (try simp only [nms, reduceCtorEq] at hc) <;> (try (exfalso; omega)) <;> (try exact sd)))) | ((fail_if_success (with_reducible show AWp _ _ _ _ _)); (fail_if_success (with_reducible show AOps _ _ _ _ _ _)); (first | (show AWp _ _ _ _ _) | (show AOps _ _ _ _ _ _))))
    refine ⟨[], rfl, hK _ rfl (congrArg (fun z => some (AO.row none 5 z)) ?_)⟩
    rw [bys_app, b128_rest, hp]
  · repeat' (first | ((with_reducible show AWp _ _ _ _ _); (first | refine awp_seq ?_ | refine awp_block ?_ | refine awp_skip ?_ | refine awp_exit ?_ | refine awp_scope ?_ | refine awp_label ?_ | refine awp_run ty_ok rfl sd ?_ | refine awp_ret ⟨_, _, rfl, rfl, ?_⟩ | refine awp_ret ⟨_, rfl, ?_⟩ | ((refine awp_cond (ty := ty) rfl (fun hc => ?_) (fun hc => ?_)) <;> (try simp only [nms, reduceCtorEq] at hc) <;> (try (exfalso; omega))))) | ((with_reducible show AOps _ _ _ _ _ _); (first | refine aops_nil ?_ | refine aops_go ty_ok rfl rfl sd ?_ | refine aops_gate ty_ok rfl rfl rfl sd ?_ | refine aops_around (ty := ty) rfl rfl rfl rfl rfl rfl rfl (turns) sd rfl ?_ | refine aops_litE ty_ok rfl rfl rfl rfl rfl rfl rfl rfl rfl rfl rfl rfl ?_ | refine aops_cutE ty_ok rfl rfl rfl rfl rfl rfl rfl rfl rfl sd rfl ?_ | ((fail_if_success (refine aops_known rfl ?_)); (refine aops_split ty_ok rfl rfl rfl rfl rfl rfl (fun hc => ⟨?_, ?_⟩) (fun hc => ⟨?_, ?_⟩)) <;> (try simp only [nms, reduceCtorEq] at hc) <;> (try (exfalso; omega)) <;> (try exact sd)))) | ((fail_if_success (with_reducible show AWp _ _ _ _ _)); (fail_if_success (with_reducible show AOps _ _ _ _ _ _)); (first | (show AWp _ _ _ _ _) | (show AOps _ _ _ _ _ _))))
    refine ⟨⟨(m / 128, pre ++ [low7 false m]), by rw [← hp, rest7_pos h0]; simp, by simp only; omega⟩, [(4, 2)], SubR.mk' rfl rfl ⟨⟨_, rfl, congrArg (fun z : Int => AV.d (Dat.int IntKind.u32 z)) f2⟩, ⟨_, rfl, rfl⟩, ⟨_, rfl, rfl⟩, trivial⟩ ⟨⟨_, _, rfl, rfl, rfl⟩, ⟨_, _, rfl, rfl, rfl⟩, ⟨_, _, rfl, rfl, congrArg (AO.row none 5) ?_⟩, trivial⟩, by simp only; omega⟩
    rw [f1, f3, IntKind.wrap_u8]
    simp only [bys_cons, bys_app, bys_one, l4, List.cons_append]
    congr 4

/-- The contents octets of arcs. -/
def encL : List Nat → List UInt8
  | x :: y :: t => b128 true (40 * x + y) ++ (t.map (b128 true)).flatten
  | _ => []
theorem flat_take (f : Nat → List UInt8) (t : List Nat) (k : Nat) (h : k < t.length) : ((t.take (k + 1)).map f).flatten = ((t.take k).map f).flatten ++ f t[k] := by
  rw [List.take_succ_eq_append_getElem h, List.map_append, List.flatten_append, List.map_cons, List.map_nil, List.flatten_cons, List.flatten_nil, List.append_nil]
theorem flat_len (t : List Nat) (h : ∀ n ∈ t, n ≤ 4294967295) : ((t.map (b128 true)).flatten).length ≤ 5 * t.length := by
  induction t with
  | nil => simp
  | cons n t ih =>
    have h1 := b128_len32 true n (h n (List.mem_cons_self ..))
    have h2 := ih (fun m hm => h m (List.mem_cons_of_mem _ hm))
    simp only [List.map_cons, List.flatten_cons, List.length_append, List.length_cons]
    omega
theorem okF_len {l : List UInt8} {a : List Nat} (h : okF l = some a) : a.length ≤ l.length + 1 := by
  unfold okF at h
  split at h
  · rename_i b hb
    split at h
    · cases h
      have h1 := (mapM_arcs hb).1
      have h2 := congrArg List.length h1
      rw [List.length_map, splitL_len] at h2
      have := count_le l
      omega
    · cases h
  · cases h
theorem isOEncode : IsFn Tryz.prog 55 Tryz.f55 := ⟨Tryz.func55, by decide, rfl⟩
set_option maxHeartbeats 1000000 in
theorem c_oenc_ok (l : List UInt8) (a : List Nat) (hl : l.length ≤ 100000000) (h : okF l = some a) : ACalls Tryz.prog envL 55 [sD l] (fun r => r = .ownT none 5 (bys (encL a)) [.int .i64 0]) := by
  refine acalls_of ty_ok isOEncode rfl rfl ?_
  have hA := c_arcs l hl
  rw [arcsD, h] at hA
  have hal := okF_len h
  obtain ⟨_, hr, hn⟩ := okF_text h
  match a, hr, hn, hal, hA with
  | x :: y :: t, hr, hn, hal, hA =>
  have hx : ((u32s (x :: y :: t)).getD (Int.toNat 0) default).num = x := rfl
  have hy : ((u32s (x :: y :: t)).getD (Int.toNat 1) default).num = y := rfl
  have hlen : (u32s (x :: y :: t)).length = t.length + 2 := by simp [u32s]
  have hxy : 40 * x + y ≤ 4294967295 := by
    simp only [rightF, Bool.or_eq_true, Bool.and_eq_true, decide_eq_true_eq] at hr
    omega
  have htn : ∀ n ∈ t, n ≤ 4294967295 := fun n hm => hn n (by simp [hm])
  simp only [List.length_cons] at hal
  have hcut : cutL (u32s (x :: y :: t)) (Int.toNat 2) (u32s (x :: y :: t)).length = u32s t := by
    unfold cutL
    rw [List.take_length]
    rfl
  repeat' (first | ((with_reducible show AWp _ _ _ _ _); (first | refine awp_seq ?_ | refine awp_block ?_ | refine awp_skip ?_ | refine awp_exit ?_ | refine awp_scope ?_ | refine awp_label ?_ | refine awp_run ty_ok rfl sd ?_ | refine awp_ret ⟨_, _, rfl, rfl, ?_⟩ | refine awp_ret ⟨_, rfl, ?_⟩ | ((refine awp_cond (ty := ty) rfl (fun hc => ?_) (fun hc => ?_)) <;> (try simp only [nms, reduceCtorEq] at hc) <;> (try (exfalso; omega))) | refine awp_anyL 9 mixed rfl (by kernel_rfl) ?_)) | ((with_reducible show AOps _ _ _ _ _ _); (first | refine aops_nil ?_ | refine aops_go ty_ok rfl rfl sd ?_ | refine aops_gate ty_ok rfl rfl rfl sd ?_ | refine aops_callE (ty := ty) rfl rfl rfl rfl rfl rfl rfl (hA) rfl ?_ | refine aops_litE ty_ok rfl rfl rfl rfl rfl rfl rfl rfl rfl rfl rfl rfl ?_ | refine aops_cutE ty_ok rfl rfl rfl rfl rfl rfl rfl rfl rfl sd rfl ?_ | ((fail_if_success (refine aops_known rfl ?_)); (refine aops_split ty_ok rfl rfl rfl rfl rfl rfl (fun hc => ⟨?_, ?_⟩) (fun hc => ⟨?_, ?_⟩)) <;> (try simp only [nms, reduceCtorEq] at hc) <;> (try (exfalso; omega)) <;> (try exact sd)))) | ((with_reducible show HeadT _ _ _ _ _ _ _ _ _ _); (first | refine head_end ?_ | refine head_goP ty_ok rfl rfl sd ?_ | refine head_gate ty_ok rfl rfl rfl sd ?_ | refine head_callE (ty := ty) rfl rfl rfl rfl rfl rfl rfl (hA) rfl ?_ | ((fail_if_success (refine head_known rfl ?_)); (refine head_split ty_ok rfl rfl rfl rfl (fun hc => ⟨?_, ?_⟩) (fun hc => ⟨?_, ?_⟩)) <;> (try simp only [nms, reduceCtorEq] at hc) <;> (try (exfalso; omega)) <;> (try exact sd)))) | ((fail_if_success (with_reducible show AWp _ _ _ _ _)); (fail_if_success (with_reducible show AOps _ _ _ _ _ _)); (fail_if_success (with_reducible show HeadT _ _ _ _ _ _ _ _ _ _)); (first | (show AWp _ _ _ _ _) | (show AOps _ _ _ _ _ _))))
  refine aops_nilcell 0 0 5 rfl rfl rfl rfl ?_
  refine aops_ren (σ' := ⟨Tryz.f55.ntmps, [(4, .d (.sl none (u32s (x :: y :: t)))), (6, .ptr 0 0), (7, .fn 73 [.ptr 0 0]), (18, .fn 73 [.ptr 0 0]), (26, .d (.int .u32 ((40 * x + y : Nat) : Int)))], [(0, .box 22 [.ref 1]), (1, .row none 5 (bys []))], 2⟩) [(0, 0), (10, 1)]
    (SubR.mk' rfl rfl ⟨⟨_, rfl, rfl⟩, ⟨_, rfl, rfl⟩, ⟨_, rfl, rfl⟩, ⟨_, rfl, rfl⟩, ⟨_, rfl, congrArg (fun z : Int => AV.d (Dat.int IntKind.u32 z)) (by rw [hx, hy, IntKind.wrap_u32, IntKind.wrap_u32]; omega)⟩, trivial⟩ ⟨⟨_, _, rfl, rfl, rfl⟩, ⟨_, _, rfl, rfl, rfl⟩, trivial⟩) ?_
  refine aops_inline ty_ok rfl rfl rfl rfl rfl rfl isPut rfl rfl ?_
  refine put_in _ [] (40 * x + y) hxy (by simp) _ (fun ob h0 h3 => ?_)
  refine aops_ren (σ' := ⟨Tryz.f55.ntmps, [(4, .d (.sl none (u32s (x :: y :: t)))), (6, .ptr 0 0), (7, .fn 73 [.ptr 0 0])], [(0, .box 22 [.ref 1]), (1, .row none 5 (bys (b128 true (40 * x + y))))], 2⟩) [(0, 0), (3, 1)]
    (SubR.mk' rfl rfl ⟨⟨_, rfl, rfl⟩, ⟨_, rfl, rfl⟩, ⟨_, rfl, rfl⟩, trivial⟩ ⟨⟨_, _, rfl, h0, rfl⟩, ⟨_, _, rfl, h3, rfl⟩, trivial⟩) ?_
  refine aops_nil ?_
  have hb5 := b128_len32 true (40 * x + y) hxy
  repeat' (first | ((with_reducible show AWp _ _ _ _ _); (first | refine awp_seq ?_ | refine awp_block ?_ | refine awp_skip ?_ | refine awp_exit ?_ | refine awp_scope ?_ | refine awp_label ?_ | refine awp_run ty_ok rfl sd ?_ | refine awp_ret ⟨_, _, rfl, rfl, ?_⟩ | refine awp_ret ⟨_, rfl, ?_⟩ | ((refine awp_cond (ty := ty) rfl (fun hc => ?_) (fun hc => ?_)) <;> (try simp only [nms, reduceCtorEq] at hc) <;> (try (exfalso; omega))))) | ((with_reducible show AOps _ _ _ _ _ _); (first | refine aops_nil ?_ | refine aops_go ty_ok rfl rfl sd ?_ | refine aops_gate ty_ok rfl rfl rfl sd ?_ | refine aops_callE (ty := ty) rfl rfl rfl rfl rfl rfl rfl (hA) rfl ?_ | refine aops_litE ty_ok rfl rfl rfl rfl rfl rfl rfl rfl rfl rfl rfl rfl ?_ | refine aops_cutE ty_ok rfl rfl rfl rfl rfl rfl rfl rfl rfl sd rfl ?_ | ((fail_if_success (refine aops_known rfl ?_)); (refine aops_split ty_ok rfl rfl rfl rfl rfl rfl (fun hc => ⟨?_, ?_⟩) (fun hc => ⟨?_, ?_⟩)) <;> (try simp only [nms, reduceCtorEq] at hc) <;> (try (exfalso; omega)) <;> (try exact sd)))) | ((fail_if_success (with_reducible show AWp _ _ _ _ _)); (fail_if_success (with_reducible show AOps _ _ _ _ _ _)); (first | (show AWp _ _ _ _ _) | (show AOps _ _ _ _ _ _))))
  refine awp_loopR (G := { k : Nat // k ≤ t.length }) (fun k => ⟨Tryz.f55.ntmps, [(6, .ptr 0 0), (7, .fn 73 [.ptr 0 0]), (29, .d (.sl none (u32s t))), (30, .d (.int .i64 t.length)), (31, .d (.int .i64 k.1))], [(0, .box 22 [.ref 1]), (1, .row none 5 (bys (b128 true (40 * x + y) ++ ((t.take k.1).map (b128 true)).flatten)))], 2⟩) (fun k => t.length - k.1) ⟨0, Nat.zero_le _⟩ [(0, 0), (1, 1)]
    (SubR.mk' rfl rfl ⟨⟨_, rfl, rfl⟩, ⟨_, rfl, rfl⟩, ⟨_, rfl, congrArg (fun z => AV.d (Dat.sl none z)) hcut⟩, ⟨_, rfl, congrArg (fun z : Nat => AV.d (Dat.int IntKind.i64 z)) (by rw [hcut, u32s_len])⟩, ⟨_, rfl, rfl⟩, trivial⟩ ⟨⟨_, _, rfl, rfl, rfl⟩, ⟨_, _, rfl, rfl, congrArg (fun z => AO.row none 5 (bys z)) (by simp)⟩, trivial⟩) ?_
  rintro ⟨k, hk⟩
  dsimp only
  have hfl := flat_len (t.take k) (fun m hm => htn m (List.mem_of_mem_take hm))
  have htk : (t.take k).length ≤ t.length := by rw [List.length_take]; omega
  rcases Nat.lt_or_ge k t.length with hkl | hkl
  · have hnum := u32_at hkl
    have hnk := htn t[k] (List.getElem_mem _)
    repeat' (first | ((with_reducible show AWp _ _ _ _ _); (first | refine awp_seq ?_ | refine awp_block ?_ | refine awp_skip ?_ | refine awp_exit ?_ | refine awp_scope ?_ | refine awp_label ?_ | refine awp_run ty_ok rfl sd ?_ | refine awp_ret ⟨_, _, rfl, rfl, ?_⟩ | refine awp_ret ⟨_, rfl, ?_⟩ | ((refine awp_cond (ty := ty) rfl (fun hc => ?_) (fun hc => ?_)) <;> (try simp only [nms, reduceCtorEq] at hc) <;> (try (exfalso; omega))))) | ((with_reducible show AOps _ _ _ _ _ _); (first | refine aops_nil ?_ | refine aops_go ty_ok rfl rfl sd ?_ | refine aops_gate ty_ok rfl rfl rfl sd ?_ | refine aops_litE ty_ok rfl rfl rfl rfl rfl rfl rfl rfl rfl rfl rfl rfl ?_ | refine aops_cutE ty_ok rfl rfl rfl rfl rfl rfl rfl rfl rfl sd rfl ?_ | ((fail_if_success (refine aops_known rfl ?_)); (refine aops_split ty_ok rfl rfl rfl rfl rfl rfl (fun hc => ⟨?_, ?_⟩) (fun hc => ⟨?_, ?_⟩)) <;> (try simp only [nms, reduceCtorEq] at hc) <;> (try (exfalso; omega)) <;> (try exact sd)))) | ((fail_if_success (with_reducible show AWp _ _ _ _ _)); (fail_if_success (with_reducible show AOps _ _ _ _ _ _)); (first | (show AWp _ _ _ _ _) | (show AOps _ _ _ _ _ _))))
    refine aops_ren (σ' := ⟨Tryz.f55.ntmps, [(6, .ptr 0 0), (7, .fn 73 [.ptr 0 0]), (29, .d (.sl none (u32s t))), (30, .d (.int .i64 t.length)), (31, .d (.int .i64 k)), (35, .fn 73 [.ptr 0 0]), (36, .d (.int .u32 (t[k] : Nat)))], [(0, .box 22 [.ref 1]), (1, .row none 5 (bys (b128 true (40 * x + y) ++ ((t.take k).map (b128 true)).flatten)))], 2⟩) [(0, 0), (1, 1)]
      (SubR.mk' rfl rfl ⟨⟨_, rfl, rfl⟩, ⟨_, rfl, rfl⟩, ⟨_, rfl, rfl⟩, ⟨_, rfl, rfl⟩, ⟨_, rfl, rfl⟩, ⟨_, rfl, rfl⟩, ⟨_, rfl, congrArg (fun z : Int => AV.d (Dat.int IntKind.u32 z)) hnum⟩, trivial⟩ ⟨⟨_, _, rfl, rfl, rfl⟩, ⟨_, _, rfl, rfl, rfl⟩, trivial⟩) ?_
    refine aops_inline ty_ok rfl rfl rfl rfl rfl rfl isPut rfl rfl ?_
    refine put_in _ _ t[k] hnk (by rw [List.length_append]; omega) _ (fun ob h0 h3 => ?_)
    refine aops_ren (σ' := ⟨Tryz.f55.ntmps, [(6, .ptr 0 0), (7, .fn 73 [.ptr 0 0]), (29, .d (.sl none (u32s t))), (30, .d (.int .i64 t.length)), (31, .d (.int .i64 k))], [(0, .box 22 [.ref 1]), (1, .row none 5 (bys ((b128 true (40 * x + y) ++ ((t.take k).map (b128 true)).flatten) ++ b128 true t[k])))], 2⟩) [(0, 0), (3, 1)]
      (SubR.mk' rfl rfl ⟨⟨_, rfl, rfl⟩, ⟨_, rfl, rfl⟩, ⟨_, rfl, rfl⟩, ⟨_, rfl, rfl⟩, ⟨_, rfl, rfl⟩, trivial⟩ ⟨⟨_, _, rfl, h0, rfl⟩, ⟨_, _, rfl, h3, rfl⟩, trivial⟩) ?_
    refine aops_nil ?_
    repeat' (first | ((with_reducible show AWp _ _ _ _ _); (first | refine awp_seq ?_ | refine awp_block ?_ | refine awp_skip ?_ | refine awp_exit ?_ | refine awp_scope ?_ | refine awp_label ?_ | refine awp_run ty_ok rfl sd ?_ | refine awp_ret ⟨_, _, rfl, rfl, ?_⟩ | refine awp_ret ⟨_, rfl, ?_⟩ | ((refine awp_cond (ty := ty) rfl (fun hc => ?_) (fun hc => ?_)) <;> (try simp only [nms, reduceCtorEq] at hc) <;> (try (exfalso; omega))))) | ((with_reducible show AOps _ _ _ _ _ _); (first | refine aops_nil ?_ | refine aops_go ty_ok rfl rfl sd ?_ | refine aops_gate ty_ok rfl rfl rfl sd ?_ | refine aops_litE ty_ok rfl rfl rfl rfl rfl rfl rfl rfl rfl rfl rfl rfl ?_ | refine aops_cutE ty_ok rfl rfl rfl rfl rfl rfl rfl rfl rfl sd rfl ?_ | ((fail_if_success (refine aops_known rfl ?_)); (refine aops_split ty_ok rfl rfl rfl rfl rfl rfl (fun hc => ⟨?_, ?_⟩) (fun hc => ⟨?_, ?_⟩)) <;> (try simp only [nms, reduceCtorEq] at hc) <;> (try (exfalso; omega)) <;> (try exact sd)))) | ((fail_if_success (with_reducible show AWp _ _ _ _ _)); (fail_if_success (with_reducible show AOps _ _ _ _ _ _)); (first | (show AWp _ _ _ _ _) | (show AOps _ _ _ _ _ _))))
    refine ⟨⟨k + 1, hkl⟩, [(0, 0), (1, 1)], SubR.mk' rfl rfl ⟨⟨_, rfl, rfl⟩, ⟨_, rfl, rfl⟩, ⟨_, rfl, rfl⟩, ⟨_, rfl, rfl⟩, ⟨_, rfl, rfl⟩, trivial⟩ ⟨⟨_, _, rfl, rfl, rfl⟩, ⟨_, _, rfl, rfl, congrArg (fun z => AO.row none 5 (bys z)) ?_⟩, trivial⟩, by simp only; omega⟩
    rw [flat_take (b128 true) t k hkl, List.append_assoc]
  · have hke : k = t.length := by omega
    subst hke
    repeat' (first | ((with_reducible show AWp _ _ _ _ _); (first | refine awp_seq ?_ | refine awp_block ?_ | refine awp_skip ?_ | refine awp_exit ?_ | refine awp_scope ?_ | refine awp_label ?_ | refine awp_run ty_ok rfl sd ?_ | refine awp_ret ⟨_, _, rfl, rfl, ?_⟩ | refine awp_ret ⟨_, rfl, ?_⟩ | ((refine awp_cond (ty := ty) rfl (fun hc => ?_) (fun hc => ?_)) <;> (try simp only [nms, reduceCtorEq] at hc) <;> (try (exfalso; omega))))) | ((with_reducible show AOps _ _ _ _ _ _); (first | refine aops_nil ?_ | refine aops_go ty_ok rfl rfl sd ?_ | refine aops_gate ty_ok rfl rfl rfl sd ?_ | refine aops_litE ty_ok rfl rfl rfl rfl rfl rfl rfl rfl rfl rfl rfl rfl ?_ | refine aops_cutE ty_ok rfl rfl rfl rfl rfl rfl rfl rfl rfl sd rfl ?_ | ((fail_if_success (refine aops_known rfl ?_)); (refine aops_split ty_ok rfl rfl rfl rfl rfl rfl (fun hc => ⟨?_, ?_⟩) (fun hc => ⟨?_, ?_⟩)) <;> (try simp only [nms, reduceCtorEq] at hc) <;> (try (exfalso; omega)) <;> (try exact sd)))) | ((fail_if_success (with_reducible show AWp _ _ _ _ _)); (fail_if_success (with_reducible show AOps _ _ _ _ _ _)); (first | (show AWp _ _ _ _ _) | (show AOps _ _ _ _ _ _))))
    simp only [encL, List.take_length]
end Go.Proofs.YtdihjpmdmfmbiaaGreatDoor

/- Lists of purposes: Valid and Marshal. Walked by the abstract machine. -/
namespace Go.Proofs.YtdihjpmdmfmbiaaGreatDoor
open Go.Am
set_option linter.unusedSimpArgs false
set_option linter.unusedVariables false

/-- The encoding of an object identifier. -/
def encO (s : List UInt8) : List UInt8 := match okF s with
  | some a => encL a
  | none => []
theorem encL_len {a : List Nat} (h : ∀ n ∈ a, n ≤ 4294967295) (hr : rightF a = true) : (encL a).length ≤ 5 * a.length := by
  match a, hr with
  | x :: y :: t, hr =>
    have h1 : 40 * x + y ≤ 4294967295 := by
      simp only [rightF, Bool.or_eq_true, Bool.and_eq_true, decide_eq_true_eq] at hr
      omega
    have h2 := b128_len32 true _ h1
    have h3 := flat_len t (fun n hn => h n (by simp [hn]))
    simp only [encL, List.length_append, List.length_cons]
    omega
theorem encO_len (s : List UInt8) : (encO s).length ≤ 5 * (s.length + 1) := by
  unfold encO
  cases h : okF s with
  | none => simp
  | some a =>
    obtain ⟨_, hr, hn⟩ := okF_text h
    have h1 := encL_len hn hr
    have h2 := okF_len h
    simp only
    omega
def objF (s : List UInt8) : List UInt8 := putF 6 (encO s)
def usV (l : List (List UInt8)) : Bool := !l.isEmpty && l.all oidV
/-- The encoding of a list of purposes. -/
def usF (l : List (List UInt8)) : List UInt8 := putF 48 (l.map objF).flatten
theorem c_oenc_okO (s : List UInt8) (hl : s.length ≤ 100000000) (h : oidV s = true) : ACalls Tryz.prog envL 55 [sD s] (fun r => r = .ownT none 5 (bys (encO s)) [.int .i64 0]) := by
  unfold oidV at h
  unfold encO
  cases ho : okF s with
  | none => rw [ho] at h; cases h
  | some a => exact c_oenc_ok s a hl ho
def usR (l : List (List UInt8)) : Res := match usV l with
  | true => .ownT none 5 (bys (usF l)) [.int .i64 0]
  | false => .d (.tup [.sl none [], .int .i64 8])
end Go.Proofs.YtdihjpmdmfmbiaaGreatDoor

/- Contents octets and the numbers that they hold: one to one. Plain Lean; Encode of the reference, walked. -/
namespace Go.Proofs.YtdihjpmdmfmbiaaGreatDoor
open Go.Am
open Go.Lib (decDigits)
set_option linter.unusedSimpArgs false
set_option linter.unusedVariables false

/-- The numbers in contents octets; 'begun': within a number, of which n was read. -/
def dec7 (begun : Bool) (n : Nat) : List UInt8 → Option (List Nat)
  | [] => match begun with
    | true => none
    | false => some []
  | x :: r => match !begun && decide (x = 128), decide (n * 128 + x.toNat % 128 ≤ 4294967295), decide (128 ≤ x.toNat) with
    | false, true, true => dec7 true (n * 128 + x.toNat % 128) r
    | false, true, false => (dec7 false 0 r).map fun l => (n * 128 + x.toNat % 128) :: l
    | _, _, _ => none
def dec7r (n : Nat) : List UInt8 → Option (List Nat)
  | [] => some []
  | x :: r => match decide (n * 128 + x.toNat % 128 ≤ 4294967295), decide (x.toNat < 128) with
    | true, true => (dec7r 0 r).map fun l => (n * 128 + x.toNat % 128) :: l
    | true, false => dec7r (n * 128 + x.toNat % 128) r
    | _, _ => none
def flat7 (ns : List Nat) : List UInt8 := (ns.map (b128 true)).flatten
theorem flat7_cons (n : Nat) (ns : List Nat) : flat7 (n :: ns) = b128 true n ++ flat7 ns := by simp [flat7]
theorem dec7_r : ∀ (c : List UInt8) (b : Bool) (n : Nat) (ns : List Nat), dec7 b n c = some ns → dec7r n c = some ns
  | [], b, n, ns, h => by
    cases b with
    | true => cases h
    | false => exact h
  | x :: r, b, n, ns, h => by
    unfold dec7 at h
    unfold dec7r
    split at h
    · rename_i h1 h2 h3
      have h4 : decide (x.toNat < 128) = false := by
        simp only [decide_eq_true_eq, decide_eq_false_iff_not] at h3 ⊢
        omega
      simp only [h2, h4]
      exact dec7_r r _ _ _ h
    · rename_i h1 h2 h3
      have h4 : decide (x.toNat < 128) = true := by
        simp only [decide_eq_false_iff_not, decide_eq_true_eq] at h3 ⊢
        omega
      simp only [h2, h4]
      obtain ⟨l, hl, rfl⟩ := Option.map_eq_some_iff.1 h
      rw [dec7_r r _ _ _ hl]
      rfl
    · cases h
theorem dec7r_le : ∀ (c : List UInt8) (n : Nat) (ns : List Nat), dec7r n c = some ns → ∀ m ∈ ns, m ≤ 4294967295
  | [], n, ns, h, m, hm => by
    cases h
    cases hm
  | x :: r, n, ns, h, m, hm => by
    unfold dec7r at h
    split at h
    · rename_i h1 h2
      obtain ⟨l, hl, rfl⟩ := Option.map_eq_some_iff.1 h
      rcases List.mem_cons.1 hm with rfl | hm
      · exact of_decide_eq_true h1
      · exact dec7r_le r _ _ hl m hm
    · exact dec7r_le r _ _ h m hm
    · cases h
theorem low7_ne (q : Nat) (h0 : 0 < q) (h : q < 128) : low7 false q ≠ 128 := by
  intro e
  have h1 := (low7_nat q).2
  rw [e] at h1
  have : (128 : UInt8).toNat = 128 := rfl
  omega
theorem dec7_hi (q : Nat) : 0 < q → q ≤ 4294967295 → ∀ r, dec7 false 0 (b128 false q ++ r) = dec7 true q r := by
  induction q using Nat.strongRecOn with
  | _ q ih =>
    intro h0 hM r
    have hlow := (low7_nat q).2
    by_cases h : q < 128
    · rw [b128_small h]
      have e1 : decide (low7 false q = 128) = false := decide_eq_false (low7_ne q h0 h)
      have e2 : 0 * 128 + (low7 false q).toNat % 128 = q := by omega
      have e3 : decide (q ≤ 4294967295) = true := decide_eq_true hM
      have e4 : decide (128 ≤ (low7 false q).toNat) = true := decide_eq_true (by omega)
      simp only [List.cons_append, List.nil_append, dec7, e1, e2, e3, e4, Bool.and_false]
    · rw [b128_big h, List.append_assoc, ih (q / 128) (by omega) (by omega) (by omega)]
      have e2 : q / 128 * 128 + (low7 false q).toNat % 128 = q := by omega
      have e3 : decide (q ≤ 4294967295) = true := decide_eq_true hM
      have e4 : decide (128 ≤ (low7 false q).toNat) = true := decide_eq_true (by omega)
      simp only [List.cons_append, List.nil_append, dec7, e2, e3, e4, Bool.not_true, Bool.false_and]
theorem dec7_lo (n : Nat) (hM : n ≤ 4294967295) (r : List UInt8) : dec7 false 0 (b128 true n ++ r) = (dec7 false 0 r).map fun l => n :: l := by
  have hlow := (low7_nat n).1
  by_cases h : n < 128
  · rw [b128_small h]
    have e1 : decide (low7 true n = 128) = false := decide_eq_false (by
      intro e
      have : (128 : UInt8).toNat = 128 := rfl
      rw [e] at hlow
      omega)
    have e2 : 0 * 128 + (low7 true n).toNat % 128 = n := by omega
    have e3 : decide (n ≤ 4294967295) = true := decide_eq_true hM
    have e4 : decide (128 ≤ (low7 true n).toNat) = false := decide_eq_false (by omega)
    simp only [List.cons_append, List.nil_append, dec7, e1, e2, e3, e4, Bool.and_false]
  · rw [b128_big h, List.append_assoc, dec7_hi (n / 128) (by omega) (by omega)]
    have e2 : n / 128 * 128 + (low7 true n).toNat % 128 = n := by omega
    have e3 : decide (n ≤ 4294967295) = true := decide_eq_true hM
    have e4 : decide (128 ≤ (low7 true n).toNat) = false := decide_eq_false (by omega)
    simp only [List.cons_append, List.nil_append, dec7, e2, e3, e4, Bool.not_true, Bool.false_and]
theorem dec7_flat : ∀ (ns : List Nat), (∀ n ∈ ns, n ≤ 4294967295) → dec7 false 0 (flat7 ns) = some ns
  | [], _ => rfl
  | n :: ns, h => by
    rw [flat7_cons, dec7_lo n (h n (List.mem_cons_self ..)), dec7_flat ns (fun m hm => h m (List.mem_cons_of_mem _ hm))]
    rfl
theorem u8_of {x : UInt8} {y : UInt8} (h : x.toNat = y.toNat) : x = y := UInt8.toNat_inj.1 h
theorem flat_dec7 : ∀ (c : List UInt8), (∀ ns, dec7 false 0 c = some ns → flat7 ns = c) ∧ (∀ q, 0 < q → ∀ ns, dec7 true q c = some ns → flat7 ns = b128 false q ++ c)
  | [] => ⟨fun ns h => by cases h; rfl, fun q _ ns h => by cases h⟩
  | x :: r => by
    obtain ⟨ih1, ih2⟩ := flat_dec7 r
    have hx : x.toNat < 256 := x.toNat_lt
    constructor
    · intro ns h
      unfold dec7 at h
      split at h
      · rename_i h1 h2 h3
        have h3' : 128 ≤ x.toNat := of_decide_eq_true h3
        have hne : x ≠ 128 := by
          intro e
          rw [e] at h1
          cases h1
        have hpos : 0 < 0 * 128 + x.toNat % 128 := by
          have : x.toNat ≠ 128 := fun e => hne (u8_of e)
          omega
        rw [ih2 _ hpos ns h, b128_small (by omega)]
        have : low7 false (0 * 128 + x.toNat % 128) = x := u8_of (by rw [(low7_nat _).2]; omega)
        rw [this]
        rfl
      · rename_i h1 h2 h3
        have h3' : ¬ 128 ≤ x.toNat := of_decide_eq_false h3
        obtain ⟨l, hl, rfl⟩ := Option.map_eq_some_iff.1 h
        rw [flat7_cons, ih1 l hl, b128_small (by omega)]
        have : low7 true (0 * 128 + x.toNat % 128) = x := u8_of (by rw [(low7_nat _).1]; omega)
        rw [this]
        rfl
      · cases h
    · intro q hq ns h
      unfold dec7 at h
      split at h
      · rename_i h1 h2 h3
        have h3' : 128 ≤ x.toNat := of_decide_eq_true h3
        rw [ih2 _ (by omega) ns h, b128_big (by omega)]
        have e1 : low7 false (q * 128 + x.toNat % 128) = x := u8_of (by rw [(low7_nat _).2]; omega)
        have e2 : (q * 128 + x.toNat % 128) / 128 = q := by omega
        rw [e1, e2, List.append_assoc]
        rfl
      · rename_i h1 h2 h3
        have h3' : ¬ 128 ≤ x.toNat := of_decide_eq_false h3
        obtain ⟨l, hl, rfl⟩ := Option.map_eq_some_iff.1 h
        rw [flat7_cons, ih1 l hl, b128_big (by omega)]
        have e1 : low7 true (q * 128 + x.toNat % 128) = x := u8_of (by rw [(low7_nat _).1]; omega)
        have e2 : (q * 128 + x.toNat % 128) / 128 = q := by omega
        rw [e1, e2, List.append_assoc]
        rfl
      · cases h
/-- The arcs of numbers. -/
def arcsOf (m : Nat) (r : List Nat) : List Nat := min (m / 40) 2 :: (m - 40 * min (m / 40) 2) :: r
theorem arcsOf_right (m : Nat) (r : List Nat) (h : m ≤ 4294967295) : rightF (arcsOf m r) = true := by
  simp only [arcsOf, rightF, Bool.or_eq_true, Bool.and_eq_true, decide_eq_true_eq]
  omega
theorem arcsOf_le (m : Nat) (r : List Nat) (h : ∀ n ∈ m :: r, n ≤ 4294967295) : ∀ n ∈ arcsOf m r, n ≤ 4294967295 := by
  have hm := h m (List.mem_cons_self ..)
  intro n hn
  simp only [arcsOf, List.mem_cons] at hn
  rcases hn with rfl | rfl | hn
  · omega
  · omega
  · exact h n (List.mem_cons_of_mem _ hn)
theorem arcsOf_enc (m : Nat) (r : List Nat) : encL (arcsOf m r) = flat7 (m :: r) := by
  rw [flat7_cons, arcsOf, encL]
  rw [show 40 * min (m / 40) 2 + (m - 40 * min (m / 40) 2) = m by omega]
  rfl
def decS (c : List UInt8) : List UInt8 × Int := match dec7 false 0 c with
  | some (m :: r) => (textF (arcsOf m r), 0)
  | _ => ([], 6)
def decOD (c : List UInt8) : Dat := .tup [sD (decS c).1, .int .i64 (decS c).2]

theorem isROEncode : IsFn Tryz.prog 57 Tryz.f57 := ⟨Tryz.func57, by decide, rfl⟩
theorem c_renc_bad (Γ : Env) (l : List UInt8) (hl : l.length ≤ 100000000) (h : okF l = none) : ACalls Tryz.prog Γ 57 [sD l] (fun r => r = .d (.tup [.sl none [], .int .i64 8])) := by
  refine acalls_of ty_ok isROEncode rfl rfl ?_
  have hA := c_rarcs Γ l hl
  rw [arcsD, h] at hA
  repeat' (first | ((with_reducible show AWp _ _ _ _ _); (first | refine awp_seq ?_ | refine awp_block ?_ | refine awp_skip ?_ | refine awp_exit ?_ | refine awp_scope ?_ | refine awp_label ?_ | refine awp_run ty_ok rfl sd ?_ | refine awp_ret ⟨_, _, rfl, rfl, ?_⟩ | refine awp_ret ⟨_, rfl, ?_⟩ | ((refine awp_cond (ty := ty) rfl (fun hc => ?_) (fun hc => ?_)) <;> (try simp only [nms, reduceCtorEq] at hc) <;> (try (exfalso; omega))))) | ((with_reducible show AOps _ _ _ _ _ _); (first | refine aops_nil ?_ | refine aops_go ty_ok rfl rfl sd ?_ | refine aops_gate ty_ok rfl rfl rfl sd ?_ | refine aops_callE (ty := ty) rfl rfl rfl rfl rfl rfl rfl (hA) rfl ?_ | refine aops_litE ty_ok rfl rfl rfl rfl rfl rfl rfl rfl rfl rfl rfl rfl ?_ | refine aops_cutE ty_ok rfl rfl rfl rfl rfl rfl rfl rfl rfl sd rfl ?_ | ((fail_if_success (refine aops_known rfl ?_)); (refine aops_split ty_ok rfl rfl rfl rfl rfl rfl (fun hc => ⟨?_, ?_⟩) (fun hc => ⟨?_, ?_⟩)) <;> (try simp only [nms, reduceCtorEq] at hc) <;> (try (exfalso; omega)) <;> (try exact sd)))) | ((fail_if_success (with_reducible show AWp _ _ _ _ _)); (fail_if_success (with_reducible show AOps _ _ _ _ _ _)); (first | (show AWp _ _ _ _ _) | (show AOps _ _ _ _ _ _))))
  all_goals rfl
set_option maxHeartbeats 1000000 in
theorem c_renc_ok (Γ : Env) (l : List UInt8) (a : List Nat) (hl : l.length ≤ 100000000) (h : okF l = some a) : ACalls Tryz.prog Γ 57 [sD l] (fun r => r = .ownT none 5 (bys (encL a)) [.int .i64 0]) := by
  refine acalls_of ty_ok isROEncode rfl rfl ?_
  have hA := c_rarcs Γ l hl
  rw [arcsD, h] at hA
  have hal := okF_len h
  obtain ⟨_, hr, hn⟩ := okF_text h
  match a, hr, hn, hal, hA with
  | x :: y :: t, hr, hn, hal, hA =>
  have hx : ((u32s (x :: y :: t)).getD (Int.toNat 0) default).num = x := rfl
  have hy : ((u32s (x :: y :: t)).getD (Int.toNat 1) default).num = y := rfl
  have hlen : (u32s (x :: y :: t)).length = t.length + 2 := by simp [u32s]
  have hxy : 40 * x + y ≤ 4294967295 := by
    simp only [rightF, Bool.or_eq_true, Bool.and_eq_true, decide_eq_true_eq] at hr
    omega
  have htn : ∀ n ∈ t, n ≤ 4294967295 := fun n hm => hn n (by simp [hm])
  simp only [List.length_cons] at hal
  have hb1 := c_base (Γ.at 0) (40 * x + y) true (by omega)
  have hw1 : IntKind.u64.wrap (IntKind.u64.wrap (40 * IntKind.u64.wrap ((u32s (x :: y :: t)).getD (Int.toNat 0) default).num) + IntKind.u64.wrap ((u32s (x :: y :: t)).getD (Int.toNat 1) default).num) = ((40 * x + y : Nat) : Int) := by
    rw [hx, hy, IntKind.wrap_u64, IntKind.wrap_u64, IntKind.wrap_u64, IntKind.wrap_u64]
    omega
  rw [← hw1] at hb1
  have hb5 := b128_len32 true (40 * x + y) hxy
  repeat' (first | ((with_reducible show AWp _ _ _ _ _); (first | refine awp_seq ?_ | refine awp_block ?_ | refine awp_skip ?_ | refine awp_exit ?_ | refine awp_scope ?_ | refine awp_label ?_ | refine awp_run ty_ok rfl sd ?_ | refine awp_ret ⟨_, _, rfl, rfl, ?_⟩ | refine awp_ret ⟨_, rfl, ?_⟩ | ((refine awp_cond (ty := ty) rfl (fun hc => ?_) (fun hc => ?_)) <;> (try simp only [nms, reduceCtorEq] at hc) <;> (try (exfalso; omega))) | refine awp_anyM 10 12 mixed rfl (by kernel_rfl) ?_)) | ((with_reducible show AOps _ _ _ _ _ _); (first | refine aops_nil ?_ | refine aops_go ty_ok rfl rfl sd ?_ | refine aops_gate ty_ok rfl rfl rfl sd ?_ | refine aops_callE (ty := ty) rfl rfl rfl rfl rfl rfl rfl (hA) rfl ?_ | refine aops_callE (ty := ty) rfl rfl rfl rfl rfl rfl rfl (hb1) rfl ?_ | refine aops_litE ty_ok rfl rfl rfl rfl rfl rfl rfl rfl rfl rfl rfl rfl ?_ | refine aops_cutE ty_ok rfl rfl rfl rfl rfl rfl rfl rfl rfl sd rfl ?_ | ((fail_if_success (refine aops_known rfl ?_)); (refine aops_split ty_ok rfl rfl rfl rfl rfl rfl (fun hc => ⟨?_, ?_⟩) (fun hc => ⟨?_, ?_⟩)) <;> (try simp only [nms, reduceCtorEq] at hc) <;> (try (exfalso; omega)) <;> (try exact sd)))) | ((with_reducible show HeadT _ _ _ _ _ _ _ _ _ _); (first | refine head_end ?_ | refine head_goP ty_ok rfl rfl sd ?_ | refine head_gate ty_ok rfl rfl rfl sd ?_ | refine head_callE (ty := ty) rfl rfl rfl rfl rfl rfl rfl (hA) rfl ?_ | refine head_callE (ty := ty) rfl rfl rfl rfl rfl rfl rfl (hb1) rfl ?_ | ((fail_if_success (refine head_known rfl ?_)); (refine head_split ty_ok rfl rfl rfl rfl (fun hc => ⟨?_, ?_⟩) (fun hc => ⟨?_, ?_⟩)) <;> (try simp only [nms, reduceCtorEq] at hc) <;> (try (exfalso; omega)) <;> (try exact sd)))) | ((fail_if_success (with_reducible show AWp _ _ _ _ _)); (fail_if_success (with_reducible show AOps _ _ _ _ _ _)); (fail_if_success (with_reducible show HeadT _ _ _ _ _ _ _ _ _ _)); (first | (show AWp _ _ _ _ _) | (show AOps _ _ _ _ _ _))))
  refine awp_loopR (G := { k : Nat // k ≤ t.length }) (fun k => ⟨Tryz.f57.ntmps, [(4, .d (.sl none (u32s (x :: y :: t)))), (6, .ref 0), (7, .d (.int .i64 ((k.1 : Int) + 2)))], [(0, .row none 5 (bys (b128 true (40 * x + y) ++ ((t.take k.1).map (b128 true)).flatten)))], 1⟩) (fun k => t.length - k.1) ⟨0, Nat.zero_le _⟩ [(10, 0)]
    (SubR.mk' rfl rfl ⟨⟨_, rfl, rfl⟩, ⟨_, rfl, rfl⟩, ⟨_, rfl, rfl⟩, trivial⟩ ⟨⟨_, _, rfl, rfl, congrArg (fun z => AO.row none 5 (bys z)) (by simp)⟩, trivial⟩) ?_
  rintro ⟨k, hk⟩
  dsimp only
  have hfl := flat_len (t.take k) (fun m hm => htn m (List.mem_of_mem_take hm))
  have htk : (t.take k).length ≤ t.length := by rw [List.length_take]; omega
  rcases Nat.lt_or_ge k t.length with hkl | hkl
  · have hnk := htn t[k] (List.getElem_mem _)
    have hnum : IntKind.u64.wrap ((u32s (x :: y :: t)).getD ((k : Int) + 2).toNat default).num = (t[k] : Int) := by
      have e1 : ((k : Int) + 2).toNat = k + 1 + 1 := by omega
      rw [e1, num_u32s, List.getD_cons_succ, List.getD_cons_succ, List.getD_eq_getElem?_getD, List.getElem?_eq_getElem hkl]
      exact wrap_u64 _ (by simp; omega)
    have hb2 := c_base (Γ.at 0) t[k] true (by omega)
    rw [← hnum] at hb2
    have hb6 := b128_len32 true t[k] hnk
    repeat' (first | ((with_reducible show AWp _ _ _ _ _); (first | refine awp_seq ?_ | refine awp_block ?_ | refine awp_skip ?_ | refine awp_exit ?_ | refine awp_scope ?_ | refine awp_label ?_ | refine awp_run ty_ok rfl sd ?_ | refine awp_ret ⟨_, _, rfl, rfl, ?_⟩ | refine awp_ret ⟨_, rfl, ?_⟩ | ((refine awp_cond (ty := ty) rfl (fun hc => ?_) (fun hc => ?_)) <;> (try simp only [nms, reduceCtorEq] at hc) <;> (try (exfalso; omega))))) | ((with_reducible show AOps _ _ _ _ _ _); (first | refine aops_nil ?_ | refine aops_go ty_ok rfl rfl sd ?_ | refine aops_gate ty_ok rfl rfl rfl sd ?_ | refine aops_callE (ty := ty) rfl rfl rfl rfl rfl rfl rfl (hb2) rfl ?_ | refine aops_litE ty_ok rfl rfl rfl rfl rfl rfl rfl rfl rfl rfl rfl rfl ?_ | refine aops_cutE ty_ok rfl rfl rfl rfl rfl rfl rfl rfl rfl sd rfl ?_ | ((fail_if_success (refine aops_known rfl ?_)); (refine aops_split ty_ok rfl rfl rfl rfl rfl rfl (fun hc => ⟨?_, ?_⟩) (fun hc => ⟨?_, ?_⟩)) <;> (try simp only [nms, reduceCtorEq] at hc) <;> (try (exfalso; omega)) <;> (try exact sd)))) | ((fail_if_success (with_reducible show AWp _ _ _ _ _)); (fail_if_success (with_reducible show AOps _ _ _ _ _ _)); (first | (show AWp _ _ _ _ _) | (show AOps _ _ _ _ _ _))))
    refine ⟨⟨k + 1, hkl⟩, [(2, 0)], SubR.mk' rfl rfl ⟨⟨_, rfl, rfl⟩, ⟨_, rfl, rfl⟩, ⟨_, rfl, congrArg (fun z : Int => AV.d (Dat.int IntKind.i64 z)) (by simp only; omega)⟩, trivial⟩ ⟨⟨_, _, rfl, rfl, congrArg (AO.row none 5) ?_⟩, trivial⟩, by simp only; omega⟩
    rw [flat_take (b128 true) t k hkl]
    simp only [bys_app, List.append_assoc]
  · have hke : k = t.length := by omega
    subst hke
    repeat' (first | ((with_reducible show AWp _ _ _ _ _); (first | refine awp_seq ?_ | refine awp_block ?_ | refine awp_skip ?_ | refine awp_exit ?_ | refine awp_scope ?_ | refine awp_label ?_ | refine awp_run ty_ok rfl sd ?_ | refine awp_ret ⟨_, _, rfl, rfl, ?_⟩ | refine awp_ret ⟨_, rfl, ?_⟩ | ((refine awp_cond (ty := ty) rfl (fun hc => ?_) (fun hc => ?_)) <;> (try simp only [nms, reduceCtorEq] at hc) <;> (try (exfalso; omega))))) | ((with_reducible show AOps _ _ _ _ _ _); (first | refine aops_nil ?_ | refine aops_go ty_ok rfl rfl sd ?_ | refine aops_gate ty_ok rfl rfl rfl sd ?_ | refine aops_litE ty_ok rfl rfl rfl rfl rfl rfl rfl rfl rfl rfl rfl rfl ?_ | refine aops_cutE ty_ok rfl rfl rfl rfl rfl rfl rfl rfl rfl sd rfl ?_ | ((fail_if_success (refine aops_known rfl ?_)); (refine aops_split ty_ok rfl rfl rfl rfl rfl rfl (fun hc => ⟨?_, ?_⟩) (fun hc => ⟨?_, ?_⟩)) <;> (try simp only [nms, reduceCtorEq] at hc) <;> (try (exfalso; omega)) <;> (try exact sd)))) | ((fail_if_success (with_reducible show AWp _ _ _ _ _)); (fail_if_success (with_reducible show AOps _ _ _ _ _ _)); (first | (show AWp _ _ _ _ _) | (show AOps _ _ _ _ _ _))))
    simp only [encL, List.take_length]
end Go.Proofs.YtdihjpmdmfmbiaaGreatDoor

/- What octets are decoded as; what an encoding is decoded as: plain. -/
namespace Go.Proofs.YtdihjpmdmfmbiaaGreatDoor
open Go.Am
open Go.Lib (decDigits)
set_option linter.unusedSimpArgs false
set_option linter.unusedVariables false

theorem right_arcs {a : List Nat} (h : rightF a = true) (hn : ∀ n ∈ a, n ≤ 4294967295) : ∃ m r, arcsOf m r = a ∧ ∀ n ∈ m :: r, n ≤ 4294967295 := by
  match a, h, hn with
  | x :: y :: t, h, hn =>
    simp only [rightF, Bool.or_eq_true, Bool.and_eq_true, decide_eq_true_eq] at h
    refine ⟨40 * x + y, t, ?_, ?_⟩
    · have h1 : min ((40 * x + y) / 40) 2 = x := by omega
      have h2 : 40 * x + y - 40 * x = y := by omega
      simp only [arcsOf, h1, h2]
    · intro n hm
      rcases List.mem_cons.1 hm with rfl | hm
      · omega
      · exact hn n (by simp [hm])
theorem decS_enc {l : List UInt8} {a : List Nat} (h : okF l = some a) : decS (encL a) = (l, 0) := by
  obtain ⟨h1, h2, h3⟩ := okF_text h
  obtain ⟨m, r, h4, h5⟩ := right_arcs h2 h3
  have h6 : dec7 false 0 (encL a) = some (m :: r) := by
    rw [← h4, arcsOf_enc]
    exact dec7_flat _ h5
  simp only [decS, h6]
  rw [h4, h1]
theorem flat7_ge (ns : List Nat) : ns.length ≤ (flat7 ns).length := by
  induction ns with
  | nil => simp
  | cons n ns ih =>
    rw [flat7_cons, List.length_append, List.length_cons]
    have : 0 < (b128 true n).length := by
      by_cases hb : n < 128
      · rw [b128_small hb]; simp
      · rw [b128_big hb]; simp
    omega
/-- What octets are decoded as: nothing, or the only string that has them. -/
theorem decS_cases (c : List UInt8) : decS c = ([], 6) ∨ ∃ s, oidV s = true ∧ encO s = c ∧ decS c = (s, 0) ∧ s.length ≤ (c.length + 2) * 11 := by
  cases h : dec7 false 0 c with
  | none => exact .inl (by simp only [decS, h])
  | some ns =>
    match ns, h with
    | [], h => exact .inl (by simp only [decS, h])
    | m :: r, h =>
      have hle := dec7r_le c 0 _ (dec7_r _ _ _ _ h)
      have hr := arcsOf_right m r (hle m (List.mem_cons_self ..))
      have hn := arcsOf_le m r hle
      have ho := text_okF hr hn
      have he : encL (arcsOf m r) = c := by
        rw [arcsOf_enc]
        exact (flat_dec7 c).1 _ h
      refine .inr ⟨textF (arcsOf m r), by unfold oidV; rw [ho]; rfl, by unfold encO; rw [ho]; exact he, by simp only [decS, h], ?_⟩
      have h5 := textF_len _ hn
      have h6 := flat7_ge (m :: r)
      rw [← arcsOf_enc, he, List.length_cons] at h6
      simp only [arcsOf, List.length_cons] at h5 ⊢
      omega
theorem decS_encO {s : List UInt8} (h : oidV s = true) : decS (encO s) = (s, 0) := by
  unfold oidV at h
  unfold encO
  cases ho : okF s with
  | none => rw [ho] at h; cases h
  | some a => exact decS_enc ho
theorem decS_len (c : List UInt8) : (decS c).1.length ≤ (c.length + 2) * 11 := by
  rcases decS_cases c with h | ⟨s, _, _, h, hl⟩
  · rw [h]; simp
  · rw [h]; exact hl
end Go.Proofs.YtdihjpmdmfmbiaaGreatDoor

/- The elements of a SEQUENCE, as facts on each: plain Lean. No program. -/
namespace Go.Am
set_option linter.unusedSimpArgs false
set_option linter.unusedVariables false

/-- What is known of the elements of a constructed one. -/
structure Els (b : List UInt8) (l : List El) (ts : List (UInt8 × List UInt8)) : Prop where
  len : l.length = ts.length
  good : ∀ t ∈ ts, goodT t
  size : (catF ts).length ≤ 2147483647
  tag : ∀ k (h : k < l.length) (h' : k < ts.length), l[k].x = ts[k].1
  body : ∀ k (h : k < l.length) (h' : k < ts.length), cut b l[k].bd l[k].en = ts[k].2
  whole : ∀ k (h : k < l.length) (h' : k < ts.length), cut b l[k].st l[k].en = putF ts[k].1 ts[k].2
  le : ∀ k (h : k < l.length), l[k].st ≤ l[k].bd ∧ l[k].bd ≤ l[k].en ∧ l[k].en ≤ b.length
theorem els_mk {x : UInt8} {ts : List (UInt8 × List UInt8)} (hl : (catF ts).length ≤ 2147483647) (hg : ∀ t ∈ ts, goodT t) : Els (putF x (catF ts)) (elsF (hsz (catF ts)) ts) ts := by
  have key : ∀ k (h : k < (elsF (hsz (catF ts)) ts).length) (h' : k < ts.length), (elsF (hsz (catF ts)) ts)[k].x = ts[k].1 ∧ cut (putF x (catF ts)) (elsF (hsz (catF ts)) ts)[k].bd (elsF (hsz (catF ts)) ts)[k].en = ts[k].2 ∧ cut (putF x (catF ts)) (elsF (hsz (catF ts)) ts)[k].st (elsF (hsz (catF ts)) ts)[k].en = putF ts[k].1 ts[k].2 ∧ (elsF (hsz (catF ts)) ts)[k].st ≤ (elsF (hsz (catF ts)) ts)[k].bd ∧ (elsF (hsz (catF ts)) ts)[k].bd ≤ (elsF (hsz (catF ts)) ts)[k].en ∧ (elsF (hsz (catF ts)) ts)[k].en ≤ (putF x (catF ts)).length := by
    intro k h h'
    obtain ⟨e, e1, e2, e3, e4, e5, e6, e7⟩ := pt_at (x := x) (ts := ts) k h'
    have h5 : (elsF (hsz (catF ts)) ts)[k]? = some (elsF (hsz (catF ts)) ts)[k] := List.getElem?_eq_getElem h
    rw [e1] at h5
    simp only [Option.some.injEq] at h5
    rw [← h5]
    exact ⟨e2, e6, e7, e3, e4, e5⟩
  have hlen := elsF_len (hsz (catF ts)) ts
  exact ⟨hlen, hg, hl, fun k h h' => (key k h h').1, fun k h h' => (key k h h').2.1, fun k h h' => (key k h h').2.2.1, fun k h => (key k h (by omega)).2.2.2⟩
theorem seq_ok {b : List UInt8} {l : List El} (h : ptF b 0 16 = .ok l) : ∃ ts, b = putF 48 (catF ts) ∧ Els b l ts := by
  obtain ⟨x, ts, hx1, hx2, hx3, hg, hbe, hle⟩ := pt_ok h
  have hx := isB_seq.1 hx1
  subst hx
  refine ⟨ts, hbe, ?_⟩
  rw [hbe, hle]
  exact els_mk hx3 hg
theorem seq_of {ts : List (UInt8 × List UInt8)} (hl : (catF ts).length ≤ 2147483647) (hg : ∀ t ∈ ts, goodT t) : ∃ l, ptF (putF 48 (catF ts)) 0 16 = .ok l ∧ Els (putF 48 (catF ts)) l ts :=
  ⟨_, pt_of (by decide) (by decide) hl hg rfl, els_mk hl hg⟩
end Go.Am

/- Algorithm identifiers: what is parsed, what is marshalled, and how the two fit: plain. -/
namespace Go.Proofs.YtdihjpmdmfmbiaaGreatDoor
open Go.Am
set_option linter.unusedSimpArgs false
set_option linter.unusedVariables false

theorem wi_le {d : Nat} {b : List UInt8} {e o : Nat} (h : wiF d b = .bad e o) : 0 < e ∧ o ≤ b.length := by
  unfold wiF at h
  cases hr : rdF d b with
  | bad e' o' =>
    rw [hr] at h
    cases h
    exact rd_bad _ _ _ _ hr
  | ok p =>
    obtain ⟨n, s⟩ := p
    rw [hr] at h
    simp only at h
    split at h
    · cases h; exact ⟨by omega, by omega⟩
    · cases h
theorem tr_put {d : Nat} {n : Dat} {b : List UInt8} (h : Tr d n b) : ∃ x c, b = putF x c ∧ x.toNat % 32 ≠ 31 ∧ c.length ≤ 2147483647 := by
  cases h with
  | prim d x c hx hc hl => exact ⟨x, c, rfl, hx, hl⟩
  | cons d x ks bs hx hc hl hn h => exact ⟨x, _, rfl, hx, hl⟩
structure Alg where
  o : List UInt8
  p : List UInt8
def opB (p : List UInt8) : Bool := match wiF 16 p with
  | .ok _ => true
  | .bad _ _ => false
theorem op_iff {p : List UInt8} : opB p = true ↔ ∃ n, wiF 16 p = .ok n := by
  unfold opB
  cases wiF 16 p with
  | ok n => simp
  | bad c o => simp
def agV (a : Alg) : Bool := oidV a.o && (a.p.isEmpty || opB a.p)
def agF (a : Alg) : List UInt8 := putF 48 (objF a.o ++ a.p)
def agI (b : List UInt8) (e : El) : Ex (List UInt8) := match isB e.x 0 false 6 with
  | false => .bad 3 e.st
  | true => match decide ((decS (cut b e.bd e.en)).2 = 0) with
    | true => .ok (decS (cut b e.bd e.en)).1
    | false => .bad 6 e.bd
def agP (b : List UInt8) : Ex Alg := match ptF b 0 16 with
  | .bad c o => .bad c o
  | .ok [] => .bad 1 b.length
  | .ok [e] => (match agI b e with
    | .bad c o => .bad c o
    | .ok s => .ok ⟨s, []⟩)
  | .ok [e, f] => (match agI b e with
    | .bad c o => .bad c o
    | .ok s => (match wiF 16 (cut b f.st f.en) with
      | .bad c o => .bad c (f.st + o)
      | .ok _ => .ok ⟨s, cut b f.st f.en⟩))
  | .ok (_ :: _ :: g :: _) => .bad 2 g.st
theorem agI_ok {b : List UInt8} {e : El} {s : List UInt8} (h : agI b e = .ok s) : e.x = 6 ∧ oidV s = true ∧ encO s = cut b e.bd e.en := by
  unfold agI at h
  cases hi : isB e.x 0 false 6 with
  | false => rw [hi] at h; cases h
  | true =>
    rw [hi] at h
    simp only at h
    rcases decS_cases (cut b e.bd e.en) with hd | ⟨s', h1, h2, hd, _⟩
    · rw [hd] at h; cases h
    · rw [hd] at h
      cases h
      exact ⟨isB_oid.1 hi, h1, h2⟩
theorem agI_of {b : List UInt8} {e : El} {s : List UInt8} (hx : e.x = 6) (hv : oidV s = true) (hc : cut b e.bd e.en = encO s) : agI b e = .ok s := by
  unfold agI
  rw [hx, hc, decS_encO hv]
  simp only [show isB 6 0 false 6 = true from by decide, decide_true]
theorem agI_bad {b : List UInt8} {e : El} {c o : Nat} (h : agI b e = .bad c o) : 0 < c ∧ (o = e.st ∨ o = e.bd) := by
  unfold agI at h
  split at h
  · cases h; exact ⟨by omega, .inl rfl⟩
  · split at h
    · cases h
    · cases h; exact ⟨by omega, .inr rfl⟩
/-- What is parsed is valid, and its encoding are these bytes. -/
theorem ag_ok {b : List UInt8} {a : Alg} (h : agP b = .ok a) : agV a = true ∧ b = agF a ∧ (objF a.o ++ a.p).length ≤ 2147483647 := by
  unfold agP at h
  cases hp : ptF b 0 16 with
  | bad c o => rw [hp] at h; cases h
  | ok l =>
    rw [hp] at h
    obtain ⟨ts, hb, E⟩ := seq_ok hp
    match l, ts, h, hb, E with
    | [], _, h, _, _ => cases h
    | _ :: _ :: _ :: _, _, h, _, _ => cases h
    | [e], ts, h, hb, E =>
      match ts, hb, E with
      | [t], hb, E =>
        simp only at h
        cases hi : agI b e with
        | bad c o => rw [hi] at h; cases h
        | ok s =>
          rw [hi] at h
          simp only [Ex.ok.injEq] at h
          subst h
          obtain ⟨a1, a2, a3⟩ := agI_ok hi
          have h0 := E.tag 0 (by simp) (by simp)
          have h1 := E.body 0 (by simp) (by simp)
          simp only [List.getElem_cons_zero] at h0 h1
          have ht : t = (6, encO s) := Prod.ext (by rw [← h0, a1]) (by rw [← h1, a3])
          have he : objF s ++ [] = catF [t] := by rw [ht]; rfl
          exact ⟨by unfold agV; rw [a2]; rfl, by rw [agF, he]; exact hb, by rw [he]; exact E.size⟩
      | [], _, E => exact absurd E.len (by simp)
      | _ :: _ :: _, _, E => exact absurd E.len (by simp)
    | [e, f], ts, h, hb, E =>
      match ts, hb, E with
      | [t, u], hb, E =>
        simp only at h
        cases hi : agI b e with
        | bad c o => rw [hi] at h; cases h
        | ok s =>
          rw [hi] at h
          simp only at h
          cases hw : wiF 16 (cut b f.st f.en) with
          | bad c o => rw [hw] at h; cases h
          | ok n =>
            rw [hw] at h
            simp only [Ex.ok.injEq] at h
            subst h
            obtain ⟨a1, a2, a3⟩ := agI_ok hi
            have h0 := E.tag 0 (by simp) (by simp)
            have h1 := E.body 0 (by simp) (by simp)
            have h2 := E.whole 1 (by simp) (by simp)
            simp only [List.getElem_cons_zero, List.getElem_cons_succ] at h0 h1 h2
            have ht : t = (6, encO s) := Prod.ext (by rw [← h0, a1]) (by rw [← h1, a3])
            have he : objF s ++ cut b f.st f.en = catF [t, u] := by
              rw [ht, h2]
              simp [catF, objF]
            refine ⟨?_, by rw [agF, he]; exact hb, by rw [he]; exact E.size⟩
            unfold agV
            rw [a2, op_iff.2 ⟨n, hw⟩, Bool.or_true]
            rfl
      | [], _, E => exact absurd E.len (by simp)
      | [_], _, E => exact absurd E.len (by simp)
      | _ :: _ :: _ :: _, _, E => exact absurd E.len (by simp)
theorem good_encO {s : List UInt8} (h : (objF s).length ≤ 2147483647) : goodT ((6 : UInt8), encO s) := by
  have h2 : (objF s).length = _ := putF_len 6 (encO s)
  refine ⟨by show (6 : UInt8).toNat % 32 ≠ 31; decide, ?_⟩
  simp only
  omega
/-- An encoding is parsed as what it encodes. -/
theorem ag_of {a : Alg} (hv : agV a = true) (hl : (objF a.o ++ a.p).length ≤ 2147483647) : agP (agF a) = .ok a := by
  obtain ⟨o, p⟩ := a
  unfold agV at hv
  rw [Bool.and_eq_true] at hv
  obtain ⟨hv, hp⟩ := hv
  simp only at hl hv hp
  rw [List.length_append] at hl
  have hg := good_encO (s := o) (by omega)
  by_cases hpe : p = []
  · subst hpe
    have hc : catF [((6 : UInt8), encO o)] = objF o ++ [] := rfl
    obtain ⟨l, hq, E⟩ := seq_of (ts := [((6 : UInt8), encO o)]) (by rw [hc, List.append_nil]; omega) (by
      intro t ht
      rw [List.mem_singleton.1 ht]
      exact hg)
    rw [hc] at hq E
    have hb : agF ⟨o, []⟩ = putF 48 (objF o ++ []) := rfl
    rw [← hb] at hq E
    have hlen := E.len
    match l, hlen, hq, E with
    | [e], _, hq, E =>
      have h0 := E.tag 0 (by simp) (by simp)
      have h1 := E.body 0 (by simp) (by simp)
      simp only [List.getElem_cons_zero] at h0 h1
      unfold agP
      rw [hq]
      simp only
      rw [agI_of h0 hv h1]
  · have hop : opB p = true := by
      cases p with
      | nil => exact absurd rfl hpe
      | cons x r => simpa using hp
    obtain ⟨n, hw⟩ := op_iff.1 hop
    obtain ⟨x, c, hpc, hx, hcl⟩ := tr_put (wi_ok.1 hw)
    have hc : catF [((6 : UInt8), encO o), (x, c)] = objF o ++ p := by
      rw [hpc]
      simp [catF, objF]
    obtain ⟨l, hq, E⟩ := seq_of (ts := [((6 : UInt8), encO o), (x, c)]) (by rw [hc, List.length_append]; omega) (by
      intro t ht
      simp only [List.mem_cons, List.not_mem_nil, or_false] at ht
      rcases ht with rfl | rfl
      · exact hg
      · exact ⟨hx, hcl⟩)
    rw [hc] at hq E
    have hb : agF ⟨o, p⟩ = putF 48 (objF o ++ p) := rfl
    rw [← hb] at hq E
    have hlen := E.len
    match l, hlen, hq, E with
    | [e, f], _, hq, E =>
      have h0 := E.tag 0 (by simp) (by simp)
      have h1 := E.body 0 (by simp) (by simp)
      have h2 := E.whole 1 (by simp) (by simp)
      simp only [List.getElem_cons_zero, List.getElem_cons_succ] at h0 h1 h2
      rw [← hpc] at h2
      unfold agP
      rw [hq]
      simp only
      rw [agI_of h0 hv h1]
      simp only
      rw [h2, hw]
theorem ag_bad {b : List UInt8} {c o : Nat} (h : agP b = .bad c o) : 0 < c ∧ o ≤ b.length := by
  unfold agP at h
  cases hp : ptF b 0 16 with
  | bad c' o' =>
    rw [hp] at h
    cases h
    exact pt_bad hp
  | ok l =>
    rw [hp] at h
    obtain ⟨ts, hb, E⟩ := seq_ok hp
    match l, h, E with
    | [], h, _ => cases h; exact ⟨by omega, by omega⟩
    | _ :: _ :: g :: _, h, E =>
      have l2 := E.le 2 (by simp)
      simp only [List.getElem_cons_zero, List.getElem_cons_succ] at l2
      cases h
      omega
    | [e], h, E =>
      have l0 := E.le 0 (by simp)
      simp only [List.getElem_cons_zero] at l0
      simp only at h
      cases hi : agI b e with
      | bad c' o' =>
        rw [hi] at h
        cases h
        have := agI_bad hi
        omega
      | ok s => rw [hi] at h; cases h
    | [e, f], h, E =>
      have l0 := E.le 0 (by simp)
      have l1 := E.le 1 (by simp)
      simp only [List.getElem_cons_zero, List.getElem_cons_succ] at l0 l1
      simp only at h
      cases hi : agI b e with
      | bad c' o' =>
        rw [hi] at h
        cases h
        have := agI_bad hi
        omega
      | ok s =>
        rw [hi] at h
        simp only at h
        cases hw : wiF 16 (cut b f.st f.en) with
        | bad c' o' =>
          rw [hw] at h
          cases h
          have := wi_le hw
          rw [cut_len _ _ _ l1.2.2] at this
          omega
        | ok n => rw [hw] at h; cases h
end Go.Proofs.YtdihjpmdmfmbiaaGreatDoor

/- Contents octets of bit strings, decoded: plain. No program. -/
namespace Go.Am
set_option linter.unusedSimpArgs false
set_option linter.unusedVariables false

theorem decF_enc (x : List UInt8) (u : Int) (hv : valF x u = true) : decF (UInt8.ofNat u.toNat :: x) = (x, u, 0) := by
  obtain ⟨h0, h7⟩ := valF_range hv
  have h1 : ((UInt8.ofNat u.toNat).toNat : Int) = u := by
    simp [UInt8.toNat_ofNat']
    omega
  simp only [decF, h1, hv]
theorem decF_cases (c : List UInt8) : decF c = ([], 0, 6) ∨ ∃ b x, c = b :: x ∧ valF x b.toNat = true ∧ decF c = (x, (b.toNat : Int), 0) := by
  cases c with
  | nil => exact .inl rfl
  | cons b x =>
    cases hv : valF x b.toNat with
    | false => exact .inl (by simp only [decF, hv])
    | true => exact .inr ⟨b, x, rfl, hv, by simp only [decF, hv]⟩
end Go.Am

/- Public keys: what is parsed, what is marshalled, and how the two fit: plain. -/
namespace Go.Proofs.YtdihjpmdmfmbiaaGreatDoor
open Go.Am
set_option linter.unusedSimpArgs false
set_option linter.unusedVariables false

structure PKey where
  a : Alg
  x : List UInt8
  u : Int
def akV (k : PKey) : Bool := agV k.a && valF k.x k.u
def bcF (k : PKey) : List UInt8 := UInt8.ofNat k.u.toNat :: k.x
def akF (k : PKey) : List UInt8 := putF 48 (agF k.a ++ putF 3 (bcF k))
def akB (b : List UInt8) (a : Alg) (f : El) : Ex PKey := match decide ((decF (cut b f.bd f.en)).2.2 = 0) with
  | true => .ok ⟨a, (decF (cut b f.bd f.en)).1, (decF (cut b f.bd f.en)).2.1⟩
  | false => .bad 6 f.bd
def akP (b : List UInt8) : Ex PKey := match ptF b 0 16 with
  | .bad c o => .bad c o
  | .ok [] => .bad 1 b.length
  | .ok [_] => .bad 1 b.length
  | .ok [e, f] => (match isB f.x 0 false 3 with
    | false => .bad 3 f.st
    | true => (match agP (cut b e.st e.en) with
      | .bad c o => .bad c (e.st + o)
      | .ok a => akB b a f))
  | .ok (_ :: _ :: g :: _) => .bad 2 g.st
theorem akB_of {b : List UInt8} {k : PKey} {f : El} (hv : valF k.x k.u = true) (h : cut b f.bd f.en = bcF k) : akB b k.a f = .ok k := by
  unfold akB
  rw [h, bcF, decF_enc _ _ hv]
  rfl
/-- An encoding is parsed as what it encodes. -/
theorem ak_of {k : PKey} (hv : akV k = true) (hl : (agF k.a ++ putF 3 (bcF k)).length ≤ 2147483647) : akP (akF k) = .ok k := by
  unfold akV at hv
  rw [Bool.and_eq_true] at hv
  obtain ⟨hv, hx⟩ := hv
  rw [List.length_append, agF, putF_len, putF_len] at hl
  have hc : catF [((48 : UInt8), objF k.a.o ++ k.a.p), ((3 : UInt8), bcF k)] = agF k.a ++ putF 3 (bcF k) := by simp [catF, agF]
  obtain ⟨l, hq, E⟩ := seq_of (ts := [((48 : UInt8), objF k.a.o ++ k.a.p), ((3 : UInt8), bcF k)]) (by rw [hc, List.length_append, agF, putF_len, putF_len]; omega) (by
    intro t ht
    simp only [List.mem_cons, List.not_mem_nil, or_false] at ht
    rcases ht with rfl | rfl
    · exact ⟨by show (48 : UInt8).toNat % 32 ≠ 31; decide, by simp only; omega⟩
    · exact ⟨by show (3 : UInt8).toNat % 32 ≠ 31; decide, by simp only; omega⟩)
  rw [hc] at hq E
  have hb : akF k = putF 48 (agF k.a ++ putF 3 (bcF k)) := rfl
  rw [← hb] at hq E
  have hlen := E.len
  match l, hlen, hq, E with
  | [e, f], _, hq, E =>
    have h0 := E.whole 0 (by simp) (by simp)
    have h2 := E.tag 1 (by simp) (by simp)
    have h3 := E.body 1 (by simp) (by simp)
    simp only [List.getElem_cons_zero, List.getElem_cons_succ] at h0 h2 h3
    have h4 : cut (akF k) e.st e.en = agF k.a := h0
    unfold akP
    rw [hq]
    simp only
    rw [h2, show isB 3 0 false 3 = true from by decide]
    simp only
    rw [h4, ag_of hv (by omega)]
    simp only
    rw [akB_of hx h3]
end Go.Proofs.YtdihjpmdmfmbiaaGreatDoor

/- Trees with their offsets, and what the laws need of algorithm identifiers: plain. -/
namespace Go.Proofs.YtdihjpmdmfmbiaaGreatDoor
open Go.Am
set_option linter.unusedSimpArgs false
set_option linter.unusedVariables false

/-! ### Trees with their offsets -/
def spotD (a e : Nat) (x : UInt8) (c : List UInt8) (ks ss : List Dat) : Dat := .agg [.int .i64 a, .int .i64 e, clsD x, numD x, .bool (conB x), .sl none (bys c), .sl (some 5) ks, .sl (some 8) ss]
def nodeOf (n : Dat) : Dat := .agg [.int .i64 (n.cell 2).num, .int .i64 (n.cell 3).num, .bool (n.cell 4).tru, .sl none (n.cell 5).els, .sl (some 5) (n.cell 6).els]
/-- A tree, read in a window that ends at w. -/
def rdS : Nat → Nat → List UInt8 → Ex (Dat × Nat)
  | 0, _, _ => .bad 5 0
  | d + 1, w, b => match hdF b with
    | .bad c o => .bad c o
    | .ok (x, n, s) => if b.length - s < n then .bad 1 b.length else match conB x with
      | false => .ok (spotD (w - b.length) (w - b.length + s + n) x (cut b s (s + n)) [] [], s + n)
      | true => match kdT (rdS d (w - b.length + s + n)) s (cut b s (s + n)) n 0 with
        | .bad c o => .bad c o
        | .ok l => .ok (spotD (w - b.length) (w - b.length + s + n) x [] (l.map nodeOf) l, s + n)
def exN : Ex (Dat × Nat) → Ex (Dat × Nat)
  | .bad c o => .bad c o
  | .ok (n, s) => .ok (nodeOf n, s)
theorem kd_map {f g : List UInt8 → Ex (Dat × Nat)} (h : ∀ b, f b = exN (g b)) (hs : Nat) (c : List UInt8) : ∀ k i, kdT f hs c k i = match kdT g hs c k i with
    | .bad e o => .bad e o
    | .ok l => .ok (l.map nodeOf)
  | 0, i => rfl
  | k + 1, i => by
    rw [kdT, kdT]
    by_cases hi : i < c.length
    · rw [if_pos hi, if_pos hi, h]
      cases g (c.drop i) with
      | bad e o => rfl
      | ok p =>
        obtain ⟨n, s⟩ := p
        simp only [exN]
        rw [kd_map h hs c k (i + s)]
        cases kdT g hs c k (i + s) with
        | bad e o => rfl
        | ok l => rfl
    · rw [if_neg hi, if_neg hi]
      rfl
theorem rdS_rd : ∀ (d w : Nat) (b : List UInt8), rdF d b = exN (rdS d w b)
  | 0, w, b => rfl
  | d + 1, w, b => by
    rw [rdF, rdS]
    cases hdF b with
    | bad c o => rfl
    | ok p =>
      obtain ⟨x, n, s⟩ := p
      simp only
      by_cases h : b.length - s < n
      · rw [if_pos h, if_pos h]
        rfl
      · rw [if_neg h, if_neg h]
        cases conB x with
        | false => rfl
        | true =>
          simp only
          rw [kd_map (fun b' => rdS_rd d (w - b.length + s + n) b')]
          cases kdT (rdS d (w - b.length + s + n)) s (cut b s (s + n)) n 0 with
          | bad c o => rfl
          | ok l => rfl
theorem rdS_ok {d w : Nat} {b : List UInt8} {n : Dat} {s : Nat} (h : rdS d w b = .ok (n, s)) : 0 < s ∧ s ≤ b.length ∧ Tr d (nodeOf n) (b.take s) ∧ ∃ x c ks ss, n = spotD (w - b.length) (w - b.length + s) x c ks ss := by
  have h1 := rdS_rd d w b
  rw [h] at h1
  obtain ⟨h2, h3⟩ := rd_ok _ _ _ _ h1
  have h4 := h3.pos
  rw [List.length_take] at h4
  refine ⟨by omega, h2, h3, ?_⟩
  cases d with
  | zero => cases h
  | succ d =>
    rw [rdS] at h
    cases hd : hdF b with
    | bad c o => rw [hd] at h; cases h
    | ok p =>
      obtain ⟨x, n', s'⟩ := p
      rw [hd] at h
      simp only at h
      split at h
      · cases h
      · split at h
        · cases h
          exact ⟨x, _, _, _, by rw [Nat.add_assoc]⟩
        · split at h
          · cases h
          · cases h
            exact ⟨x, _, _, _, by rw [Nat.add_assoc]⟩
theorem rdS_bad {d w : Nat} {b : List UInt8} {e o : Nat} (h : rdS d w b = .bad e o) : 0 < e ∧ o ≤ b.length := by
  have h1 := rdS_rd d w b
  rw [h] at h1
  exact rd_bad _ _ _ _ h1
/-- What the reader of a window that begins at i hands back. -/
def spot0 : Dat := .agg [.int .i64 0, .int .i64 0, .int .i64 0, .int .i64 0, .bool false, .sl none [], .sl (some 5) [], .sl (some 8) []]
def spD (i : Nat) : Ex (Dat × Nat) → Dat
  | .bad c o => .tup [spot0, errD c (i + o)]
  | .ok (n, _) => .tup [n, errD 0 0]
/-- One step of the kids, for a loop's invariant. -/
def shK (acc : List Dat) : Ex (List Dat) → Ex (List Dat)
  | .bad c o => .bad c o
  | .ok l => .ok (acc ++ l)

/-! ### Algorithm identifiers as data -/
def agD (a : Alg) : Dat := .agg [sD a.o, .sl none (bys a.p)]
def ag0 : Alg := ⟨[], []⟩
def fewA (a : Alg) : Bool := decide (a.o.length ≤ 200) && decide (a.p.length ≤ 1000)
theorem Alg.ext' {x y : Alg} (h1 : x.o = y.o) (h2 : x.p = y.p) : x = y := by
  obtain ⟨_, _⟩ := x
  obtain ⟨_, _⟩ := y
  cases h1
  cases h2
  rfl
instance : DecidableEq Alg := fun x y => decidable_of_iff (x.o = y.o ∧ x.p = y.p) ⟨fun h => Alg.ext' h.1 h.2, fun h => by subst h; exact ⟨rfl, rfl⟩⟩
theorem alg_eq (x y : Alg) : decide (x = y) = (decide (x.o = y.o) && decide (x.p = y.p)) := by
  rw [Bool.eq_iff_iff]
  simp only [decide_eq_true_eq, Bool.and_eq_true]
  exact ⟨fun h => by subst h; exact ⟨rfl, rfl⟩, fun h => Alg.ext' h.1 h.2⟩
theorem ag_val {a : Alg} (h : agV a = true) : oidV a.o = true := by
  unfold agV at h
  rw [Bool.and_eq_true] at h
  exact h.1
def agBd (a : Alg) : List UInt8 := objF a.o ++ a.p
def agSm (a : Alg) : Prop := a.o.length ≤ 200000 ∧ a.p.length ≤ 200000
theorem agSm0 : agSm ag0 := ⟨Nat.zero_le _, Nat.zero_le _⟩
theorem agF_len (a : Alg) : (agF a).length = hsz (agBd a) + (agBd a).length := putF_len 48 (agBd a)
theorem agBd_len (a : Alg) : (agBd a).length = hsz (encO a.o) + (encO a.o).length + a.p.length := by
  rw [agBd, List.length_append, objF, putF_len]
theorem agF_le (a : Alg) : (agF a).length ≤ 5 * a.o.length + a.p.length + 60 := by
  have h1 := encO_len a.o
  have h2 := agF_len a
  have h3 := hsz_le (agBd a)
  have h4 := agBd_len a
  have h5 := hsz_le (encO a.o)
  omega
theorem ag_len {a : Alg} (hv : agV a = true) (hl : (agF a).length ≤ 10000) : (agBd a).length ≤ 2147483647 ∧ agSm a := by
  have h2 := agF_len a
  have h4 := agBd_len a
  have h10 : (encO a.o).length ≤ 16000 := by omega
  unfold agV at hv
  rw [Bool.and_eq_true] at hv
  have h6 := decS_len (encO a.o)
  have h11 := decS_encO hv.1
  rw [h11] at h6
  simp only at h6
  exact ⟨by omega, by omega, by omega⟩
/-! ### Public keys as data -/
def akD (k : PKey) : Dat := .agg [sD k.a.o, .sl none (bys k.a.p), .sl none (bys k.x), .int .i64 k.u]
def ak0 : PKey := ⟨ag0, [], 0⟩
def fewK (k : PKey) : Bool := fewA k.a && decide (k.x.length ≤ 1000)
theorem PKey.ext' {x y : PKey} (h1 : x.a = y.a) (h2 : x.x = y.x) (h3 : x.u = y.u) : x = y := by
  obtain ⟨_, _, _⟩ := x
  obtain ⟨_, _, _⟩ := y
  cases h1
  cases h2
  cases h3
  rfl
instance : DecidableEq PKey := fun x y => decidable_of_iff ((x.a = y.a ∧ x.x = y.x) ∧ x.u = y.u) ⟨fun h => PKey.ext' h.1.1 h.1.2 h.2, fun h => by subst h; exact ⟨⟨rfl, rfl⟩, rfl⟩⟩
def akBd (k : PKey) : List UInt8 := agF k.a ++ putF 3 (bcF k)
def akSm (k : PKey) : Prop := agSm k.a ∧ k.x.length ≤ 200000
theorem akF_len (k : PKey) : (akF k).length = hsz (akBd k) + (akBd k).length := putF_len 48 (akBd k)
theorem akBd_len (k : PKey) : (akBd k).length = (agF k.a).length + (hsz (bcF k) + (k.x.length + 1)) := by
  rw [akBd, List.length_append, putF_len, bcF, List.length_cons]
theorem akF_le (k : PKey) : (akF k).length ≤ 5 * k.a.o.length + k.a.p.length + k.x.length + 160 := by
  have h1 := agF_le k.a
  have h2 := akF_len k
  have h3 := hsz_le (akBd k)
  have h4 := akBd_len k
  have h5 := hsz_le (bcF k)
  omega
end Go.Proofs.YtdihjpmdmfmbiaaGreatDoor

/- A result that is a row of its own lies in new blocks only. No program. -/
namespace Go.Am
open Go.RowKit
set_option linter.unusedSimpArgs false
set_option linter.unusedVariables false

section
variable {P : Program} {Γ : Env} {Q : Exit → St → Prop} {σ : St}
end
end Go.Am

/- The abstract machine: maps that the walk itself has made: made, looked into, a new key put in. No program. -/
namespace Go.Am
open Go.RowKit
set_option linter.unusedSimpArgs false
set_option linter.unusedVariables false

def keyB : Dat → Dat → Option Bool
  | .int k a, .int k' b => match kindB k k' with
    | true => some (decide (a = b))
    | false => none
  | .str a, .str b => some (decide (a = b))
  | _, _ => none
def findM (k : Dat) : List (Dat × AV) → Option (Option AV)
  | [] => some none
  | (k', x) :: r => match keyB k k' with
    | some true => some (some x)
    | some false => findM k r
    | none => none
def keyT : TypeDesc → Dat → Bool
  | .string, .str _ => true
  | .int q, .int k _ => kindB k q
  | _, _ => false

section
variable {P : Program} {Γ : Env} {Q : Exit → St → Prop} {σ : St} {ty : TypeId → Option TI}

/-- What a look-up yields. -/
def lookR (zx : AV) : Bool → Option AV → AV
  | true, some x => .tup [x, .d (.bool true)]
  | true, none => .tup [zx, .d (.bool false)]
  | false, some x => x
  | false, none => zx
/-- A literal without elements. -/
theorem run_lit0 {t e : TypeId} {j : TypeInfo} (hu : P.underlying t = some (.slice e)) (hie : P.info? e = some j) (w : World) :
    (Instr.buildSlice t 0 #[]).run P w = .ok (.slice (some ⟨w.heap.size, 0, none⟩) 0 0) (w.alloc (.cells #[] e)) := by
  have e0 : (Array.range 0).map (fun _ : Nat => (default : Value)) = #[] := Array.eq_empty_of_size_eq_zero (by simp)
  simp [Instr.buildSlice, run_underlying hu, sizeOf, typeInfo, hie, newRow, Instr.fill]
  exact congrArg (fun z => w.alloc (Obj.cells z e)) e0
theorem aops_lit0 (hT : TyOk P ty) {ops rest : List Oper} {o : Oper} {t e : TypeId} {ti ei : TI} {sz nx : Nat} {tm : List (Nat × AV)} {ob : List (Nat × AO)} (hw : wantedA ops σ o = some true) (hd : dstOk σ o.dst = true) (ho : o.op = .buildSlice t 0 #[]) (ht : ty t = some ti) (hde : ti.desc = .slice e) (he : ty e = some ei)
    (hr : addPut σ none (.row ei.ek e []) o.dst .ref = ⟨sz, tm, ob, nx⟩) (k : AOps P Γ ops Q rest ⟨sz, tm, ob, nx⟩) : AOps P Γ ops Q (o :: rest) σ :=
  aops_step hw fun C0 a C K R b ev m hk => by
    rw [addPut_eq] at hr
    have hB := (b.evo ev).B
    obtain ⟨j, hj, hjs, _, hjz⟩ := hT.info _ _ he
    have hu := hT.und _ _ ht
    rw [hde] at hu
    have hrun : (execOp a.eval o).run P C.w = .ok (.value (.slice (some ⟨C.w.heap.size, 0, none⟩) 0 0)) (C.w.alloc (.cells #[] e)) := by
      unfold execOp
      simp only [ho]
      exact run_value (by rw [show (#[] : Array (Nat × Operand)).map (fun x => (x.1, a.eval x.2)) = #[] from Array.eq_empty_of_size_eq_zero (by simp)]; exact run_lit0 hu hj C.w)
    have m' := m.new hB (.cells #[] e) (.slice (some ⟨C.w.heap.size, 0, none⟩) 0 0) rfl (.row ei.ek e []) (by
      have := new_row (C := C) m.fresh hB (ek := ei.ek) (e := e) (xs := []) (vs := #[]) 0 (by simp) (by simp [maxLen]) (by simp) (by
        intro k d hk
        simp at hk)
      exact this)
    refine upon_value hrun (hk _ (C.new _ _ _) _ (m'.put (v := .slice (some ⟨C.w.heap.size, 0, none⟩) 0 0) ?_ (dstOk_spec hd)) (ev.trans (Ct.new_evo m.fresh hB _ _)) (by rw [hr]; exact k))
    exact .ref _ (by simp [Ct.new]) _ (by simp [Ct.new]) rfl
/-- A field of a struct that lies in a slot. -/
def fieldVal (fi : TI) (off : Nat) : AV → Option AV
  | .d (.agg cs) => match fi.agg with
    | false => match cs[off]? with
      | some y => some (.d y)
      | none => none
    | true => match Nat.ble (off + fi.size) cs.length with
      | true => some (.d (.agg ((cs.drop off).take fi.size)))
      | false => none
  | .agg cs => match fi.agg with
    | false => cs[off]?
    | true => match Nat.ble (off + fi.size) cs.length with
      | true => some (.agg ((cs.drop off).take fi.size))
      | false => none
  | _ => none
theorem cut_cells {α : Type} {cs : List α} {vs : Array Value} {off n j : Nat} {y : α} (hl : vs.size = cs.length) (hle : off + n ≤ cs.length) (hj : ((cs.drop off).take n)[j]? = some y) : cs[off + j]? = some y ∧ (vs.extract off (off + n)).getD j undef = vs.getD (off + j) undef := by
  have hlt := (List.getElem?_eq_some_iff.1 hj).1
  rw [List.length_take, List.length_drop] at hlt
  have hjn : j < n := by omega
  rw [List.getElem?_take, if_pos hjn, List.getElem?_drop] at hj
  refine ⟨hj, ?_⟩
  have h2 : off + j < vs.size := by omega
  simp [h2, show j < min (off + n) vs.size - off by omega]
theorem fieldVal_sound (hT : TyOk P ty) {t : TypeId} {fi : TI} (ht : ty t = some fi) {off : Nat} {y z : AV} (h : fieldVal fi off y = some z) {C : Ct} {v : Value} (hv : Rep C y v) : ∃ vs u, v = .agg vs ∧ (part t vs off).run P C.w = .ok u C.w ∧ Rep C z u := by
  have hagg := hT.run_agg ht C.w
  have hsize := hT.run_size ht C.w
  unfold fieldVal at h
  split at h
  · cases hv with
    | d h' =>
      cases h' with
      | agg cs vs hl h1 hr =>
        split at h
        · rename_i ha
          split at h
          · rename_i y hy
            cases h
            have hlt : off < vs.size := by rw [hl]; exact (List.getElem?_eq_some_iff.1 hy).1
            refine ⟨vs, vs.getD off undef, rfl, ?_, .d (hr off _ hy)⟩
            unfold part
            simp only [Sem.run_bind, hagg, ha, Result.andThen_ok]
            simp [hlt]
          · cases h
        · rename_i ha
          split at h
          · rename_i hb
            cases h
            have hle := Nat.le_of_ble_eq_true hb
            refine ⟨vs, .agg (vs.extract off (off + fi.size)), rfl, ?_, .d (.agg _ _ (by simp; omega) (fun y hy => h1 y (List.mem_of_mem_drop (List.mem_of_mem_take hy))) (fun j y hj => ?_))⟩
            · unfold part
              simp only [Sem.run_bind, hagg, ha, Result.andThen_ok, if_true, hsize, Sem.run_pure]
            · obtain ⟨e1, e2⟩ := cut_cells hl hle hj
              rw [e2]
              exact hr _ _ e1
          · cases h
  · cases hv with
    | agg cs vs hl h1 hr =>
      split at h
      · rename_i ha
        have hlt : off < vs.size := by rw [hl]; exact (List.getElem?_eq_some_iff.1 h).1
        refine ⟨vs, vs.getD off undef, rfl, ?_, hr off _ h⟩
        unfold part
        simp only [Sem.run_bind, hagg, ha, Result.andThen_ok]
        simp [hlt]
      · rename_i ha
        split at h
        · rename_i hb
          cases h
          have hle := Nat.le_of_ble_eq_true hb
          refine ⟨vs, .agg (vs.extract off (off + fi.size)), rfl, ?_, .agg _ _ (by simp; omega) (fun y hy => h1 y (List.mem_of_mem_drop (List.mem_of_mem_take hy))) (fun j y hj => ?_)⟩
          · unfold part
            simp only [Sem.run_bind, hagg, ha, Result.andThen_ok, if_true, hsize, Sem.run_pure]
          · obtain ⟨e1, e2⟩ := cut_cells hl hle hj
            rw [e2]
            exact hr _ _ e1
        · cases h
  · cases h
theorem aops_field (hT : TyOk P ty) {ops rest : List Oper} {o : Oper} {xt : TypeId} {x : Operand} {f : Nat} {si fi : TI} {fields : Array Field} {fd : Field} {y z : AV} {sz nx : Nat} {tm : List (Nat × AV)} {ob : List (Nat × AO)} (hw : wantedA ops σ o = some true) (hd : dstOk σ o.dst = true) (ho : o.op = .field xt x f)
    (hs : ty xt = some si) (hsd : si.desc = .struct fields) (hf : fields[f]? = some fd) (hfi : ty fd.type = some fi) (hx : σ.ev ty xt x = some y) (hv : fieldVal fi fd.offset y = some z) (hr : put' σ o.dst z = ⟨sz, tm, ob, nx⟩) (k : AOps P Γ ops Q rest ⟨sz, tm, ob, nx⟩) : AOps P Γ ops Q (o :: rest) σ :=
  aops_step hw fun C0 a C K R b e m hk => by
    rw [put'_eq] at hr
    obtain ⟨vs, u, hav, hpart, hrep⟩ := fieldVal_sound hT hfi hv (ev_sound m hx)
    have hu := hT.und _ _ hs
    rw [hsd] at hu
    have hrun : (execOp a.eval o).run P C.w = .ok (.value u) C.w := by
      unfold execOp
      simp only [ho]
      refine run_value ?_
      unfold Instr.field
      simp only [Sem.run_bind, run_underlying hu, Result.andThen_ok, hf, hav, asAgg, Sem.run_pure, hpart]
    exact upon_value hrun (hk _ C _ (m.put hrep (dstOk_spec hd)) e (by rw [hr]; exact k))
/-- A side proof; a fact of the context may be the same up to computing. -/
theorem sdm {q : Prop} (h : q := by first | (simp only [and_true, true_and]; done) | (simp only [and_true, true_and, szs, cns]; omega) | omega | ((repeat' (first | exact True.intro | apply And.intro)) <;> first | omega | (simp only [List.getElem_toArray, List.getElem_cons_zero, List.getElem_cons_succ, szs, cns]; omega) | assumption | (simp only [szs, cns]; omega))) : q := h
/-- A row that is handed over may be looked at as a datum. -/
theorem own_datum {w0 w : World} {pr : Nat → Bool} {ek : Option Nat} {e : TypeId} {xs : List Dat} {v : Value} (h : OwnRep w0 w pr ek e xs v) : RepD w (fun b => pr b || decide (w0.heap.size ≤ b)) (.sl ek xs) v := by
  obtain ⟨vals, hown, hcr⟩ := h
  rcases hown.2 with ⟨hn, h0⟩ | ⟨g, cap, cur, hv, hb, hg, hnc, hcm, hcs, htake⟩
  · have : xs = [] := List.eq_nil_of_length_eq_zero h0
    subst this
    rw [hn]
    exact .nil ek
  · rw [hv]
    refine RepD.sl_mk rfl hnc hcm (fun _ => rfl) (fun x hx => ?_) (fun k x hk j y hj => ?_)
    · obtain ⟨k, hk⟩ := List.mem_iff_getElem?.1 hx
      exact (hcr k x hk).1
    · obtain ⟨hf, h2⟩ := hcr k x hk
      obtain ⟨u, hu, hr⟩ := h2 j y hj
      refine ⟨by simp only [Bool.or_eq_true, decide_eq_true_eq]; exact .inr hb, hf.one y (List.mem_of_getElem? hj), u, ?_, hr.mono fun b _ hb => ⟨rfl, by simp only [Bool.and_eq_true] at hb; exact hb.1⟩⟩
      have := hown.cells (g := g) (by rw [hv]; rfl) _ u hu
      rw [Addr.add_lit] at this
      simpa using this
theorem ACalls.own_d {f : FuncId} {args : List Dat} {ek : Option Nat} {e : TypeId} {xs : List Dat} (h : ACalls P Γ f args (fun r => r = .own ek e xs)) : ACalls P Γ f args (fun r => r = .d (.sl ek xs)) :=
  ⟨h.1, fun w pr vs h1 h2 h3 => (h.2 w pr vs h1 h2 h3).mono fun e w' ⟨v, r, a, b, c, d⟩ => by
    subst d
    exact ⟨v, .d (.sl ek xs), a, b, own_datum c, rfl⟩⟩
theorem ACalls.ownT_d {f : FuncId} {args : List Dat} {ek : Option Nat} {e : TypeId} {xs rest : List Dat} (h : ACalls P Γ f args (fun r => r = .ownT ek e xs rest)) : ACalls P Γ f args (fun r => r = .d (.tup (.sl ek xs :: rest))) :=
  ⟨h.1, fun w pr vs h1 h2 h3 => (h.2 w pr vs h1 h2 h3).mono fun e w' ⟨v, r, a, b, c, d⟩ => by
    subst d
    obtain ⟨us, rfl, hs, ho, hq⟩ := c
    refine ⟨_, .d (.tup (.sl ek xs :: rest)), a, b, RepD.tup _ us (by simpa using hs) (fun j y hj => ?_), rfl⟩
    cases j with
    | zero =>
      simp only [List.getElem?_cons_zero, Option.some.injEq] at hj
      subst hj
      exact own_datum ho
    | succ j =>
      simp only [List.getElem?_cons_succ] at hj
      exact (hq j y hj).mono fun b _ hb => ⟨rfl, by simp only [Bool.and_eq_true] at hb; exact hb.1⟩⟩
/-- A callee that is walked in place falls off its end. -/
theorem back_nil {fn : Func} {K : List (Nat × AO) → Nat → AV → Prop} {ys : List AV} (h : resultA ty σ fn.results.toList = some ys) (k : K σ.ob σ.nx (packA ys)) : BackOk ty fn K .normal σ := ⟨ys, h, k⟩
end
end Go.Am

/- The program's reader of trees, with offsets. Walked by the abstract machine. -/
namespace Go.Proofs.YtdihjpmdmfmbiaaGreatDoor
open Go.Am
set_option linter.unusedSimpArgs false
set_option linter.unusedVariables false
-- withAmZ withAmMp

theorem isTFail : IsFn Tryz.prog 103 Tryz.f103 := ⟨Tryz.func103, by decide, rfl⟩
theorem c_tfail (Γ : Env) (c o : Nat) : ACalls Tryz.prog Γ 103 [.int .i64 c, .int .i64 o] (fun r => r = .d (.tup [spot0, errD c o])) := by
  refine acalls_of ty_ok isTFail rfl rfl ?_
  repeat' (first | ((with_reducible show AWp _ _ _ _ _); (first | refine awp_seq ?_ | refine awp_block ?_ | refine awp_skip ?_ | refine awp_exit ?_ | refine awp_scope ?_ | refine awp_label ?_ | refine awp_run ty_ok rfl sdm ?_ | refine awp_ret ⟨_, _, rfl, rfl, ?_⟩ | refine awp_ret ⟨_, rfl, ?_⟩ | ((refine awp_cond (ty := ty) rfl (fun hc => ?_) (fun hc => ?_)) <;> (try simp only [nms, reduceCtorEq] at hc) <;> (try (exfalso; omega))))) | ((with_reducible show AOps _ _ _ _ _ _); (first | refine aops_nil ?_ | refine aops_go ty_ok rfl rfl sdm ?_ | refine aops_gate ty_ok rfl rfl rfl sdm ?_ | refine aops_litE ty_ok rfl rfl rfl rfl rfl rfl rfl rfl rfl rfl rfl rfl ?_ | refine aops_litA ty_ok rfl rfl rfl rfl rfl rfl rfl rfl rfl rfl rfl rfl rfl rfl rfl rfl ?_ | refine aops_buildArr ty_ok rfl rfl rfl rfl rfl rfl rfl rfl rfl rfl ?_ | refine aops_indexArr ty_ok rfl rfl rfl rfl rfl rfl rfl rfl rfl rfl sdm ?_ | refine aops_lit0 ty_ok rfl rfl rfl rfl rfl rfl rfl ?_ | refine aops_field ty_ok rfl rfl rfl rfl rfl rfl rfl rfl rfl rfl ?_ | refine aops_cutE ty_ok rfl rfl rfl rfl rfl rfl rfl rfl rfl sdm rfl ?_ | ((fail_if_success (refine aops_known rfl ?_)); (refine aops_split ty_ok rfl rfl rfl rfl rfl rfl (fun hc => ⟨?_, ?_⟩) (fun hc => ⟨?_, ?_⟩)) <;> (try simp only [nms, reduceCtorEq] at hc) <;> (try (exfalso; omega)) <;> (try exact sdm)))) | ((fail_if_success (with_reducible show AWp _ _ _ _ _)); (fail_if_success (with_reducible show AOps _ _ _ _ _ _)); (first | (show AWp _ _ _ _ _) | (show AOps _ _ _ _ _ _))))
  rfl
theorem isTRead : IsFn Tryz.prog 85 Tryz.f85 := ⟨Tryz.func85, by decide, rfl⟩
set_option maxHeartbeats 8000000 in
set_option maxRecDepth 100000 in
theorem c_tread (Γ : Env) : ∀ (d : Nat), d ≤ 60 → ∀ (b : List UInt8) (i j : Nat), i ≤ j → j ≤ b.length → b.length ≤ 1000000 → ACalls Tryz.prog Γ 85 [.sl none (bys b), .int .i64 i, .int .i64 j, .int .i64 d] (fun r => r = .d (spD i (rdS d j (cut b i j))))
  | 0, _, b, i, j, hij, hj, hb => by
    refine acalls_of ty_ok isTRead rfl rfl ?_
    repeat' (first | ((with_reducible show AWp _ _ _ _ _); (first | refine awp_seq ?_ | refine awp_block ?_ | refine awp_skip ?_ | refine awp_exit ?_ | refine awp_scope ?_ | refine awp_label ?_ | refine awp_run ty_ok rfl sdm ?_ | refine awp_ret ⟨_, _, rfl, rfl, ?_⟩ | refine awp_ret ⟨_, rfl, ?_⟩ | ((refine awp_cond (ty := ty) rfl (fun hc => ?_) (fun hc => ?_)) <;> (try simp only [nms, reduceCtorEq] at hc) <;> (try (exfalso; omega))))) | ((with_reducible show AOps _ _ _ _ _ _); (first | refine aops_nil ?_ | refine aops_go ty_ok rfl rfl sdm ?_ | refine aops_gate ty_ok rfl rfl rfl sdm ?_ | refine aops_callE (ty := ty) rfl rfl rfl rfl rfl rfl rfl (c_tfail _ 5 i) rfl ?_ | refine aops_litE ty_ok rfl rfl rfl rfl rfl rfl rfl rfl rfl rfl rfl rfl ?_ | refine aops_litA ty_ok rfl rfl rfl rfl rfl rfl rfl rfl rfl rfl rfl rfl rfl rfl rfl rfl ?_ | refine aops_buildArr ty_ok rfl rfl rfl rfl rfl rfl rfl rfl rfl rfl ?_ | refine aops_indexArr ty_ok rfl rfl rfl rfl rfl rfl rfl rfl rfl rfl sdm ?_ | refine aops_lit0 ty_ok rfl rfl rfl rfl rfl rfl rfl ?_ | refine aops_field ty_ok rfl rfl rfl rfl rfl rfl rfl rfl rfl rfl ?_ | refine aops_cutE ty_ok rfl rfl rfl rfl rfl rfl rfl rfl rfl sdm rfl ?_ | ((fail_if_success (refine aops_known rfl ?_)); (refine aops_split ty_ok rfl rfl rfl rfl rfl rfl (fun hc => ⟨?_, ?_⟩) (fun hc => ⟨?_, ?_⟩)) <;> (try simp only [nms, reduceCtorEq] at hc) <;> (try (exfalso; omega)) <;> (try exact sdm)))) | ((fail_if_success (with_reducible show AWp _ _ _ _ _)); (fail_if_success (with_reducible show AOps _ _ _ _ _ _)); (first | (show AWp _ _ _ _ _) | (show AOps _ _ _ _ _ _))))
    rfl
  | d + 1, hd60, b, i, j, hij, hj, hb => by
    refine acalls_of ty_ok isTRead rfl rfl ?_
    have hl := cut_len b i j hj
    have hc1 := c_readhd (Γ.at 0) (cut b i j) (by omega)
    have hcut : cutL (bys b) (i : Int).toNat (j : Int).toNat = bys (cut b i j) := by rw [cutL_bys, Int.toNat_natCast, Int.toNat_natCast]; rfl
    rw [← hcut] at hc1
    rw [rdS]
    cases hd : hdF (cut b i j) with
    | bad c o =>
      rw [hd] at hc1
      have := hd_bad hd
      have hf := c_tfail (Γ.at 0) c (i + o)
      repeat' (first | ((with_reducible show AWp _ _ _ _ _); (first | refine awp_seq ?_ | refine awp_block ?_ | refine awp_skip ?_ | refine awp_exit ?_ | refine awp_scope ?_ | refine awp_label ?_ | refine awp_run ty_ok rfl sdm ?_ | refine awp_ret ⟨_, _, rfl, rfl, ?_⟩ | refine awp_ret ⟨_, rfl, ?_⟩ | ((refine awp_cond (ty := ty) rfl (fun hc => ?_) (fun hc => ?_)) <;> (try simp only [nms, reduceCtorEq] at hc) <;> (try (exfalso; omega))) | refine awp_anyS 3 2 ty_ok mixed rfl rfl rfl rfl rfl rfl rfl rfl rfl (by kernel_rfl) ?_)) | ((with_reducible show AOps _ _ _ _ _ _); (first | refine aops_nil ?_ | refine aops_go ty_ok rfl rfl sdm ?_ | refine aops_gate ty_ok rfl rfl rfl sdm ?_ | refine aops_callE (ty := ty) rfl rfl rfl rfl rfl rfl rfl (hc1) rfl ?_ | refine aops_callE (ty := ty) rfl rfl rfl rfl rfl rfl rfl (hf) rfl ?_ | refine aops_litE ty_ok rfl rfl rfl rfl rfl rfl rfl rfl rfl rfl rfl rfl ?_ | refine aops_litA ty_ok rfl rfl rfl rfl rfl rfl rfl rfl rfl rfl rfl rfl rfl rfl rfl rfl ?_ | refine aops_buildArr ty_ok rfl rfl rfl rfl rfl rfl rfl rfl rfl rfl ?_ | refine aops_indexArr ty_ok rfl rfl rfl rfl rfl rfl rfl rfl rfl rfl sdm ?_ | refine aops_lit0 ty_ok rfl rfl rfl rfl rfl rfl rfl ?_ | refine aops_field ty_ok rfl rfl rfl rfl rfl rfl rfl rfl rfl rfl ?_ | refine aops_cutE ty_ok rfl rfl rfl rfl rfl rfl rfl rfl rfl sdm rfl ?_ | ((fail_if_success (refine aops_known rfl ?_)); (refine aops_split ty_ok rfl rfl rfl rfl rfl rfl (fun hc => ⟨?_, ?_⟩) (fun hc => ⟨?_, ?_⟩)) <;> (try simp only [nms, reduceCtorEq] at hc) <;> (try (exfalso; omega)) <;> (try exact sdm)))) | ((with_reducible show HeadT _ _ _ _ _ _ _ _ _ _); (first | refine head_end ?_ | refine head_goP ty_ok rfl rfl sdm ?_ | refine head_gate ty_ok rfl rfl rfl sdm ?_ | refine head_callE (ty := ty) rfl rfl rfl rfl rfl rfl rfl (hc1) rfl ?_ | refine head_callE (ty := ty) rfl rfl rfl rfl rfl rfl rfl (hf) rfl ?_ | ((fail_if_success (refine head_known rfl ?_)); (refine head_split ty_ok rfl rfl rfl rfl (fun hc => ⟨?_, ?_⟩) (fun hc => ⟨?_, ?_⟩)) <;> (try simp only [nms, reduceCtorEq] at hc) <;> (try (exfalso; omega)) <;> (try exact sdm)))) | ((fail_if_success (with_reducible show AWp _ _ _ _ _)); (fail_if_success (with_reducible show AOps _ _ _ _ _ _)); (fail_if_success (with_reducible show HeadT _ _ _ _ _ _ _ _ _ _)); (first | (show AWp _ _ _ _ _) | (show AOps _ _ _ _ _ _) | refine st_go rfl rfl rfl rfl rfl rfl rfl ?_)))
      rfl
    | ok p =>
      obtain ⟨x, n, s⟩ := p
      rw [hd] at hc1
      obtain ⟨_, g1, g2, g3⟩ := hd_inv hd
      have g4 := lenB_len5 g1
      have g5 := congrArg List.length g3
      simp only [List.length_cons, List.length_append, List.length_drop] at g5
      by_cases h : j - i - s < n
      · simp only
        rw [if_pos (by omega)]
        have hf := c_tfail (Γ.at 0) 1 j
        repeat' (first | ((with_reducible show AWp _ _ _ _ _); (first | refine awp_seq ?_ | refine awp_block ?_ | refine awp_skip ?_ | refine awp_exit ?_ | refine awp_scope ?_ | refine awp_label ?_ | refine awp_run ty_ok rfl sdm ?_ | refine awp_ret ⟨_, _, rfl, rfl, ?_⟩ | refine awp_ret ⟨_, rfl, ?_⟩ | ((refine awp_cond (ty := ty) rfl (fun hc => ?_) (fun hc => ?_)) <;> (try simp only [nms, reduceCtorEq] at hc) <;> (try (exfalso; omega))) | refine awp_anyS 3 2 ty_ok mixed rfl rfl rfl rfl rfl rfl rfl rfl rfl (by kernel_rfl) ?_)) | ((with_reducible show AOps _ _ _ _ _ _); (first | refine aops_nil ?_ | refine aops_go ty_ok rfl rfl sdm ?_ | refine aops_gate ty_ok rfl rfl rfl sdm ?_ | refine aops_callE (ty := ty) rfl rfl rfl rfl rfl rfl rfl (hc1) rfl ?_ | refine aops_callE (ty := ty) rfl rfl rfl rfl rfl rfl rfl (hf) rfl ?_ | refine aops_litE ty_ok rfl rfl rfl rfl rfl rfl rfl rfl rfl rfl rfl rfl ?_ | refine aops_litA ty_ok rfl rfl rfl rfl rfl rfl rfl rfl rfl rfl rfl rfl rfl rfl rfl rfl ?_ | refine aops_buildArr ty_ok rfl rfl rfl rfl rfl rfl rfl rfl rfl rfl ?_ | refine aops_indexArr ty_ok rfl rfl rfl rfl rfl rfl rfl rfl rfl rfl sdm ?_ | refine aops_lit0 ty_ok rfl rfl rfl rfl rfl rfl rfl ?_ | refine aops_field ty_ok rfl rfl rfl rfl rfl rfl rfl rfl rfl rfl ?_ | refine aops_cutE ty_ok rfl rfl rfl rfl rfl rfl rfl rfl rfl sdm rfl ?_ | ((fail_if_success (refine aops_known rfl ?_)); (refine aops_split ty_ok rfl rfl rfl rfl rfl rfl (fun hc => ⟨?_, ?_⟩) (fun hc => ⟨?_, ?_⟩)) <;> (try simp only [nms, reduceCtorEq] at hc) <;> (try (exfalso; omega)) <;> (try exact sdm)))) | ((with_reducible show HeadT _ _ _ _ _ _ _ _ _ _); (first | refine head_end ?_ | refine head_goP ty_ok rfl rfl sdm ?_ | refine head_gate ty_ok rfl rfl rfl sdm ?_ | refine head_callE (ty := ty) rfl rfl rfl rfl rfl rfl rfl (hc1) rfl ?_ | refine head_callE (ty := ty) rfl rfl rfl rfl rfl rfl rfl (hf) rfl ?_ | ((fail_if_success (refine head_known rfl ?_)); (refine head_split ty_ok rfl rfl rfl rfl (fun hc => ⟨?_, ?_⟩) (fun hc => ⟨?_, ?_⟩)) <;> (try simp only [nms, reduceCtorEq] at hc) <;> (try (exfalso; omega)) <;> (try exact sdm)))) | ((fail_if_success (with_reducible show AWp _ _ _ _ _)); (fail_if_success (with_reducible show AOps _ _ _ _ _ _)); (fail_if_success (with_reducible show HeadT _ _ _ _ _ _ _ _ _ _)); (first | (show AWp _ _ _ _ _) | (show AOps _ _ _ _ _ _) | refine st_go rfl rfl rfl rfl rfl rfl rfl ?_)))
        rw [spD, show i + (cut b i j).length = j by omega]
        rfl
      · simp only
        rw [if_neg (by omega)]
        have hw : j - (cut b i j).length = i := by omega
        rw [hw]
        have hcl := cut_len (cut b i j) s (s + n) (by omega)
        have hcc : cut (cut b i j) s (s + n) = cut b (i + s) (i + s + n) := by rw [cut_cut _ _ _ _ _ (by omega), Nat.add_assoc]
        have hcl : (cut (cut b i j) s (s + n)).length = n := by rw [cut_len _ _ _ (by omega)]; omega
        obtain ⟨C, hC⟩ : ∃ C, cut (cut b i j) s (s + n) = C := ⟨_, rfl⟩
        rw [hC] at hcc hcl
        simp only [hC]
        cases hcon : conB x with
        | false =>
          rw [hdD, hdrD, hcon] at hc1
          have hc2 := c_clone (Γ.at 0) C (by omega)
          have hcut2 : cutL (bys b) ((i : Int) + (s : Int)).toNat ((i : Int) + (s : Int) + (n : Int)).toNat = bys C := by
            rw [cutL_bys, show ((i : Int) + (s : Int)).toNat = i + s by omega, show ((i : Int) + (s : Int) + (n : Int)).toNat = i + s + n by omega, hcc]
            rfl
          rw [← hcut2] at hc2
          repeat' (first | ((with_reducible show AWp _ _ _ _ _); (first | refine awp_seq ?_ | refine awp_block ?_ | refine awp_skip ?_ | refine awp_exit ?_ | refine awp_scope ?_ | refine awp_label ?_ | refine awp_run ty_ok rfl sdm ?_ | refine awp_ret ⟨_, _, rfl, rfl, ?_⟩ | refine awp_ret ⟨_, rfl, ?_⟩ | ((refine awp_cond (ty := ty) rfl (fun hc => ?_) (fun hc => ?_)) <;> (try simp only [nms, reduceCtorEq] at hc) <;> (try (exfalso; omega))) | refine awp_anyS 3 2 ty_ok mixed rfl rfl rfl rfl rfl rfl rfl rfl rfl (by kernel_rfl) ?_)) | ((with_reducible show AOps _ _ _ _ _ _); (first | refine aops_nil ?_ | refine aops_go ty_ok rfl rfl sdm ?_ | refine aops_gate ty_ok rfl rfl rfl sdm ?_ | refine aops_callE (ty := ty) rfl rfl rfl rfl rfl rfl rfl (hc1) rfl ?_ | refine aops_callE (ty := ty) rfl rfl rfl rfl rfl rfl rfl (hc2) rfl ?_ | refine aops_litE ty_ok rfl rfl rfl rfl rfl rfl rfl rfl rfl rfl rfl rfl ?_ | refine aops_litA ty_ok rfl rfl rfl rfl rfl rfl rfl rfl rfl rfl rfl rfl rfl rfl rfl rfl ?_ | refine aops_buildArr ty_ok rfl rfl rfl rfl rfl rfl rfl rfl rfl rfl ?_ | refine aops_indexArr ty_ok rfl rfl rfl rfl rfl rfl rfl rfl rfl rfl sdm ?_ | refine aops_lit0 ty_ok rfl rfl rfl rfl rfl rfl rfl ?_ | refine aops_field ty_ok rfl rfl rfl rfl rfl rfl rfl rfl rfl rfl ?_ | refine aops_cutE ty_ok rfl rfl rfl rfl rfl rfl rfl rfl rfl sdm rfl ?_ | ((fail_if_success (refine aops_known rfl ?_)); (refine aops_split ty_ok rfl rfl rfl rfl rfl rfl (fun hc => ⟨?_, ?_⟩) (fun hc => ⟨?_, ?_⟩)) <;> (try simp only [nms, reduceCtorEq] at hc) <;> (try (exfalso; omega)) <;> (try exact sdm)))) | ((with_reducible show HeadT _ _ _ _ _ _ _ _ _ _); (first | refine head_end ?_ | refine head_goP ty_ok rfl rfl sdm ?_ | refine head_gate ty_ok rfl rfl rfl sdm ?_ | refine head_callE (ty := ty) rfl rfl rfl rfl rfl rfl rfl (hc1) rfl ?_ | refine head_callE (ty := ty) rfl rfl rfl rfl rfl rfl rfl (hc2) rfl ?_ | ((fail_if_success (refine head_known rfl ?_)); (refine head_split ty_ok rfl rfl rfl rfl (fun hc => ⟨?_, ?_⟩) (fun hc => ⟨?_, ?_⟩)) <;> (try simp only [nms, reduceCtorEq] at hc) <;> (try (exfalso; omega)) <;> (try exact sdm)))) | ((fail_if_success (with_reducible show AWp _ _ _ _ _)); (fail_if_success (with_reducible show AOps _ _ _ _ _ _)); (fail_if_success (with_reducible show HeadT _ _ _ _ _ _ _ _ _ _)); (first | (show AWp _ _ _ _ _) | (show AOps _ _ _ _ _ _) | refine st_go rfl rfl rfl rfl rfl rfl rfl ?_)))
          rw [hcut2]
          simp only [spD, spotD, hcon]
          rfl
        | true =>
          rw [hdD, hdrD, hcon] at hc1
          repeat' (first | ((with_reducible show AWp _ _ _ _ _); (first | refine awp_seq ?_ | refine awp_block ?_ | refine awp_skip ?_ | refine awp_exit ?_ | refine awp_scope ?_ | refine awp_label ?_ | refine awp_run ty_ok rfl sdm ?_ | refine awp_ret ⟨_, _, rfl, rfl, ?_⟩ | refine awp_ret ⟨_, rfl, ?_⟩ | ((refine awp_cond (ty := ty) rfl (fun hc => ?_) (fun hc => ?_)) <;> (try simp only [nms, reduceCtorEq] at hc) <;> (try (exfalso; omega))) | refine awp_anyS 3 2 ty_ok mixed rfl rfl rfl rfl rfl rfl rfl rfl rfl (by kernel_rfl) ?_)) | ((with_reducible show AOps _ _ _ _ _ _); (first | refine aops_nil ?_ | refine aops_go ty_ok rfl rfl sdm ?_ | refine aops_gate ty_ok rfl rfl rfl sdm ?_ | refine aops_callE (ty := ty) rfl rfl rfl rfl rfl rfl rfl (hc1) rfl ?_ | refine aops_litE ty_ok rfl rfl rfl rfl rfl rfl rfl rfl rfl rfl rfl rfl ?_ | refine aops_litA ty_ok rfl rfl rfl rfl rfl rfl rfl rfl rfl rfl rfl rfl rfl rfl rfl rfl ?_ | refine aops_buildArr ty_ok rfl rfl rfl rfl rfl rfl rfl rfl rfl rfl ?_ | refine aops_indexArr ty_ok rfl rfl rfl rfl rfl rfl rfl rfl rfl rfl sdm ?_ | refine aops_lit0 ty_ok rfl rfl rfl rfl rfl rfl rfl ?_ | refine aops_field ty_ok rfl rfl rfl rfl rfl rfl rfl rfl rfl rfl ?_ | refine aops_cutE ty_ok rfl rfl rfl rfl rfl rfl rfl rfl rfl sdm rfl ?_ | ((fail_if_success (refine aops_known rfl ?_)); (refine aops_split ty_ok rfl rfl rfl rfl rfl rfl (fun hc => ⟨?_, ?_⟩) (fun hc => ⟨?_, ?_⟩)) <;> (try simp only [nms, reduceCtorEq] at hc) <;> (try (exfalso; omega)) <;> (try exact sdm)))) | ((with_reducible show HeadT _ _ _ _ _ _ _ _ _ _); (first | refine head_end ?_ | refine head_goP ty_ok rfl rfl sdm ?_ | refine head_gate ty_ok rfl rfl rfl sdm ?_ | refine head_callE (ty := ty) rfl rfl rfl rfl rfl rfl rfl (hc1) rfl ?_ | ((fail_if_success (refine head_known rfl ?_)); (refine head_split ty_ok rfl rfl rfl rfl (fun hc => ⟨?_, ?_⟩) (fun hc => ⟨?_, ?_⟩)) <;> (try simp only [nms, reduceCtorEq] at hc) <;> (try (exfalso; omega)) <;> (try exact sdm)))) | ((fail_if_success (with_reducible show AWp _ _ _ _ _)); (fail_if_success (with_reducible show AOps _ _ _ _ _ _)); (fail_if_success (with_reducible show HeadT _ _ _ _ _ _ _ _ _ _)); (first | (show AWp _ _ _ _ _) | (show AOps _ _ _ _ _ _) | refine st_go rfl rfl rfl rfl rfl rfl rfl ?_)))
          refine awp_nilcell 4 6 73 rfl rfl rfl rfl ?_
          refine awp_nilcell 4 7 101 rfl rfl rfl rfl ?_
          refine awp_loopR (G := { p : List Dat × Nat // p.2 ≤ n ∧ p.1.length ≤ p.2 ∧ ∃ k, n - p.2 ≤ k ∧ kdT (rdS d (i + s + n)) s C n 0 = shK p.1 (kdT (rdS d (i + s + n)) s C k p.2) }) (fun p => ⟨Tryz.f85.ntmps, [(0, .d (.sl none (bys b))), (3, .d (.int .i64 ((d + 1 : Nat) : Int))), (8, .ptr 0 0), (9, .ptr 1 0), (13, .d (.int .i64 ((i + s + p.1.2 : Nat) : Int))), (14, .ptr 2 0)], [(0, .box 101 [.d (.int .i64 0), .d (.int .i64 0), .d (.int .i64 0), .d (.int .i64 0), .d (.bool false), .nil none, .nil (some 5), .nil (some 8)]), (1, .box 32 [.d (.int .i64 0), .d (.int .i64 0)]), (2, .box 101 [.d (.int .i64 i), .d (.int .i64 ((i : Int) + (s : Int) + (n : Int))), .d (clsD x), .d (numD x), .d (.bool true), .nil none, .ref 3, .ref 4]), (3, .row (some 5) 73 (p.1.1.map nodeOf)), (4, .row (some 8) 101 p.1.1)], 5⟩) (fun p => n - p.1.2) ⟨([], 0), Nat.zero_le _, Nat.zero_le _, n, by simp only; omega, by
              cases kdT (rdS d (i + s + n)) s C n 0 <;> rfl⟩ [(0, 0), (1, 1), (4, 2), (5, 3), (6, 4)]
            (SubR.mk' rfl rfl ⟨⟨_, rfl, rfl⟩, ⟨_, rfl, rfl⟩, ⟨_, rfl, rfl⟩, ⟨_, rfl, rfl⟩, ⟨_, rfl, rfl⟩, ⟨_, rfl, rfl⟩, trivial⟩ ⟨⟨_, _, rfl, rfl, rfl⟩, ⟨_, _, rfl, rfl, rfl⟩, ⟨_, _, rfl, rfl, rfl⟩, ⟨_, _, rfl, rfl, rfl⟩, ⟨_, _, rfl, rfl, rfl⟩, trivial⟩) ?_
          rintro ⟨⟨acc, q⟩, hq, hacc, k, hk, hl2⟩
          dsimp only at hq hacc hk hl2 ⊢
          by_cases hqc : q < n
          · obtain ⟨k, rfl⟩ : ∃ k', k = k' + 1 := ⟨k - 1, by omega⟩
            rw [kdT, if_pos (by omega)] at hl2
            have hcq : cut b (i + s + q) (i + s + n) = C.drop q := cut_drop (p := C.take q) (by rw [List.take_append_drop, ← hcc]) (by rw [List.length_take]; omega)
            have hc2 := c_tread (Γ.at 0) d (by omega) b (i + s + q) (i + s + n) (by omega) (by omega) hb
            rw [hcq] at hc2
            have hd1 : ((d + 1 : Nat) : Int) - 1 = (d : Int) := by omega
            have he1 : ((i + s + n : Nat) : Int) = (i : Int) + (s : Int) + (n : Int) := by omega
            rw [← hd1, he1] at hc2
            cases hr : rdS d (i + s + n) (C.drop q) with
            | bad e o =>
              rw [hr] at hl2 hc2
              have := rdS_bad hr
              rw [List.length_drop] at this
              repeat' (first | ((with_reducible show AWp _ _ _ _ _); (first | refine awp_seq ?_ | refine awp_block ?_ | refine awp_skip ?_ | refine awp_exit ?_ | refine awp_scope ?_ | refine awp_label ?_ | refine awp_run ty_ok rfl sdm ?_ | refine awp_ret ⟨_, _, rfl, rfl, ?_⟩ | refine awp_ret ⟨_, rfl, ?_⟩ | ((refine awp_cond (ty := ty) rfl (fun hc => ?_) (fun hc => ?_)) <;> (try simp only [nms, reduceCtorEq] at hc) <;> (try (exfalso; omega))) | refine awp_anyS 3 2 ty_ok mixed rfl rfl rfl rfl rfl rfl rfl rfl rfl (by kernel_rfl) ?_)) | ((with_reducible show AOps _ _ _ _ _ _); (first | refine aops_nil ?_ | refine aops_go ty_ok rfl rfl sdm ?_ | refine aops_gate ty_ok rfl rfl rfl sdm ?_ | refine aops_callE (ty := ty) rfl rfl rfl rfl rfl rfl rfl (hc2) rfl ?_ | refine aops_litE ty_ok rfl rfl rfl rfl rfl rfl rfl rfl rfl rfl rfl rfl ?_ | refine aops_litA ty_ok rfl rfl rfl rfl rfl rfl rfl rfl rfl rfl rfl rfl rfl rfl rfl rfl ?_ | refine aops_buildArr ty_ok rfl rfl rfl rfl rfl rfl rfl rfl rfl rfl ?_ | refine aops_indexArr ty_ok rfl rfl rfl rfl rfl rfl rfl rfl rfl rfl sdm ?_ | refine aops_lit0 ty_ok rfl rfl rfl rfl rfl rfl rfl ?_ | refine aops_field ty_ok rfl rfl rfl rfl rfl rfl rfl rfl rfl rfl ?_ | refine aops_cutE ty_ok rfl rfl rfl rfl rfl rfl rfl rfl rfl sdm rfl ?_ | ((fail_if_success (refine aops_known rfl ?_)); (refine aops_split ty_ok rfl rfl rfl rfl rfl rfl (fun hc => ⟨?_, ?_⟩) (fun hc => ⟨?_, ?_⟩)) <;> (try simp only [nms, reduceCtorEq] at hc) <;> (try (exfalso; omega)) <;> (try exact sdm)))) | ((with_reducible show HeadT _ _ _ _ _ _ _ _ _ _); (first | refine head_end ?_ | refine head_goP ty_ok rfl rfl sdm ?_ | refine head_gate ty_ok rfl rfl rfl sdm ?_ | refine head_callE (ty := ty) rfl rfl rfl rfl rfl rfl rfl (hc2) rfl ?_ | ((fail_if_success (refine head_known rfl ?_)); (refine head_split ty_ok rfl rfl rfl rfl (fun hc => ⟨?_, ?_⟩) (fun hc => ⟨?_, ?_⟩)) <;> (try simp only [nms, reduceCtorEq] at hc) <;> (try (exfalso; omega)) <;> (try exact sdm)))) | ((fail_if_success (with_reducible show AWp _ _ _ _ _)); (fail_if_success (with_reducible show AOps _ _ _ _ _ _)); (fail_if_success (with_reducible show HeadT _ _ _ _ _ _ _ _ _ _)); (first | (show AWp _ _ _ _ _) | (show AOps _ _ _ _ _ _) | refine st_go rfl rfl rfl rfl rfl rfl rfl ?_)))
              rw [hl2]
              simp only [shK, spD, spot0, errD]
              rw [show i + s + q + o = i + (s + q + o) by omega]
            | ok pr =>
              obtain ⟨nd, sz⟩ := pr
              rw [hr] at hl2 hc2
              simp only at hl2
              obtain ⟨h1, h2, h3, kx, kc, kks, kss, rfl⟩ := rdS_ok hr
              rw [List.length_drop] at h2
              have hw2 : i + s + n - (C.drop q).length = i + s + q := by rw [List.length_drop]; omega
              rw [hw2] at hc2 hl2
              repeat' (first | ((with_reducible show AWp _ _ _ _ _); (first | refine awp_seq ?_ | refine awp_block ?_ | refine awp_skip ?_ | refine awp_exit ?_ | refine awp_scope ?_ | refine awp_label ?_ | refine awp_run ty_ok rfl sdm ?_ | refine awp_ret ⟨_, _, rfl, rfl, ?_⟩ | refine awp_ret ⟨_, rfl, ?_⟩ | ((refine awp_cond (ty := ty) rfl (fun hc => ?_) (fun hc => ?_)) <;> (try simp only [nms, reduceCtorEq] at hc) <;> (try (exfalso; omega))) | refine awp_anyS 3 2 ty_ok mixed rfl rfl rfl rfl rfl rfl rfl rfl rfl (by kernel_rfl) ?_)) | ((with_reducible show AOps _ _ _ _ _ _); (first | refine aops_nil ?_ | refine aops_go ty_ok rfl rfl sdm ?_ | refine aops_gate ty_ok rfl rfl rfl sdm ?_ | refine aops_callE (ty := ty) rfl rfl rfl rfl rfl rfl rfl (hc2) rfl ?_ | refine aops_litE ty_ok rfl rfl rfl rfl rfl rfl rfl rfl rfl rfl rfl rfl ?_ | refine aops_litA ty_ok rfl rfl rfl rfl rfl rfl rfl rfl rfl rfl rfl rfl rfl rfl rfl rfl ?_ | refine aops_buildArr ty_ok rfl rfl rfl rfl rfl rfl rfl rfl rfl rfl ?_ | refine aops_indexArr ty_ok rfl rfl rfl rfl rfl rfl rfl rfl rfl rfl sdm ?_ | refine aops_lit0 ty_ok rfl rfl rfl rfl rfl rfl rfl ?_ | refine aops_field ty_ok rfl rfl rfl rfl rfl rfl rfl rfl rfl rfl ?_ | refine aops_cutE ty_ok rfl rfl rfl rfl rfl rfl rfl rfl rfl sdm rfl ?_ | ((fail_if_success (refine aops_known rfl ?_)); (refine aops_split ty_ok rfl rfl rfl rfl rfl rfl (fun hc => ⟨?_, ?_⟩) (fun hc => ⟨?_, ?_⟩)) <;> (try simp only [nms, reduceCtorEq] at hc) <;> (try (exfalso; omega)) <;> (try exact sdm)))) | ((with_reducible show HeadT _ _ _ _ _ _ _ _ _ _); (first | refine head_end ?_ | refine head_goP ty_ok rfl rfl sdm ?_ | refine head_gate ty_ok rfl rfl rfl sdm ?_ | refine head_callE (ty := ty) rfl rfl rfl rfl rfl rfl rfl (hc2) rfl ?_ | ((fail_if_success (refine head_known rfl ?_)); (refine head_split ty_ok rfl rfl rfl rfl (fun hc => ⟨?_, ?_⟩) (fun hc => ⟨?_, ?_⟩)) <;> (try simp only [nms, reduceCtorEq] at hc) <;> (try (exfalso; omega)) <;> (try exact sdm)))) | ((fail_if_success (with_reducible show AWp _ _ _ _ _)); (fail_if_success (with_reducible show AOps _ _ _ _ _ _)); (fail_if_success (with_reducible show HeadT _ _ _ _ _ _ _ _ _ _)); (first | (show AWp _ _ _ _ _) | (show AOps _ _ _ _ _ _) | refine st_go rfl rfl rfl rfl rfl rfl rfl ?_)))
              refine ⟨⟨(acc ++ [spotD (i + s + q) (i + s + q + sz) kx kc kks kss], q + sz), by simp only; omega, by simp; omega, k, by simp only; omega, ?_⟩, [(0, 0), (1, 1), (2, 2), (10, 3), (8, 4)], SubR.mk' rfl rfl ⟨⟨_, rfl, rfl⟩, ⟨_, rfl, rfl⟩, ⟨_, rfl, rfl⟩, ⟨_, rfl, rfl⟩, ⟨_, rfl, congrArg (fun z : Int => AV.d (Dat.int IntKind.i64 z)) ?_⟩, ⟨_, rfl, rfl⟩, trivial⟩ ⟨⟨_, _, rfl, rfl, rfl⟩, ⟨_, _, rfl, rfl, rfl⟩, ⟨_, _, rfl, rfl, rfl⟩, ⟨_, _, rfl, rfl, congrArg (AO.row (some 5) 73) ?_⟩, ⟨_, _, rfl, rfl, rfl⟩, trivial⟩, by simp only; omega⟩
              · rw [hl2]
                simp only
                cases kdT (rdS d (i + s + n)) s C k (q + sz) with
                | bad c o => rfl
                | ok l => simp [shK]
              · show ((i + s + q + sz : Nat) : Int) = ((i + s + (q + sz) : Nat) : Int)
                omega
              · rw [List.map_append]
                rfl
          · have hz : kdT (rdS d (i + s + n)) s C k q = .ok [] := by
              cases k with
              | zero => rfl
              | succ k => rw [kdT, if_neg (by omega)]
            rw [hz] at hl2
            repeat' (first | ((with_reducible show AWp _ _ _ _ _); (first | refine awp_seq ?_ | refine awp_block ?_ | refine awp_skip ?_ | refine awp_exit ?_ | refine awp_scope ?_ | refine awp_label ?_ | refine awp_run ty_ok rfl sdm ?_ | refine awp_ret ⟨_, _, rfl, rfl, ?_⟩ | refine awp_ret ⟨_, rfl, ?_⟩ | ((refine awp_cond (ty := ty) rfl (fun hc => ?_) (fun hc => ?_)) <;> (try simp only [nms, reduceCtorEq] at hc) <;> (try (exfalso; omega))) | refine awp_anyS 3 2 ty_ok mixed rfl rfl rfl rfl rfl rfl rfl rfl rfl (by kernel_rfl) ?_)) | ((with_reducible show AOps _ _ _ _ _ _); (first | refine aops_nil ?_ | refine aops_go ty_ok rfl rfl sdm ?_ | refine aops_gate ty_ok rfl rfl rfl sdm ?_ | refine aops_litE ty_ok rfl rfl rfl rfl rfl rfl rfl rfl rfl rfl rfl rfl ?_ | refine aops_litA ty_ok rfl rfl rfl rfl rfl rfl rfl rfl rfl rfl rfl rfl rfl rfl rfl rfl ?_ | refine aops_buildArr ty_ok rfl rfl rfl rfl rfl rfl rfl rfl rfl rfl ?_ | refine aops_indexArr ty_ok rfl rfl rfl rfl rfl rfl rfl rfl rfl rfl sdm ?_ | refine aops_lit0 ty_ok rfl rfl rfl rfl rfl rfl rfl ?_ | refine aops_field ty_ok rfl rfl rfl rfl rfl rfl rfl rfl rfl rfl ?_ | refine aops_cutE ty_ok rfl rfl rfl rfl rfl rfl rfl rfl rfl sdm rfl ?_ | ((fail_if_success (refine aops_known rfl ?_)); (refine aops_split ty_ok rfl rfl rfl rfl rfl rfl (fun hc => ⟨?_, ?_⟩) (fun hc => ⟨?_, ?_⟩)) <;> (try simp only [nms, reduceCtorEq] at hc) <;> (try (exfalso; omega)) <;> (try exact sdm)))) | ((with_reducible show HeadT _ _ _ _ _ _ _ _ _ _); (first | refine head_end ?_ | refine head_goP ty_ok rfl rfl sdm ?_ | refine head_gate ty_ok rfl rfl rfl sdm ?_ | ((fail_if_success (refine head_known rfl ?_)); (refine head_split ty_ok rfl rfl rfl rfl (fun hc => ⟨?_, ?_⟩) (fun hc => ⟨?_, ?_⟩)) <;> (try simp only [nms, reduceCtorEq] at hc) <;> (try (exfalso; omega)) <;> (try exact sdm)))) | ((fail_if_success (with_reducible show AWp _ _ _ _ _)); (fail_if_success (with_reducible show AOps _ _ _ _ _ _)); (fail_if_success (with_reducible show HeadT _ _ _ _ _ _ _ _ _ _)); (first | (show AWp _ _ _ _ _) | (show AOps _ _ _ _ _ _) | refine st_go rfl rfl rfl rfl rfl rfl rfl ?_)))
            rw [hl2]
            simp only [shK, List.append_nil, spD, spotD, hcon]
            rfl
theorem c_tread_at (Γ : Env) (d : Nat) (hd : d ≤ 60) (b : List UInt8) (hb : b.length ≤ 1000000) {v : Ex (Dat × Nat)} (h : rdS d b.length b = v) : ACalls Tryz.prog Γ 85 [.sl none (bys b), .int .i64 0, .int .i64 (bys b).length, .int .i64 d] (fun r => r = .d (spD 0 v)) := by
  have h1 := c_tread Γ d hd b 0 b.length (Nat.zero_le _) (Nat.le_refl _) hb
  rw [cut_all, h] at h1
  rw [bys_len]
  exact h1
/-- The whole: what Parse hands back beside its offsets. -/
def whS (b : List UInt8) : Ex (Dat × Nat) → Dat
  | .bad c o => .tup [spot0, errD c (0 + o)]
  | .ok (n, s) => if s < b.length then .tup [spot0, errD 2 s] else .tup [n, errD 0 0]
theorem isTWhole : IsFn Tryz.prog 64 Tryz.f64 := ⟨Tryz.func64, by decide, rfl⟩
set_option maxHeartbeats 1000000 in
theorem c_twhole (Γ : Env) (b : List UInt8) (hb : b.length ≤ 1000000) {v : Ex (Dat × Nat)} (h : rdS 16 b.length b = v) : ACalls Tryz.prog Γ 64 [.sl none (bys b)] (fun r => r = .d (whS b v)) := by
  refine acalls_of ty_ok isTWhole rfl rfl ?_
  have hc1 := c_tread_at (Γ.at 0) 16 (by omega) b hb h
  cases v with
  | bad c o =>
    have := rdS_bad h
    repeat' (first | ((with_reducible show AWp _ _ _ _ _); (first | refine awp_seq ?_ | refine awp_block ?_ | refine awp_skip ?_ | refine awp_exit ?_ | refine awp_scope ?_ | refine awp_label ?_ | refine awp_run ty_ok rfl sdm ?_ | refine awp_ret ⟨_, _, rfl, rfl, ?_⟩ | refine awp_ret ⟨_, rfl, ?_⟩ | ((refine awp_cond (ty := ty) rfl (fun hc => ?_) (fun hc => ?_)) <;> (try simp only [nms, reduceCtorEq] at hc) <;> (try (exfalso; omega))) | refine awp_anyS 3 2 ty_ok mixed rfl rfl rfl rfl rfl rfl rfl rfl rfl (by kernel_rfl) ?_)) | ((with_reducible show AOps _ _ _ _ _ _); (first | refine aops_nil ?_ | refine aops_go ty_ok rfl rfl sdm ?_ | refine aops_gate ty_ok rfl rfl rfl sdm ?_ | refine aops_callE (ty := ty) rfl rfl rfl rfl rfl rfl rfl (hc1) rfl ?_ | refine aops_litE ty_ok rfl rfl rfl rfl rfl rfl rfl rfl rfl rfl rfl rfl ?_ | refine aops_litA ty_ok rfl rfl rfl rfl rfl rfl rfl rfl rfl rfl rfl rfl rfl rfl rfl rfl ?_ | refine aops_buildArr ty_ok rfl rfl rfl rfl rfl rfl rfl rfl rfl rfl ?_ | refine aops_indexArr ty_ok rfl rfl rfl rfl rfl rfl rfl rfl rfl rfl sdm ?_ | refine aops_lit0 ty_ok rfl rfl rfl rfl rfl rfl rfl ?_ | refine aops_field ty_ok rfl rfl rfl rfl rfl rfl rfl rfl rfl rfl ?_ | refine aops_cutE ty_ok rfl rfl rfl rfl rfl rfl rfl rfl rfl sdm rfl ?_ | ((fail_if_success (refine aops_known rfl ?_)); (refine aops_split ty_ok rfl rfl rfl rfl rfl rfl (fun hc => ⟨?_, ?_⟩) (fun hc => ⟨?_, ?_⟩)) <;> (try simp only [nms, reduceCtorEq] at hc) <;> (try (exfalso; omega)) <;> (try exact sdm)))) | ((with_reducible show HeadT _ _ _ _ _ _ _ _ _ _); (first | refine head_end ?_ | refine head_goP ty_ok rfl rfl sdm ?_ | refine head_gate ty_ok rfl rfl rfl sdm ?_ | refine head_callE (ty := ty) rfl rfl rfl rfl rfl rfl rfl (hc1) rfl ?_ | ((fail_if_success (refine head_known rfl ?_)); (refine head_split ty_ok rfl rfl rfl rfl (fun hc => ⟨?_, ?_⟩) (fun hc => ⟨?_, ?_⟩)) <;> (try simp only [nms, reduceCtorEq] at hc) <;> (try (exfalso; omega)) <;> (try exact sdm)))) | ((fail_if_success (with_reducible show AWp _ _ _ _ _)); (fail_if_success (with_reducible show AOps _ _ _ _ _ _)); (fail_if_success (with_reducible show HeadT _ _ _ _ _ _ _ _ _ _)); (first | (show AWp _ _ _ _ _) | (show AOps _ _ _ _ _ _) | refine st_go rfl rfl rfl rfl rfl rfl rfl ?_)))
    rfl
  | ok p =>
    obtain ⟨n, s⟩ := p
    obtain ⟨h1, h2, h3, x, c, ks, ss, rfl⟩ := rdS_ok h
    rw [Nat.sub_self] at hc1 ⊢
    rw [whS]
    have hz : ((0 + s : Nat) : Int) = (s : Int) := by omega
    by_cases hs : s < b.length
    · rw [if_pos hs]
      repeat' (first | ((with_reducible show AWp _ _ _ _ _); (first | refine awp_seq ?_ | refine awp_block ?_ | refine awp_skip ?_ | refine awp_exit ?_ | refine awp_scope ?_ | refine awp_label ?_ | refine awp_run ty_ok rfl sdm ?_ | refine awp_ret ⟨_, _, rfl, rfl, ?_⟩ | refine awp_ret ⟨_, rfl, ?_⟩ | ((refine awp_cond (ty := ty) rfl (fun hc => ?_) (fun hc => ?_)) <;> (try simp only [nms, reduceCtorEq] at hc) <;> (try (exfalso; omega))) | refine awp_anyS 3 2 ty_ok mixed rfl rfl rfl rfl rfl rfl rfl rfl rfl (by kernel_rfl) ?_ | refine awp_anyS 5 4 ty_ok mixed rfl rfl rfl rfl rfl rfl rfl rfl rfl (by kernel_rfl) ?_)) | ((with_reducible show AOps _ _ _ _ _ _); (first | refine aops_nil ?_ | refine aops_go ty_ok rfl rfl sdm ?_ | refine aops_gate ty_ok rfl rfl rfl sdm ?_ | refine aops_callE (ty := ty) rfl rfl rfl rfl rfl rfl rfl (hc1) rfl ?_ | refine aops_litE ty_ok rfl rfl rfl rfl rfl rfl rfl rfl rfl rfl rfl rfl ?_ | refine aops_litA ty_ok rfl rfl rfl rfl rfl rfl rfl rfl rfl rfl rfl rfl rfl rfl rfl rfl ?_ | refine aops_buildArr ty_ok rfl rfl rfl rfl rfl rfl rfl rfl rfl rfl ?_ | refine aops_indexArr ty_ok rfl rfl rfl rfl rfl rfl rfl rfl rfl rfl sdm ?_ | refine aops_lit0 ty_ok rfl rfl rfl rfl rfl rfl rfl ?_ | refine aops_field ty_ok rfl rfl rfl rfl rfl rfl rfl rfl rfl rfl ?_ | refine aops_cutE ty_ok rfl rfl rfl rfl rfl rfl rfl rfl rfl sdm rfl ?_ | ((fail_if_success (refine aops_known rfl ?_)); (refine aops_split ty_ok rfl rfl rfl rfl rfl rfl (fun hc => ⟨?_, ?_⟩) (fun hc => ⟨?_, ?_⟩)) <;> (try simp only [nms, reduceCtorEq] at hc) <;> (try (exfalso; omega)) <;> (try exact sdm)))) | ((with_reducible show HeadT _ _ _ _ _ _ _ _ _ _); (first | refine head_end ?_ | refine head_goP ty_ok rfl rfl sdm ?_ | refine head_gate ty_ok rfl rfl rfl sdm ?_ | refine head_callE (ty := ty) rfl rfl rfl rfl rfl rfl rfl (hc1) rfl ?_ | ((fail_if_success (refine head_known rfl ?_)); (refine head_split ty_ok rfl rfl rfl rfl (fun hc => ⟨?_, ?_⟩) (fun hc => ⟨?_, ?_⟩)) <;> (try simp only [nms, reduceCtorEq] at hc) <;> (try (exfalso; omega)) <;> (try exact sdm)))) | ((fail_if_success (with_reducible show AWp _ _ _ _ _)); (fail_if_success (with_reducible show AOps _ _ _ _ _ _)); (fail_if_success (with_reducible show HeadT _ _ _ _ _ _ _ _ _ _)); (first | (show AWp _ _ _ _ _) | (show AOps _ _ _ _ _ _) | refine st_go rfl rfl rfl rfl rfl rfl rfl ?_)))
      rw [hz]
      rfl
    · rw [if_neg hs]
      repeat' (first | ((with_reducible show AWp _ _ _ _ _); (first | refine awp_seq ?_ | refine awp_block ?_ | refine awp_skip ?_ | refine awp_exit ?_ | refine awp_scope ?_ | refine awp_label ?_ | refine awp_run ty_ok rfl sdm ?_ | refine awp_ret ⟨_, _, rfl, rfl, ?_⟩ | refine awp_ret ⟨_, rfl, ?_⟩ | ((refine awp_cond (ty := ty) rfl (fun hc => ?_) (fun hc => ?_)) <;> (try simp only [nms, reduceCtorEq] at hc) <;> (try (exfalso; omega))) | refine awp_anyS 3 2 ty_ok mixed rfl rfl rfl rfl rfl rfl rfl rfl rfl (by kernel_rfl) ?_ | refine awp_anyS 5 4 ty_ok mixed rfl rfl rfl rfl rfl rfl rfl rfl rfl (by kernel_rfl) ?_)) | ((with_reducible show AOps _ _ _ _ _ _); (first | refine aops_nil ?_ | refine aops_go ty_ok rfl rfl sdm ?_ | refine aops_gate ty_ok rfl rfl rfl sdm ?_ | refine aops_callE (ty := ty) rfl rfl rfl rfl rfl rfl rfl (hc1) rfl ?_ | refine aops_litE ty_ok rfl rfl rfl rfl rfl rfl rfl rfl rfl rfl rfl rfl ?_ | refine aops_litA ty_ok rfl rfl rfl rfl rfl rfl rfl rfl rfl rfl rfl rfl rfl rfl rfl rfl ?_ | refine aops_buildArr ty_ok rfl rfl rfl rfl rfl rfl rfl rfl rfl rfl ?_ | refine aops_indexArr ty_ok rfl rfl rfl rfl rfl rfl rfl rfl rfl rfl sdm ?_ | refine aops_lit0 ty_ok rfl rfl rfl rfl rfl rfl rfl ?_ | refine aops_field ty_ok rfl rfl rfl rfl rfl rfl rfl rfl rfl rfl ?_ | refine aops_cutE ty_ok rfl rfl rfl rfl rfl rfl rfl rfl rfl sdm rfl ?_ | ((fail_if_success (refine aops_known rfl ?_)); (refine aops_split ty_ok rfl rfl rfl rfl rfl rfl (fun hc => ⟨?_, ?_⟩) (fun hc => ⟨?_, ?_⟩)) <;> (try simp only [nms, reduceCtorEq] at hc) <;> (try (exfalso; omega)) <;> (try exact sdm)))) | ((with_reducible show HeadT _ _ _ _ _ _ _ _ _ _); (first | refine head_end ?_ | refine head_goP ty_ok rfl rfl sdm ?_ | refine head_gate ty_ok rfl rfl rfl sdm ?_ | refine head_callE (ty := ty) rfl rfl rfl rfl rfl rfl rfl (hc1) rfl ?_ | ((fail_if_success (refine head_known rfl ?_)); (refine head_split ty_ok rfl rfl rfl rfl (fun hc => ⟨?_, ?_⟩) (fun hc => ⟨?_, ?_⟩)) <;> (try simp only [nms, reduceCtorEq] at hc) <;> (try (exfalso; omega)) <;> (try exact sdm)))) | ((fail_if_success (with_reducible show AWp _ _ _ _ _)); (fail_if_success (with_reducible show AOps _ _ _ _ _ _)); (fail_if_success (with_reducible show HeadT _ _ _ _ _ _ _ _ _ _)); (first | (show AWp _ _ _ _ _) | (show AOps _ _ _ _ _ _) | refine st_go rfl rfl rfl rfl rfl rfl rfl ?_)))
      rfl
theorem isTParse : IsFn Tryz.prog 43 Tryz.f43 := ⟨Tryz.func43, by decide, rfl⟩
theorem c_tparse_at (Γ : Env) (b : List UInt8) (hb : b.length ≤ 1000000) {v : Ex Dat} (h : wiF 16 b = v) : ACalls Tryz.prog Γ 43 [.sl none (bys b)] (fun r => r = .d (wiD v)) := by
  refine acalls_of ty_ok isTParse rfl rfl ?_
  subst h
  have hr := rdS_rd 16 b.length b
  rw [wiF, hr]
  cases hS : rdS 16 b.length b with
  | bad c o =>
    have := rdS_bad hS
    have hc1 := c_twhole (Γ.at 0) b hb hS
    rw [whS, Nat.zero_add] at hc1
    repeat' (first | ((with_reducible show AWp _ _ _ _ _); (first | refine awp_seq ?_ | refine awp_block ?_ | refine awp_skip ?_ | refine awp_exit ?_ | refine awp_scope ?_ | refine awp_label ?_ | refine awp_run ty_ok rfl sdm ?_ | refine awp_ret ⟨_, _, rfl, rfl, ?_⟩ | refine awp_ret ⟨_, rfl, ?_⟩ | ((refine awp_cond (ty := ty) rfl (fun hc => ?_) (fun hc => ?_)) <;> (try simp only [nms, reduceCtorEq] at hc) <;> (try (exfalso; omega))) | refine awp_anyS 4 3 ty_ok mixed rfl rfl rfl rfl rfl rfl rfl rfl rfl (by kernel_rfl) ?_)) | ((with_reducible show AOps _ _ _ _ _ _); (first | refine aops_nil ?_ | refine aops_go ty_ok rfl rfl sdm ?_ | refine aops_gate ty_ok rfl rfl rfl sdm ?_ | refine aops_callE (ty := ty) rfl rfl rfl rfl rfl rfl rfl (hc1) rfl ?_ | refine aops_litE ty_ok rfl rfl rfl rfl rfl rfl rfl rfl rfl rfl rfl rfl ?_ | refine aops_litA ty_ok rfl rfl rfl rfl rfl rfl rfl rfl rfl rfl rfl rfl rfl rfl rfl rfl ?_ | refine aops_buildArr ty_ok rfl rfl rfl rfl rfl rfl rfl rfl rfl rfl ?_ | refine aops_indexArr ty_ok rfl rfl rfl rfl rfl rfl rfl rfl rfl rfl sdm ?_ | refine aops_lit0 ty_ok rfl rfl rfl rfl rfl rfl rfl ?_ | refine aops_field ty_ok rfl rfl rfl rfl rfl rfl rfl rfl rfl rfl ?_ | refine aops_cutE ty_ok rfl rfl rfl rfl rfl rfl rfl rfl rfl sdm rfl ?_ | ((fail_if_success (refine aops_known rfl ?_)); (refine aops_split ty_ok rfl rfl rfl rfl rfl rfl (fun hc => ⟨?_, ?_⟩) (fun hc => ⟨?_, ?_⟩)) <;> (try simp only [nms, reduceCtorEq] at hc) <;> (try (exfalso; omega)) <;> (try exact sdm)))) | ((with_reducible show HeadT _ _ _ _ _ _ _ _ _ _); (first | refine head_end ?_ | refine head_goP ty_ok rfl rfl sdm ?_ | refine head_gate ty_ok rfl rfl rfl sdm ?_ | refine head_callE (ty := ty) rfl rfl rfl rfl rfl rfl rfl (hc1) rfl ?_ | ((fail_if_success (refine head_known rfl ?_)); (refine head_split ty_ok rfl rfl rfl rfl (fun hc => ⟨?_, ?_⟩) (fun hc => ⟨?_, ?_⟩)) <;> (try simp only [nms, reduceCtorEq] at hc) <;> (try (exfalso; omega)) <;> (try exact sdm)))) | ((fail_if_success (with_reducible show AWp _ _ _ _ _)); (fail_if_success (with_reducible show AOps _ _ _ _ _ _)); (fail_if_success (with_reducible show HeadT _ _ _ _ _ _ _ _ _ _)); (first | (show AWp _ _ _ _ _) | (show AOps _ _ _ _ _ _) | refine st_go rfl rfl rfl rfl rfl rfl rfl ?_)))
    rfl
  | ok p =>
    obtain ⟨n, s⟩ := p
    have hc1 := c_twhole (Γ.at 0) b hb hS
    obtain ⟨h1, h2, h3, x, c, ks, ss, rfl⟩ := rdS_ok hS
    rw [whS] at hc1
    simp only [exN]
    by_cases hs : s < b.length
    · rw [if_pos hs] at hc1 ⊢
      repeat' (first | ((with_reducible show AWp _ _ _ _ _); (first | refine awp_seq ?_ | refine awp_block ?_ | refine awp_skip ?_ | refine awp_exit ?_ | refine awp_scope ?_ | refine awp_label ?_ | refine awp_run ty_ok rfl sdm ?_ | refine awp_ret ⟨_, _, rfl, rfl, ?_⟩ | refine awp_ret ⟨_, rfl, ?_⟩ | ((refine awp_cond (ty := ty) rfl (fun hc => ?_) (fun hc => ?_)) <;> (try simp only [nms, reduceCtorEq] at hc) <;> (try (exfalso; omega))) | refine awp_anyS 4 3 ty_ok mixed rfl rfl rfl rfl rfl rfl rfl rfl rfl (by kernel_rfl) ?_)) | ((with_reducible show AOps _ _ _ _ _ _); (first | refine aops_nil ?_ | refine aops_go ty_ok rfl rfl sdm ?_ | refine aops_gate ty_ok rfl rfl rfl sdm ?_ | refine aops_callE (ty := ty) rfl rfl rfl rfl rfl rfl rfl (hc1) rfl ?_ | refine aops_litE ty_ok rfl rfl rfl rfl rfl rfl rfl rfl rfl rfl rfl rfl ?_ | refine aops_litA ty_ok rfl rfl rfl rfl rfl rfl rfl rfl rfl rfl rfl rfl rfl rfl rfl rfl ?_ | refine aops_buildArr ty_ok rfl rfl rfl rfl rfl rfl rfl rfl rfl rfl ?_ | refine aops_indexArr ty_ok rfl rfl rfl rfl rfl rfl rfl rfl rfl rfl sdm ?_ | refine aops_lit0 ty_ok rfl rfl rfl rfl rfl rfl rfl ?_ | refine aops_field ty_ok rfl rfl rfl rfl rfl rfl rfl rfl rfl rfl ?_ | refine aops_cutE ty_ok rfl rfl rfl rfl rfl rfl rfl rfl rfl sdm rfl ?_ | ((fail_if_success (refine aops_known rfl ?_)); (refine aops_split ty_ok rfl rfl rfl rfl rfl rfl (fun hc => ⟨?_, ?_⟩) (fun hc => ⟨?_, ?_⟩)) <;> (try simp only [nms, reduceCtorEq] at hc) <;> (try (exfalso; omega)) <;> (try exact sdm)))) | ((with_reducible show HeadT _ _ _ _ _ _ _ _ _ _); (first | refine head_end ?_ | refine head_goP ty_ok rfl rfl sdm ?_ | refine head_gate ty_ok rfl rfl rfl sdm ?_ | refine head_callE (ty := ty) rfl rfl rfl rfl rfl rfl rfl (hc1) rfl ?_ | ((fail_if_success (refine head_known rfl ?_)); (refine head_split ty_ok rfl rfl rfl rfl (fun hc => ⟨?_, ?_⟩) (fun hc => ⟨?_, ?_⟩)) <;> (try simp only [nms, reduceCtorEq] at hc) <;> (try (exfalso; omega)) <;> (try exact sdm)))) | ((fail_if_success (with_reducible show AWp _ _ _ _ _)); (fail_if_success (with_reducible show AOps _ _ _ _ _ _)); (fail_if_success (with_reducible show HeadT _ _ _ _ _ _ _ _ _ _)); (first | (show AWp _ _ _ _ _) | (show AOps _ _ _ _ _ _) | refine st_go rfl rfl rfl rfl rfl rfl rfl ?_)))
      rfl
    · rw [if_neg hs] at hc1 ⊢
      repeat' (first | ((with_reducible show AWp _ _ _ _ _); (first | refine awp_seq ?_ | refine awp_block ?_ | refine awp_skip ?_ | refine awp_exit ?_ | refine awp_scope ?_ | refine awp_label ?_ | refine awp_run ty_ok rfl sdm ?_ | refine awp_ret ⟨_, _, rfl, rfl, ?_⟩ | refine awp_ret ⟨_, rfl, ?_⟩ | ((refine awp_cond (ty := ty) rfl (fun hc => ?_) (fun hc => ?_)) <;> (try simp only [nms, reduceCtorEq] at hc) <;> (try (exfalso; omega))) | refine awp_anyS 4 3 ty_ok mixed rfl rfl rfl rfl rfl rfl rfl rfl rfl (by kernel_rfl) ?_)) | ((with_reducible show AOps _ _ _ _ _ _); (first | refine aops_nil ?_ | refine aops_go ty_ok rfl rfl sdm ?_ | refine aops_gate ty_ok rfl rfl rfl sdm ?_ | refine aops_callE (ty := ty) rfl rfl rfl rfl rfl rfl rfl (hc1) rfl ?_ | refine aops_litE ty_ok rfl rfl rfl rfl rfl rfl rfl rfl rfl rfl rfl rfl ?_ | refine aops_litA ty_ok rfl rfl rfl rfl rfl rfl rfl rfl rfl rfl rfl rfl rfl rfl rfl rfl ?_ | refine aops_buildArr ty_ok rfl rfl rfl rfl rfl rfl rfl rfl rfl rfl ?_ | refine aops_indexArr ty_ok rfl rfl rfl rfl rfl rfl rfl rfl rfl rfl sdm ?_ | refine aops_lit0 ty_ok rfl rfl rfl rfl rfl rfl rfl ?_ | refine aops_field ty_ok rfl rfl rfl rfl rfl rfl rfl rfl rfl rfl ?_ | refine aops_cutE ty_ok rfl rfl rfl rfl rfl rfl rfl rfl rfl sdm rfl ?_ | ((fail_if_success (refine aops_known rfl ?_)); (refine aops_split ty_ok rfl rfl rfl rfl rfl rfl (fun hc => ⟨?_, ?_⟩) (fun hc => ⟨?_, ?_⟩)) <;> (try simp only [nms, reduceCtorEq] at hc) <;> (try (exfalso; omega)) <;> (try exact sdm)))) | ((with_reducible show HeadT _ _ _ _ _ _ _ _ _ _); (first | refine head_end ?_ | refine head_goP ty_ok rfl rfl sdm ?_ | refine head_gate ty_ok rfl rfl rfl sdm ?_ | refine head_callE (ty := ty) rfl rfl rfl rfl rfl rfl rfl (hc1) rfl ?_ | ((fail_if_success (refine head_known rfl ?_)); (refine head_split ty_ok rfl rfl rfl rfl (fun hc => ⟨?_, ?_⟩) (fun hc => ⟨?_, ?_⟩)) <;> (try simp only [nms, reduceCtorEq] at hc) <;> (try (exfalso; omega)) <;> (try exact sdm)))) | ((fail_if_success (with_reducible show AWp _ _ _ _ _)); (fail_if_success (with_reducible show AOps _ _ _ _ _ _)); (fail_if_success (with_reducible show HeadT _ _ _ _ _ _ _ _ _ _)); (first | (show AWp _ _ _ _ _) | (show AOps _ _ _ _ _ _) | refine st_go rfl rfl rfl rfl rfl rfl rfl ?_)))
      rfl
end Go.Proofs.YtdihjpmdmfmbiaaGreatDoor

/- What the laws of key usages ask first; the laws UsageKeyMarshals and UsageKeyParses. Walked by the abstract machine. -/
namespace Go.Proofs.YtdihjpmdmfmbiaaGreatDoor
open Go.Am
set_option linter.unusedSimpArgs false
set_option linter.unusedVariables false

theorem fields_of {P : Program} {t : TypeId} {fs : Array Field} (h : P.underlying t = some (.struct fs)) : P.fieldsOf t = fs := by
  unfold Program.fieldsOf
  rw [h]
theorem errEq : EqInts Tryz.prog 32 where
  guard := by kernel_rfl
  eq w a b c d := by
    have hu := Tryz.underlying32
    have hf := fields_of hu
    unfold Op.equal
    rw [show Op.maxDepth = 9999 + 1 from rfl, run_equalIn_struct w 9999 32 _ _ (by rw [hf]; exact hu) (by kernel_rfl), hf]
    simp [Op.eqFields, go_sem, part, Tryz.isAgg27, Tryz.isAgg3, Tryz.underlying27, Tryz.underlying3]
    by_cases h1 : a = c
    · subst h1
      simp [Op.eqFields, go_sem, part, Tryz.isAgg27, Tryz.isAgg3, Tryz.underlying27, Tryz.underlying3]
      by_cases h2 : b = d <;> simp [h2]
    · simp [h1]
def srvS : List UInt8 := [49, 46, 51, 46, 54, 46, 49, 46, 53, 46, 53, 46, 55, 46, 51, 46, 49]
end Go.Proofs.YtdihjpmdmfmbiaaGreatDoor

/- Decode of package oid, walked by the abstract machine. -/
namespace Go.Proofs.YtdihjpmdmfmbiaaGreatDoor
open Go.Am
open Go.Lib (decDigits)
set_option linter.unusedSimpArgs false
set_option linter.unusedVariables false

theorem u8_and127 (x : UInt8) : bits .and .u8 (x.toNat : Int) 127 = ((x.toNat % 128 : Nat) : Int) := by
  have hx : x.toNat < 256 := x.toNat_lt
  have h1 := (bits_nat .u8 8 (by decide) (fun n h0 h1 => by rw [IntKind.wrap_u8]; omega) x.toNat 127 (by omega) (by omega)).1
  have h2 : x.toNat &&& 127 = x.toNat % 128 := Nat.and_two_pow_sub_one_eq_mod _ 7
  rw [h2] at h1
  exact h1
theorem u8_and128 (x : UInt8) : (bits .and .u8 (x.toNat : Int) 128 != 0) = decide (128 ≤ x.toNat) := by
  have hx : x.toNat < 256 := x.toNat_lt
  have h1 := (bits_nat .u8 8 (by decide) (fun n h0 h1 => by rw [IntKind.wrap_u8]; omega) x.toNat 128 (by omega) (by omega)).1
  have h2 : ∀ d : Fin 256, (((d.1 &&& 128 : Nat) : Int) != 0) = decide (128 ≤ d.1) := by decide +kernel
  have h3 := h2 ⟨x.toNat, hx⟩
  simp only at h3
  rw [← h3]
  exact congrArg (fun z : Int => z != 0) h1
theorem u64_step (n d : Nat) (hn : n ≤ 4294967295) (hd : d < 128) : bits .or .u64 (shft .shl .u64 (n : Int) 7) (d : Int) = ((n * 128 + d : Nat) : Int) := by
  have h0 : shft .shl .u64 (n : Int) 7 = ((n * 128 : Nat) : Int) := by
    show IntKind.u64.wrap ((n : Int) * 2 ^ (min (7 : Int).toNat 64)) = _
    rw [show (2 : Int) ^ (min (7 : Int).toNat 64) = 128 by decide, IntKind.wrap_u64]
    omega
  rw [h0]
  have h1 := (bits_nat .u64 64 (by decide) (fun n h0 h1 => by rw [IntKind.wrap_u64]; omega) (n * 128) d (by omega) (by omega)).2
  have h2 : (n * 128) ||| d = n * 128 + d := by
    have := Nat.two_pow_add_eq_or_of_lt (i := 7) (b := d) hd n
    rw [Nat.mul_comm] at this
    exact this.symm
  rw [h2] at h1
  exact h1
theorem u64s_app (x y : List Nat) : u64s (x ++ y) = u64s x ++ u64s y := by simp [u64s]
theorem u64_at {a : List Nat} {k : Nat} (h : k < a.length) : ((u64s a).getD (k : Int).toNat default).num = (a[k] : Int) := by
  rw [num_u64s, Int.toNat_natCast, List.getD_eq_getElem?_getD, List.getElem?_eq_getElem h]
  rfl
theorem by_at {c : List UInt8} {k : Nat} (h : k < c.length) : ((bys c).getD (k : Int).toNat default).num = (c[k].toNat : Int) := by
  rw [num_bys, Int.toNat_natCast, List.getD_eq_getElem?_getD, List.getElem?_eq_getElem h]
  rfl
theorem map_app_cons (o : Option (List Nat)) (ns : List Nat) (m : Nat) : (o.map fun l => m :: l).map (fun l => ns ++ l) = o.map (fun l => (ns ++ [m]) ++ l) := by
  cases o <;> simp

theorem isODecode : IsFn Tryz.prog 41 Tryz.f41 := ⟨Tryz.func41, by decide, rfl⟩
set_option maxHeartbeats 4000000 in
theorem c_odec (c : List UInt8) (hl : c.length ≤ 10000000) : ACalls Tryz.prog envL 41 [.sl none (bys c)] (fun r => r = .d (decOD c)) := by
  refine acalls_of ty_ok isODecode rfl rfl ?_
  repeat' (first | ((with_reducible show AWp _ _ _ _ _); (first | refine awp_seq ?_ | refine awp_block ?_ | refine awp_skip ?_ | refine awp_exit ?_ | refine awp_scope ?_ | refine awp_label ?_ | refine awp_run ty_ok rfl sd ?_ | refine awp_ret ⟨_, _, rfl, rfl, ?_⟩ | refine awp_ret ⟨_, rfl, ?_⟩ | ((refine awp_cond (ty := ty) rfl (fun hc => ?_) (fun hc => ?_)) <;> (try simp only [nms, reduceCtorEq] at hc) <;> (try (exfalso; omega))))) | ((with_reducible show AOps _ _ _ _ _ _); (first | refine aops_nil ?_ | refine aops_go ty_ok rfl rfl sd ?_ | refine aops_gate ty_ok rfl rfl rfl sd ?_ | refine aops_litE ty_ok rfl rfl rfl rfl rfl rfl rfl rfl rfl rfl rfl rfl ?_ | refine aops_cutE ty_ok rfl rfl rfl rfl rfl rfl rfl rfl rfl sd rfl ?_ | ((fail_if_success (refine aops_known rfl ?_)); (refine aops_split ty_ok rfl rfl rfl rfl rfl rfl (fun hc => ⟨?_, ?_⟩) (fun hc => ⟨?_, ?_⟩)) <;> (try simp only [nms, reduceCtorEq] at hc) <;> (try (exfalso; omega)) <;> (try exact sd)))) | ((fail_if_success (with_reducible show AWp _ _ _ _ _)); (fail_if_success (with_reducible show AOps _ _ _ _ _ _)); (first | (show AWp _ _ _ _ _) | (show AOps _ _ _ _ _ _))))
  refine awp_nilrow 4 95 rfl ?_
  refine awp_loopR (G := { p : Nat × Bool × Nat × List Nat // p.1 ≤ c.length ∧ dec7 false 0 c = (dec7 p.2.1 p.2.2.1 (c.drop p.1)).map (fun l => p.2.2.2 ++ l) ∧ p.2.2.1 ≤ 4294967295 ∧ p.2.2.2.length ≤ p.1 ∧ (∀ n ∈ p.2.2.2, n ≤ 4294967295) ∧ (p.2.1 = false → p.2.2.1 = 0) })
    (fun p => ⟨Tryz.f41.ntmps, [(4, .ref 0), (5, .d (.bool p.1.2.1)), (6, .d (.int .u64 p.1.2.2.1)), (15, .d (.sl none (bys c))), (16, .d (.int .i64 c.length)), (17, .d (.int .i64 p.1.1))], [(0, .row none 95 (u64s p.1.2.2.2))], 1⟩) (fun p => c.length - p.1.1) ⟨(0, false, 0, []), Nat.zero_le _, by simp, by simp, Nat.le_refl _, by simp, fun _ => rfl⟩ [(0, 0)]
    (SubR.mk' rfl rfl ⟨⟨_, rfl, rfl⟩, ⟨_, rfl, rfl⟩, ⟨_, rfl, rfl⟩, ⟨_, rfl, rfl⟩, ⟨_, rfl, congrArg (fun z : Nat => AV.d (Dat.int IntKind.i64 z)) (bys_len _)⟩, ⟨_, rfl, rfl⟩, trivial⟩ ⟨⟨_, _, rfl, rfl, rfl⟩, trivial⟩) ?_
  rintro ⟨⟨k, b, n, ns⟩, hk, hd, hn, hnl, hns, hb0⟩
  simp only at hk hd hn hnl hns hb0
  dsimp only
  rcases Nat.lt_or_ge k c.length with hkl | hkl
  · have hx := by_at hkl
    rw [List.drop_eq_getElem_cons hkl] at hd
    generalize hcc : c[k] = x at hx hd
    have hx256 : x.toNat < 256 := x.toNat_lt
    have e1 := u8_and127 x
    have e2 := u8_and128 x
    have e3 := u64_step n (x.toNat % 128) hn (by omega)
    rw [← hx] at e1 e2
    have hw : IntKind.u64.wrap ((x.toNat % 128 : Nat) : Int) = ((x.toNat % 128 : Nat) : Int) := by rw [IntKind.wrap_u64]; omega
    have hnv : bits .or .u64 (shft .shl .u64 (n : Int) 7) (IntKind.u64.wrap (bits .and .u8 ((bys c).getD (k : Int).toNat default).num 127)) = ((n * 128 + x.toNat % 128 : Nat) : Int) := by rw [e1, hw, e3]
    have bad : (¬ ((!b && decide (x = 128)) = false ∧ n * 128 + x.toNat % 128 ≤ 4294967295)) → decOD c = .tup [sD [], .int .i64 6] := by
      intro h
      have : dec7 false 0 c = none := by
        rw [hd, dec7]
        split
        · rename_i h1 h2 h3
          exact absurd ⟨h1, of_decide_eq_true h2⟩ h
        · rename_i h1 h2 h3
          exact absurd ⟨h1, of_decide_eq_true h2⟩ h
        · rfl
      simp only [decOD, decS, this]
    have hx128 : (x = 128) ↔ ((bys c).getD (k : Int).toNat default).num = 128 := by
      rw [hx]
      constructor
      · rintro rfl; rfl
      · intro h
        exact u8_of (by have : (128 : UInt8).toNat = 128 := rfl; omega)
    by_cases hA : (!b && decide (x = 128)) = false ∧ n * 128 + x.toNat % 128 ≤ 4294967295
    · obtain ⟨hA1, hA2⟩ := hA
      have hA1' : b = false → ¬ ((bys c).getD (k : Int).toNat default).num = 128 := by
        rintro rfl h
        rw [hx128.2 h] at hA1
        cases hA1
      have hd2 : decide (n * 128 + x.toNat % 128 ≤ 4294967295) = true := decide_eq_true hA2
      by_cases h128 : 128 ≤ x.toNat
      · have hd3 : decide (128 ≤ x.toNat) = true := decide_eq_true h128
        rw [hd3] at e2
        have e2' : ¬ bits .and .u8 ((bys c).getD (k : Int).toNat default).num 128 = 0 := by simpa using e2
        rw [dec7, hA1, hd2, hd3] at hd
        cases b with
        | true =>
          repeat' (first | ((with_reducible show AWp _ _ _ _ _); (first | refine awp_seq ?_ | refine awp_block ?_ | refine awp_skip ?_ | refine awp_exit ?_ | refine awp_scope ?_ | refine awp_label ?_ | refine awp_run ty_ok rfl sd ?_ | refine awp_ret ⟨_, _, rfl, rfl, ?_⟩ | refine awp_ret ⟨_, rfl, ?_⟩ | ((refine awp_cond (ty := ty) rfl (fun hc => ?_) (fun hc => ?_)) <;> (try simp only [nms, reduceCtorEq] at hc) <;> (try (exfalso; omega))))) | ((with_reducible show AOps _ _ _ _ _ _); (first | refine aops_nil ?_ | refine aops_go ty_ok rfl rfl sd ?_ | refine aops_gate ty_ok rfl rfl rfl sd ?_ | refine aops_litE ty_ok rfl rfl rfl rfl rfl rfl rfl rfl rfl rfl rfl rfl ?_ | refine aops_cutE ty_ok rfl rfl rfl rfl rfl rfl rfl rfl rfl sd rfl ?_ | ((fail_if_success (refine aops_known rfl ?_)); (refine aops_split ty_ok rfl rfl rfl rfl rfl rfl (fun hc => ⟨?_, ?_⟩) (fun hc => ⟨?_, ?_⟩)) <;> (try simp only [nms, reduceCtorEq] at hc) <;> (try (exfalso; omega)) <;> (try exact sd)))) | ((fail_if_success (with_reducible show AWp _ _ _ _ _)); (fail_if_success (with_reducible show AOps _ _ _ _ _ _)); (first | (show AWp _ _ _ _ _) | (show AOps _ _ _ _ _ _))))
          refine ⟨⟨(k + 1, true, n * 128 + x.toNat % 128, ns), hkl, hd, hA2, by simp only; omega, hns, fun h => by cases h⟩, [(0, 0)], SubR.mk' rfl rfl ⟨⟨_, rfl, rfl⟩, ⟨_, rfl, congrArg (fun z : Bool => AV.d (Dat.bool z)) e2⟩, ⟨_, rfl, congrArg (fun z : Int => AV.d (Dat.int IntKind.u64 z)) hnv⟩, ⟨_, rfl, rfl⟩, ⟨_, rfl, rfl⟩, ⟨_, rfl, rfl⟩, trivial⟩ ⟨⟨_, _, rfl, rfl, rfl⟩, trivial⟩, by simp only; omega⟩
        | false =>
          have hne := hA1' rfl
          repeat' (first | ((with_reducible show AWp _ _ _ _ _); (first | refine awp_seq ?_ | refine awp_block ?_ | refine awp_skip ?_ | refine awp_exit ?_ | refine awp_scope ?_ | refine awp_label ?_ | refine awp_run ty_ok rfl sd ?_ | refine awp_ret ⟨_, _, rfl, rfl, ?_⟩ | refine awp_ret ⟨_, rfl, ?_⟩ | ((refine awp_cond (ty := ty) rfl (fun hc => ?_) (fun hc => ?_)) <;> (try simp only [nms, reduceCtorEq] at hc) <;> (try (exfalso; omega))))) | ((with_reducible show AOps _ _ _ _ _ _); (first | refine aops_nil ?_ | refine aops_go ty_ok rfl rfl sd ?_ | refine aops_gate ty_ok rfl rfl rfl sd ?_ | refine aops_litE ty_ok rfl rfl rfl rfl rfl rfl rfl rfl rfl rfl rfl rfl ?_ | refine aops_cutE ty_ok rfl rfl rfl rfl rfl rfl rfl rfl rfl sd rfl ?_ | ((fail_if_success (refine aops_known rfl ?_)); (refine aops_split ty_ok rfl rfl rfl rfl rfl rfl (fun hc => ⟨?_, ?_⟩) (fun hc => ⟨?_, ?_⟩)) <;> (try simp only [nms, reduceCtorEq] at hc) <;> (try (exfalso; omega)) <;> (try exact sd)))) | ((fail_if_success (with_reducible show AWp _ _ _ _ _)); (fail_if_success (with_reducible show AOps _ _ _ _ _ _)); (first | (show AWp _ _ _ _ _) | (show AOps _ _ _ _ _ _))))
          refine ⟨⟨(k + 1, true, n * 128 + x.toNat % 128, ns), hkl, hd, hA2, by simp only; omega, hns, fun h => by cases h⟩, [(0, 0)], SubR.mk' rfl rfl ⟨⟨_, rfl, rfl⟩, ⟨_, rfl, congrArg (fun z : Bool => AV.d (Dat.bool z)) e2⟩, ⟨_, rfl, congrArg (fun z : Int => AV.d (Dat.int IntKind.u64 z)) hnv⟩, ⟨_, rfl, rfl⟩, ⟨_, rfl, rfl⟩, ⟨_, rfl, rfl⟩, trivial⟩ ⟨⟨_, _, rfl, rfl, rfl⟩, trivial⟩, by simp only; omega⟩
      · have hd3 : decide (128 ≤ x.toNat) = false := decide_eq_false h128
        rw [hd3] at e2
        have e2' : bits .and .u8 ((bys c).getD (k : Int).toNat default).num 128 = 0 := by simpa using e2
        rw [dec7, hA1, hd2, hd3] at hd
        simp only at hd
        rw [map_app_cons] at hd
        have hns' : ∀ m ∈ ns ++ [n * 128 + x.toNat % 128], m ≤ 4294967295 := by
          intro m hm
          rcases List.mem_append.1 hm with hm | hm
          · exact hns m hm
          · simp only [List.mem_singleton] at hm
            omega
        have hrow : u64s ns ++ [Dat.int .u64 (bits .or .u64 (shft .shl .u64 (n : Int) 7) (IntKind.u64.wrap (bits .and .u8 ((bys c).getD (k : Int).toNat default).num 127)))] = u64s (ns ++ [n * 128 + x.toNat % 128]) := by
          rw [hnv, u64s_app]
          rfl
        cases b with
        | true =>
          repeat' (first | ((with_reducible show AWp _ _ _ _ _); (first | refine awp_seq ?_ | refine awp_block ?_ | refine awp_skip ?_ | refine awp_exit ?_ | refine awp_scope ?_ | refine awp_label ?_ | refine awp_run ty_ok rfl sd ?_ | refine awp_ret ⟨_, _, rfl, rfl, ?_⟩ | refine awp_ret ⟨_, rfl, ?_⟩ | ((refine awp_cond (ty := ty) rfl (fun hc => ?_) (fun hc => ?_)) <;> (try simp only [nms, reduceCtorEq] at hc) <;> (try (exfalso; omega))))) | ((with_reducible show AOps _ _ _ _ _ _); (first | refine aops_nil ?_ | refine aops_go ty_ok rfl rfl sd ?_ | refine aops_gate ty_ok rfl rfl rfl sd ?_ | refine aops_litE ty_ok rfl rfl rfl rfl rfl rfl rfl rfl rfl rfl rfl rfl ?_ | refine aops_cutE ty_ok rfl rfl rfl rfl rfl rfl rfl rfl rfl sd rfl ?_ | ((fail_if_success (refine aops_known rfl ?_)); (refine aops_split ty_ok rfl rfl rfl rfl rfl rfl (fun hc => ⟨?_, ?_⟩) (fun hc => ⟨?_, ?_⟩)) <;> (try simp only [nms, reduceCtorEq] at hc) <;> (try (exfalso; omega)) <;> (try exact sd)))) | ((fail_if_success (with_reducible show AWp _ _ _ _ _)); (fail_if_success (with_reducible show AOps _ _ _ _ _ _)); (first | (show AWp _ _ _ _ _) | (show AOps _ _ _ _ _ _))))
          refine ⟨⟨(k + 1, false, 0, ns ++ [n * 128 + x.toNat % 128]), hkl, hd, by simp, by simp; omega, hns', fun _ => rfl⟩, [(2, 0)], SubR.mk' rfl rfl ⟨⟨_, rfl, rfl⟩, ⟨_, rfl, congrArg (fun z : Bool => AV.d (Dat.bool z)) e2⟩, ⟨_, rfl, rfl⟩, ⟨_, rfl, rfl⟩, ⟨_, rfl, rfl⟩, ⟨_, rfl, rfl⟩, trivial⟩ ⟨⟨_, _, rfl, rfl, congrArg (AO.row none 95) hrow⟩, trivial⟩, by simp only; omega⟩
        | false =>
          have hne := hA1' rfl
          repeat' (first | ((with_reducible show AWp _ _ _ _ _); (first | refine awp_seq ?_ | refine awp_block ?_ | refine awp_skip ?_ | refine awp_exit ?_ | refine awp_scope ?_ | refine awp_label ?_ | refine awp_run ty_ok rfl sd ?_ | refine awp_ret ⟨_, _, rfl, rfl, ?_⟩ | refine awp_ret ⟨_, rfl, ?_⟩ | ((refine awp_cond (ty := ty) rfl (fun hc => ?_) (fun hc => ?_)) <;> (try simp only [nms, reduceCtorEq] at hc) <;> (try (exfalso; omega))))) | ((with_reducible show AOps _ _ _ _ _ _); (first | refine aops_nil ?_ | refine aops_go ty_ok rfl rfl sd ?_ | refine aops_gate ty_ok rfl rfl rfl sd ?_ | refine aops_litE ty_ok rfl rfl rfl rfl rfl rfl rfl rfl rfl rfl rfl rfl ?_ | refine aops_cutE ty_ok rfl rfl rfl rfl rfl rfl rfl rfl rfl sd rfl ?_ | ((fail_if_success (refine aops_known rfl ?_)); (refine aops_split ty_ok rfl rfl rfl rfl rfl rfl (fun hc => ⟨?_, ?_⟩) (fun hc => ⟨?_, ?_⟩)) <;> (try simp only [nms, reduceCtorEq] at hc) <;> (try (exfalso; omega)) <;> (try exact sd)))) | ((fail_if_success (with_reducible show AWp _ _ _ _ _)); (fail_if_success (with_reducible show AOps _ _ _ _ _ _)); (first | (show AWp _ _ _ _ _) | (show AOps _ _ _ _ _ _))))
          refine ⟨⟨(k + 1, false, 0, ns ++ [n * 128 + x.toNat % 128]), hkl, hd, by simp, by simp; omega, hns', fun _ => rfl⟩, [(2, 0)], SubR.mk' rfl rfl ⟨⟨_, rfl, rfl⟩, ⟨_, rfl, congrArg (fun z : Bool => AV.d (Dat.bool z)) e2⟩, ⟨_, rfl, rfl⟩, ⟨_, rfl, rfl⟩, ⟨_, rfl, rfl⟩, ⟨_, rfl, rfl⟩, trivial⟩ ⟨⟨_, _, rfl, rfl, congrArg (AO.row none 95) hrow⟩, trivial⟩, by simp only; omega⟩
    · have hbad := bad hA
      cases b with
      | true =>
        have hbig : ¬ n * 128 + x.toNat % 128 ≤ 4294967295 := fun h => hA ⟨rfl, h⟩
        repeat' (first | ((with_reducible show AWp _ _ _ _ _); (first | refine awp_seq ?_ | refine awp_block ?_ | refine awp_skip ?_ | refine awp_exit ?_ | refine awp_scope ?_ | refine awp_label ?_ | refine awp_run ty_ok rfl sd ?_ | refine awp_ret ⟨_, _, rfl, rfl, ?_⟩ | refine awp_ret ⟨_, rfl, ?_⟩ | ((refine awp_cond (ty := ty) rfl (fun hc => ?_) (fun hc => ?_)) <;> (try simp only [nms, reduceCtorEq] at hc) <;> (try (exfalso; omega))))) | ((with_reducible show AOps _ _ _ _ _ _); (first | refine aops_nil ?_ | refine aops_go ty_ok rfl rfl sd ?_ | refine aops_gate ty_ok rfl rfl rfl sd ?_ | refine aops_litE ty_ok rfl rfl rfl rfl rfl rfl rfl rfl rfl rfl rfl rfl ?_ | refine aops_cutE ty_ok rfl rfl rfl rfl rfl rfl rfl rfl rfl sd rfl ?_ | ((fail_if_success (refine aops_known rfl ?_)); (refine aops_split ty_ok rfl rfl rfl rfl rfl rfl (fun hc => ⟨?_, ?_⟩) (fun hc => ⟨?_, ?_⟩)) <;> (try simp only [nms, reduceCtorEq] at hc) <;> (try (exfalso; omega)) <;> (try exact sd)))) | ((fail_if_success (with_reducible show AWp _ _ _ _ _)); (fail_if_success (with_reducible show AOps _ _ _ _ _ _)); (first | (show AWp _ _ _ _ _) | (show AOps _ _ _ _ _ _))))
        rw [hbad]
        rfl
      | false =>
        by_cases h8 : ((bys c).getD (k : Int).toNat default).num = 128
        · repeat' (first | ((with_reducible show AWp _ _ _ _ _); (first | refine awp_seq ?_ | refine awp_block ?_ | refine awp_skip ?_ | refine awp_exit ?_ | refine awp_scope ?_ | refine awp_label ?_ | refine awp_run ty_ok rfl sd ?_ | refine awp_ret ⟨_, _, rfl, rfl, ?_⟩ | refine awp_ret ⟨_, rfl, ?_⟩ | ((refine awp_cond (ty := ty) rfl (fun hc => ?_) (fun hc => ?_)) <;> (try simp only [nms, reduceCtorEq] at hc) <;> (try (exfalso; omega))))) | ((with_reducible show AOps _ _ _ _ _ _); (first | refine aops_nil ?_ | refine aops_go ty_ok rfl rfl sd ?_ | refine aops_gate ty_ok rfl rfl rfl sd ?_ | refine aops_litE ty_ok rfl rfl rfl rfl rfl rfl rfl rfl rfl rfl rfl rfl ?_ | refine aops_cutE ty_ok rfl rfl rfl rfl rfl rfl rfl rfl rfl sd rfl ?_ | ((fail_if_success (refine aops_known rfl ?_)); (refine aops_split ty_ok rfl rfl rfl rfl rfl rfl (fun hc => ⟨?_, ?_⟩) (fun hc => ⟨?_, ?_⟩)) <;> (try simp only [nms, reduceCtorEq] at hc) <;> (try (exfalso; omega)) <;> (try exact sd)))) | ((fail_if_success (with_reducible show AWp _ _ _ _ _)); (fail_if_success (with_reducible show AOps _ _ _ _ _ _)); (first | (show AWp _ _ _ _ _) | (show AOps _ _ _ _ _ _))))
          rw [hbad]
          rfl
        · have hbig : ¬ n * 128 + x.toNat % 128 ≤ 4294967295 := fun h => hA ⟨by
            have : ¬ x = 128 := fun e => h8 (hx128.1 e)
            simp [this], h⟩
          repeat' (first | ((with_reducible show AWp _ _ _ _ _); (first | refine awp_seq ?_ | refine awp_block ?_ | refine awp_skip ?_ | refine awp_exit ?_ | refine awp_scope ?_ | refine awp_label ?_ | refine awp_run ty_ok rfl sd ?_ | refine awp_ret ⟨_, _, rfl, rfl, ?_⟩ | refine awp_ret ⟨_, rfl, ?_⟩ | ((refine awp_cond (ty := ty) rfl (fun hc => ?_) (fun hc => ?_)) <;> (try simp only [nms, reduceCtorEq] at hc) <;> (try (exfalso; omega))))) | ((with_reducible show AOps _ _ _ _ _ _); (first | refine aops_nil ?_ | refine aops_go ty_ok rfl rfl sd ?_ | refine aops_gate ty_ok rfl rfl rfl sd ?_ | refine aops_litE ty_ok rfl rfl rfl rfl rfl rfl rfl rfl rfl rfl rfl rfl ?_ | refine aops_cutE ty_ok rfl rfl rfl rfl rfl rfl rfl rfl rfl sd rfl ?_ | ((fail_if_success (refine aops_known rfl ?_)); (refine aops_split ty_ok rfl rfl rfl rfl rfl rfl (fun hc => ⟨?_, ?_⟩) (fun hc => ⟨?_, ?_⟩)) <;> (try simp only [nms, reduceCtorEq] at hc) <;> (try (exfalso; omega)) <;> (try exact sd)))) | ((fail_if_success (with_reducible show AWp _ _ _ _ _)); (fail_if_success (with_reducible show AOps _ _ _ _ _ _)); (first | (show AWp _ _ _ _ _) | (show AOps _ _ _ _ _ _))))
          rw [hbad]
          rfl
  · have hke : k = c.length := by omega
    subst hke
    rw [List.drop_length] at hd
    cases b with
    | true =>
      have : decOD c = .tup [sD [], .int .i64 6] := by
        have : dec7 false 0 c = none := hd
        simp only [decOD, decS, this]
      repeat' (first | ((with_reducible show AWp _ _ _ _ _); (first | refine awp_seq ?_ | refine awp_block ?_ | refine awp_skip ?_ | refine awp_exit ?_ | refine awp_scope ?_ | refine awp_label ?_ | refine awp_run ty_ok rfl sd ?_ | refine awp_ret ⟨_, _, rfl, rfl, ?_⟩ | refine awp_ret ⟨_, rfl, ?_⟩ | ((refine awp_cond (ty := ty) rfl (fun hc => ?_) (fun hc => ?_)) <;> (try simp only [nms, reduceCtorEq] at hc) <;> (try (exfalso; omega))))) | ((with_reducible show AOps _ _ _ _ _ _); (first | refine aops_nil ?_ | refine aops_go ty_ok rfl rfl sd ?_ | refine aops_gate ty_ok rfl rfl rfl sd ?_ | refine aops_litE ty_ok rfl rfl rfl rfl rfl rfl rfl rfl rfl rfl rfl rfl ?_ | refine aops_cutE ty_ok rfl rfl rfl rfl rfl rfl rfl rfl rfl sd rfl ?_ | ((fail_if_success (refine aops_known rfl ?_)); (refine aops_split ty_ok rfl rfl rfl rfl rfl rfl (fun hc => ⟨?_, ?_⟩) (fun hc => ⟨?_, ?_⟩)) <;> (try simp only [nms, reduceCtorEq] at hc) <;> (try (exfalso; omega)) <;> (try exact sd)))) | ((fail_if_success (with_reducible show AWp _ _ _ _ _)); (fail_if_success (with_reducible show AOps _ _ _ _ _ _)); (first | (show AWp _ _ _ _ _) | (show AOps _ _ _ _ _ _))))
      rw [this]
      rfl
    | false =>
      have hd1 : dec7 false 0 c = some ns := by rw [hd]; simp [dec7]
      match ns, hd1, hns, hnl with
      | [], hd1, hns, hnl =>
        have : decOD c = .tup [sD [], .int .i64 6] := by simp only [decOD, decS, hd1]
        repeat' (first | ((with_reducible show AWp _ _ _ _ _); (first | refine awp_seq ?_ | refine awp_block ?_ | refine awp_skip ?_ | refine awp_exit ?_ | refine awp_scope ?_ | refine awp_label ?_ | refine awp_run ty_ok rfl sd ?_ | refine awp_ret ⟨_, _, rfl, rfl, ?_⟩ | refine awp_ret ⟨_, rfl, ?_⟩ | ((refine awp_cond (ty := ty) rfl (fun hc => ?_) (fun hc => ?_)) <;> (try simp only [nms, reduceCtorEq] at hc) <;> (try (exfalso; omega))))) | ((with_reducible show AOps _ _ _ _ _ _); (first | refine aops_nil ?_ | refine aops_go ty_ok rfl rfl sd ?_ | refine aops_gate ty_ok rfl rfl rfl sd ?_ | refine aops_litE ty_ok rfl rfl rfl rfl rfl rfl rfl rfl rfl rfl rfl rfl ?_ | refine aops_cutE ty_ok rfl rfl rfl rfl rfl rfl rfl rfl rfl sd rfl ?_ | ((fail_if_success (refine aops_known rfl ?_)); (refine aops_split ty_ok rfl rfl rfl rfl rfl rfl (fun hc => ⟨?_, ?_⟩) (fun hc => ⟨?_, ?_⟩)) <;> (try simp only [nms, reduceCtorEq] at hc) <;> (try (exfalso; omega)) <;> (try exact sd)))) | ((fail_if_success (with_reducible show AWp _ _ _ _ _)); (fail_if_success (with_reducible show AOps _ _ _ _ _ _)); (first | (show AWp _ _ _ _ _) | (show AOps _ _ _ _ _ _))))
        rw [this]
        rfl
      | m :: r, hd1, hns, hnl =>
        have hm := hns m (List.mem_cons_self ..)
        have hul : (u64s (m :: r)).length = r.length + 1 := by simp [u64s]
        have hx0 : ((u64s (m :: r)).getD (Int.toNat 0) default).num = m := rfl
        simp only [List.length_cons] at hnl
        have hq : IntKind.u64.wrap (((u64s (m :: r)).getD (Int.toNat 0) default).num.tdiv 40) = ((m / 40 : Nat) : Int) := by
          rw [hx0, Int.tdiv_eq_ediv_of_nonneg (by omega), IntKind.wrap_u64]
          omega
        have hroot : minI (IntKind.u64.wrap (((u64s (m :: r)).getD (Int.toNat 0) default).num.tdiv 40)) 2 = ((min (m / 40) 2 : Nat) : Int) := by
          rw [hq]
          unfold minI
          split <;> omega
        have hcut : cutL (u64s (m :: r)) (Int.toNat 1) (u64s (m :: r)).length = u64s r := by
          unfold cutL
          rw [List.take_length]
          rfl
        have hle := arcsOf_le m r hns
        have hri := arcsOf_right m r hm
        have htx := c_text (arcsOf m r) (by simp [arcsOf]; omega) hle
        rw [textD, hri] at htx
        have hres : decOD c = .tup [sD (textF (arcsOf m r)), .int .i64 0] := by simp only [decOD, decS, hd1]
        repeat' (first | ((with_reducible show AWp _ _ _ _ _); (first | refine awp_seq ?_ | refine awp_block ?_ | refine awp_skip ?_ | refine awp_exit ?_ | refine awp_scope ?_ | refine awp_label ?_ | refine awp_run ty_ok rfl sd ?_ | refine awp_ret ⟨_, _, rfl, rfl, ?_⟩ | refine awp_ret ⟨_, rfl, ?_⟩ | ((refine awp_cond (ty := ty) rfl (fun hc => ?_) (fun hc => ?_)) <;> (try simp only [nms, reduceCtorEq] at hc) <;> (try (exfalso; omega))))) | ((with_reducible show AOps _ _ _ _ _ _); (first | refine aops_nil ?_ | refine aops_go ty_ok rfl rfl sd ?_ | refine aops_gate ty_ok rfl rfl rfl sd ?_ | refine aops_litE ty_ok rfl rfl rfl rfl rfl rfl rfl rfl rfl rfl rfl rfl ?_ | refine aops_cutE ty_ok rfl rfl rfl rfl rfl rfl rfl rfl rfl sd rfl ?_ | ((fail_if_success (refine aops_known rfl ?_)); (refine aops_split ty_ok rfl rfl rfl rfl rfl rfl (fun hc => ⟨?_, ?_⟩) (fun hc => ⟨?_, ?_⟩)) <;> (try simp only [nms, reduceCtorEq] at hc) <;> (try (exfalso; omega)) <;> (try exact sd)))) | ((fail_if_success (with_reducible show AWp _ _ _ _ _)); (fail_if_success (with_reducible show AOps _ _ _ _ _ _)); (first | (show AWp _ _ _ _ _) | (show AOps _ _ _ _ _ _))))
        refine aops_freezeE [.ref 0] rfl ?_
        refine aops_asDat 66 rfl rfl rfl ?_
        repeat' (first | ((with_reducible show AWp _ _ _ _ _); (first | refine awp_seq ?_ | refine awp_block ?_ | refine awp_skip ?_ | refine awp_exit ?_ | refine awp_scope ?_ | refine awp_label ?_ | refine awp_run ty_ok rfl sd ?_ | refine awp_ret ⟨_, _, rfl, rfl, ?_⟩ | refine awp_ret ⟨_, rfl, ?_⟩ | ((refine awp_cond (ty := ty) rfl (fun hc => ?_) (fun hc => ?_)) <;> (try simp only [nms, reduceCtorEq] at hc) <;> (try (exfalso; omega))))) | ((with_reducible show AOps _ _ _ _ _ _); (first | refine aops_nil ?_ | refine aops_go ty_ok rfl rfl sd ?_ | refine aops_gate ty_ok rfl rfl rfl sd ?_ | refine aops_litE ty_ok rfl rfl rfl rfl rfl rfl rfl rfl rfl rfl rfl rfl ?_ | refine aops_cutE ty_ok rfl rfl rfl rfl rfl rfl rfl rfl rfl sd rfl ?_ | ((fail_if_success (refine aops_known rfl ?_)); (refine aops_split ty_ok rfl rfl rfl rfl rfl rfl (fun hc => ⟨?_, ?_⟩) (fun hc => ⟨?_, ?_⟩)) <;> (try simp only [nms, reduceCtorEq] at hc) <;> (try (exfalso; omega)) <;> (try exact sd)))) | ((fail_if_success (with_reducible show AWp _ _ _ _ _)); (fail_if_success (with_reducible show AOps _ _ _ _ _ _)); (first | (show AWp _ _ _ _ _) | (show AOps _ _ _ _ _ _))))
        refine awp_loopR (G := { j : Nat // j ≤ r.length }) (fun j => ⟨Tryz.f41.ntmps, [(10, .ref 0), (67, .d (.sl none (u64s r))), (68, .d (.int .i64 r.length)), (69, .d (.int .i64 j.1))], [(0, .row none 97 (u32s (arcsOf m (r.take j.1))))], 1⟩) (fun j => r.length - j.1) ⟨0, Nat.zero_le _⟩ [(1, 0)]
          (SubR.mk' rfl rfl ⟨⟨_, rfl, rfl⟩, ⟨_, rfl, congrArg (fun z => AV.d (Dat.sl none z)) hcut⟩, ⟨_, rfl, congrArg (fun z : Nat => AV.d (Dat.int IntKind.i64 z)) (by rw [hcut, u64s_len])⟩, ⟨_, rfl, rfl⟩, trivial⟩ ⟨⟨_, _, rfl, rfl, congrArg (AO.row none 97) (by
            rw [hroot, hx0]
            simp only [arcsOf, List.take_zero, u32s, List.map_cons, List.map_nil]
            rw [IntKind.wrap_u32, IntKind.wrap_u32, IntKind.wrap_u64, IntKind.wrap_u64]
            congr 2
            · omega
            · congr 2
              omega)⟩, trivial⟩) ?_
        rintro ⟨j, hj⟩
        dsimp only
        have hrl : (r.take j).length ≤ r.length := by rw [List.length_take]; omega
        have hal : (arcsOf m (r.take j)).length = (r.take j).length + 2 := rfl
        rcases Nat.lt_or_ge j r.length with hjl | hjl
        · have hnum := u64_at hjl
          have hrj := hns r[j] (by simp)
          repeat' (first | ((with_reducible show AWp _ _ _ _ _); (first | refine awp_seq ?_ | refine awp_block ?_ | refine awp_skip ?_ | refine awp_exit ?_ | refine awp_scope ?_ | refine awp_label ?_ | refine awp_run ty_ok rfl sd ?_ | refine awp_ret ⟨_, _, rfl, rfl, ?_⟩ | refine awp_ret ⟨_, rfl, ?_⟩ | ((refine awp_cond (ty := ty) rfl (fun hc => ?_) (fun hc => ?_)) <;> (try simp only [nms, reduceCtorEq] at hc) <;> (try (exfalso; omega))))) | ((with_reducible show AOps _ _ _ _ _ _); (first | refine aops_nil ?_ | refine aops_go ty_ok rfl rfl sd ?_ | refine aops_gate ty_ok rfl rfl rfl sd ?_ | refine aops_litE ty_ok rfl rfl rfl rfl rfl rfl rfl rfl rfl rfl rfl rfl ?_ | refine aops_cutE ty_ok rfl rfl rfl rfl rfl rfl rfl rfl rfl sd rfl ?_ | ((fail_if_success (refine aops_known rfl ?_)); (refine aops_split ty_ok rfl rfl rfl rfl rfl rfl (fun hc => ⟨?_, ?_⟩) (fun hc => ⟨?_, ?_⟩)) <;> (try simp only [nms, reduceCtorEq] at hc) <;> (try (exfalso; omega)) <;> (try exact sd)))) | ((fail_if_success (with_reducible show AWp _ _ _ _ _)); (fail_if_success (with_reducible show AOps _ _ _ _ _ _)); (first | (show AWp _ _ _ _ _) | (show AOps _ _ _ _ _ _))))
          refine ⟨⟨j + 1, hjl⟩, [(2, 0)], SubR.mk' rfl rfl ⟨⟨_, rfl, rfl⟩, ⟨_, rfl, rfl⟩, ⟨_, rfl, rfl⟩, ⟨_, rfl, rfl⟩, trivial⟩ ⟨⟨_, _, rfl, rfl, congrArg (AO.row none 97) ?_⟩, trivial⟩, by simp only; omega⟩
          rw [List.take_succ_eq_append_getElem hjl, hnum, wrap_u32 _ hrj, show arcsOf m (r.take j ++ [r[j]]) = arcsOf m (r.take j) ++ [r[j]] from rfl, u32s_app]
          rfl
        · have hje : j = r.length := by omega
          subst hje
          rw [List.take_length]
          repeat' (first | ((with_reducible show AWp _ _ _ _ _); (first | refine awp_seq ?_ | refine awp_block ?_ | refine awp_skip ?_ | refine awp_exit ?_ | refine awp_scope ?_ | refine awp_label ?_ | refine awp_run ty_ok rfl sd ?_ | refine awp_ret ⟨_, _, rfl, rfl, ?_⟩ | refine awp_ret ⟨_, rfl, ?_⟩ | ((refine awp_cond (ty := ty) rfl (fun hc => ?_) (fun hc => ?_)) <;> (try simp only [nms, reduceCtorEq] at hc) <;> (try (exfalso; omega))))) | ((with_reducible show AOps _ _ _ _ _ _); (first | refine aops_nil ?_ | refine aops_go ty_ok rfl rfl sd ?_ | refine aops_gate ty_ok rfl rfl rfl sd ?_ | refine aops_callE (ty := ty) rfl rfl rfl rfl rfl rfl rfl (htx) rfl ?_ | refine aops_litE ty_ok rfl rfl rfl rfl rfl rfl rfl rfl rfl rfl rfl rfl ?_ | refine aops_cutE ty_ok rfl rfl rfl rfl rfl rfl rfl rfl rfl sd rfl ?_ | ((fail_if_success (refine aops_known rfl ?_)); (refine aops_split ty_ok rfl rfl rfl rfl rfl rfl (fun hc => ⟨?_, ?_⟩) (fun hc => ⟨?_, ?_⟩)) <;> (try simp only [nms, reduceCtorEq] at hc) <;> (try (exfalso; omega)) <;> (try exact sd)))) | ((fail_if_success (with_reducible show AWp _ _ _ _ _)); (fail_if_success (with_reducible show AOps _ _ _ _ _ _)); (first | (show AWp _ _ _ _ _) | (show AOps _ _ _ _ _ _))))
          all_goals rw [hres]
end Go.Proofs.YtdihjpmdmfmbiaaGreatDoor

/- Lists of purposes: Parse. Walked by the abstract machine. -/
namespace Go.Proofs.YtdihjpmdmfmbiaaGreatDoor
open Go.Am
set_option linter.unusedSimpArgs false
set_option linter.unusedVariables false
-- withAmZ

/-- One purpose. -/
def usE (b : List UInt8) (e : El) : Ex (List UInt8) := match isB e.x 0 false 6 with
  | false => .bad 3 e.st
  | true => match decide ((decS (cut b e.bd e.en)).2 = 0) with
    | true => .ok (decS (cut b e.bd e.en)).1
    | false => .bad 6 e.bd
def usP (b : List UInt8) : Ex (List (List UInt8)) := match ptF b 0 16 with
  | .bad c o => .bad c o
  | .ok l => match mapX (usE b) l with
    | .bad c o => .bad c o
    | .ok [] => .bad 1 b.length
    | .ok (p :: r) => .ok (p :: r)
def usD : Ex (List (List UInt8)) → Res
  | .bad c o => .d (.tup [.sl none [], errD c o])
  | .ok l => .ownT none 9 (strs l) [errD 0 0]
theorem c_odec_ok (b : List UInt8) {i j : Nat} (hj : j ≤ b.length) (hij : i ≤ j) (hl : b.length ≤ 10000000) (h : (decS (cut b i j)).2 = 0) : ACalls Tryz.prog envL 41 [.sl none (cutL (bys b) (i : Int).toNat (j : Int).toNat)] (fun r => r = .d (.tup [sD (decS (cut b i j)).1, .int .i64 0])) := by
  have h1 := c_odec (cut b i j) (by rw [cut_len _ _ _ hj]; omega)
  rw [decOD, h] at h1
  rw [cutL_bys]
  exact h1
theorem c_odec_bad (b : List UInt8) {i j : Nat} (hj : j ≤ b.length) (hij : i ≤ j) (hl : b.length ≤ 10000000) (h : ¬ (decS (cut b i j)).2 = 0) : ACalls Tryz.prog envL 41 [.sl none (cutL (bys b) (i : Int).toNat (j : Int).toNat)] (fun r => r = .d (.tup [sD [], .int .i64 6])) := by
  have h1 := c_odec (cut b i j) (by rw [cut_len _ _ _ hj]; omega)
  rcases decS_cases (cut b i j) with hd | ⟨s, _, _, hd, _⟩
  · rw [decOD, hd] at h1
    rw [cutL_bys]
    exact h1
  · rw [hd] at h
    exact absurd rfl h
theorem mapX_bad {α β : Type} {f : α → Ex β} : ∀ {l : List α} {c o : Nat}, mapX f l = .bad c o → ∃ a ∈ l, f a = .bad c o
  | [], _, _, h => by cases h
  | a :: r, c, o, h => by
    rw [mapX] at h
    cases ha : f a with
    | bad c' o' =>
      rw [ha] at h
      cases h
      exact ⟨a, List.mem_cons_self .., ha⟩
    | ok x =>
      rw [ha] at h
      simp only at h
      cases hr : mapX f r with
      | bad c' o' =>
        rw [hr] at h
        cases h
        obtain ⟨y, hy, hf⟩ := mapX_bad hr
        exact ⟨y, List.mem_cons_of_mem _ hy, hf⟩
      | ok q => rw [hr] at h; cases h
end Go.Proofs.YtdihjpmdmfmbiaaGreatDoor

/- Decode of the reference of package oid, walked by the abstract machine. -/
namespace Go.Proofs.YtdihjpmdmfmbiaaGreatDoor
open Go.Am
open Go.Lib (decDigits)
set_option linter.unusedSimpArgs false
set_option linter.unusedVariables false

theorem rdec_none {c : List UInt8} (h : dec7r 0 c = none) : decOD c = .tup [sD [], .int .i64 6] := by
  have : dec7 false 0 c = none := by
    cases hd : dec7 false 0 c with
    | none => rfl
    | some ns => rw [dec7_r _ _ _ _ hd] at h; cases h
  simp only [decOD, decS, this]
theorem rdec_ne {c : List UInt8} {ns : List Nat} (h : dec7r 0 c = some ns) (hf : flat7 ns ≠ c) : decOD c = .tup [sD [], .int .i64 6] := by
  have : dec7 false 0 c = none := by
    cases hd : dec7 false 0 c with
    | none => rfl
    | some ms =>
      have h1 := dec7_r _ _ _ _ hd
      rw [h] at h1
      cases h1
      exact absurd ((flat_dec7 c).1 ns hd) hf
  simp only [decOD, decS, this]
theorem rdec_eq {c : List UInt8} {ns : List Nat} (h : dec7r 0 c = some ns) (hf : flat7 ns = c) : dec7 false 0 c = some ns := by
  have := dec7_flat ns (dec7r_le c 0 ns h)
  rwa [hf] at this
theorem u8_mod128 (x : UInt8) : IntKind.u64.wrap ((x.toNat : Int).tmod 128) = ((x.toNat % 128 : Nat) : Int) := by
  have hx : x.toNat < 256 := x.toNat_lt
  rw [Int.tmod_eq_emod_of_nonneg (by omega), IntKind.wrap_u64]
  omega
theorem isRODecode : IsFn Tryz.prog 87 Tryz.f87 := ⟨Tryz.func87, by decide, rfl⟩
set_option maxHeartbeats 4000000 in
theorem c_rdec (Γ : Env) (c : List UInt8) (hl : c.length ≤ 1000000) : ACalls Tryz.prog Γ 87 [.sl none (bys c)] (fun r => r = .d (decOD c)) := by
  refine acalls_of ty_ok isRODecode rfl rfl ?_
  repeat' (first | ((with_reducible show AWp _ _ _ _ _); (first | refine awp_seq ?_ | refine awp_block ?_ | refine awp_skip ?_ | refine awp_exit ?_ | refine awp_scope ?_ | refine awp_label ?_ | refine awp_run ty_ok rfl sd ?_ | refine awp_ret ⟨_, _, rfl, rfl, ?_⟩ | refine awp_ret ⟨_, rfl, ?_⟩ | ((refine awp_cond (ty := ty) rfl (fun hc => ?_) (fun hc => ?_)) <;> (try simp only [nms, reduceCtorEq] at hc) <;> (try (exfalso; omega))))) | ((with_reducible show AOps _ _ _ _ _ _); (first | refine aops_nil ?_ | refine aops_go ty_ok rfl rfl sd ?_ | refine aops_gate ty_ok rfl rfl rfl sd ?_ | refine aops_litE ty_ok rfl rfl rfl rfl rfl rfl rfl rfl rfl rfl rfl rfl ?_ | refine aops_cutE ty_ok rfl rfl rfl rfl rfl rfl rfl rfl rfl sd rfl ?_ | ((fail_if_success (refine aops_known rfl ?_)); (refine aops_split ty_ok rfl rfl rfl rfl rfl rfl (fun hc => ⟨?_, ?_⟩) (fun hc => ⟨?_, ?_⟩)) <;> (try simp only [nms, reduceCtorEq] at hc) <;> (try (exfalso; omega)) <;> (try exact sd)))) | ((fail_if_success (with_reducible show AWp _ _ _ _ _)); (fail_if_success (with_reducible show AOps _ _ _ _ _ _)); (first | (show AWp _ _ _ _ _) | (show AOps _ _ _ _ _ _))))
  refine awp_nilrow 4 95 rfl ?_
  refine awp_loopR (G := { p : Nat × Nat × List Nat // p.1 ≤ c.length ∧ dec7r 0 c = (dec7r p.2.1 (c.drop p.1)).map (fun l => p.2.2 ++ l) ∧ p.2.1 ≤ 4294967295 ∧ p.2.2.length ≤ p.1 ∧ (∀ n ∈ p.2.2, n ≤ 4294967295) })
    (fun p => ⟨Tryz.f87.ntmps, [(0, .d (.sl none (bys c))), (4, .ref 0), (5, .d (.int .u64 p.1.2.1)), (6, .d (.int .i64 p.1.1))], [(0, .row none 95 (u64s p.1.2.2))], 1⟩) (fun p => c.length - p.1.1) ⟨(0, 0, []), Nat.zero_le _, by simp, by simp, Nat.le_refl _, by simp⟩ [(0, 0)]
    (SubR.mk' rfl rfl ⟨⟨_, rfl, rfl⟩, ⟨_, rfl, rfl⟩, ⟨_, rfl, rfl⟩, ⟨_, rfl, rfl⟩, trivial⟩ ⟨⟨_, _, rfl, rfl, rfl⟩, trivial⟩) ?_
  rintro ⟨⟨k, n, ns⟩, hk, hd, hn, hnl, hns⟩
  simp only at hk hd hn hnl hns
  dsimp only
  rcases Nat.lt_or_ge k c.length with hkl | hkl
  · have hx := by_at hkl
    rw [List.drop_eq_getElem_cons hkl] at hd
    generalize hcc : c[k] = x at hx hd
    have hx256 : x.toNat < 256 := x.toNat_lt
    have e1 := u8_mod128 x
    rw [← hx] at e1
    have hnv : IntKind.u64.wrap (IntKind.u64.wrap ((n : Int) * 128) + IntKind.u64.wrap (((bys c).getD (k : Int).toNat default).num.tmod 128)) = ((n * 128 + x.toNat % 128 : Nat) : Int) := by
      rw [e1, IntKind.wrap_u64, IntKind.wrap_u64]
      omega
    by_cases hA : n * 128 + x.toNat % 128 ≤ 4294967295
    · have hd2 : decide (n * 128 + x.toNat % 128 ≤ 4294967295) = true := decide_eq_true hA
      by_cases h128 : x.toNat < 128
      · have hd3 : decide (x.toNat < 128) = true := decide_eq_true h128
        rw [dec7r, hd2, hd3] at hd
        simp only at hd
        rw [map_app_cons] at hd
        have hns' : ∀ m ∈ ns ++ [n * 128 + x.toNat % 128], m ≤ 4294967295 := by
          intro m hm
          rcases List.mem_append.1 hm with hm | hm
          · exact hns m hm
          · simp only [List.mem_singleton] at hm
            omega
        repeat' (first | ((with_reducible show AWp _ _ _ _ _); (first | refine awp_seq ?_ | refine awp_block ?_ | refine awp_skip ?_ | refine awp_exit ?_ | refine awp_scope ?_ | refine awp_label ?_ | refine awp_run ty_ok rfl sd ?_ | refine awp_ret ⟨_, _, rfl, rfl, ?_⟩ | refine awp_ret ⟨_, rfl, ?_⟩ | ((refine awp_cond (ty := ty) rfl (fun hc => ?_) (fun hc => ?_)) <;> (try simp only [nms, reduceCtorEq] at hc) <;> (try (exfalso; omega))))) | ((with_reducible show AOps _ _ _ _ _ _); (first | refine aops_nil ?_ | refine aops_go ty_ok rfl rfl sd ?_ | refine aops_gate ty_ok rfl rfl rfl sd ?_ | refine aops_litE ty_ok rfl rfl rfl rfl rfl rfl rfl rfl rfl rfl rfl rfl ?_ | refine aops_cutE ty_ok rfl rfl rfl rfl rfl rfl rfl rfl rfl sd rfl ?_ | ((fail_if_success (refine aops_known rfl ?_)); (refine aops_split ty_ok rfl rfl rfl rfl rfl rfl (fun hc => ⟨?_, ?_⟩) (fun hc => ⟨?_, ?_⟩)) <;> (try simp only [nms, reduceCtorEq] at hc) <;> (try (exfalso; omega)) <;> (try exact sd)))) | ((fail_if_success (with_reducible show AWp _ _ _ _ _)); (fail_if_success (with_reducible show AOps _ _ _ _ _ _)); (first | (show AWp _ _ _ _ _) | (show AOps _ _ _ _ _ _))))
        refine ⟨⟨(k + 1, 0, ns ++ [n * 128 + x.toNat % 128]), hkl, hd, by simp, by simp; omega, hns'⟩, [(2, 0)], SubR.mk' rfl rfl ⟨⟨_, rfl, rfl⟩, ⟨_, rfl, rfl⟩, ⟨_, rfl, rfl⟩, ⟨_, rfl, rfl⟩, trivial⟩ ⟨⟨_, _, rfl, rfl, congrArg (AO.row none 95) ?_⟩, trivial⟩, by simp only; omega⟩
        rw [hnv, u64s_app]
        rfl
      · have hd3 : decide (x.toNat < 128) = false := decide_eq_false h128
        rw [dec7r, hd2, hd3] at hd
        repeat' (first | ((with_reducible show AWp _ _ _ _ _); (first | refine awp_seq ?_ | refine awp_block ?_ | refine awp_skip ?_ | refine awp_exit ?_ | refine awp_scope ?_ | refine awp_label ?_ | refine awp_run ty_ok rfl sd ?_ | refine awp_ret ⟨_, _, rfl, rfl, ?_⟩ | refine awp_ret ⟨_, rfl, ?_⟩ | ((refine awp_cond (ty := ty) rfl (fun hc => ?_) (fun hc => ?_)) <;> (try simp only [nms, reduceCtorEq] at hc) <;> (try (exfalso; omega))))) | ((with_reducible show AOps _ _ _ _ _ _); (first | refine aops_nil ?_ | refine aops_go ty_ok rfl rfl sd ?_ | refine aops_gate ty_ok rfl rfl rfl sd ?_ | refine aops_litE ty_ok rfl rfl rfl rfl rfl rfl rfl rfl rfl rfl rfl rfl ?_ | refine aops_cutE ty_ok rfl rfl rfl rfl rfl rfl rfl rfl rfl sd rfl ?_ | ((fail_if_success (refine aops_known rfl ?_)); (refine aops_split ty_ok rfl rfl rfl rfl rfl rfl (fun hc => ⟨?_, ?_⟩) (fun hc => ⟨?_, ?_⟩)) <;> (try simp only [nms, reduceCtorEq] at hc) <;> (try (exfalso; omega)) <;> (try exact sd)))) | ((fail_if_success (with_reducible show AWp _ _ _ _ _)); (fail_if_success (with_reducible show AOps _ _ _ _ _ _)); (first | (show AWp _ _ _ _ _) | (show AOps _ _ _ _ _ _))))
        refine ⟨⟨(k + 1, n * 128 + x.toNat % 128, ns), hkl, hd, hA, by simp only; omega, hns⟩, [(0, 0)], SubR.mk' rfl rfl ⟨⟨_, rfl, rfl⟩, ⟨_, rfl, rfl⟩, ⟨_, rfl, congrArg (fun z : Int => AV.d (Dat.int IntKind.u64 z)) hnv⟩, ⟨_, rfl, rfl⟩, trivial⟩ ⟨⟨_, _, rfl, rfl, rfl⟩, trivial⟩, by simp only; omega⟩
    · have hbad : decOD c = .tup [sD [], .int .i64 6] := by
        refine rdec_none ?_
        rw [hd, dec7r, decide_eq_false hA]
        rfl
      repeat' (first | ((with_reducible show AWp _ _ _ _ _); (first | refine awp_seq ?_ | refine awp_block ?_ | refine awp_skip ?_ | refine awp_exit ?_ | refine awp_scope ?_ | refine awp_label ?_ | refine awp_run ty_ok rfl sd ?_ | refine awp_ret ⟨_, _, rfl, rfl, ?_⟩ | refine awp_ret ⟨_, rfl, ?_⟩ | ((refine awp_cond (ty := ty) rfl (fun hc => ?_) (fun hc => ?_)) <;> (try simp only [nms, reduceCtorEq] at hc) <;> (try (exfalso; omega))))) | ((with_reducible show AOps _ _ _ _ _ _); (first | refine aops_nil ?_ | refine aops_go ty_ok rfl rfl sd ?_ | refine aops_gate ty_ok rfl rfl rfl sd ?_ | refine aops_litE ty_ok rfl rfl rfl rfl rfl rfl rfl rfl rfl rfl rfl rfl ?_ | refine aops_cutE ty_ok rfl rfl rfl rfl rfl rfl rfl rfl rfl sd rfl ?_ | ((fail_if_success (refine aops_known rfl ?_)); (refine aops_split ty_ok rfl rfl rfl rfl rfl rfl (fun hc => ⟨?_, ?_⟩) (fun hc => ⟨?_, ?_⟩)) <;> (try simp only [nms, reduceCtorEq] at hc) <;> (try (exfalso; omega)) <;> (try exact sd)))) | ((fail_if_success (with_reducible show AWp _ _ _ _ _)); (fail_if_success (with_reducible show AOps _ _ _ _ _ _)); (first | (show AWp _ _ _ _ _) | (show AOps _ _ _ _ _ _))))
      rw [hbad]
      rfl
  · have hke : k = c.length := by omega
    subst hke
    rw [List.drop_length] at hd
    have hd1 : dec7r 0 c = some ns := by rw [hd]; simp [dec7r]
    match ns, hd1, hns, hnl with
    | [], hd1, hns, hnl =>
      have hbad : decOD c = .tup [sD [], .int .i64 6] := by
        by_cases hc0 : flat7 [] = c
        · have := rdec_eq hd1 hc0
          simp only [decOD, decS, this]
        · exact rdec_ne hd1 hc0
      repeat' (first | ((with_reducible show AWp _ _ _ _ _); (first | refine awp_seq ?_ | refine awp_block ?_ | refine awp_skip ?_ | refine awp_exit ?_ | refine awp_scope ?_ | refine awp_label ?_ | refine awp_run ty_ok rfl sd ?_ | refine awp_ret ⟨_, _, rfl, rfl, ?_⟩ | refine awp_ret ⟨_, rfl, ?_⟩ | ((refine awp_cond (ty := ty) rfl (fun hc => ?_) (fun hc => ?_)) <;> (try simp only [nms, reduceCtorEq] at hc) <;> (try (exfalso; omega))))) | ((with_reducible show AOps _ _ _ _ _ _); (first | refine aops_nil ?_ | refine aops_go ty_ok rfl rfl sd ?_ | refine aops_gate ty_ok rfl rfl rfl sd ?_ | refine aops_litE ty_ok rfl rfl rfl rfl rfl rfl rfl rfl rfl rfl rfl rfl ?_ | refine aops_cutE ty_ok rfl rfl rfl rfl rfl rfl rfl rfl rfl sd rfl ?_ | ((fail_if_success (refine aops_known rfl ?_)); (refine aops_split ty_ok rfl rfl rfl rfl rfl rfl (fun hc => ⟨?_, ?_⟩) (fun hc => ⟨?_, ?_⟩)) <;> (try simp only [nms, reduceCtorEq] at hc) <;> (try (exfalso; omega)) <;> (try exact sd)))) | ((fail_if_success (with_reducible show AWp _ _ _ _ _)); (fail_if_success (with_reducible show AOps _ _ _ _ _ _)); (first | (show AWp _ _ _ _ _) | (show AOps _ _ _ _ _ _))))
      rw [hbad]
      rfl
    | m :: r, hd1, hns, hnl =>
      have hm := hns m (List.mem_cons_self ..)
      have hul : (u64s (m :: r)).length = r.length + 1 := by simp [u64s]
      have hx0 : ((u64s (m :: r)).getD (Int.toNat 0) default).num = m := rfl
      simp only [List.length_cons] at hnl
      have hle := arcsOf_le m r hns
      have hri := arcsOf_right m r hm
      have htx := c_rtext (Γ.at 0) (arcsOf m r) (by simp [arcsOf]; omega) hle
      rw [textD, hri] at htx
      have htl := textF_len (arcsOf m r) hle
      have harl : (arcsOf m r).length = r.length + 2 := rfl
      have hen := c_renc_ok (Γ.at 0) (textF (arcsOf m r)) (arcsOf m r) (by omega) (text_okF hri hle)
      rw [arcsOf_enc] at hen
      have key : ∀ root : Nat, root = min (m / 40) 2 → u32s (arcsOf m []) = [Dat.int .u32 (IntKind.u32.wrap (root : Int)), Dat.int .u32 (IntKind.u32.wrap (IntKind.u64.wrap ((m : Int) - IntKind.u64.wrap (40 * (root : Int)))))] := by
        intro root hr
        subst hr
        simp only [arcsOf, u32s, List.map_cons, List.map_nil]
        rw [IntKind.wrap_u32, IntKind.wrap_u32, IntKind.wrap_u64, IntKind.wrap_u64]
        congr 2
        · omega
        · congr 2
          omega
      have hq : IntKind.u64.wrap (((u64s (m :: r)).getD (Int.toNat 0) default).num.tdiv 40) = ((m / 40 : Nat) : Int) := by
        rw [hx0, Int.tdiv_eq_ediv_of_nonneg (by omega), IntKind.wrap_u64]
        omega
      have hbf := c_bytes (Γ.at 0) (flat7 (m :: r)) c
      repeat' (first | ((with_reducible show AWp _ _ _ _ _); (first | refine awp_seq ?_ | refine awp_block ?_ | refine awp_skip ?_ | refine awp_exit ?_ | refine awp_scope ?_ | refine awp_label ?_ | refine awp_run ty_ok rfl sd ?_ | refine awp_ret ⟨_, _, rfl, rfl, ?_⟩ | refine awp_ret ⟨_, rfl, ?_⟩ | ((refine awp_cond (ty := ty) rfl (fun hc => ?_) (fun hc => ?_)) <;> (try simp only [nms, reduceCtorEq] at hc) <;> (try (exfalso; omega))))) | ((with_reducible show AOps _ _ _ _ _ _); (first | refine aops_nil ?_ | refine aops_go ty_ok rfl rfl sd ?_ | refine aops_gate ty_ok rfl rfl rfl sd ?_ | refine aops_litE ty_ok rfl rfl rfl rfl rfl rfl rfl rfl rfl rfl rfl rfl ?_ | refine aops_cutE ty_ok rfl rfl rfl rfl rfl rfl rfl rfl rfl sd rfl ?_ | ((fail_if_success (refine aops_known rfl ?_)); (refine aops_split ty_ok rfl rfl rfl rfl rfl rfl (fun hc => ⟨?_, ?_⟩) (fun hc => ⟨?_, ?_⟩)) <;> (try simp only [nms, reduceCtorEq] at hc) <;> (try (exfalso; omega)) <;> (try exact sd)))) | ((fail_if_success (with_reducible show AWp _ _ _ _ _)); (fail_if_success (with_reducible show AOps _ _ _ _ _ _)); (first | (show AWp _ _ _ _ _) | (show AOps _ _ _ _ _ _))))
      all_goals
        refine awp_loopR (G := { j : Nat // j ≤ r.length }) (fun j => ⟨Tryz.f87.ntmps, [(0, .d (.sl none (bys c))), (4, .ref 0), (8, .ref 1), (9, .d (.int .i64 ((j.1 : Int) + 1)))], [(0, .row none 95 (u64s (m :: r))), (1, .row none 97 (u32s (arcsOf m (r.take j.1))))], 2⟩) (fun j => r.length - j.1) ⟨0, Nat.zero_le _⟩ [(0, 0), (1, 1)]
          (SubR.mk' rfl rfl ⟨⟨_, rfl, rfl⟩, ⟨_, rfl, rfl⟩, ⟨_, rfl, rfl⟩, ⟨_, rfl, rfl⟩, trivial⟩ ⟨⟨_, _, rfl, rfl, rfl⟩, ⟨_, _, rfl, rfl, congrArg (AO.row none 97) (by
            rw [List.take_zero]
            rw [hx0] at hc
            first
              | (rw [hq, hx0]; exact (key (m / 40) (by omega)).symm)
              | (rw [hx0]; exact (key 2 (by omega)).symm))⟩, trivial⟩) ?_
        rintro ⟨j, hj⟩
        dsimp only
        have hrl : (r.take j).length ≤ r.length := by rw [List.length_take]; omega
        have hal : (arcsOf m (r.take j)).length = (r.take j).length + 2 := rfl
        rcases Nat.lt_or_ge j r.length with hjl | hjl
        · have hrj := hns r[j] (by simp)
          have hnum : ((u64s (m :: r)).getD ((j : Int) + 1).toNat default).num = (r[j] : Int) := by
            have e1 : ((j : Int) + 1).toNat = j + 1 := by omega
            rw [e1, num_u64s, List.getD_cons_succ, List.getD_eq_getElem?_getD, List.getElem?_eq_getElem hjl]
            rfl
          repeat' (first | ((with_reducible show AWp _ _ _ _ _); (first | refine awp_seq ?_ | refine awp_block ?_ | refine awp_skip ?_ | refine awp_exit ?_ | refine awp_scope ?_ | refine awp_label ?_ | refine awp_run ty_ok rfl sd ?_ | refine awp_ret ⟨_, _, rfl, rfl, ?_⟩ | refine awp_ret ⟨_, rfl, ?_⟩ | ((refine awp_cond (ty := ty) rfl (fun hc => ?_) (fun hc => ?_)) <;> (try simp only [nms, reduceCtorEq] at hc) <;> (try (exfalso; omega))))) | ((with_reducible show AOps _ _ _ _ _ _); (first | refine aops_nil ?_ | refine aops_go ty_ok rfl rfl sd ?_ | refine aops_gate ty_ok rfl rfl rfl sd ?_ | refine aops_litE ty_ok rfl rfl rfl rfl rfl rfl rfl rfl rfl rfl rfl rfl ?_ | refine aops_cutE ty_ok rfl rfl rfl rfl rfl rfl rfl rfl rfl sd rfl ?_ | ((fail_if_success (refine aops_known rfl ?_)); (refine aops_split ty_ok rfl rfl rfl rfl rfl rfl (fun hc => ⟨?_, ?_⟩) (fun hc => ⟨?_, ?_⟩)) <;> (try simp only [nms, reduceCtorEq] at hc) <;> (try (exfalso; omega)) <;> (try exact sd)))) | ((fail_if_success (with_reducible show AWp _ _ _ _ _)); (fail_if_success (with_reducible show AOps _ _ _ _ _ _)); (first | (show AWp _ _ _ _ _) | (show AOps _ _ _ _ _ _))))
          refine ⟨⟨j + 1, hjl⟩, [(0, 0), (3, 1)], SubR.mk' rfl rfl ⟨⟨_, rfl, rfl⟩, ⟨_, rfl, rfl⟩, ⟨_, rfl, rfl⟩, ⟨_, rfl, congrArg (fun z : Int => AV.d (Dat.int IntKind.i64 z)) (by simp only; omega)⟩, trivial⟩ ⟨⟨_, _, rfl, rfl, rfl⟩, ⟨_, _, rfl, rfl, congrArg (AO.row none 97) ?_⟩, trivial⟩, by simp only; omega⟩
          rw [List.take_succ_eq_append_getElem hjl, hnum, wrap_u32 _ hrj, show arcsOf m (r.take j ++ [r[j]]) = arcsOf m (r.take j) ++ [r[j]] from rfl, u32s_app]
          rfl
        · have hje : j = r.length := by omega
          subst hje
          rw [List.take_length]
          by_cases hf : flat7 (m :: r) = c
          · have hres : decOD c = .tup [sD (textF (arcsOf m r)), .int .i64 0] := by simp only [decOD, decS, rdec_eq hd1 hf]
            rw [decide_eq_true hf] at hbf
            repeat' (first | ((with_reducible show AWp _ _ _ _ _); (first | refine awp_seq ?_ | refine awp_block ?_ | refine awp_skip ?_ | refine awp_exit ?_ | refine awp_scope ?_ | refine awp_label ?_ | refine awp_run ty_ok rfl sd ?_ | refine awp_ret ⟨_, _, rfl, rfl, ?_⟩ | refine awp_ret ⟨_, rfl, ?_⟩ | ((refine awp_cond (ty := ty) rfl (fun hc => ?_) (fun hc => ?_)) <;> (try simp only [nms, reduceCtorEq] at hc) <;> (try (exfalso; omega))))) | ((with_reducible show AOps _ _ _ _ _ _); (first | refine aops_nil ?_ | refine aops_go ty_ok rfl rfl sd ?_ | refine aops_gate ty_ok rfl rfl rfl sd ?_ | refine aops_callE (ty := ty) rfl rfl rfl rfl rfl rfl rfl (htx) rfl ?_ | refine aops_callE (ty := ty) rfl rfl rfl rfl rfl rfl rfl (hen) rfl ?_ | refine aops_callE (ty := ty) rfl rfl rfl rfl rfl rfl rfl (hbf) rfl ?_ | refine aops_litE ty_ok rfl rfl rfl rfl rfl rfl rfl rfl rfl rfl rfl rfl ?_ | refine aops_cutE ty_ok rfl rfl rfl rfl rfl rfl rfl rfl rfl sd rfl ?_ | ((fail_if_success (refine aops_known rfl ?_)); (refine aops_split ty_ok rfl rfl rfl rfl rfl rfl (fun hc => ⟨?_, ?_⟩) (fun hc => ⟨?_, ?_⟩)) <;> (try simp only [nms, reduceCtorEq] at hc) <;> (try (exfalso; omega)) <;> (try exact sd)))) | ((fail_if_success (with_reducible show AWp _ _ _ _ _)); (fail_if_success (with_reducible show AOps _ _ _ _ _ _)); (first | (show AWp _ _ _ _ _) | (show AOps _ _ _ _ _ _))))
            all_goals rw [hres]
          · have hres := rdec_ne hd1 hf
            rw [decide_eq_false hf] at hbf
            repeat' (first | ((with_reducible show AWp _ _ _ _ _); (first | refine awp_seq ?_ | refine awp_block ?_ | refine awp_skip ?_ | refine awp_exit ?_ | refine awp_scope ?_ | refine awp_label ?_ | refine awp_run ty_ok rfl sd ?_ | refine awp_ret ⟨_, _, rfl, rfl, ?_⟩ | refine awp_ret ⟨_, rfl, ?_⟩ | ((refine awp_cond (ty := ty) rfl (fun hc => ?_) (fun hc => ?_)) <;> (try simp only [nms, reduceCtorEq] at hc) <;> (try (exfalso; omega))))) | ((with_reducible show AOps _ _ _ _ _ _); (first | refine aops_nil ?_ | refine aops_go ty_ok rfl rfl sd ?_ | refine aops_gate ty_ok rfl rfl rfl sd ?_ | refine aops_callE (ty := ty) rfl rfl rfl rfl rfl rfl rfl (htx) rfl ?_ | refine aops_callE (ty := ty) rfl rfl rfl rfl rfl rfl rfl (hen) rfl ?_ | refine aops_callE (ty := ty) rfl rfl rfl rfl rfl rfl rfl (hbf) rfl ?_ | refine aops_litE ty_ok rfl rfl rfl rfl rfl rfl rfl rfl rfl rfl rfl rfl ?_ | refine aops_cutE ty_ok rfl rfl rfl rfl rfl rfl rfl rfl rfl sd rfl ?_ | ((fail_if_success (refine aops_known rfl ?_)); (refine aops_split ty_ok rfl rfl rfl rfl rfl rfl (fun hc => ⟨?_, ?_⟩) (fun hc => ⟨?_, ?_⟩)) <;> (try simp only [nms, reduceCtorEq] at hc) <;> (try (exfalso; omega)) <;> (try exact sd)))) | ((fail_if_success (with_reducible show AWp _ _ _ _ _)); (fail_if_success (with_reducible show AOps _ _ _ _ _ _)); (first | (show AWp _ _ _ _ _) | (show AOps _ _ _ _ _ _))))
            all_goals (rw [hres]; rfl)
end Go.Proofs.YtdihjpmdmfmbiaaGreatDoor

/- Lists of purposes, by the reference. Walked by the abstract machine. -/
namespace Go.Proofs.YtdihjpmdmfmbiaaGreatDoor
open Go.Am
set_option linter.unusedSimpArgs false
set_option linter.unusedVariables false
-- withAmZ

theorem isRObject : IsFn Tryz.prog 33 Tryz.f33 := ⟨Tryz.func33, by decide, rfl⟩
theorem c_robject (Γ : Env) (s : List UInt8) (hl : s.length ≤ 10000000) : ACalls Tryz.prog Γ 33 [sD s] (fun r => r = .own none 5 (bys (objF s))) := by
  refine acalls_of ty_ok isRObject rfl rfl ?_
  have he := encO_len s
  have hp := c_rput (Γ.at 0) 6 (encO s) (by omega)
  unfold objF
  unfold encO at hp he ⊢
  cases ho : okF s with
  | none =>
    rw [ho] at hp
    have hc1 := c_renc_bad (Γ.at 0) s (by omega) ho
    repeat' (first | ((with_reducible show AWp _ _ _ _ _); (first | refine awp_seq ?_ | refine awp_block ?_ | refine awp_skip ?_ | refine awp_exit ?_ | refine awp_scope ?_ | refine awp_label ?_ | refine awp_run ty_ok rfl sd ?_ | refine awp_ret ⟨_, _, rfl, rfl, ?_⟩ | refine awp_ret ⟨_, rfl, ?_⟩ | ((refine awp_cond (ty := ty) rfl (fun hc => ?_) (fun hc => ?_)) <;> (try simp only [nms, reduceCtorEq] at hc) <;> (try (exfalso; omega))))) | ((with_reducible show AOps _ _ _ _ _ _); (first | refine aops_nil ?_ | refine aops_go ty_ok rfl rfl sd ?_ | refine aops_gate ty_ok rfl rfl rfl sd ?_ | refine aops_callE (ty := ty) rfl rfl rfl rfl rfl rfl rfl (hc1) rfl ?_ | refine aops_callE (ty := ty) rfl rfl rfl rfl rfl rfl rfl (hp) rfl ?_ | refine aops_litE ty_ok rfl rfl rfl rfl rfl rfl rfl rfl rfl rfl rfl rfl ?_ | refine aops_litA ty_ok rfl rfl rfl rfl rfl rfl rfl rfl rfl rfl rfl rfl rfl rfl rfl rfl ?_ | refine aops_buildArr ty_ok rfl rfl rfl rfl rfl rfl rfl rfl rfl rfl ?_ | refine aops_indexArr ty_ok rfl rfl rfl rfl rfl rfl rfl rfl rfl rfl sd ?_ | refine aops_cutE ty_ok rfl rfl rfl rfl rfl rfl rfl rfl rfl sd rfl ?_ | ((fail_if_success (refine aops_known rfl ?_)); (refine aops_split ty_ok rfl rfl rfl rfl rfl rfl (fun hc => ⟨?_, ?_⟩) (fun hc => ⟨?_, ?_⟩)) <;> (try simp only [nms, reduceCtorEq] at hc) <;> (try (exfalso; omega)) <;> (try exact sd)))) | ((fail_if_success (with_reducible show AWp _ _ _ _ _)); (fail_if_success (with_reducible show AOps _ _ _ _ _ _)); (first | (show AWp _ _ _ _ _) | (show AOps _ _ _ _ _ _))))
    rfl
  | some a =>
    rw [ho] at hp
    have hc1 := c_renc_ok (Γ.at 0) s a (by omega) ho
    repeat' (first | ((with_reducible show AWp _ _ _ _ _); (first | refine awp_seq ?_ | refine awp_block ?_ | refine awp_skip ?_ | refine awp_exit ?_ | refine awp_scope ?_ | refine awp_label ?_ | refine awp_run ty_ok rfl sd ?_ | refine awp_ret ⟨_, _, rfl, rfl, ?_⟩ | refine awp_ret ⟨_, rfl, ?_⟩ | ((refine awp_cond (ty := ty) rfl (fun hc => ?_) (fun hc => ?_)) <;> (try simp only [nms, reduceCtorEq] at hc) <;> (try (exfalso; omega))))) | ((with_reducible show AOps _ _ _ _ _ _); (first | refine aops_nil ?_ | refine aops_go ty_ok rfl rfl sd ?_ | refine aops_gate ty_ok rfl rfl rfl sd ?_ | refine aops_callE (ty := ty) rfl rfl rfl rfl rfl rfl rfl (hc1) rfl ?_ | refine aops_callE (ty := ty) rfl rfl rfl rfl rfl rfl rfl (hp) rfl ?_ | refine aops_litE ty_ok rfl rfl rfl rfl rfl rfl rfl rfl rfl rfl rfl rfl ?_ | refine aops_litA ty_ok rfl rfl rfl rfl rfl rfl rfl rfl rfl rfl rfl rfl rfl rfl rfl rfl ?_ | refine aops_buildArr ty_ok rfl rfl rfl rfl rfl rfl rfl rfl rfl rfl ?_ | refine aops_indexArr ty_ok rfl rfl rfl rfl rfl rfl rfl rfl rfl rfl sd ?_ | refine aops_cutE ty_ok rfl rfl rfl rfl rfl rfl rfl rfl rfl sd rfl ?_ | ((fail_if_success (refine aops_known rfl ?_)); (refine aops_split ty_ok rfl rfl rfl rfl rfl rfl (fun hc => ⟨?_, ?_⟩) (fun hc => ⟨?_, ?_⟩)) <;> (try simp only [nms, reduceCtorEq] at hc) <;> (try (exfalso; omega)) <;> (try exact sd)))) | ((fail_if_success (with_reducible show AWp _ _ _ _ _)); (fail_if_success (with_reducible show AOps _ _ _ _ _ _)); (first | (show AWp _ _ _ _ _) | (show AOps _ _ _ _ _ _))))
    rfl
theorem isReadObject : IsFn Tryz.prog 66 Tryz.f66 := ⟨Tryz.func66, by decide, rfl⟩
theorem c_readobject (Γ : Env) (x : UInt8) (c : List UInt8) (ks : List Dat) (hl : c.length ≤ 1000000) : ACalls Tryz.prog Γ 66 [nodeD x c ks] (fun r => r = .d (sD (decS c).1)) := by
  refine acalls_of ty_ok isReadObject rfl rfl ?_
  have hc1 := c_rdec (Γ.at 0) c hl
  unfold nodeD
  unfold decOD at hc1
  repeat' (first | ((with_reducible show AWp _ _ _ _ _); (first | refine awp_seq ?_ | refine awp_block ?_ | refine awp_skip ?_ | refine awp_exit ?_ | refine awp_scope ?_ | refine awp_label ?_ | refine awp_run ty_ok rfl sd ?_ | refine awp_ret ⟨_, _, rfl, rfl, ?_⟩ | refine awp_ret ⟨_, rfl, ?_⟩ | ((refine awp_cond (ty := ty) rfl (fun hc => ?_) (fun hc => ?_)) <;> (try simp only [nms, reduceCtorEq] at hc) <;> (try (exfalso; omega))))) | ((with_reducible show AOps _ _ _ _ _ _); (first | refine aops_nil ?_ | refine aops_go ty_ok rfl rfl sd ?_ | refine aops_gate ty_ok rfl rfl rfl sd ?_ | refine aops_callE (ty := ty) rfl rfl rfl rfl rfl rfl rfl (hc1) rfl ?_ | refine aops_litE ty_ok rfl rfl rfl rfl rfl rfl rfl rfl rfl rfl rfl rfl ?_ | refine aops_litA ty_ok rfl rfl rfl rfl rfl rfl rfl rfl rfl rfl rfl rfl rfl rfl rfl rfl ?_ | refine aops_buildArr ty_ok rfl rfl rfl rfl rfl rfl rfl rfl rfl rfl ?_ | refine aops_indexArr ty_ok rfl rfl rfl rfl rfl rfl rfl rfl rfl rfl sd ?_ | refine aops_cutE ty_ok rfl rfl rfl rfl rfl rfl rfl rfl rfl sd rfl ?_ | ((fail_if_success (refine aops_known rfl ?_)); (refine aops_split ty_ok rfl rfl rfl rfl rfl rfl (fun hc => ⟨?_, ?_⟩) (fun hc => ⟨?_, ?_⟩)) <;> (try simp only [nms, reduceCtorEq] at hc) <;> (try (exfalso; omega)) <;> (try exact sd)))) | ((fail_if_success (with_reducible show AWp _ _ _ _ _)); (fail_if_success (with_reducible show AOps _ _ _ _ _ _)); (first | (show AWp _ _ _ _ _) | (show AOps _ _ _ _ _ _))))
  rfl
def fewF (l : List (List UInt8)) : Bool := (l.take 20).all (fun s => decide (s.length ≤ 200)) && decide (l.length ≤ 12)
/-! ### Parse -/
def ndD (t : UInt8 × List UInt8 × List Dat) : Dat := nodeD t.1 t.2.1 t.2.2
def kidL (ts : List (UInt8 × List UInt8 × List Dat)) : List (List UInt8) := ts.map fun t => (decS t.2.1).1
def rusD (b : List UInt8) (L : List (List UInt8)) : Res := if usV L = true ∧ usF L = b then .d (.tup [.sl none (strs L), .bool true]) else .d (.tup [.sl none [], .bool false])
theorem nd_at {ts : List (UInt8 × List UInt8 × List Dat)} {k : Nat} (h : k < ts.length) : (ts.map ndD).getD (k : Int).toNat default = ndD ts[k] := by
  rw [Int.toNat_natCast, List.getD_eq_getElem?_getD, List.getElem?_map, List.getElem?_eq_getElem h]
  rfl
end Go.Proofs.YtdihjpmdmfmbiaaGreatDoor

/- Elements of a list and kids of a node: what the walks of extensions and of algorithm identifiers share. -/
namespace Go.Proofs.YtdihjpmdmfmbiaaGreatDoor
open Go.Am
set_option linter.unusedSimpArgs false
set_option linter.unusedVariables false
-- withAmZ withAmMp

/-- What is known of an element in a list. -/
theorem el_facts {X : Dat} {e : El} (h : X = elD e) : X = .agg [.int .i64 (X.cell 0).num, .int .i64 (X.cell 1).num, .bool (X.cell 2).tru, .int .i64 (X.cell 3).num, .int .i64 (X.cell 4).num, .int .i64 (X.cell 5).num] ∧
    X.cell 3 = .int .i64 (X.cell 3).num ∧ X.cell 4 = .int .i64 (X.cell 4).num ∧ X.cell 5 = .int .i64 (X.cell 5).num ∧ (X.cell 3).num = e.st ∧ (X.cell 4).num = e.bd ∧ (X.cell 5).num = e.en := by
  subst h
  exact ⟨rfl, rfl, rfl, rfl, rfl, rfl, rfl⟩
theorem c_clone_at (Γ : Env) (b : List UInt8) {i j : Nat} (hj : j ≤ b.length) (hb : b.length ≤ 1000000) : ACalls Tryz.prog Γ 42 [.sl none (cutL (bys b) (i : Int).toNat (j : Int).toNat)] (fun r => r = .own none 5 (bys (cut b i j))) := by
  rw [cutL_bys]
  exact c_clone Γ (cut b i j) (by rw [cut_len _ _ _ hj]; omega)
theorem cut_side (b : List UInt8) {i j : Nat} (h1 : i ≤ j) (h2 : j ≤ b.length) : (0 : Int) ≤ (i : Int) ∧ (i : Int) ≤ (j : Int) ∧ (j : Int) ≤ ((bys b).length : Int) := by
  rw [bys_len]
  omega
theorem isRKid : IsFn Tryz.prog 67 Tryz.f67 := ⟨Tryz.func67, by decide, rfl⟩
def kidN (ts : List (UInt8 × List UInt8 × List Dat)) (i : Int) : UInt8 × List UInt8 × List Dat := if 0 ≤ i ∧ i < ts.length then ts.getD i.toNat (0, [], []) else (0, [], [])
theorem nd_facts {X : Dat} {t : UInt8 × List UInt8 × List Dat} (h : X = ndD t) : X = .agg [.int .i64 (X.cell 0).num, .int .i64 (X.cell 1).num, .bool (X.cell 2).tru, .sl none (X.cell 3).els, .sl (some 5) (X.cell 4).els] := by
  rw [h]
  rfl
theorem c_rkid (Γ : Env) (x : UInt8) (c : List UInt8) (ts : List (UInt8 × List UInt8 × List Dat)) (i : Int) : ACalls Tryz.prog Γ 67 [nodeD x c (ts.map ndD), .int .i64 i] (fun r => r = .d (ndD (kidN ts i))) := by
  refine acalls_of ty_ok isRKid rfl rfl ?_
  obtain ⟨K, hK⟩ : ∃ K, K = ts.map ndD := ⟨_, rfl⟩
  have hKl : K.length = ts.length := by rw [hK]; simp
  rw [← hK]
  unfold nodeD kidN
  by_cases h : 0 ≤ i ∧ i < ts.length
  · rw [if_pos h]
    have hX : K.getD i.toNat default = ndD (ts.getD i.toNat (0, [], [])) := by
      have h2 : i.toNat < ts.length := by omega
      rw [hK, List.getD_eq_getElem?_getD, List.getD_eq_getElem?_getD, List.getElem?_map, List.getElem?_eq_getElem h2]
      rfl
    have hcan := nd_facts hX
    repeat' (first | ((with_reducible show AWp _ _ _ _ _); (first | refine awp_seq ?_ | refine awp_block ?_ | refine awp_skip ?_ | refine awp_exit ?_ | refine awp_scope ?_ | refine awp_label ?_ | refine awp_run ty_ok rfl sdm ?_ | refine awp_ret ⟨_, _, rfl, rfl, ?_⟩ | refine awp_ret ⟨_, rfl, ?_⟩ | ((refine awp_cond (ty := ty) rfl (fun hc => ?_) (fun hc => ?_)) <;> (try simp only [nms, reduceCtorEq] at hc) <;> (try (exfalso; omega))))) | ((with_reducible show AOps _ _ _ _ _ _); (first | refine aops_nil ?_ | refine aops_go ty_ok rfl rfl sdm ?_ | refine aops_gate ty_ok rfl rfl rfl sdm ?_ | refine aops_litE ty_ok rfl rfl rfl rfl rfl rfl rfl rfl rfl rfl rfl rfl ?_ | refine aops_litA ty_ok rfl rfl rfl rfl rfl rfl rfl rfl rfl rfl rfl rfl rfl rfl rfl rfl ?_ | refine aops_buildArr ty_ok rfl rfl rfl rfl rfl rfl rfl rfl rfl rfl ?_ | refine aops_indexArr ty_ok rfl rfl rfl rfl rfl rfl rfl rfl rfl rfl sdm ?_ | refine aops_lit0 ty_ok rfl rfl rfl rfl rfl rfl rfl ?_ | refine aops_field ty_ok rfl rfl rfl rfl rfl rfl rfl rfl rfl rfl ?_ | refine aops_cutE ty_ok rfl rfl rfl rfl rfl rfl rfl rfl rfl sdm rfl ?_ | ((fail_if_success (refine aops_known rfl ?_)); (refine aops_split ty_ok rfl rfl rfl rfl rfl rfl (fun hc => ⟨?_, ?_⟩) (fun hc => ⟨?_, ?_⟩)) <;> (try simp only [nms, reduceCtorEq] at hc) <;> (try (exfalso; omega)) <;> (try exact sdm)))) | ((fail_if_success (with_reducible show AWp _ _ _ _ _)); (fail_if_success (with_reducible show AOps _ _ _ _ _ _)); (first | (show AWp _ _ _ _ _) | (show AOps _ _ _ _ _ _))))
    all_goals first | (exfalso; omega) | (rw [← hX]; exact congrArg Res.d hcan.symm)
  · rw [if_neg h]
    repeat' (first | ((with_reducible show AWp _ _ _ _ _); (first | refine awp_seq ?_ | refine awp_block ?_ | refine awp_skip ?_ | refine awp_exit ?_ | refine awp_scope ?_ | refine awp_label ?_ | refine awp_run ty_ok rfl sdm ?_ | refine awp_ret ⟨_, _, rfl, rfl, ?_⟩ | refine awp_ret ⟨_, rfl, ?_⟩ | ((refine awp_cond (ty := ty) rfl (fun hc => ?_) (fun hc => ?_)) <;> (try simp only [nms, reduceCtorEq] at hc) <;> (try (exfalso; omega))))) | ((with_reducible show AOps _ _ _ _ _ _); (first | refine aops_nil ?_ | refine aops_go ty_ok rfl rfl sdm ?_ | refine aops_gate ty_ok rfl rfl rfl sdm ?_ | refine aops_litE ty_ok rfl rfl rfl rfl rfl rfl rfl rfl rfl rfl rfl rfl ?_ | refine aops_litA ty_ok rfl rfl rfl rfl rfl rfl rfl rfl rfl rfl rfl rfl rfl rfl rfl rfl ?_ | refine aops_buildArr ty_ok rfl rfl rfl rfl rfl rfl rfl rfl rfl rfl ?_ | refine aops_indexArr ty_ok rfl rfl rfl rfl rfl rfl rfl rfl rfl rfl sdm ?_ | refine aops_lit0 ty_ok rfl rfl rfl rfl rfl rfl rfl ?_ | refine aops_field ty_ok rfl rfl rfl rfl rfl rfl rfl rfl rfl rfl ?_ | refine aops_cutE ty_ok rfl rfl rfl rfl rfl rfl rfl rfl rfl sdm rfl ?_ | ((fail_if_success (refine aops_known rfl ?_)); (refine aops_split ty_ok rfl rfl rfl rfl rfl rfl (fun hc => ⟨?_, ?_⟩) (fun hc => ⟨?_, ?_⟩)) <;> (try simp only [nms, reduceCtorEq] at hc) <;> (try (exfalso; omega)) <;> (try exact sdm)))) | ((fail_if_success (with_reducible show AWp _ _ _ _ _)); (fail_if_success (with_reducible show AOps _ _ _ _ _ _)); (first | (show AWp _ _ _ _ _) | (show AOps _ _ _ _ _ _))))
    all_goals first | (exfalso; omega) | rfl
theorem kidN_len {ts : List (UInt8 × List UInt8 × List Dat)} {B : Nat} (h : ∀ t ∈ ts, t.2.1.length ≤ B) (i : Int) : (kidN ts i).2.1.length ≤ B := by
  unfold kidN
  split
  · rename_i hi
    have h2 : i.toNat < ts.length := by omega
    rw [List.getD_eq_getElem?_getD, List.getElem?_eq_getElem h2]
    exact h _ (List.getElem_mem h2)
  · exact Nat.zero_le _
end Go.Proofs.YtdihjpmdmfmbiaaGreatDoor

/- Algorithm identifiers: Valid, Marshal, Parse. Walked by the abstract machine. -/
namespace Go.Proofs.YtdihjpmdmfmbiaaGreatDoor
open Go.Am
set_option linter.unusedSimpArgs false
set_option linter.unusedVariables false
-- withAmZ withAmMp

theorem isAOpen : IsFn Tryz.prog 35 Tryz.f35 := ⟨Tryz.func35, by decide, rfl⟩
theorem c_aopen (Γ : Env) (b : List UInt8) (hb : b.length ≤ 1000000) {v : Bool} (h : opB b = v) : ACalls Tryz.prog Γ 35 [.sl none (bys b)] (fun r => r = .d (.bool v)) := by
  refine acalls_of ty_ok isAOpen rfl rfl ?_
  subst h
  rw [opB]
  cases hr : wiF 16 b with
  | bad e o =>
    have := wi_bad hr
    repeat' (first | ((with_reducible show AWp _ _ _ _ _); (first | refine awp_seq ?_ | refine awp_block ?_ | refine awp_skip ?_ | refine awp_exit ?_ | refine awp_scope ?_ | refine awp_label ?_ | refine awp_run ty_ok rfl sdm ?_ | refine awp_ret ⟨_, _, rfl, rfl, ?_⟩ | refine awp_ret ⟨_, rfl, ?_⟩ | ((refine awp_cond (ty := ty) rfl (fun hc => ?_) (fun hc => ?_)) <;> (try simp only [nms, reduceCtorEq] at hc) <;> (try (exfalso; omega))))) | ((with_reducible show AOps _ _ _ _ _ _); (first | refine aops_nil ?_ | refine aops_go ty_ok rfl rfl sdm ?_ | refine aops_gate ty_ok rfl rfl rfl sdm ?_ | refine aops_callE (ty := ty) rfl rfl rfl rfl rfl rfl rfl (c_tparse_at _ b hb hr) rfl ?_ | refine aops_litE ty_ok rfl rfl rfl rfl rfl rfl rfl rfl rfl rfl rfl rfl ?_ | refine aops_litA ty_ok rfl rfl rfl rfl rfl rfl rfl rfl rfl rfl rfl rfl rfl rfl rfl rfl ?_ | refine aops_buildArr ty_ok rfl rfl rfl rfl rfl rfl rfl rfl rfl rfl ?_ | refine aops_indexArr ty_ok rfl rfl rfl rfl rfl rfl rfl rfl rfl rfl sdm ?_ | refine aops_lit0 ty_ok rfl rfl rfl rfl rfl rfl rfl ?_ | refine aops_field ty_ok rfl rfl rfl rfl rfl rfl rfl rfl rfl rfl ?_ | refine aops_cutE ty_ok rfl rfl rfl rfl rfl rfl rfl rfl rfl sdm rfl ?_ | ((fail_if_success (refine aops_known rfl ?_)); (refine aops_split ty_ok rfl rfl rfl rfl rfl rfl (fun hc => ⟨?_, ?_⟩) (fun hc => ⟨?_, ?_⟩)) <;> (try simp only [nms, reduceCtorEq] at hc) <;> (try (exfalso; omega)) <;> (try exact sdm)))) | ((fail_if_success (with_reducible show AWp _ _ _ _ _)); (fail_if_success (with_reducible show AOps _ _ _ _ _ _)); (first | (show AWp _ _ _ _ _) | (show AOps _ _ _ _ _ _))))
    simp only
    rw [beq_eq_false_iff_ne.2 (by omega)]
  | ok n =>
    obtain ⟨x, c, ks, rfl⟩ := tr_node (wi_ok.1 hr)
    repeat' (first | ((with_reducible show AWp _ _ _ _ _); (first | refine awp_seq ?_ | refine awp_block ?_ | refine awp_skip ?_ | refine awp_exit ?_ | refine awp_scope ?_ | refine awp_label ?_ | refine awp_run ty_ok rfl sdm ?_ | refine awp_ret ⟨_, _, rfl, rfl, ?_⟩ | refine awp_ret ⟨_, rfl, ?_⟩ | ((refine awp_cond (ty := ty) rfl (fun hc => ?_) (fun hc => ?_)) <;> (try simp only [nms, reduceCtorEq] at hc) <;> (try (exfalso; omega))))) | ((with_reducible show AOps _ _ _ _ _ _); (first | refine aops_nil ?_ | refine aops_go ty_ok rfl rfl sdm ?_ | refine aops_gate ty_ok rfl rfl rfl sdm ?_ | refine aops_callE (ty := ty) rfl rfl rfl rfl rfl rfl rfl (c_tparse_at _ b hb hr) rfl ?_ | refine aops_litE ty_ok rfl rfl rfl rfl rfl rfl rfl rfl rfl rfl rfl rfl ?_ | refine aops_litA ty_ok rfl rfl rfl rfl rfl rfl rfl rfl rfl rfl rfl rfl rfl rfl rfl rfl ?_ | refine aops_buildArr ty_ok rfl rfl rfl rfl rfl rfl rfl rfl rfl rfl ?_ | refine aops_indexArr ty_ok rfl rfl rfl rfl rfl rfl rfl rfl rfl rfl sdm ?_ | refine aops_lit0 ty_ok rfl rfl rfl rfl rfl rfl rfl ?_ | refine aops_field ty_ok rfl rfl rfl rfl rfl rfl rfl rfl rfl rfl ?_ | refine aops_cutE ty_ok rfl rfl rfl rfl rfl rfl rfl rfl rfl sdm rfl ?_ | ((fail_if_success (refine aops_known rfl ?_)); (refine aops_split ty_ok rfl rfl rfl rfl rfl rfl (fun hc => ⟨?_, ?_⟩) (fun hc => ⟨?_, ?_⟩)) <;> (try simp only [nms, reduceCtorEq] at hc) <;> (try (exfalso; omega)) <;> (try exact sdm)))) | ((fail_if_success (with_reducible show AWp _ _ _ _ _)); (fail_if_success (with_reducible show AOps _ _ _ _ _ _)); (first | (show AWp _ _ _ _ _) | (show AOps _ _ _ _ _ _))))
    rfl
theorem isAValid : IsFn Tryz.prog 16 Tryz.f16 := ⟨Tryz.func16, by decide, rfl⟩
theorem c_avalid (a : Alg) (ho : a.o.length ≤ 100000000) (hp : a.p.length ≤ 1000000) {v : Bool} (h : agV a = v) : ACalls Tryz.prog envL 16 [agD a] (fun r => r = .d (.bool v)) := by
  refine acalls_of ty_ok isAValid rfl rfl ?_
  subst h
  have hc1 := c_ovalid a.o ho
  have hc2 := c_aopen (envL.at 0) a.p hp rfl
  unfold sD at hc1
  unfold agD sD agV
  obtain ⟨o, p⟩ := a
  simp only at hc1 hc2 ⊢
  have hl := bys_len p
  cases hv : oidV o with
  | false =>
    rw [hv] at hc1
    repeat' (first | ((with_reducible show AWp _ _ _ _ _); (first | refine awp_seq ?_ | refine awp_block ?_ | refine awp_skip ?_ | refine awp_exit ?_ | refine awp_scope ?_ | refine awp_label ?_ | refine awp_run ty_ok rfl sdm ?_ | refine awp_ret ⟨_, _, rfl, rfl, ?_⟩ | refine awp_ret ⟨_, rfl, ?_⟩ | ((refine awp_cond (ty := ty) rfl (fun hc => ?_) (fun hc => ?_)) <;> (try simp only [nms, reduceCtorEq] at hc) <;> (try (exfalso; omega))))) | ((with_reducible show AOps _ _ _ _ _ _); (first | refine aops_nil ?_ | refine aops_go ty_ok rfl rfl sdm ?_ | refine aops_gate ty_ok rfl rfl rfl sdm ?_ | refine aops_callE (ty := ty) rfl rfl rfl rfl rfl rfl rfl (hc1) rfl ?_ | refine aops_litE ty_ok rfl rfl rfl rfl rfl rfl rfl rfl rfl rfl rfl rfl ?_ | refine aops_litA ty_ok rfl rfl rfl rfl rfl rfl rfl rfl rfl rfl rfl rfl rfl rfl rfl rfl ?_ | refine aops_buildArr ty_ok rfl rfl rfl rfl rfl rfl rfl rfl rfl rfl ?_ | refine aops_indexArr ty_ok rfl rfl rfl rfl rfl rfl rfl rfl rfl rfl sdm ?_ | refine aops_lit0 ty_ok rfl rfl rfl rfl rfl rfl rfl ?_ | refine aops_field ty_ok rfl rfl rfl rfl rfl rfl rfl rfl rfl rfl ?_ | refine aops_cutE ty_ok rfl rfl rfl rfl rfl rfl rfl rfl rfl sdm rfl ?_ | ((fail_if_success (refine aops_known rfl ?_)); (refine aops_split ty_ok rfl rfl rfl rfl rfl rfl (fun hc => ⟨?_, ?_⟩) (fun hc => ⟨?_, ?_⟩)) <;> (try simp only [nms, reduceCtorEq] at hc) <;> (try (exfalso; omega)) <;> (try exact sdm)))) | ((fail_if_success (with_reducible show AWp _ _ _ _ _)); (fail_if_success (with_reducible show AOps _ _ _ _ _ _)); (first | (show AWp _ _ _ _ _) | (show AOps _ _ _ _ _ _))))
    rfl
  | true =>
    rw [hv] at hc1
    cases p with
    | nil =>
      repeat' (first | ((with_reducible show AWp _ _ _ _ _); (first | refine awp_seq ?_ | refine awp_block ?_ | refine awp_skip ?_ | refine awp_exit ?_ | refine awp_scope ?_ | refine awp_label ?_ | refine awp_run ty_ok rfl sdm ?_ | refine awp_ret ⟨_, _, rfl, rfl, ?_⟩ | refine awp_ret ⟨_, rfl, ?_⟩ | ((refine awp_cond (ty := ty) rfl (fun hc => ?_) (fun hc => ?_)) <;> (try simp only [nms, reduceCtorEq] at hc) <;> (try (exfalso; omega))))) | ((with_reducible show AOps _ _ _ _ _ _); (first | refine aops_nil ?_ | refine aops_go ty_ok rfl rfl sdm ?_ | refine aops_gate ty_ok rfl rfl rfl sdm ?_ | refine aops_callE (ty := ty) rfl rfl rfl rfl rfl rfl rfl (hc1) rfl ?_ | refine aops_litE ty_ok rfl rfl rfl rfl rfl rfl rfl rfl rfl rfl rfl rfl ?_ | refine aops_litA ty_ok rfl rfl rfl rfl rfl rfl rfl rfl rfl rfl rfl rfl rfl rfl rfl rfl ?_ | refine aops_buildArr ty_ok rfl rfl rfl rfl rfl rfl rfl rfl rfl rfl ?_ | refine aops_indexArr ty_ok rfl rfl rfl rfl rfl rfl rfl rfl rfl rfl sdm ?_ | refine aops_lit0 ty_ok rfl rfl rfl rfl rfl rfl rfl ?_ | refine aops_field ty_ok rfl rfl rfl rfl rfl rfl rfl rfl rfl rfl ?_ | refine aops_cutE ty_ok rfl rfl rfl rfl rfl rfl rfl rfl rfl sdm rfl ?_ | ((fail_if_success (refine aops_known rfl ?_)); (refine aops_split ty_ok rfl rfl rfl rfl rfl rfl (fun hc => ⟨?_, ?_⟩) (fun hc => ⟨?_, ?_⟩)) <;> (try simp only [nms, reduceCtorEq] at hc) <;> (try (exfalso; omega)) <;> (try exact sdm)))) | ((fail_if_success (with_reducible show AWp _ _ _ _ _)); (fail_if_success (with_reducible show AOps _ _ _ _ _ _)); (first | (show AWp _ _ _ _ _) | (show AOps _ _ _ _ _ _))))
      rfl
    | cons x r =>
      simp only [List.length_cons] at hl
      repeat' (first | ((with_reducible show AWp _ _ _ _ _); (first | refine awp_seq ?_ | refine awp_block ?_ | refine awp_skip ?_ | refine awp_exit ?_ | refine awp_scope ?_ | refine awp_label ?_ | refine awp_run ty_ok rfl sdm ?_ | refine awp_ret ⟨_, _, rfl, rfl, ?_⟩ | refine awp_ret ⟨_, rfl, ?_⟩ | ((refine awp_cond (ty := ty) rfl (fun hc => ?_) (fun hc => ?_)) <;> (try simp only [nms, reduceCtorEq] at hc) <;> (try (exfalso; omega))))) | ((with_reducible show AOps _ _ _ _ _ _); (first | refine aops_nil ?_ | refine aops_go ty_ok rfl rfl sdm ?_ | refine aops_gate ty_ok rfl rfl rfl sdm ?_ | refine aops_callE (ty := ty) rfl rfl rfl rfl rfl rfl rfl (hc1) rfl ?_ | refine aops_callE (ty := ty) rfl rfl rfl rfl rfl rfl rfl (hc2) rfl ?_ | refine aops_litE ty_ok rfl rfl rfl rfl rfl rfl rfl rfl rfl rfl rfl rfl ?_ | refine aops_litA ty_ok rfl rfl rfl rfl rfl rfl rfl rfl rfl rfl rfl rfl rfl rfl rfl rfl ?_ | refine aops_buildArr ty_ok rfl rfl rfl rfl rfl rfl rfl rfl rfl rfl ?_ | refine aops_indexArr ty_ok rfl rfl rfl rfl rfl rfl rfl rfl rfl rfl sdm ?_ | refine aops_lit0 ty_ok rfl rfl rfl rfl rfl rfl rfl ?_ | refine aops_field ty_ok rfl rfl rfl rfl rfl rfl rfl rfl rfl rfl ?_ | refine aops_cutE ty_ok rfl rfl rfl rfl rfl rfl rfl rfl rfl sdm rfl ?_ | ((fail_if_success (refine aops_known rfl ?_)); (refine aops_split ty_ok rfl rfl rfl rfl rfl rfl (fun hc => ⟨?_, ?_⟩) (fun hc => ⟨?_, ?_⟩)) <;> (try simp only [nms, reduceCtorEq] at hc) <;> (try (exfalso; omega)) <;> (try exact sdm)))) | ((fail_if_success (with_reducible show AWp _ _ _ _ _)); (fail_if_success (with_reducible show AOps _ _ _ _ _ _)); (first | (show AWp _ _ _ _ _) | (show AOps _ _ _ _ _ _))))
      rfl
theorem isAObject : IsFn Tryz.prog 30 Tryz.f30 := ⟨Tryz.func30, by decide, rfl⟩
theorem c_aobject_ok (s : List UInt8) (hl : s.length ≤ 1000000) (h : oidV s = true) : ACalls Tryz.prog envL 30 [sD s] (fun r => r = .ownT none 5 (bys (objF s)) [.int .i64 0]) := by
  refine acalls_of ty_ok isAObject rfl rfl ?_
  have he := encO_len s
  have hc1 := c_oenc_okO s (by omega) h
  have hw := c_wrap (envL.at 0) 0 6 false [encO s] (by omega) (by omega) (by simp) (by simp; omega)
  unfold sD at hc1 ⊢
  repeat' (first | ((with_reducible show AWp _ _ _ _ _); (first | refine awp_seq ?_ | refine awp_block ?_ | refine awp_skip ?_ | refine awp_exit ?_ | refine awp_scope ?_ | refine awp_label ?_ | refine awp_run ty_ok rfl sdm ?_ | refine awp_ret ⟨_, _, rfl, rfl, ?_⟩ | refine awp_ret ⟨_, rfl, ?_⟩ | ((refine awp_cond (ty := ty) rfl (fun hc => ?_) (fun hc => ?_)) <;> (try simp only [nms, reduceCtorEq] at hc) <;> (try (exfalso; omega))))) | ((with_reducible show AOps _ _ _ _ _ _); (first | refine aops_nil ?_ | refine aops_go ty_ok rfl rfl sdm ?_ | refine aops_gate ty_ok rfl rfl rfl sdm ?_ | refine aops_callE (ty := ty) rfl rfl rfl rfl rfl rfl rfl (hc1) rfl ?_ | refine aops_callE (ty := ty) rfl rfl rfl rfl rfl rfl rfl (hw) rfl ?_ | refine aops_litE ty_ok rfl rfl rfl rfl rfl rfl rfl rfl rfl rfl rfl rfl ?_ | refine aops_litA ty_ok rfl rfl rfl rfl rfl rfl rfl rfl rfl rfl rfl rfl rfl rfl rfl rfl ?_ | refine aops_buildArr ty_ok rfl rfl rfl rfl rfl rfl rfl rfl rfl rfl ?_ | refine aops_indexArr ty_ok rfl rfl rfl rfl rfl rfl rfl rfl rfl rfl sdm ?_ | refine aops_lit0 ty_ok rfl rfl rfl rfl rfl rfl rfl ?_ | refine aops_field ty_ok rfl rfl rfl rfl rfl rfl rfl rfl rfl rfl ?_ | refine aops_cutE ty_ok rfl rfl rfl rfl rfl rfl rfl rfl rfl sdm rfl ?_ | ((fail_if_success (refine aops_known rfl ?_)); (refine aops_split ty_ok rfl rfl rfl rfl rfl rfl (fun hc => ⟨?_, ?_⟩) (fun hc => ⟨?_, ?_⟩)) <;> (try simp only [nms, reduceCtorEq] at hc) <;> (try (exfalso; omega)) <;> (try exact sdm)))) | ((fail_if_success (with_reducible show AWp _ _ _ _ _)); (fail_if_success (with_reducible show AOps _ _ _ _ _ _)); (first | (show AWp _ _ _ _ _) | (show AOps _ _ _ _ _ _))))
  all_goals simp [objF, idB]
def agR (a : Alg) : Res := match agV a with
  | true => .ownT none 5 (bys (agF a)) [.int .i64 0]
  | false => .d (.tup [.sl none [], .int .i64 8])
theorem isAMarshal : IsFn Tryz.prog 13 Tryz.f13 := ⟨Tryz.func13, by decide, rfl⟩
set_option maxHeartbeats 2000000 in
theorem c_amarshal (a : Alg) (ho : a.o.length ≤ 1000000) (hp : a.p.length ≤ 1000000) : ACalls Tryz.prog envL 13 [agD a] (fun r => r = agR a) := by
  refine acalls_of ty_ok isAMarshal rfl rfl ?_
  have he := encO_len a.o
  have hcat := agF_le a
  have hfl := agF_len a
  unfold agR
  cases hv : agV a with
  | false =>
    have hc1 := c_avalid a (by omega) hp hv
    unfold agD sD at hc1
    unfold agD sD
    repeat' (first | ((with_reducible show AWp _ _ _ _ _); (first | refine awp_seq ?_ | refine awp_block ?_ | refine awp_skip ?_ | refine awp_exit ?_ | refine awp_scope ?_ | refine awp_label ?_ | refine awp_run ty_ok rfl sdm ?_ | refine awp_ret ⟨_, _, rfl, rfl, ?_⟩ | refine awp_ret ⟨_, rfl, ?_⟩ | ((refine awp_cond (ty := ty) rfl (fun hc => ?_) (fun hc => ?_)) <;> (try simp only [nms, reduceCtorEq] at hc) <;> (try (exfalso; omega))))) | ((with_reducible show AOps _ _ _ _ _ _); (first | refine aops_nil ?_ | refine aops_go ty_ok rfl rfl sdm ?_ | refine aops_gate ty_ok rfl rfl rfl sdm ?_ | refine aops_callE (ty := ty) rfl rfl rfl rfl rfl rfl rfl (hc1) rfl ?_ | refine aops_litE ty_ok rfl rfl rfl rfl rfl rfl rfl rfl rfl rfl rfl rfl ?_ | refine aops_litA ty_ok rfl rfl rfl rfl rfl rfl rfl rfl rfl rfl rfl rfl rfl rfl rfl rfl ?_ | refine aops_buildArr ty_ok rfl rfl rfl rfl rfl rfl rfl rfl rfl rfl ?_ | refine aops_indexArr ty_ok rfl rfl rfl rfl rfl rfl rfl rfl rfl rfl sdm ?_ | refine aops_lit0 ty_ok rfl rfl rfl rfl rfl rfl rfl ?_ | refine aops_field ty_ok rfl rfl rfl rfl rfl rfl rfl rfl rfl rfl ?_ | refine aops_cutE ty_ok rfl rfl rfl rfl rfl rfl rfl rfl rfl sdm rfl ?_ | ((fail_if_success (refine aops_known rfl ?_)); (refine aops_split ty_ok rfl rfl rfl rfl rfl rfl (fun hc => ⟨?_, ?_⟩) (fun hc => ⟨?_, ?_⟩)) <;> (try simp only [nms, reduceCtorEq] at hc) <;> (try (exfalso; omega)) <;> (try exact sdm)))) | ((fail_if_success (with_reducible show AWp _ _ _ _ _)); (fail_if_success (with_reducible show AOps _ _ _ _ _ _)); (first | (show AWp _ _ _ _ _) | (show AOps _ _ _ _ _ _))))
    rfl
  | true =>
    have hc1 := c_avalid a (by omega) hp hv
    have hc2 := c_aobject_ok a.o ho (ag_val hv)
    have hs := c_sequence (envL.at 0) [objF a.o, a.p] (by simp) (by
      show [objF a.o, a.p].flatten.length ≤ _
      rw [show [objF a.o, a.p].flatten = agBd a from by simp [agBd]]
      omega)
    unfold agD sD at hc1
    unfold sD at hc2
    unfold agD sD
    repeat' (first | ((with_reducible show AWp _ _ _ _ _); (first | refine awp_seq ?_ | refine awp_block ?_ | refine awp_skip ?_ | refine awp_exit ?_ | refine awp_scope ?_ | refine awp_label ?_ | refine awp_run ty_ok rfl sdm ?_ | refine awp_ret ⟨_, _, rfl, rfl, ?_⟩ | refine awp_ret ⟨_, rfl, ?_⟩ | ((refine awp_cond (ty := ty) rfl (fun hc => ?_) (fun hc => ?_)) <;> (try simp only [nms, reduceCtorEq] at hc) <;> (try (exfalso; omega))))) | ((with_reducible show AOps _ _ _ _ _ _); (first | refine aops_nil ?_ | refine aops_go ty_ok rfl rfl sdm ?_ | refine aops_gate ty_ok rfl rfl rfl sdm ?_ | refine aops_callE (ty := ty) rfl rfl rfl rfl rfl rfl rfl (hc1) rfl ?_ | refine aops_callE (ty := ty) rfl rfl rfl rfl rfl rfl rfl (hc2) rfl ?_ | refine aops_callE (ty := ty) rfl rfl rfl rfl rfl rfl rfl (hs) rfl ?_ | refine aops_litE ty_ok rfl rfl rfl rfl rfl rfl rfl rfl rfl rfl rfl rfl ?_ | refine aops_litA ty_ok rfl rfl rfl rfl rfl rfl rfl rfl rfl rfl rfl rfl rfl rfl rfl rfl ?_ | refine aops_buildArr ty_ok rfl rfl rfl rfl rfl rfl rfl rfl rfl rfl ?_ | refine aops_indexArr ty_ok rfl rfl rfl rfl rfl rfl rfl rfl rfl rfl sdm ?_ | refine aops_lit0 ty_ok rfl rfl rfl rfl rfl rfl rfl ?_ | refine aops_field ty_ok rfl rfl rfl rfl rfl rfl rfl rfl rfl rfl ?_ | refine aops_cutE ty_ok rfl rfl rfl rfl rfl rfl rfl rfl rfl sdm rfl ?_ | ((fail_if_success (refine aops_known rfl ?_)); (refine aops_split ty_ok rfl rfl rfl rfl rfl rfl (fun hc => ⟨?_, ?_⟩) (fun hc => ⟨?_, ?_⟩)) <;> (try simp only [nms, reduceCtorEq] at hc) <;> (try (exfalso; omega)) <;> (try exact sdm)))) | ((fail_if_success (with_reducible show AWp _ _ _ _ _)); (fail_if_success (with_reducible show AOps _ _ _ _ _ _)); (first | (show AWp _ _ _ _ _) | (show AOps _ _ _ _ _ _))))
    all_goals simp [agF, agBd]
theorem c_amarshal_ok (a : Alg) (ho : a.o.length ≤ 1000000) (hp : a.p.length ≤ 1000000) (h : agV a = true) : ACalls Tryz.prog envL 13 [agD a] (fun r => r = .ownT none 5 (bys (agF a)) [.int .i64 0]) := by
  have := c_amarshal a ho hp
  rwa [agR, h] at this
theorem c_amarshal_bad (a : Alg) (ho : a.o.length ≤ 1000000) (hp : a.p.length ≤ 1000000) (h : agV a = false) : ACalls Tryz.prog envL 13 [agD a] (fun r => r = .d (.tup [.sl none [], .int .i64 8])) := by
  have := c_amarshal a ho hp
  rwa [agR, h] at this
end Go.Proofs.YtdihjpmdmfmbiaaGreatDoor
