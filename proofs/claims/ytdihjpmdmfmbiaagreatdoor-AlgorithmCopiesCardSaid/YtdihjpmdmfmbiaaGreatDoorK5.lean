/- Part 5 of the texts of this proof: an abstract machine for walks, the walks of the functions, plain laws. Each part says in its own first lines what is proved there. -/
import Derived.Test.YtdihjpmdmfmbiaaGreatDoorK4
import Derived.Lay
import Derived.Stop.Joined
import Derived.SizedLaws

/- Algorithm identifiers: Parse. Walked by the abstract machine. -/
namespace Go.Proofs.YtdihjpmdmfmbiaaGreatDoor
open Go.Am
set_option linter.unusedSimpArgs false
set_option linter.unusedVariables false
-- withAmZ withAmMp

theorem isAFailed : IsFn Tryz.prog 39 Tryz.f39 := ⟨Tryz.func39, by decide, rfl⟩
theorem c_afailed (Γ : Env) (c : Nat) (o : Nat) : ACalls Tryz.prog Γ 39 [.int .i64 c, .int .i64 o] (fun r => r = .d (errD c o)) := by
  refine acalls_of ty_ok isAFailed rfl rfl ?_
  repeat' (first | ((with_reducible show AWp _ _ _ _ _); (first | refine awp_seq ?_ | refine awp_block ?_ | refine awp_skip ?_ | refine awp_exit ?_ | refine awp_scope ?_ | refine awp_label ?_ | refine awp_run ty_ok rfl sdm ?_ | refine awp_ret ⟨_, _, rfl, rfl, ?_⟩ | refine awp_ret ⟨_, rfl, ?_⟩ | ((refine awp_cond (ty := ty) rfl (fun hc => ?_) (fun hc => ?_)) <;> (try simp only [nms, reduceCtorEq] at hc) <;> (try (exfalso; omega))))) | ((with_reducible show AOps _ _ _ _ _ _); (first | refine aops_nil ?_ | refine aops_go ty_ok rfl rfl sdm ?_ | refine aops_gate ty_ok rfl rfl rfl sdm ?_ | refine aops_litE ty_ok rfl rfl rfl rfl rfl rfl rfl rfl rfl rfl rfl rfl ?_ | refine aops_litA ty_ok rfl rfl rfl rfl rfl rfl rfl rfl rfl rfl rfl rfl rfl rfl rfl rfl ?_ | refine aops_buildArr ty_ok rfl rfl rfl rfl rfl rfl rfl rfl rfl rfl ?_ | refine aops_indexArr ty_ok rfl rfl rfl rfl rfl rfl rfl rfl rfl rfl sdm ?_ | refine aops_lit0 ty_ok rfl rfl rfl rfl rfl rfl rfl ?_ | refine aops_field ty_ok rfl rfl rfl rfl rfl rfl rfl rfl rfl rfl ?_ | refine aops_cutE ty_ok rfl rfl rfl rfl rfl rfl rfl rfl rfl sdm rfl ?_ | ((fail_if_success (refine aops_known rfl ?_)); (refine aops_split ty_ok rfl rfl rfl rfl rfl rfl (fun hc => ⟨?_, ?_⟩) (fun hc => ⟨?_, ?_⟩)) <;> (try simp only [nms, reduceCtorEq] at hc) <;> (try (exfalso; omega)) <;> (try exact sdm)))) | ((fail_if_success (with_reducible show AWp _ _ _ _ _)); (fail_if_success (with_reducible show AOps _ _ _ _ _ _)); (first | (show AWp _ _ _ _ _) | (show AOps _ _ _ _ _ _))))
  rfl
def apR : Ex Alg → Res
  | .bad c o => .d (.tup [agD ag0, errD c o])
  | .ok a => .d (.tup [agD a, errD 0 0])
theorem isAParse : IsFn Tryz.prog 18 Tryz.f18 := ⟨Tryz.func18, by decide, rfl⟩
set_option maxHeartbeats 4000000 in
set_option maxRecDepth 100000 in
theorem c_aparse (b : List UInt8) (hb : b.length ≤ 1000000) : ACalls Tryz.prog envL 18 [.sl none (bys b)] (fun r => r = apR (agP b)) := by
  refine acalls_of ty_ok isAParse rfl rfl ?_
  rw [agP]
  cases hp : ptF b 0 16 with
  | bad c o =>
    have hc1 := c_parts_at (envL.at 0) b 0 16 (by omega) hp
    have := pt_bad hp
    repeat' (first | ((with_reducible show AWp _ _ _ _ _); (first | refine awp_seq ?_ | refine awp_block ?_ | refine awp_skip ?_ | refine awp_exit ?_ | refine awp_scope ?_ | refine awp_label ?_ | refine awp_run ty_ok rfl sdm ?_ | refine awp_ret ⟨_, _, rfl, rfl, ?_⟩ | refine awp_ret ⟨_, rfl, ?_⟩ | ((refine awp_cond (ty := ty) rfl (fun hc => ?_) (fun hc => ?_)) <;> (try simp only [nms, reduceCtorEq] at hc) <;> (try (exfalso; omega))) | refine awp_anyS 3 2 ty_ok mixed rfl rfl rfl rfl rfl rfl rfl rfl rfl (by kernel_rfl) ?_)) | ((with_reducible show AOps _ _ _ _ _ _); (first | refine aops_nil ?_ | refine aops_go ty_ok rfl rfl sdm ?_ | refine aops_gate ty_ok rfl rfl rfl sdm ?_ | refine aops_callE (ty := ty) rfl rfl rfl rfl rfl rfl rfl (hc1) rfl ?_ | refine aops_litE ty_ok rfl rfl rfl rfl rfl rfl rfl rfl rfl rfl rfl rfl ?_ | refine aops_litA ty_ok rfl rfl rfl rfl rfl rfl rfl rfl rfl rfl rfl rfl rfl rfl rfl rfl ?_ | refine aops_buildArr ty_ok rfl rfl rfl rfl rfl rfl rfl rfl rfl rfl ?_ | refine aops_indexArr ty_ok rfl rfl rfl rfl rfl rfl rfl rfl rfl rfl sdm ?_ | refine aops_lit0 ty_ok rfl rfl rfl rfl rfl rfl rfl ?_ | refine aops_field ty_ok rfl rfl rfl rfl rfl rfl rfl rfl rfl rfl ?_ | refine aops_cutE ty_ok rfl rfl rfl rfl rfl rfl rfl rfl rfl sdm rfl ?_ | ((fail_if_success (refine aops_known rfl ?_)); (refine aops_split ty_ok rfl rfl rfl rfl rfl rfl (fun hc => ⟨?_, ?_⟩) (fun hc => ⟨?_, ?_⟩)) <;> (try simp only [nms, reduceCtorEq] at hc) <;> (try (exfalso; omega)) <;> (try exact sdm)))) | ((with_reducible show HeadT _ _ _ _ _ _ _ _ _ _); (first | refine head_end ?_ | refine head_goP ty_ok rfl rfl sdm ?_ | refine head_gate ty_ok rfl rfl rfl sdm ?_ | refine head_callE (ty := ty) rfl rfl rfl rfl rfl rfl rfl (hc1) rfl ?_ | ((fail_if_success (refine head_known rfl ?_)); (refine head_split ty_ok rfl rfl rfl rfl (fun hc => ⟨?_, ?_⟩) (fun hc => ⟨?_, ?_⟩)) <;> (try simp only [nms, reduceCtorEq] at hc) <;> (try (exfalso; omega)) <;> (try exact sdm)))) | ((fail_if_success (with_reducible show AWp _ _ _ _ _)); (fail_if_success (with_reducible show AOps _ _ _ _ _ _)); (fail_if_success (with_reducible show HeadT _ _ _ _ _ _ _ _ _ _)); (first | (show AWp _ _ _ _ _) | (show AOps _ _ _ _ _ _) | refine st_go rfl rfl rfl rfl rfl rfl rfl ?_)))
    rfl
  | ok l =>
    have hc1 := (c_parts_at (envL.at 0) b 0 16 (by omega) hp).ownT_d
    obtain ⟨ts, hbe, E⟩ := seq_ok hp
    match l, E, hp, hc1 with
    | [], E, hp, hc1 =>
      have hl : (els []).length = 0 := rfl
      have hf := c_afailed (envL.at 0) 1 b.length
      rw [← bys_len b] at hf
      repeat' (first | ((with_reducible show AWp _ _ _ _ _); (first | refine awp_seq ?_ | refine awp_block ?_ | refine awp_skip ?_ | refine awp_exit ?_ | refine awp_scope ?_ | refine awp_label ?_ | refine awp_run ty_ok rfl sdm ?_ | refine awp_ret ⟨_, _, rfl, rfl, ?_⟩ | refine awp_ret ⟨_, rfl, ?_⟩ | ((refine awp_cond (ty := ty) rfl (fun hc => ?_) (fun hc => ?_)) <;> (try simp only [nms, reduceCtorEq] at hc) <;> (try (exfalso; omega))))) | ((with_reducible show AOps _ _ _ _ _ _); (first | refine aops_nil ?_ | refine aops_go ty_ok rfl rfl sdm ?_ | refine aops_gate ty_ok rfl rfl rfl sdm ?_ | refine aops_callE (ty := ty) rfl rfl rfl rfl rfl rfl rfl (hc1) rfl ?_ | refine aops_callE (ty := ty) rfl rfl rfl rfl rfl rfl rfl (hf) rfl ?_ | refine aops_litE ty_ok rfl rfl rfl rfl rfl rfl rfl rfl rfl rfl rfl rfl ?_ | refine aops_litA ty_ok rfl rfl rfl rfl rfl rfl rfl rfl rfl rfl rfl rfl rfl rfl rfl rfl ?_ | refine aops_buildArr ty_ok rfl rfl rfl rfl rfl rfl rfl rfl rfl rfl ?_ | refine aops_indexArr ty_ok rfl rfl rfl rfl rfl rfl rfl rfl rfl rfl sdm ?_ | refine aops_lit0 ty_ok rfl rfl rfl rfl rfl rfl rfl ?_ | refine aops_field ty_ok rfl rfl rfl rfl rfl rfl rfl rfl rfl rfl ?_ | refine aops_cutE ty_ok rfl rfl rfl rfl rfl rfl rfl rfl rfl sdm rfl ?_ | ((fail_if_success (refine aops_known rfl ?_)); (refine aops_split ty_ok rfl rfl rfl rfl rfl rfl (fun hc => ⟨?_, ?_⟩) (fun hc => ⟨?_, ?_⟩)) <;> (try simp only [nms, reduceCtorEq] at hc) <;> (try (exfalso; omega)) <;> (try exact sdm)))) | ((fail_if_success (with_reducible show AWp _ _ _ _ _)); (fail_if_success (with_reducible show AOps _ _ _ _ _ _)); (first | (show AWp _ _ _ _ _) | (show AOps _ _ _ _ _ _))))
      first | rfl | (rw [bys_len]; rfl)
    | e :: f :: g :: r, E, hp, hc1 =>
      have hl : (els (e :: f :: g :: r)).length = r.length + 3 := by simp [els_len]
      obtain ⟨s1, s2, s3, s4, s5, s6, s7⟩ := el_facts (X := (els (e :: f :: g :: r)).getD (Int.toNat 2) default) (e := g) rfl
      have hf := c_afailed (envL.at 0) 2 g.st
      rw [← s5] at hf
      repeat' (first | ((with_reducible show AWp _ _ _ _ _); (first | refine awp_seq ?_ | refine awp_block ?_ | refine awp_skip ?_ | refine awp_exit ?_ | refine awp_scope ?_ | refine awp_label ?_ | refine awp_run ty_ok rfl sdm ?_ | refine awp_ret ⟨_, _, rfl, rfl, ?_⟩ | refine awp_ret ⟨_, rfl, ?_⟩ | ((refine awp_cond (ty := ty) rfl (fun hc => ?_) (fun hc => ?_)) <;> (try simp only [nms, reduceCtorEq] at hc) <;> (try (exfalso; omega))))) | ((with_reducible show AOps _ _ _ _ _ _); (first | refine aops_nil ?_ | refine aops_go ty_ok rfl rfl sdm ?_ | refine aops_gate ty_ok rfl rfl rfl sdm ?_ | refine aops_callE (ty := ty) rfl rfl rfl rfl rfl rfl rfl (hc1) rfl ?_ | refine aops_callE (ty := ty) rfl rfl rfl rfl rfl rfl rfl (hf) rfl ?_ | refine aops_litE ty_ok rfl rfl rfl rfl rfl rfl rfl rfl rfl rfl rfl rfl ?_ | refine aops_litA ty_ok rfl rfl rfl rfl rfl rfl rfl rfl rfl rfl rfl rfl rfl rfl rfl rfl ?_ | refine aops_buildArr ty_ok rfl rfl rfl rfl rfl rfl rfl rfl rfl rfl ?_ | refine aops_indexArr ty_ok rfl rfl rfl rfl rfl rfl rfl rfl rfl rfl sdm ?_ | refine aops_lit0 ty_ok rfl rfl rfl rfl rfl rfl rfl ?_ | refine aops_field ty_ok rfl rfl rfl rfl rfl rfl rfl rfl rfl rfl ?_ | refine aops_cutE ty_ok rfl rfl rfl rfl rfl rfl rfl rfl rfl sdm rfl ?_ | ((fail_if_success (refine aops_known rfl ?_)); (refine aops_split ty_ok rfl rfl rfl rfl rfl rfl (fun hc => ⟨?_, ?_⟩) (fun hc => ⟨?_, ?_⟩)) <;> (try simp only [nms, reduceCtorEq] at hc) <;> (try (exfalso; omega)) <;> (try exact sdm)))) | ((fail_if_success (with_reducible show AWp _ _ _ _ _)); (fail_if_success (with_reducible show AOps _ _ _ _ _ _)); (first | (show AWp _ _ _ _ _) | (show AOps _ _ _ _ _ _))))
      first | rfl | (rw [s5]; rfl)
    | [e], E, hp, hc1 =>
      simp only
      obtain ⟨h1, h2, h3⟩ := E.le 0 (by simp)
      simp only [List.getElem_cons_zero, List.getElem_cons_succ] at h1 h2 h3
      obtain ⟨q1, q2, q3, q4, q5, q6, q7⟩ := el_facts (X := (els [e]).getD (Int.toNat 0) default) (e := e) rfl
      have hl : (els [e]).length = 1 := rfl
      obtain ⟨k1, k2, k3⟩ := cut_side b h2 h3
      cases hi : isB e.x 0 false 6 with
      | false =>
        have hc2 := c_is_at (envL.at 0) e 0 6 false hi
        have hf := c_afailed (envL.at 0) 3 e.st
        rw [← q5] at hf
        rw [agI, hi]
        repeat' (first | ((with_reducible show AWp _ _ _ _ _); (first | refine awp_seq ?_ | refine awp_block ?_ | refine awp_skip ?_ | refine awp_exit ?_ | refine awp_scope ?_ | refine awp_label ?_ | refine awp_run ty_ok rfl sdm ?_ | refine awp_ret ⟨_, _, rfl, rfl, ?_⟩ | refine awp_ret ⟨_, rfl, ?_⟩ | ((refine awp_cond (ty := ty) rfl (fun hc => ?_) (fun hc => ?_)) <;> (try simp only [nms, reduceCtorEq] at hc) <;> (try (exfalso; omega))))) | ((with_reducible show AOps _ _ _ _ _ _); (first | refine aops_nil ?_ | refine aops_go ty_ok rfl rfl sdm ?_ | refine aops_gate ty_ok rfl rfl rfl sdm ?_ | refine aops_callE (ty := ty) rfl rfl rfl rfl rfl rfl rfl (hc1) rfl ?_ | refine aops_callE (ty := ty) rfl rfl rfl rfl rfl rfl rfl (hc2) rfl ?_ | refine aops_callE (ty := ty) rfl rfl rfl rfl rfl rfl rfl (hf) rfl ?_ | refine aops_litE ty_ok rfl rfl rfl rfl rfl rfl rfl rfl rfl rfl rfl rfl ?_ | refine aops_litA ty_ok rfl rfl rfl rfl rfl rfl rfl rfl rfl rfl rfl rfl rfl rfl rfl rfl ?_ | refine aops_buildArr ty_ok rfl rfl rfl rfl rfl rfl rfl rfl rfl rfl ?_ | refine aops_indexArr ty_ok rfl rfl rfl rfl rfl rfl rfl rfl rfl rfl sdm ?_ | refine aops_lit0 ty_ok rfl rfl rfl rfl rfl rfl rfl ?_ | refine aops_field ty_ok rfl rfl rfl rfl rfl rfl rfl rfl rfl rfl ?_ | refine aops_cutE ty_ok rfl rfl rfl rfl rfl rfl rfl rfl rfl sdm rfl ?_ | ((fail_if_success (refine aops_known rfl ?_)); (refine aops_split ty_ok rfl rfl rfl rfl rfl rfl (fun hc => ⟨?_, ?_⟩) (fun hc => ⟨?_, ?_⟩)) <;> (try simp only [nms, reduceCtorEq] at hc) <;> (try (exfalso; omega)) <;> (try exact sdm)))) | ((fail_if_success (with_reducible show AWp _ _ _ _ _)); (fail_if_success (with_reducible show AOps _ _ _ _ _ _)); (first | (show AWp _ _ _ _ _) | (show AOps _ _ _ _ _ _))))
        first | rfl | (rw [q5]; rfl)
      | true =>
        have hc2 := c_is_at (envL.at 0) e 0 6 false hi
        rw [agI, hi]
        by_cases hd : (decS (cut b e.bd e.en)).2 = 0
        · have hc3 := c_odec_ok b h3 h2 (by omega) hd
          rw [decide_eq_true hd]
          simp only
          repeat' (first | ((with_reducible show AWp _ _ _ _ _); (first | refine awp_seq ?_ | refine awp_block ?_ | refine awp_skip ?_ | refine awp_exit ?_ | refine awp_scope ?_ | refine awp_label ?_ | refine awp_run ty_ok rfl sdm ?_ | refine awp_ret ⟨_, _, rfl, rfl, ?_⟩ | refine awp_ret ⟨_, rfl, ?_⟩ | ((refine awp_cond (ty := ty) rfl (fun hc => ?_) (fun hc => ?_)) <;> (try simp only [nms, reduceCtorEq] at hc) <;> (try (exfalso; omega))) | refine awp_anyL 15 mixed rfl (by kernel_rfl) ?_)) | ((with_reducible show AOps _ _ _ _ _ _); (first | refine aops_nil ?_ | refine aops_go ty_ok rfl rfl sdm ?_ | refine aops_gate ty_ok rfl rfl rfl sdm ?_ | refine aops_callE (ty := ty) rfl rfl rfl rfl rfl rfl rfl (hc1) rfl ?_ | refine aops_callE (ty := ty) rfl rfl rfl rfl rfl rfl rfl (hc2) rfl ?_ | refine aops_callE (ty := ty) rfl rfl rfl rfl rfl rfl rfl (hc3) rfl ?_ | refine aops_litE ty_ok rfl rfl rfl rfl rfl rfl rfl rfl rfl rfl rfl rfl ?_ | refine aops_litA ty_ok rfl rfl rfl rfl rfl rfl rfl rfl rfl rfl rfl rfl rfl rfl rfl rfl ?_ | refine aops_buildArr ty_ok rfl rfl rfl rfl rfl rfl rfl rfl rfl rfl ?_ | refine aops_indexArr ty_ok rfl rfl rfl rfl rfl rfl rfl rfl rfl rfl sdm ?_ | refine aops_lit0 ty_ok rfl rfl rfl rfl rfl rfl rfl ?_ | refine aops_field ty_ok rfl rfl rfl rfl rfl rfl rfl rfl rfl rfl ?_ | refine aops_cutE ty_ok rfl rfl rfl rfl rfl rfl rfl rfl rfl sdm rfl ?_ | ((fail_if_success (refine aops_known rfl ?_)); (refine aops_split ty_ok rfl rfl rfl rfl rfl rfl (fun hc => ⟨?_, ?_⟩) (fun hc => ⟨?_, ?_⟩)) <;> (try simp only [nms, reduceCtorEq] at hc) <;> (try (exfalso; omega)) <;> (try exact sdm)))) | ((with_reducible show HeadT _ _ _ _ _ _ _ _ _ _); (first | refine head_end ?_ | refine head_goP ty_ok rfl rfl sdm ?_ | refine head_gate ty_ok rfl rfl rfl sdm ?_ | refine head_callE (ty := ty) rfl rfl rfl rfl rfl rfl rfl (hc1) rfl ?_ | refine head_callE (ty := ty) rfl rfl rfl rfl rfl rfl rfl (hc2) rfl ?_ | refine head_callE (ty := ty) rfl rfl rfl rfl rfl rfl rfl (hc3) rfl ?_ | ((fail_if_success (refine head_known rfl ?_)); (refine head_split ty_ok rfl rfl rfl rfl (fun hc => ⟨?_, ?_⟩) (fun hc => ⟨?_, ?_⟩)) <;> (try simp only [nms, reduceCtorEq] at hc) <;> (try (exfalso; omega)) <;> (try exact sdm)))) | ((fail_if_success (with_reducible show AWp _ _ _ _ _)); (fail_if_success (with_reducible show AOps _ _ _ _ _ _)); (fail_if_success (with_reducible show HeadT _ _ _ _ _ _ _ _ _ _)); (first | (show AWp _ _ _ _ _) | (show AOps _ _ _ _ _ _))))
          rfl
        · have hc3 := c_odec_bad b h3 h2 (by omega) hd
          rw [decide_eq_false hd]
          have hf := c_afailed (envL.at 0) 6 e.bd
          rw [← q6] at hf
          repeat' (first | ((with_reducible show AWp _ _ _ _ _); (first | refine awp_seq ?_ | refine awp_block ?_ | refine awp_skip ?_ | refine awp_exit ?_ | refine awp_scope ?_ | refine awp_label ?_ | refine awp_run ty_ok rfl sdm ?_ | refine awp_ret ⟨_, _, rfl, rfl, ?_⟩ | refine awp_ret ⟨_, rfl, ?_⟩ | ((refine awp_cond (ty := ty) rfl (fun hc => ?_) (fun hc => ?_)) <;> (try simp only [nms, reduceCtorEq] at hc) <;> (try (exfalso; omega))) | refine awp_anyL 15 mixed rfl (by kernel_rfl) ?_ | refine awp_anyS 8 7 ty_ok mixed rfl rfl rfl rfl rfl rfl rfl rfl rfl (by kernel_rfl) ?_)) | ((with_reducible show AOps _ _ _ _ _ _); (first | refine aops_nil ?_ | refine aops_go ty_ok rfl rfl sdm ?_ | refine aops_gate ty_ok rfl rfl rfl sdm ?_ | refine aops_callE (ty := ty) rfl rfl rfl rfl rfl rfl rfl (hc1) rfl ?_ | refine aops_callE (ty := ty) rfl rfl rfl rfl rfl rfl rfl (hc2) rfl ?_ | refine aops_callE (ty := ty) rfl rfl rfl rfl rfl rfl rfl (hc3) rfl ?_ | refine aops_callE (ty := ty) rfl rfl rfl rfl rfl rfl rfl (hf) rfl ?_ | refine aops_litE ty_ok rfl rfl rfl rfl rfl rfl rfl rfl rfl rfl rfl rfl ?_ | refine aops_litA ty_ok rfl rfl rfl rfl rfl rfl rfl rfl rfl rfl rfl rfl rfl rfl rfl rfl ?_ | refine aops_buildArr ty_ok rfl rfl rfl rfl rfl rfl rfl rfl rfl rfl ?_ | refine aops_indexArr ty_ok rfl rfl rfl rfl rfl rfl rfl rfl rfl rfl sdm ?_ | refine aops_lit0 ty_ok rfl rfl rfl rfl rfl rfl rfl ?_ | refine aops_field ty_ok rfl rfl rfl rfl rfl rfl rfl rfl rfl rfl ?_ | refine aops_cutE ty_ok rfl rfl rfl rfl rfl rfl rfl rfl rfl sdm rfl ?_ | ((fail_if_success (refine aops_known rfl ?_)); (refine aops_split ty_ok rfl rfl rfl rfl rfl rfl (fun hc => ⟨?_, ?_⟩) (fun hc => ⟨?_, ?_⟩)) <;> (try simp only [nms, reduceCtorEq] at hc) <;> (try (exfalso; omega)) <;> (try exact sdm)))) | ((with_reducible show HeadT _ _ _ _ _ _ _ _ _ _); (first | refine head_end ?_ | refine head_goP ty_ok rfl rfl sdm ?_ | refine head_gate ty_ok rfl rfl rfl sdm ?_ | refine head_callE (ty := ty) rfl rfl rfl rfl rfl rfl rfl (hc1) rfl ?_ | refine head_callE (ty := ty) rfl rfl rfl rfl rfl rfl rfl (hc2) rfl ?_ | refine head_callE (ty := ty) rfl rfl rfl rfl rfl rfl rfl (hc3) rfl ?_ | refine head_callE (ty := ty) rfl rfl rfl rfl rfl rfl rfl (hf) rfl ?_ | ((fail_if_success (refine head_known rfl ?_)); (refine head_split ty_ok rfl rfl rfl rfl (fun hc => ⟨?_, ?_⟩) (fun hc => ⟨?_, ?_⟩)) <;> (try simp only [nms, reduceCtorEq] at hc) <;> (try (exfalso; omega)) <;> (try exact sdm)))) | ((fail_if_success (with_reducible show AWp _ _ _ _ _)); (fail_if_success (with_reducible show AOps _ _ _ _ _ _)); (fail_if_success (with_reducible show HeadT _ _ _ _ _ _ _ _ _ _)); (first | (show AWp _ _ _ _ _) | (show AOps _ _ _ _ _ _) | refine st_go rfl rfl rfl rfl rfl rfl rfl ?_)))
          first | rfl | (rw [q6]; rfl)
    | [e, f], E, hp, hc1 =>
      simp only
      obtain ⟨h1, h2, h3⟩ := E.le 0 (by simp)
      obtain ⟨h4, h5, h6⟩ := E.le 1 (by simp)
      simp only [List.getElem_cons_zero, List.getElem_cons_succ] at h1 h2 h3 h4 h5 h6
      obtain ⟨q1, q2, q3, q4, q5, q6, q7⟩ := el_facts (X := (els [e, f]).getD (Int.toNat 0) default) (e := e) rfl
      obtain ⟨p1, p2, p3, p4, p5, p6, p7⟩ := el_facts (X := (els [e, f]).getD (Int.toNat 1) default) (e := f) rfl
      have hl : (els [e, f]).length = 2 := rfl
      obtain ⟨k1, k2, k3⟩ := cut_side b h2 h3
      obtain ⟨k4, k5, k6⟩ := cut_side b (Nat.le_trans h4 h5) h6
      cases hi : isB e.x 0 false 6 with
      | false =>
        have hc2 := c_is_at (envL.at 0) e 0 6 false hi
        have hf := c_afailed (envL.at 0) 3 e.st
        rw [← q5] at hf
        rw [agI, hi]
        repeat' (first | ((with_reducible show AWp _ _ _ _ _); (first | refine awp_seq ?_ | refine awp_block ?_ | refine awp_skip ?_ | refine awp_exit ?_ | refine awp_scope ?_ | refine awp_label ?_ | refine awp_run ty_ok rfl sdm ?_ | refine awp_ret ⟨_, _, rfl, rfl, ?_⟩ | refine awp_ret ⟨_, rfl, ?_⟩ | ((refine awp_cond (ty := ty) rfl (fun hc => ?_) (fun hc => ?_)) <;> (try simp only [nms, reduceCtorEq] at hc) <;> (try (exfalso; omega))))) | ((with_reducible show AOps _ _ _ _ _ _); (first | refine aops_nil ?_ | refine aops_go ty_ok rfl rfl sdm ?_ | refine aops_gate ty_ok rfl rfl rfl sdm ?_ | refine aops_callE (ty := ty) rfl rfl rfl rfl rfl rfl rfl (hc1) rfl ?_ | refine aops_callE (ty := ty) rfl rfl rfl rfl rfl rfl rfl (hc2) rfl ?_ | refine aops_callE (ty := ty) rfl rfl rfl rfl rfl rfl rfl (hf) rfl ?_ | refine aops_litE ty_ok rfl rfl rfl rfl rfl rfl rfl rfl rfl rfl rfl rfl ?_ | refine aops_litA ty_ok rfl rfl rfl rfl rfl rfl rfl rfl rfl rfl rfl rfl rfl rfl rfl rfl ?_ | refine aops_buildArr ty_ok rfl rfl rfl rfl rfl rfl rfl rfl rfl rfl ?_ | refine aops_indexArr ty_ok rfl rfl rfl rfl rfl rfl rfl rfl rfl rfl sdm ?_ | refine aops_lit0 ty_ok rfl rfl rfl rfl rfl rfl rfl ?_ | refine aops_field ty_ok rfl rfl rfl rfl rfl rfl rfl rfl rfl rfl ?_ | refine aops_cutE ty_ok rfl rfl rfl rfl rfl rfl rfl rfl rfl sdm rfl ?_ | ((fail_if_success (refine aops_known rfl ?_)); (refine aops_split ty_ok rfl rfl rfl rfl rfl rfl (fun hc => ⟨?_, ?_⟩) (fun hc => ⟨?_, ?_⟩)) <;> (try simp only [nms, reduceCtorEq] at hc) <;> (try (exfalso; omega)) <;> (try exact sdm)))) | ((fail_if_success (with_reducible show AWp _ _ _ _ _)); (fail_if_success (with_reducible show AOps _ _ _ _ _ _)); (first | (show AWp _ _ _ _ _) | (show AOps _ _ _ _ _ _))))
        first | rfl | (rw [q5]; rfl)
      | true =>
        have hc2 := c_is_at (envL.at 0) e 0 6 false hi
        rw [agI, hi]
        by_cases hd : (decS (cut b e.bd e.en)).2 = 0
        · have hc3 := c_odec_ok b h3 h2 (by omega) hd
          rw [decide_eq_true hd]
          simp only
          have hcl := cut_len b f.st f.en h6
          have hc5 := (c_clone_at (envL.at 0) b (i := f.st) h6 hb).own_d
          cases hw : wiF 16 (cut b f.st f.en) with
          | bad c o =>
            have hc6 := c_tparse_at (envL.at 0) (cut b f.st f.en) (by omega) hw
            have := wi_le hw
            have hf := c_afailed (envL.at 0) c (f.st + o)
            repeat' (first | ((with_reducible show AWp _ _ _ _ _); (first | refine awp_seq ?_ | refine awp_block ?_ | refine awp_skip ?_ | refine awp_exit ?_ | refine awp_scope ?_ | refine awp_label ?_ | refine awp_run ty_ok rfl sdm ?_ | refine awp_ret ⟨_, _, rfl, rfl, ?_⟩ | refine awp_ret ⟨_, rfl, ?_⟩ | ((refine awp_cond (ty := ty) rfl (fun hc => ?_) (fun hc => ?_)) <;> (try simp only [nms, reduceCtorEq] at hc) <;> (try (exfalso; omega))) | refine awp_anyL 15 mixed rfl (by kernel_rfl) ?_ | refine awp_anyS 12 11 ty_ok mixed rfl rfl rfl rfl rfl rfl rfl rfl rfl (by kernel_rfl) ?_ | refine awp_anyL 12 mixed rfl (by kernel_rfl) ?_)) | ((with_reducible show AOps _ _ _ _ _ _); (first | refine aops_nil ?_ | refine aops_go ty_ok rfl rfl sdm ?_ | refine aops_gate ty_ok rfl rfl rfl sdm ?_ | refine aops_callE (ty := ty) rfl rfl rfl rfl rfl rfl rfl (hc1) rfl ?_ | refine aops_callE (ty := ty) rfl rfl rfl rfl rfl rfl rfl (hc2) rfl ?_ | refine aops_callE (ty := ty) rfl rfl rfl rfl rfl rfl rfl (hc3) rfl ?_ | refine aops_callE (ty := ty) rfl rfl rfl rfl rfl rfl rfl (hc5) rfl ?_ | refine aops_callE (ty := ty) rfl rfl rfl rfl rfl rfl rfl (hc6) rfl ?_ | refine aops_callE (ty := ty) rfl rfl rfl rfl rfl rfl rfl (hf) rfl ?_ | refine aops_litE ty_ok rfl rfl rfl rfl rfl rfl rfl rfl rfl rfl rfl rfl ?_ | refine aops_litA ty_ok rfl rfl rfl rfl rfl rfl rfl rfl rfl rfl rfl rfl rfl rfl rfl rfl ?_ | refine aops_buildArr ty_ok rfl rfl rfl rfl rfl rfl rfl rfl rfl rfl ?_ | refine aops_indexArr ty_ok rfl rfl rfl rfl rfl rfl rfl rfl rfl rfl sdm ?_ | refine aops_lit0 ty_ok rfl rfl rfl rfl rfl rfl rfl ?_ | refine aops_field ty_ok rfl rfl rfl rfl rfl rfl rfl rfl rfl rfl ?_ | refine aops_cutE ty_ok rfl rfl rfl rfl rfl rfl rfl rfl rfl sdm rfl ?_ | ((fail_if_success (refine aops_known rfl ?_)); (refine aops_split ty_ok rfl rfl rfl rfl rfl rfl (fun hc => ⟨?_, ?_⟩) (fun hc => ⟨?_, ?_⟩)) <;> (try simp only [nms, reduceCtorEq] at hc) <;> (try (exfalso; omega)) <;> (try exact sdm)))) | ((with_reducible show HeadT _ _ _ _ _ _ _ _ _ _); (first | refine head_end ?_ | refine head_goP ty_ok rfl rfl sdm ?_ | refine head_gate ty_ok rfl rfl rfl sdm ?_ | refine head_callE (ty := ty) rfl rfl rfl rfl rfl rfl rfl (hc1) rfl ?_ | refine head_callE (ty := ty) rfl rfl rfl rfl rfl rfl rfl (hc2) rfl ?_ | refine head_callE (ty := ty) rfl rfl rfl rfl rfl rfl rfl (hc3) rfl ?_ | refine head_callE (ty := ty) rfl rfl rfl rfl rfl rfl rfl (hc5) rfl ?_ | refine head_callE (ty := ty) rfl rfl rfl rfl rfl rfl rfl (hc6) rfl ?_ | refine head_callE (ty := ty) rfl rfl rfl rfl rfl rfl rfl (hf) rfl ?_ | ((fail_if_success (refine head_known rfl ?_)); (refine head_split ty_ok rfl rfl rfl rfl (fun hc => ⟨?_, ?_⟩) (fun hc => ⟨?_, ?_⟩)) <;> (try simp only [nms, reduceCtorEq] at hc) <;> (try (exfalso; omega)) <;> (try exact sdm)))) | ((fail_if_success (with_reducible show AWp _ _ _ _ _)); (fail_if_success (with_reducible show AOps _ _ _ _ _ _)); (fail_if_success (with_reducible show HeadT _ _ _ _ _ _ _ _ _ _)); (first | (show AWp _ _ _ _ _) | (show AOps _ _ _ _ _ _) | refine st_go rfl rfl rfl rfl rfl rfl rfl ?_)))
            rfl
          | ok n =>
            have hc6 := c_tparse_at (envL.at 0) (cut b f.st f.en) (by omega) hw
            obtain ⟨x, c, ks, rfl⟩ := tr_node (wi_ok.1 hw)
            repeat' (first | ((with_reducible show AWp _ _ _ _ _); (first | refine awp_seq ?_ | refine awp_block ?_ | refine awp_skip ?_ | refine awp_exit ?_ | refine awp_scope ?_ | refine awp_label ?_ | refine awp_run ty_ok rfl sdm ?_ | refine awp_ret ⟨_, _, rfl, rfl, ?_⟩ | refine awp_ret ⟨_, rfl, ?_⟩ | ((refine awp_cond (ty := ty) rfl (fun hc => ?_) (fun hc => ?_)) <;> (try simp only [nms, reduceCtorEq] at hc) <;> (try (exfalso; omega))) | refine awp_anyL 15 mixed rfl (by kernel_rfl) ?_ | refine awp_anyS 12 11 ty_ok mixed rfl rfl rfl rfl rfl rfl rfl rfl rfl (by kernel_rfl) ?_ | refine awp_anyL 12 mixed rfl (by kernel_rfl) ?_)) | ((with_reducible show AOps _ _ _ _ _ _); (first | refine aops_nil ?_ | refine aops_go ty_ok rfl rfl sdm ?_ | refine aops_gate ty_ok rfl rfl rfl sdm ?_ | refine aops_callE (ty := ty) rfl rfl rfl rfl rfl rfl rfl (hc1) rfl ?_ | refine aops_callE (ty := ty) rfl rfl rfl rfl rfl rfl rfl (hc2) rfl ?_ | refine aops_callE (ty := ty) rfl rfl rfl rfl rfl rfl rfl (hc3) rfl ?_ | refine aops_callE (ty := ty) rfl rfl rfl rfl rfl rfl rfl (hc5) rfl ?_ | refine aops_callE (ty := ty) rfl rfl rfl rfl rfl rfl rfl (hc6) rfl ?_ | refine aops_litE ty_ok rfl rfl rfl rfl rfl rfl rfl rfl rfl rfl rfl rfl ?_ | refine aops_litA ty_ok rfl rfl rfl rfl rfl rfl rfl rfl rfl rfl rfl rfl rfl rfl rfl rfl ?_ | refine aops_buildArr ty_ok rfl rfl rfl rfl rfl rfl rfl rfl rfl rfl ?_ | refine aops_indexArr ty_ok rfl rfl rfl rfl rfl rfl rfl rfl rfl rfl sdm ?_ | refine aops_lit0 ty_ok rfl rfl rfl rfl rfl rfl rfl ?_ | refine aops_field ty_ok rfl rfl rfl rfl rfl rfl rfl rfl rfl rfl ?_ | refine aops_cutE ty_ok rfl rfl rfl rfl rfl rfl rfl rfl rfl sdm rfl ?_ | ((fail_if_success (refine aops_known rfl ?_)); (refine aops_split ty_ok rfl rfl rfl rfl rfl rfl (fun hc => ⟨?_, ?_⟩) (fun hc => ⟨?_, ?_⟩)) <;> (try simp only [nms, reduceCtorEq] at hc) <;> (try (exfalso; omega)) <;> (try exact sdm)))) | ((with_reducible show HeadT _ _ _ _ _ _ _ _ _ _); (first | refine head_end ?_ | refine head_goP ty_ok rfl rfl sdm ?_ | refine head_gate ty_ok rfl rfl rfl sdm ?_ | refine head_callE (ty := ty) rfl rfl rfl rfl rfl rfl rfl (hc1) rfl ?_ | refine head_callE (ty := ty) rfl rfl rfl rfl rfl rfl rfl (hc2) rfl ?_ | refine head_callE (ty := ty) rfl rfl rfl rfl rfl rfl rfl (hc3) rfl ?_ | refine head_callE (ty := ty) rfl rfl rfl rfl rfl rfl rfl (hc5) rfl ?_ | refine head_callE (ty := ty) rfl rfl rfl rfl rfl rfl rfl (hc6) rfl ?_ | ((fail_if_success (refine head_known rfl ?_)); (refine head_split ty_ok rfl rfl rfl rfl (fun hc => ⟨?_, ?_⟩) (fun hc => ⟨?_, ?_⟩)) <;> (try simp only [nms, reduceCtorEq] at hc) <;> (try (exfalso; omega)) <;> (try exact sdm)))) | ((fail_if_success (with_reducible show AWp _ _ _ _ _)); (fail_if_success (with_reducible show AOps _ _ _ _ _ _)); (fail_if_success (with_reducible show HeadT _ _ _ _ _ _ _ _ _ _)); (first | (show AWp _ _ _ _ _) | (show AOps _ _ _ _ _ _) | refine st_go rfl rfl rfl rfl rfl rfl rfl ?_)))
            rfl
        · have hc3 := c_odec_bad b h3 h2 (by omega) hd
          rw [decide_eq_false hd]
          have hf := c_afailed (envL.at 0) 6 e.bd
          rw [← q6] at hf
          repeat' (first | ((with_reducible show AWp _ _ _ _ _); (first | refine awp_seq ?_ | refine awp_block ?_ | refine awp_skip ?_ | refine awp_exit ?_ | refine awp_scope ?_ | refine awp_label ?_ | refine awp_run ty_ok rfl sdm ?_ | refine awp_ret ⟨_, _, rfl, rfl, ?_⟩ | refine awp_ret ⟨_, rfl, ?_⟩ | ((refine awp_cond (ty := ty) rfl (fun hc => ?_) (fun hc => ?_)) <;> (try simp only [nms, reduceCtorEq] at hc) <;> (try (exfalso; omega))) | refine awp_anyL 15 mixed rfl (by kernel_rfl) ?_ | refine awp_anyS 8 7 ty_ok mixed rfl rfl rfl rfl rfl rfl rfl rfl rfl (by kernel_rfl) ?_)) | ((with_reducible show AOps _ _ _ _ _ _); (first | refine aops_nil ?_ | refine aops_go ty_ok rfl rfl sdm ?_ | refine aops_gate ty_ok rfl rfl rfl sdm ?_ | refine aops_callE (ty := ty) rfl rfl rfl rfl rfl rfl rfl (hc1) rfl ?_ | refine aops_callE (ty := ty) rfl rfl rfl rfl rfl rfl rfl (hc2) rfl ?_ | refine aops_callE (ty := ty) rfl rfl rfl rfl rfl rfl rfl (hc3) rfl ?_ | refine aops_callE (ty := ty) rfl rfl rfl rfl rfl rfl rfl (hf) rfl ?_ | refine aops_litE ty_ok rfl rfl rfl rfl rfl rfl rfl rfl rfl rfl rfl rfl ?_ | refine aops_litA ty_ok rfl rfl rfl rfl rfl rfl rfl rfl rfl rfl rfl rfl rfl rfl rfl rfl ?_ | refine aops_buildArr ty_ok rfl rfl rfl rfl rfl rfl rfl rfl rfl rfl ?_ | refine aops_indexArr ty_ok rfl rfl rfl rfl rfl rfl rfl rfl rfl rfl sdm ?_ | refine aops_lit0 ty_ok rfl rfl rfl rfl rfl rfl rfl ?_ | refine aops_field ty_ok rfl rfl rfl rfl rfl rfl rfl rfl rfl rfl ?_ | refine aops_cutE ty_ok rfl rfl rfl rfl rfl rfl rfl rfl rfl sdm rfl ?_ | ((fail_if_success (refine aops_known rfl ?_)); (refine aops_split ty_ok rfl rfl rfl rfl rfl rfl (fun hc => ⟨?_, ?_⟩) (fun hc => ⟨?_, ?_⟩)) <;> (try simp only [nms, reduceCtorEq] at hc) <;> (try (exfalso; omega)) <;> (try exact sdm)))) | ((with_reducible show HeadT _ _ _ _ _ _ _ _ _ _); (first | refine head_end ?_ | refine head_goP ty_ok rfl rfl sdm ?_ | refine head_gate ty_ok rfl rfl rfl sdm ?_ | refine head_callE (ty := ty) rfl rfl rfl rfl rfl rfl rfl (hc1) rfl ?_ | refine head_callE (ty := ty) rfl rfl rfl rfl rfl rfl rfl (hc2) rfl ?_ | refine head_callE (ty := ty) rfl rfl rfl rfl rfl rfl rfl (hc3) rfl ?_ | refine head_callE (ty := ty) rfl rfl rfl rfl rfl rfl rfl (hf) rfl ?_ | ((fail_if_success (refine head_known rfl ?_)); (refine head_split ty_ok rfl rfl rfl rfl (fun hc => ⟨?_, ?_⟩) (fun hc => ⟨?_, ?_⟩)) <;> (try simp only [nms, reduceCtorEq] at hc) <;> (try (exfalso; omega)) <;> (try exact sdm)))) | ((fail_if_success (with_reducible show AWp _ _ _ _ _)); (fail_if_success (with_reducible show AOps _ _ _ _ _ _)); (fail_if_success (with_reducible show HeadT _ _ _ _ _ _ _ _ _ _)); (first | (show AWp _ _ _ _ _) | (show AOps _ _ _ _ _ _) | refine st_go rfl rfl rfl rfl rfl rfl rfl ?_)))
          first | rfl | (rw [q6]; rfl)
theorem c_aparse_at (b : List UInt8) (hb : b.length ≤ 1000000) {v : Ex Alg} (h : agP b = v) : ACalls Tryz.prog envL 18 [.sl none (bys b)] (fun r => r = apR v) := by
  subst h
  exact c_aparse b hb
end Go.Proofs.YtdihjpmdmfmbiaaGreatDoor

/- The abstract machine: a drawn head that makes a box and stores into it. No program. -/
namespace Go.Am
open Go.RowKit
set_option linter.unusedSimpArgs false
set_option linter.unusedVariables false
section
variable {P : Program} {Γ : Env} {Q : Exit → St → Prop} {σ : St} {ty : TypeId → Option TI}

/-- The entry of the operation ja, with an object. -/
def phi (ja : Nat) (b : AO) (e : Ent) : Ent := match Nat.beq e.j ja with
  | true => ⟨e.j, e.dst, e.y, some b⟩
  | false => e
theorem phi_eq {ja : Nat} {b : AO} {e : Ent} (h : e.j = ja) : phi ja b e = ⟨e.j, e.dst, e.y, some b⟩ := by
  unfold phi
  rw [show Nat.beq e.j ja = true by rw [Nat.beq_eq]; exact h]
theorem phi_ne {ja : Nat} {b : AO} {e : Ent} (h : e.j ≠ ja) : phi ja b e = e := by
  unfold phi
  cases hb : Nat.beq e.j ja with
  | true => exact absurd (Nat.eq_of_beq_eq_true hb) h
  | false => rfl
theorem phi_j (ja : Nat) (b : AO) (e : Ent) : (phi ja b e).j = e.j := by
  by_cases h : e.j = ja
  · rw [phi_eq h]
  · rw [phi_ne h]
theorem phi_dst (ja : Nat) (b : AO) (e : Ent) : (phi ja b e).dst = e.dst := by
  by_cases h : e.j = ja
  · rw [phi_eq h]
  · rw [phi_ne h]
theorem tmOf_phi {ja : Nat} {b : AO} {tm : List (Nat × AV)} : ∀ (es : List Ent), tmOf (es.map (phi ja b)) tm = tmOf es tm
  | [] => rfl
  | ⟨j, d, y, ob⟩ :: r => by
    rw [List.map_cons]
    by_cases h : j = ja
    · rw [phi_eq (e := ⟨j, d, y, ob⟩) h]
      cases d with
      | none => rw [tmOf, tmOf, tmOf_phi r]
      | some d => rw [tmOf, tmOf, tmOf_phi r]
    · rw [phi_ne (e := ⟨j, d, y, ob⟩) h]
      cases d with
      | none => rw [tmOf, tmOf, tmOf_phi r]
      | some d => rw [tmOf, tmOf, tmOf_phi r]
theorem HeadL.phi {l : List Oper} {n : Nat} {es : List Ent} (H : HeadL l σ n es) (ja : Nat) (b : AO) : HeadL l σ n (es.map (Am.phi ja b)) := by
  refine ⟨fun o ho => ?_, fun e he e' he' hj => ?_, fun e he => ?_, fun e he e' he' t hd hd' => ?_, H.low⟩
  · obtain ⟨e, h1, h2, h3⟩ := H.entd o ho
    exact ⟨_, List.mem_map_of_mem h1, by rw [phi_dst]; exact h2, h3⟩
  · obtain ⟨x, hx, rfl⟩ := List.mem_map.1 he
    obtain ⟨x', hx', rfl⟩ := List.mem_map.1 he'
    rw [phi_j, phi_j] at hj
    rw [H.uniq x hx x' hx' hj]
  · obtain ⟨x, hx, rfl⟩ := List.mem_map.1 he
    rw [phi_j, phi_dst]
    exact H.lt x hx
  · obtain ⟨x, hx, rfl⟩ := List.mem_map.1 he
    obtain ⟨x', hx', rfl⟩ := List.mem_map.1 he'
    rw [phi_dst] at hd hd'
    rw [H.dsts x hx x' hx' t hd hd']
theorem obOf_phi {base ja k : Nat} {b ok : AO} {ob : List (Nat × AO)} (hlow : ∀ i o, look i ob = some o → i < base) : ∀ (es : List Ent), (∀ e ∈ es, e.j = ja → e.ob = none) → look k (obOf base es ob) = some ok → look k (obOf base (es.map (phi ja b)) ob) = some ok
  | [], _, h => h
  | ⟨j, d, y, ob'⟩ :: r, hno, h => by
    have hno' : ∀ e ∈ r, e.j = ja → e.ob = none := fun e he => hno e (List.mem_cons_of_mem _ he)
    rw [List.map_cons]
    by_cases hj : j = ja
    · have h0 : ob' = none := hno ⟨j, d, y, ob'⟩ (List.mem_cons_self ..) hj
      subst h0
      rw [phi_eq (e := ⟨j, d, y, none⟩) hj]
      rw [obOf] at h
      rw [obOf, look_cons]
      split
      · rename_i e
        rcases look_obOf h with ⟨e', h1, h2, h3⟩ | h1
        · have : e'.ob = none := hno' e' h1 (by simp only at e; omega)
          rw [this] at h3
          cases h3
        · have := hlow _ _ h1
          simp only at e
          omega
      · exact obOf_phi hlow r hno' h
    · rw [phi_ne (e := ⟨j, d, y, ob'⟩) hj]
      cases ob' with
      | none =>
        rw [obOf] at h ⊢
        exact obOf_phi hlow r hno' h
      | some o =>
        rw [obOf, look_cons] at h ⊢
        split
        · rename_i e
          rw [if_pos e] at h
          exact h
        · rename_i e
          rw [if_neg e] at h
          exact obOf_phi hlow r hno' h
theorem obOf_phi2 {base ja k : Nat} {b b' ok : AO} {ob : List (Nat × AO)} (hlow : ∀ i o, look i ob = some o → i < base) : ∀ (es : List Ent), look k (obOf base (es.map (phi ja b')) ob) = some ok → look k ((base + ja, b') :: obOf base (es.map (phi ja b)) ob) = some ok
  | [], h => by
    have h1 : look k ob = some ok := h
    have := hlow _ _ h1
    rw [look_cons, if_neg (by omega)]
    exact h
  | ⟨j, d, y, ob'⟩ :: r, h => by
    rw [List.map_cons] at h ⊢
    by_cases hj : j = ja
    · rw [phi_eq (e := ⟨j, d, y, ob'⟩) hj] at h ⊢
      simp only [obOf] at h ⊢
      rw [look_cons] at h
      rw [look_cons]
      subst hj
      split at h
      · rename_i e
        rw [if_pos e]
        exact h
      · rename_i e
        rw [if_neg e, look_cons, if_neg e]
        have := obOf_phi2 (b := b) hlow r h
        rwa [look_cons, if_neg e] at this
    · rw [phi_ne (e := ⟨j, d, y, ob'⟩) hj] at h ⊢
      cases ob' with
      | none =>
        simp only [obOf] at h ⊢
        exact obOf_phi2 hlow r h
      | some o =>
        simp only [obOf] at h ⊢
        rw [look_cons] at h
        split at h
        · rename_i e
          rw [look_cons, if_neg (by omega), look_cons, if_pos e]
          exact h
        · rename_i e
          have := obOf_phi2 (b := b) hlow r h
          rw [look_cons] at this ⊢
          split
          · rename_i e2
            rw [if_pos e2] at this
            exact this
          · rename_i e2
            rw [if_neg e2] at this
            rw [look_cons, if_neg e]
            exact this
theorem unphi {n ja : Nat} {D : List Oper} {b : AO} {done : List Ent} {a : Act} {C : Ct} (hlow : ∀ i o, σ.obj i = some o → i < σ.nx) (hno : ∀ e ∈ done, e.j = ja → e.ob = none) (m : Models (stE σ n D (done.map (phi ja b))) a C) : Models (stE σ n D done) a C :=
  m.weak rfl (Nat.le_refl _) (fun t x ht => .inl (by
    show look t (tmOf (done.map (phi ja b)) (veil D σ.tm)) = some x
    rw [tmOf_phi]
    exact ht)) (fun i o hi => obOf_phi hlow done hno hi)
theorem rephi {n ja : Nat} {D : List Oper} {b b' : AO} {done : List Ent} {a : Act} {C : Ct} (hlow : ∀ i o, σ.obj i = some o → i < σ.nx) (m : Models ((stE σ n D (done.map (phi ja b))).setO (σ.nx + ja) b') a C) : Models (stE σ n D (done.map (phi ja b'))) a C :=
  m.weak rfl (Nat.le_refl _) (fun t x ht => .inl (by
    show look t (tmOf (done.map (phi ja b)) (veil D σ.tm)) = some x
    rw [tmOf_phi, ← tmOf_phi (b := b')]
    exact ht)) (fun i o hi => obOf_phi2 hlow done hi)
/-- The store of a head into the box that its operation ja made. -/
structure StOkA (ty : TypeId → Option TI) (l : List Oper) (σ : St) (n ja : Nat) (acc : List Ent) (o : Oper) (cs cs' : List AV) : Prop where
  ex : ∃ t x z ti y off new, o.op = .store t x z ∧ ty t = some ti ∧ (minE σ n (l.take n) acc o).ev ty 0 x = some (.ptr (σ.nx + ja) off) ∧ (minE σ n (l.take n) acc o).ev ty t z = some y ∧ avCells ti.size y = some new ∧ Nat.ble (off + ti.size) cs.length = true ∧ cs' = setAll cs off new
  wait : (keepE o.after.toList acc).any (fun e => Nat.beq e.j ja) = true
theorem any_headA (hT : TyOk P ty) {l : List Oper} {n s ja : Nat} {es : List Ent} {os oa : Oper} {ta : TypeId} {tia : TI} {cs' : List AV} (H : HeadL l σ n es) (hs : s < n) (hos : l[s]? = some os) (hosd : os.dst = none) (hosg : os.guard = none)
    (hja : ja < n) (hjs : ja ≠ s) (hoa : l[ja]? = some oa) (hoao : oa.op = .alloc ta) (hta : ty ta = some tia) (hoag : oa.guard = none) (hda : dstOk σ oa.dst = true) (hea : (⟨ja, oa.dst, .ptr (σ.nx + ja) 0, none⟩ : Ent) ∈ es)
    (hst : ∃ acc, (∀ e' ∈ acc, e' ∈ es) ∧ StOkA ty l σ n ja acc os (tia.zd.map zav) cs') (hse : (⟨s, none, .un, none⟩ : Ent) ∈ es)
    (hent : ∀ k o, k < n → k ≠ s → k ≠ ja → l[k]? = some o → ∃ acc e, (∀ e' ∈ acc, e' ∈ es) ∧ e ∈ es ∧ e.j = k ∧ e.dst = o.dst ∧ EntOk P Γ l σ n (l.take n) acc o e)
    (hB : drawnB l n = true) (k : AOps P Γ l Q (l.drop n) (finE σ n (es.map (phi ja (.box ta cs'))))) {C0 : Ct} (b : Base Γ C0) :
    ∀ (m : Nat) (done : List Ent) (listed : Array Bool) (a : Act) (C : Ct) (bx : AO), cntF listed n = m → HeadInv .any l.toArray n listed → (∀ e ∈ done, e ∈ es) → (∀ j, j < n → (listed.getD j false = true ↔ ∃ e ∈ done, e.j = j)) →
      (∀ j, C.ok (σ.nx + j) = true → ∃ e ∈ done, e.j = j) → Evo C0 C → ((bx = .box ta (tia.zd.map zav) ∧ listed.getD s false = false) ∨ (bx = .box ta cs' ∧ listed.getD s false = true ∧ ∃ e ∈ done, e.j = ja)) → Models (stE σ n (l.take n) (done.map (phi ja bx))) a C → wpAny P .any l.toArray (post C0 Q) (m + (l.length - n)) listed a C.w := by
  have hBB := hB
  simp only [drawnB, Bool.and_eq_true, Nat.blt_eq] at hB
  obtain ⟨⟨⟨⟨⟨hn, hsink⟩, hchain⟩, hseq⟩, hback⟩, hdst⟩ := hB
  have hno : ∀ e ∈ es, e.j = ja → e.ob = none := fun e he hj => by rw [H.uniq e he _ hea hj]
  intro m
  induction m with
  | zero =>
    intro done listed a C bx hcnt inv hd hl hok ev hx md
    have hall := cntF_zero hcnt
    have hxe : bx = .box ta cs' := by
      rcases hx with ⟨_, h⟩ | ⟨h, _⟩
      · rw [hall s hs] at h
        cases h
      · exact h
    subst hxe
    have hsz : listed.size = l.length := by simpa using inv.size
    have harr : listed = headArr n l.length := by
      apply Array.ext
      · rw [hsz]; simp [headArr]
      · intro j h1 h2
        simp only [headArr, List.getElem_toArray, List.getElem_map, List.getElem_range]
        by_cases hj : j < n
        · have := hall j hj
          simp [h1] at this
          rw [this]
          symm
          simpa [Nat.blt_eq] using hj
        · have := inv.tail j (by omega) (by simp; omega)
          simp [h1] at this
          rw [this]
          cases hb : Nat.blt j n with
          | false => rfl
          | true => rw [Nat.blt_eq] at hb; omega
    have hfin := (H.phi ja (.box ta cs')).fin (done := done.map (phi ja (.box ta cs'))) (fun e he => by
      obtain ⟨x, hx, rfl⟩ := List.mem_map.1 he
      exact List.mem_map_of_mem (hd x hx)) (fun e he => by
      obtain ⟨x, hx, rfl⟩ := List.mem_map.1 he
      obtain ⟨h1, _⟩ := H.lt x hx
      obtain ⟨e', he', hj⟩ := (hl x.j h1).1 (hall x.j h1)
      rw [← H.uniq e' (hd e' he') x hx hj]
      exact List.mem_map_of_mem he') md
    have hw := k C0 a C b ev hfin
    have hdl : (l.drop n).length = l.length - n := by simp
    have := wpAny_of_seq (md := .any) (P := P) (ops := l.toArray) (Q' := post C0 Q) (l.drop n) n listed a C.w (fun j => by simp [List.getElem?_drop]) (by rw [hdl, harr]; exact hseq) hw
    rw [hdl] at this
    simpa using this
  | succ m ih =>
    intro done listed a C bx hcnt inv hd hl hok ev hx md
    have hsz : listed.size = l.length := by simpa using inv.size
    obtain ⟨j0, hj0, hun0⟩ := cntF_pos (listed := listed) (k := n) (by omega)
    rw [show m + 1 + (l.length - n) = (m + (l.length - n)) + 1 by omega]
    refine ⟨fun h => absurd h (ready_some hback hn hsz j0 hj0 hun0), fun q hq => ?_⟩
    have hqn : q < n := by
      rcases Nat.lt_or_ge q n with h | h
      · exact h
      · exact absurd hq (tail_waits hsink hchain (by simpa using hn) inv _ j0 rfl hj0 (getD_in (by omega) hun0) q h)
    obtain ⟨hqun, o, ho, hdeps⟩ := mem_ready.1 hq
    have ho' : l[q]? = some o := by simpa using ho
    have hqf := getD_both hqun
    have hnod : ∀ e ∈ done, e.j = ja → e.ob = none := fun e he => hno e (hd e he)
    have hkeep : ∀ acc : List Ent, (∀ e' ∈ acc, e' ∈ es) → ∀ e' ∈ keepE o.after.toList acc, e' ∈ done := fun acc hacc e' he' => by
      obtain ⟨h1, h2⟩ := mem_keepE he'
      obtain ⟨ed, h3, h4, h5⟩ := waitsB_spec h2
      have h6 := hdeps ed (by simpa using h3) h5
      have h7 := backB_spec hback q o (by rw [List.getElem?_take, if_pos hqn]; exact ho') ed (by simpa using h3) h5
      obtain ⟨e2, h8, h9⟩ := (hl ed.on (by omega)).1 h6
      rw [H.uniq e' (hacc e' h1) e2 (hd e2 h8) (by rw [h9, h4])]
      exact h8
    have hpl := unphi H.low hnod md
    have hmin : ∀ acc : List Ent, (∀ e' ∈ acc, e' ∈ es) → Models (minE σ n (l.take n) acc o) a C := fun acc hacc => H.less hd (hkeep acc hacc) hpl
    have hlist : ∀ (e : Ent), e ∈ es → e.j = q → (∀ e' ∈ e :: done, e' ∈ es) ∧ (∀ j, j < n → ((listed.setIfInBounds q true).getD j false = true ↔ ∃ e' ∈ e :: done, e'.j = j)) := fun e he hej => by
      refine ⟨fun e' he' => ?_, fun j hj => ?_⟩
      · rcases List.mem_cons.1 he' with rfl | he'
        · exact he
        · exact hd e' he'
      · by_cases hij : q = j
        · subst hij
          have h1 : (listed.setIfInBounds q true).getD q false = true := by simp [show q < listed.size by omega]
          simp only [h1, true_iff]
          exact ⟨e, List.mem_cons_self .., hej⟩
        · rw [getD_set_ne false hij, hl j hj]
          constructor
          · rintro ⟨e', h1, h2⟩
            exact ⟨e', List.mem_cons_of_mem _ h1, h2⟩
          · rintro ⟨e', h1, h2⟩
            rcases List.mem_cons.1 h1 with rfl | h1
            · exact absurd (hej.symm.trans h2) hij
            · exact ⟨e', h1, h2⟩
    have hcnt' : cntF (listed.setIfInBounds q true) n = m := by
      have := cntF_set (listed := listed) (i := q) (by omega) hqf hqn
      omega
    have hqd : ∀ e ∈ done, e.j ≠ q := fun e he h => by
      have := (hl q hqn).2 ⟨e, he, h⟩
      rw [hqf] at this
      cases this
    by_cases hqs : q = s
    · subst hqs
      rw [hos] at ho'
      cases ho'
      have hxb : bx = .box ta (tia.zd.map zav) := by
        rcases hx with ⟨h, _⟩ | ⟨_, h, _⟩
        · exact h
        · rw [hqf] at h
          cases h
      subst hxb
      obtain ⟨acc, hacc, ⟨t, x, z, ti, y, off, new, g1, g2, g3, g4, g5, g6, g7⟩, hwait⟩ := hst
      obtain ⟨ea, hea1, hea2⟩ := List.any_eq_true.1 hwait
      have hea3 : ea.j = ja := Nat.eq_of_beq_eq_true hea2
      have hea4 := hkeep acc hacc ea hea1
      have hlook : (stE σ n (l.take n) (done.map (phi ja (.box ta (tia.zd.map zav))))).obj (σ.nx + ja) = some (.box ta (tia.zd.map zav)) := by
        have h1 : (phi ja (.box ta (tia.zd.map zav)) ea) ∈ done.map (phi ja (.box ta (tia.zd.map zav))) := List.mem_map_of_mem hea4
        have h2 := obOf_hit (base := σ.nx) (ob := σ.ob) (e := phi ja (.box ta (tia.zd.map zav)) ea) (o := .box ta (tia.zd.map zav)) (by rw [phi_eq hea3]) h1 (fun e' he' hj => by
          obtain ⟨x', hx', rfl⟩ := List.mem_map.1 he'
          rw [phi_j, phi_j] at hj
          rw [H.uniq x' (hd x' hx') ea (hd ea hea4) hj])
        rw [phi_j, hea3] at h2
        exact h2
      have hbox : ORep C (σ.nx + ja) (.box ta (tia.zd.map zav)) := md.ob _ _ hlook
      obtain ⟨g, vs, hrun, hbl, hpr, hBg, hnew⟩ := store_run hT (hmin acc hacc) g1 g2 g3 g4 hbox g5 g6
      subst g7
      have md1 : Models (stE σ n (l.take n) (done.map (phi ja (.box ta (setAll (tia.zd.map zav) off new))))) (a.put none undef) (C.turn (C.w.setRow g vs)) := rephi H.low (md.turn hlook rfl hbl rfl hnew)
      have md2 : Models (stE σ n (l.take n) (((⟨q, none, .un, none⟩ : Ent) :: done).map (phi ja (.box ta (setAll (tia.zd.map zav) off new))))) (a.put none undef) (C.turn (C.w.setRow g vs)) := by
        rw [List.map_cons, phi_ne (e := ⟨q, none, .un, none⟩) (fun h => hjs h.symm)]
        exact md1
      obtain ⟨hd', hl'⟩ := hlist _ hse rfl
      unfold wpOp
      simp only [ho]
      rw [if_pos (by simpa using wantedA_sound (hmin acc hacc) (b := true) (by unfold wantedA; rw [hosg]))]
      refine .inl (upon_skip hrun ?_)
      rw [hosd]
      refine ih _ _ _ (C.turn (C.w.setRow g vs)) _ hcnt' (inv.set hq hqn) hd' hl' (fun j hj => ?_) (ev.trans (Ct.turn_evo hpr hBg)) (.inr ⟨rfl, ?_, ea, List.mem_cons_of_mem _ hea4, hea3⟩) md2
      · obtain ⟨e', h1, h2⟩ := hok j hj
        exact ⟨e', List.mem_cons_of_mem _ h1, h2⟩
      · simp [show q < listed.size by omega]
    · have hx' : ∀ e : Ent, (bx = .box ta (tia.zd.map zav) ∧ (listed.setIfInBounds q true).getD s false = false) ∨ (bx = .box ta cs' ∧ (listed.setIfInBounds q true).getD s false = true ∧ ∃ e' ∈ e :: done, e'.j = ja) := fun e => by
        rw [getD_set_ne false hqs]
        rcases hx with ⟨h1, h2⟩ | ⟨h1, h2, e', h3, h4⟩
        · exact .inl ⟨h1, h2⟩
        · exact .inr ⟨h1, h2, e', List.mem_cons_of_mem _ h3, h4⟩
      have hfree : C.ok (σ.nx + q) = false := by
        cases hc : C.ok (σ.nx + q) with
        | false => rfl
        | true =>
          obtain ⟨e', h1, h2⟩ := hok q hc
          exact absurd h2 (hqd e' h1)
      -- what follows when entry e (with its object in the state) is done
      have next : ∀ (e0 : Ent), e0 ∈ es → e0.j = q → e0.dst = o.dst → dstOk σ o.dst = true → ∀ v C', Evo C C' → (∀ i, C'.ok i = true → C.ok i = true ∨ (i = σ.nx + (phi ja bx e0).j ∧ (phi ja bx e0).ob.isSome = true)) → Rep C' (phi ja bx e0).y v → (∀ ao, (phi ja bx e0).ob = some ao → ORep C' (σ.nx + (phi ja bx e0).j) ao ∧ ∀ g, blk (C'.ρ (σ.nx + (phi ja bx e0).j)) = some g → C.w.heap.size ≤ g) →
          (∀ g, g < C.w.heap.size → C'.w.heap[g]? = C.w.heap[g]? ∧ C'.pr g = C.pr g) → wpAny P .any l.toArray (post C0 Q) (m + (l.length - n)) (listed.setIfInBounds q true) (a.put o.dst v) C'.w := by
        intro e0 he0 hej hed hdo v C' ev' hn' hv hob' hkk
        obtain ⟨hd', hl'⟩ := hlist e0 he0 hej
        have md' := md.ent (e := phi ja bx e0) (by rw [phi_j]; omega) (by rw [phi_dst, hed]; exact hdo) ev' hn' hv hob' hkk
        rw [phi_dst, hed] at md'
        refine ih (e0 :: done) _ _ C' bx hcnt' (inv.set hq hqn) hd' hl' ?_ (ev.trans ev') (hx' e0) md'
        intro j hj
        rcases hn' _ hj with h | ⟨h, _⟩
        · obtain ⟨e', h1, h2⟩ := hok j h
          exact ⟨e', List.mem_cons_of_mem _ h1, h2⟩
        · rw [phi_j] at h
          exact ⟨e0, List.mem_cons_self .., by omega⟩
      unfold wpOp
      simp only [ho]
      by_cases hqa : q = ja
      · subst hqa
        rw [hoa] at ho'
        cases ho'
        have hxb : bx = .box ta (tia.zd.map zav) := by
          rcases hx with ⟨h, _⟩ | ⟨_, _, e', h3, h4⟩
          · exact h
          · exact absurd h4 (hqd e' h3)
        subst hxb
        rw [if_pos (by simpa using wantedA_sound hpl (b := true) (by unfold wantedA; rw [hoag]))]
        have hstep : HStep P Γ (stE σ n (l.take n) done) oa (σ.nx + q) (.ptr (σ.nx + q) 0) (some (.box ta (tia.zd.map zav))) := HStep.alloc hT hoao hta
        have hnx := next _ hea rfl rfl hda
        rw [phi_eq (e := ⟨q, oa.dst, .ptr (σ.nx + q) 0, none⟩) rfl] at hnx
        exact .inl (hstep a C _ _ (b.evo ev) hpl hfree hnx)
      · obtain ⟨acc, e, hacc, he, hej, hed, hdo, hent'⟩ := hent q o hqn hqs hqa ho'
        have hnx := next e he hej hed hdo
        rw [phi_ne (by rw [hej]; exact hqa)] at hnx
        rw [← hej] at hfree
        rcases hent' with ⟨hw, hstep⟩ | ⟨hw, hy, hob'⟩
        · rw [if_pos (by simpa using wantedA_sound (hmin acc hacc) hw)]
          exact .inl (hstep a C _ _ (b.evo ev) (hmin acc hacc) hfree hnx)
        · rw [if_neg (by
            have := wantedA_sound (hmin acc hacc) hw
            rw [this]; simp)]
          exact hnx undef C (.refl C) (fun i hi => .inl hi) (by rw [hy]; exact .un) (fun ao h => by rw [hob'] at h; cases h) (fun g _ => ⟨rfl, rfl⟩)
/-- Behind the store. -/
def StKA (P : Program) (Γ : Env) (ty : TypeId → Option TI) (l : List Oper) (Q : Exit → St → Prop) (σ : St) (n s ja : Nat) (o : Oper) (ta : TypeId) (zs : List AV) (acc : List Ent) : Prop :=
  ∃ cs', StOkA ty l σ n ja acc o zs cs' ∧ HeadT P Γ l σ n (l.take n) (fun es => AOps P Γ l Q (l.drop n) (finE σ n (es.map (phi ja (.box ta cs'))))) ((l.take n).drop (s + 1)) (s + 1) (⟨s, none, .un, none⟩ :: acc)
/-- Behind the operations ahead of the making of the box. -/
def AlK (P : Program) (Γ : Env) (ty : TypeId → Option TI) (l : List Oper) (Q : Exit → St → Prop) (σ : St) (n s ja : Nat) (oa o : Oper) (ta : TypeId) (zs : List AV) (acc : List Ent) : Prop :=
  HeadT P Γ l σ n (l.take n) (StKA P Γ ty l Q σ n s ja o ta zs) (((l.take n).take s).drop (ja + 1)) (ja + 1) (⟨ja, oa.dst, .ptr (σ.nx + ja) 0, none⟩ :: acc)
theorem al_go {l : List Oper} {n s ja : Nat} {oa o : Oper} {ta : TypeId} {zs : List AV} {acc : List Ent} (k : HeadT P Γ l σ n (l.take n) (StKA P Γ ty l Q σ n s ja o ta zs) (((l.take n).take s).drop (ja + 1)) (ja + 1) (⟨ja, oa.dst, .ptr (σ.nx + ja) 0, none⟩ :: acc)) : AlK P Γ ty l Q σ n s ja oa o ta zs acc := k
theorem sta_go {l : List Oper} {n s ja : Nat} {o : Oper} {t ta : TypeId} {x z : Operand} {ti : TI} {y : AV} {off : Nat} {new zs : List AV} {acc : List Ent} (hop : o.op = .store t x z) (ht : ty t = some ti) (hx : (minE σ n (l.take n) acc o).ev ty 0 x = some (.ptr (σ.nx + ja) off))
    (hz : (minE σ n (l.take n) acc o).ev ty t z = some y) (hc : avCells ti.size y = some new) (hle : Nat.ble (off + ti.size) zs.length = true) (hw : (keepE o.after.toList acc).any (fun e => Nat.beq e.j ja) = true)
    (k : HeadT P Γ l σ n (l.take n) (fun es => AOps P Γ l Q (l.drop n) (finE σ n (es.map (phi ja (.box ta (setAll zs off new)))))) ((l.take n).drop (s + 1)) (s + 1) (⟨s, none, .un, none⟩ :: acc)) : StKA P Γ ty l Q σ n s ja o ta zs acc :=
  ⟨_, ⟨⟨t, x, z, ti, y, off, new, hop, ht, hx, hz, hc, hle, rfl⟩, hw⟩, k⟩
/-- THE RULE for a drawn region whose head makes a box (operation ja) and stores into it (operation s). -/
theorem awp_anyA (n s ja : Nat) (hT : TyOk P ty) {id : Nat} {l : List Oper} {ta t : TypeId} {tia : TI} {x z : Operand} {oa os : Oper} (hm : P.follows .mixedOrders = true) (hl : Nat.beq l.length (n + 1) = true) (hos : l[s]? = some os) (hop : os.op = .store t x z) (hosd : os.dst = none) (hosg : os.guard = none)
    (hoa : l[ja]? = some oa) (hoao : oa.op = .alloc ta) (hta : ty ta = some tia) (hoag : oa.guard = none) (hda : dstOk σ oa.dst = true) (hjs : Nat.blt ja s = true) (hs : Nat.blt s n = true) (hB : drawnB l n = true)
    (h : HeadT P Γ l σ n (l.take n) (AlK P Γ ty l Q σ n s ja oa os ta (tia.zd.map zav)) ((l.take n).take ja) 0 []) : AWp P Γ (.region id l.toArray true) Q σ := by
  have hsn : s < n := by simpa [Nat.blt_eq] using hs
  have hjs' : ja < s := by simpa [Nat.blt_eq] using hjs
  have hB' := hB
  simp only [drawnB, Bool.and_eq_true, Nat.blt_eq] at hB'
  have hn : n < l.length := hB'.1.1.1.1.1
  obtain ⟨acc1, h1, _, a3, a4, a5⟩ := headT_spec _ _ _ h
  obtain ⟨acc2, ⟨cs', hst, h2⟩, b2, b3, b4, b5⟩ := headT_spec _ _ _ h1
  obtain ⟨es, k1, e2, e3, e4, e5⟩ := headT_spec _ _ _ h2
  have lt1 : ∀ e ∈ acc1, e.j < ja ∧ ∃ o, l[e.j]? = some o ∧ e.dst = o.dst := fun e he => by
    rcases a3 e he with h | ⟨g1, g2, o, g3, g4⟩
    · cases h
    · have : e.j < ja := by simp at g2; omega
      refine ⟨this, o, ?_, g4⟩
      rw [Nat.sub_zero, List.getElem?_take, if_pos this, List.getElem?_take, if_pos (by omega)] at g3
      exact g3
  have lt2 : ∀ e ∈ acc2, e.j < s ∧ ∃ o, l[e.j]? = some o ∧ e.dst = o.dst := fun e he => by
    rcases b3 e he with h | ⟨g1, g2, o, g3, g4⟩
    · rcases List.mem_cons.1 h with rfl | h
      · exact ⟨hjs', oa, hoa, rfl⟩
      · obtain ⟨g1, g2⟩ := lt1 e h
        exact ⟨by omega, g2⟩
    · have : e.j < s := by simp at g2; omega
      refine ⟨this, o, ?_, g4⟩
      rw [List.getElem?_drop, show ja + 1 + (e.j - (ja + 1)) = e.j by omega, List.getElem?_take, if_pos this, List.getElem?_take, if_pos (by omega)] at g3
      exact g3
  have hlt : ∀ e ∈ es, e.j < n ∧ ∃ o, l[e.j]? = some o ∧ e.dst = o.dst := fun e he => by
    rcases e3 e he with h | ⟨g1, g2, o, g3, g4⟩
    · rcases List.mem_cons.1 h with rfl | h
      · exact ⟨hsn, os, hos, hosd.symm⟩
      · obtain ⟨g1, g2⟩ := lt2 e h
        exact ⟨by omega, g2⟩
    · have : e.j < n := by simp at g2; omega
      refine ⟨this, o, ?_, g4⟩
      rw [List.getElem?_drop, show s + 1 + (e.j - (s + 1)) = e.j by omega, List.getElem?_take, if_pos this] at g3
      exact g3
  have hu1 : ∀ e ∈ acc1, ∀ e' ∈ acc1, e.j = e'.j → e = e' := fun e he e' he' hj => a5 e he e' he' (by simp) (by simp) hj
  have hu2 : ∀ e ∈ acc2, ∀ e' ∈ acc2, e.j = e'.j → e = e' := fun e he e' he' hj => b5 e he e' he' (fun p hp q hq hpq => by
    rcases List.mem_cons.1 hp with rfl | hp
    · rcases List.mem_cons.1 hq with rfl | hq
      · rfl
      · have := (lt1 q hq).1
        simp only at hpq
        omega
    · rcases List.mem_cons.1 hq with rfl | hq
      · have := (lt1 p hp).1
        simp only at hpq
        omega
      · exact hu1 p hp q hq hpq) (fun p hp => by
    rcases List.mem_cons.1 hp with rfl | hp
    · exact Nat.lt_succ_self _
    · have := (lt1 p hp).1
      omega) hj
  have huniq : ∀ e ∈ es, ∀ e' ∈ es, e.j = e'.j → e = e' := fun e he e' he' hj => e5 e he e' he' (fun p hp q hq hpq => by
    rcases List.mem_cons.1 hp with rfl | hp
    · rcases List.mem_cons.1 hq with rfl | hq
      · rfl
      · have := (lt2 q hq).1
        simp only at hpq
        omega
    · rcases List.mem_cons.1 hq with rfl | hq
      · have := (lt2 p hp).1
        simp only at hpq
        omega
      · exact hu2 p hp q hq hpq) (fun p hp => by
    rcases List.mem_cons.1 hp with rfl | hp
    · exact Nat.lt_succ_self _
    · have := (lt2 p hp).1
      omega) hj
  have hse : (⟨s, none, .un, none⟩ : Ent) ∈ es := e2 _ (List.mem_cons_self ..)
  have hsub2 : ∀ e' ∈ acc2, e' ∈ es := fun e' he' => e2 e' (List.mem_cons_of_mem _ he')
  have hea : (⟨ja, oa.dst, .ptr (σ.nx + ja) 0, none⟩ : Ent) ∈ es := hsub2 _ (b2 _ (List.mem_cons_self ..))
  have hsub1 : ∀ e' ∈ acc1, e' ∈ es := fun e' he' => hsub2 _ (b2 e' (List.mem_cons_of_mem _ he'))
  have hent : ∀ k o, k < n → k ≠ s → k ≠ ja → l[k]? = some o → ∃ acc' e, (∀ e' ∈ acc', e' ∈ es) ∧ e ∈ es ∧ e.j = k ∧ e.dst = o.dst ∧ EntOk P Γ l σ n (l.take n) acc' o e := fun k o hk hks hka ho => by
    rcases Nat.lt_or_ge k s with hlt | hge
    · rcases Nat.lt_or_ge k ja with hlt2 | hge2
      · obtain ⟨acc', e, g1, g2, g3, g4, g5⟩ := a4 k o (by rw [List.getElem?_take, if_pos hlt2, List.getElem?_take, if_pos hk]; exact ho)
        exact ⟨acc', e, fun e' he' => hsub1 e' (g1 e' he'), hsub1 e g2, by omega, g4, g5⟩
      · obtain ⟨acc', e, g1, g2, g3, g4, g5⟩ := b4 (k - (ja + 1)) o (by rw [List.getElem?_drop, show ja + 1 + (k - (ja + 1)) = k by omega, List.getElem?_take, if_pos hlt, List.getElem?_take, if_pos hk]; exact ho)
        exact ⟨acc', e, fun e' he' => hsub2 e' (g1 e' he'), hsub2 e g2, by omega, g4, g5⟩
    · obtain ⟨acc', e, g1, g2, g3, g4, g5⟩ := e4 (k - (s + 1)) o (by rw [List.getElem?_drop, show s + 1 + (k - (s + 1)) = k by omega, List.getElem?_take, if_pos hk]; exact ho)
      exact ⟨acc', e, g1, g2, by omega, g4, g5⟩
  intro C0 a C b ev md
  have H1 : ∀ o ∈ l.take n, ∃ e ∈ es, e.dst = o.dst ∧ dstOk σ o.dst = true := fun o ho => by
    obtain ⟨k, hk⟩ := List.mem_iff_getElem?.1 ho
    rw [List.getElem?_take] at hk
    split at hk
    · rename_i hkn
      by_cases hks : k = s
      · subst hks
        rw [hos] at hk
        cases hk
        exact ⟨_, hse, hosd.symm, by rw [hosd]; rfl⟩
      · by_cases hka : k = ja
        · subst hka
          rw [hoa] at hk
          cases hk
          exact ⟨_, hea, rfl, hda⟩
        · obtain ⟨_, e, _, g2, _, g4, g5⟩ := hent k o hkn hks hka hk
          exact ⟨e, g2, g4, g5.1⟩
    · cases hk
  have H2 : ∀ e ∈ es, ∀ e' ∈ es, ∀ t, e.dst = some t → e'.dst = some t → e = e' := fun e he e' he' t hd hd' => by
    obtain ⟨h6, o, h7, h8⟩ := hlt e he
    obtain ⟨h9, o', h10, h11⟩ := hlt e' he'
    exact huniq e he e' he' (dstsB_spec hB'.2 e.j o e'.j o' t (by rw [List.getElem?_take, if_pos h6]; exact h7) (by rw [List.getElem?_take, if_pos h9]; exact h10) (h8.symm.trans hd) (h11.symm.trans hd'))
  have H : HeadL l σ n es := ⟨H1, huniq, hlt, H2, fun i o hi => md.nx i (md.ob i o hi).lt⟩
  refine wp_region_any hm ?_
  have md1 : Models σ a C.draw := md.mono C.draw_evo (fun i hi => hi) (fun i o g hi he hg => ⟨rfl, ((md.ob i o hi).excl he hg).2.1⟩)
  have := any_headA hT H hsn hos hosd hosg (by omega) (by omega) hoa hoao hta hoag hda hea ⟨acc2, hsub2, hst⟩ hse hent hB k1 b n [] (Array.replicate l.toArray.size false) a C.draw (.box ta (tia.zd.map zav)) (cntF_new _ n)
    ⟨by simp, fun j oj _ hl => (by rw [getD_replicate_false] at hl; cases hl), fun t _ ht => getD_in (by simpa using ht) (getD_replicate_false _ _)⟩
    (by simp) (fun j hj => by rw [getD_replicate_false]; simp) (fun j hj => by
      have : C.ok (σ.nx + j) = true := hj
      have := md.nx _ this
      omega) (ev.trans C.draw_evo) (.inl ⟨rfl, getD_replicate_false _ _⟩) (H.start md1)
  rw [show n + (l.length - n) = l.toArray.size by simp; omega] at this
  exact this
end
end Go.Am

/- Public keys: ValidKey, MarshalKey, ParseKey. Walked by the abstract machine. -/
namespace Go.Proofs.YtdihjpmdmfmbiaaGreatDoor
open Go.Am
set_option linter.unusedSimpArgs false
set_option linter.unusedVariables false
-- withAmZ withAmMp

theorem c_bsenc_ok (Γ : Env) (k : PKey) (hx : k.x.length ≤ 1099511627) (hv : valF k.x k.u = true) : ACalls Tryz.prog Γ 48 [bitsD k.x k.u] (fun r => r = .ownT none 5 (bys (bcF k)) [.int .i64 0]) := (c_encode Γ k.x k.u hx).mono fun r h => h.1 hv
theorem c_bsdec_at (Γ : Env) (b : List UInt8) {i j : Nat} (hj : j ≤ b.length) (hb : b.length ≤ 1000000) {x : List UInt8} {u e : Int} (h : decF (cut b i j) = (x, u, e)) : ACalls Tryz.prog Γ 52 [.sl none (cutL (bys b) (i : Int).toNat (j : Int).toNat)] (fun r => r = .d (.tup [bitsD x u, .int .i64 e])) := by
  have h1 := c_decode Γ (cut b i j) (by rw [cut_len _ _ _ hj]; omega)
  unfold decD at h1
  rw [h] at h1
  rw [cutL_bys]
  exact h1
theorem c_aparse_cut (b : List UInt8) {i j : Nat} (hj : j ≤ b.length) (hb : b.length ≤ 1000000) {v : Ex Alg} (h : agP (cut b i j) = v) : ACalls Tryz.prog envL 18 [.sl none (cutL (bys b) (i : Int).toNat (j : Int).toNat)] (fun r => r = apR v) := by
  rw [cutL_bys]
  exact c_aparse_at (cut b i j) (by rw [cut_len _ _ _ hj]; omega) h
theorem isKValid : IsFn Tryz.prog 25 Tryz.f25 := ⟨Tryz.func25, by decide, rfl⟩
theorem c_kvalid (k : PKey) (ho : k.a.o.length ≤ 100000000) (hp : k.a.p.length ≤ 1000000) (hx : k.x.length ≤ 1000000) {v : Bool} (h : akV k = v) : ACalls Tryz.prog envL 25 [akD k] (fun r => r = .d (.bool v)) := by
  refine acalls_of ty_ok isKValid rfl rfl ?_
  subst h
  have hc1 := c_avalid k.a ho hp rfl
  have hc2 := c_valid (envL.at 0) k.x k.u (by omega)
  unfold agD sD at hc1
  unfold bitsD at hc2
  unfold akD sD akV
  cases hv : agV k.a with
  | false =>
    rw [hv] at hc1
    repeat' (first | ((with_reducible show AWp _ _ _ _ _); (first | refine awp_seq ?_ | refine awp_block ?_ | refine awp_skip ?_ | refine awp_exit ?_ | refine awp_scope ?_ | refine awp_label ?_ | refine awp_run ty_ok rfl sdm ?_ | refine awp_ret ⟨_, _, rfl, rfl, ?_⟩ | refine awp_ret ⟨_, rfl, ?_⟩ | ((refine awp_cond (ty := ty) rfl (fun hc => ?_) (fun hc => ?_)) <;> (try simp only [nms, reduceCtorEq] at hc) <;> (try (exfalso; omega))))) | ((with_reducible show AOps _ _ _ _ _ _); (first | refine aops_nil ?_ | refine aops_go ty_ok rfl rfl sdm ?_ | refine aops_gate ty_ok rfl rfl rfl sdm ?_ | refine aops_callE (ty := ty) rfl rfl rfl rfl rfl rfl rfl (hc1) rfl ?_ | refine aops_litE ty_ok rfl rfl rfl rfl rfl rfl rfl rfl rfl rfl rfl rfl ?_ | refine aops_litA ty_ok rfl rfl rfl rfl rfl rfl rfl rfl rfl rfl rfl rfl rfl rfl rfl rfl ?_ | refine aops_buildArr ty_ok rfl rfl rfl rfl rfl rfl rfl rfl rfl rfl ?_ | refine aops_indexArr ty_ok rfl rfl rfl rfl rfl rfl rfl rfl rfl rfl sdm ?_ | refine aops_lit0 ty_ok rfl rfl rfl rfl rfl rfl rfl ?_ | refine aops_field ty_ok rfl rfl rfl rfl rfl rfl rfl rfl rfl rfl ?_ | refine aops_cutE ty_ok rfl rfl rfl rfl rfl rfl rfl rfl rfl sdm rfl ?_ | ((fail_if_success (refine aops_known rfl ?_)); (refine aops_split ty_ok rfl rfl rfl rfl rfl rfl (fun hc => ⟨?_, ?_⟩) (fun hc => ⟨?_, ?_⟩)) <;> (try simp only [nms, reduceCtorEq] at hc) <;> (try (exfalso; omega)) <;> (try exact sdm)))) | ((fail_if_success (with_reducible show AWp _ _ _ _ _)); (fail_if_success (with_reducible show AOps _ _ _ _ _ _)); (first | (show AWp _ _ _ _ _) | (show AOps _ _ _ _ _ _))))
    rfl
  | true =>
    rw [hv] at hc1
    repeat' (first | ((with_reducible show AWp _ _ _ _ _); (first | refine awp_seq ?_ | refine awp_block ?_ | refine awp_skip ?_ | refine awp_exit ?_ | refine awp_scope ?_ | refine awp_label ?_ | refine awp_run ty_ok rfl sdm ?_ | refine awp_ret ⟨_, _, rfl, rfl, ?_⟩ | refine awp_ret ⟨_, rfl, ?_⟩ | ((refine awp_cond (ty := ty) rfl (fun hc => ?_) (fun hc => ?_)) <;> (try simp only [nms, reduceCtorEq] at hc) <;> (try (exfalso; omega))))) | ((with_reducible show AOps _ _ _ _ _ _); (first | refine aops_nil ?_ | refine aops_go ty_ok rfl rfl sdm ?_ | refine aops_gate ty_ok rfl rfl rfl sdm ?_ | refine aops_callE (ty := ty) rfl rfl rfl rfl rfl rfl rfl (hc1) rfl ?_ | refine aops_callE (ty := ty) rfl rfl rfl rfl rfl rfl rfl (hc2) rfl ?_ | refine aops_litE ty_ok rfl rfl rfl rfl rfl rfl rfl rfl rfl rfl rfl rfl ?_ | refine aops_litA ty_ok rfl rfl rfl rfl rfl rfl rfl rfl rfl rfl rfl rfl rfl rfl rfl rfl ?_ | refine aops_buildArr ty_ok rfl rfl rfl rfl rfl rfl rfl rfl rfl rfl ?_ | refine aops_indexArr ty_ok rfl rfl rfl rfl rfl rfl rfl rfl rfl rfl sdm ?_ | refine aops_lit0 ty_ok rfl rfl rfl rfl rfl rfl rfl ?_ | refine aops_field ty_ok rfl rfl rfl rfl rfl rfl rfl rfl rfl rfl ?_ | refine aops_cutE ty_ok rfl rfl rfl rfl rfl rfl rfl rfl rfl sdm rfl ?_ | ((fail_if_success (refine aops_known rfl ?_)); (refine aops_split ty_ok rfl rfl rfl rfl rfl rfl (fun hc => ⟨?_, ?_⟩) (fun hc => ⟨?_, ?_⟩)) <;> (try simp only [nms, reduceCtorEq] at hc) <;> (try (exfalso; omega)) <;> (try exact sdm)))) | ((fail_if_success (with_reducible show AWp _ _ _ _ _)); (fail_if_success (with_reducible show AOps _ _ _ _ _ _)); (first | (show AWp _ _ _ _ _) | (show AOps _ _ _ _ _ _))))
    rfl
theorem ak_val {k : PKey} (h : akV k = true) : agV k.a = true ∧ valF k.x k.u = true := by
  unfold akV at h
  rwa [Bool.and_eq_true] at h
theorem isKMarshal : IsFn Tryz.prog 23 Tryz.f23 := ⟨Tryz.func23, by decide, rfl⟩
theorem isKJoin : IsFn Tryz.prog 46 Tryz.f46 := ⟨Tryz.func46, by decide, rfl⟩
set_option maxHeartbeats 2000000 in
theorem c_kmarshal_ok (k : PKey) (ho : k.a.o.length ≤ 200000) (hp : k.a.p.length ≤ 200000) (hx : k.x.length ≤ 200000) (hv : akV k = true) : ACalls Tryz.prog envL 23 [akD k] (fun r => r = .ownT none 5 (bys (akF k)) [.int .i64 0]) := by
  refine acalls_of ty_ok isKMarshal rfl rfl ?_
  obtain ⟨v1, v2⟩ := ak_val hv
  have hcat := akF_le k
  have hfl := akF_len k
  have hbl := akBd_len k
  have hbc : (bcF k).length = k.x.length + 1 := rfl
  have hc1 := c_kvalid k (by omega) (by omega) (by omega) hv
  have hc2 := c_amarshal_ok k.a (by omega) (by omega) v1
  have hc3 := c_bsenc_ok (envL.at 0) k (by omega) v2
  have hw := fun Γ => c_wrap Γ 0 3 false [bcF k] (by omega) (by omega) (by simp) (by simp; omega)
  have e1 : [agF k.a, putF (idB 0 false 3) [bcF k].flatten].flatten = akBd k := by simp [akBd, idB]
  have hs := fun Γ => c_sequence Γ [agF k.a, putF (idB 0 false 3) [bcF k].flatten] (by simp) (by rw [e1]; omega)
  unfold agD sD at hc2
  unfold bitsD at hc3
  unfold akD sD at hc1
  unfold akD sD
  repeat' (first | ((with_reducible show AWp _ _ _ _ _); (first | refine awp_seq ?_ | refine awp_block ?_ | refine awp_skip ?_ | refine awp_exit ?_ | refine awp_scope ?_ | refine awp_label ?_ | refine awp_run ty_ok rfl sdm ?_ | refine awp_ret ⟨_, _, rfl, rfl, ?_⟩ | refine awp_ret ⟨_, rfl, ?_⟩ | ((refine awp_cond (ty := ty) rfl (fun hc => ?_) (fun hc => ?_)) <;> (try simp only [nms, reduceCtorEq] at hc) <;> (try (exfalso; omega))))) | ((with_reducible show AOps _ _ _ _ _ _); (first | refine aops_nil ?_ | refine aops_go ty_ok rfl rfl sdm ?_ | refine aops_gate ty_ok rfl rfl rfl sdm ?_ | refine aops_callE (ty := ty) rfl rfl rfl rfl rfl rfl rfl (hc1) rfl ?_ | refine aops_callE (ty := ty) rfl rfl rfl rfl rfl rfl rfl (hc2) rfl ?_ | refine aops_callE (ty := ty) rfl rfl rfl rfl rfl rfl rfl (hc3) rfl ?_ | refine aops_callE (ty := ty) rfl rfl rfl rfl rfl rfl rfl (hw _) rfl ?_ | refine aops_callE (ty := ty) rfl rfl rfl rfl rfl rfl rfl (hs _) rfl ?_ | refine aops_inline ty_ok rfl rfl rfl rfl rfl rfl isKJoin rfl rfl ?_ | refine aops_litE ty_ok rfl rfl rfl rfl rfl rfl rfl rfl rfl rfl rfl rfl ?_ | refine aops_litA ty_ok rfl rfl rfl rfl rfl rfl rfl rfl rfl rfl rfl rfl rfl rfl rfl rfl ?_ | refine aops_buildArr ty_ok rfl rfl rfl rfl rfl rfl rfl rfl rfl rfl ?_ | refine aops_indexArr ty_ok rfl rfl rfl rfl rfl rfl rfl rfl rfl rfl sdm ?_ | refine aops_lit0 ty_ok rfl rfl rfl rfl rfl rfl rfl ?_ | refine aops_field ty_ok rfl rfl rfl rfl rfl rfl rfl rfl rfl rfl ?_ | refine aops_cutE ty_ok rfl rfl rfl rfl rfl rfl rfl rfl rfl sdm rfl ?_ | ((fail_if_success (refine aops_known rfl ?_)); (refine aops_split ty_ok rfl rfl rfl rfl rfl rfl (fun hc => ⟨?_, ?_⟩) (fun hc => ⟨?_, ?_⟩)) <;> (try simp only [nms, reduceCtorEq] at hc) <;> (try (exfalso; omega)) <;> (try exact sdm)))) | ((fail_if_success (with_reducible show AWp _ _ _ _ _)); (fail_if_success (with_reducible show AOps _ _ _ _ _ _)); (first | (show AWp _ _ _ _ _) | (show AOps _ _ _ _ _ _) | ((with_reducible show BackOk _ _ _ _ _); refine back_nil rfl ?_))))
  all_goals simp [akF, akBd, idB]
def kpR : Ex PKey → Res
  | .bad c o => .d (.tup [akD ak0, errD c o])
  | .ok k => .d (.tup [akD k, errD 0 0])
theorem isKParse : IsFn Tryz.prog 27 Tryz.f27 := ⟨Tryz.func27, by decide, rfl⟩
set_option maxHeartbeats 4000000 in
set_option maxRecDepth 100000 in
theorem c_kparse (b : List UInt8) (hb : b.length ≤ 1000000) : ACalls Tryz.prog envL 27 [.sl none (bys b)] (fun r => r = kpR (akP b)) := by
  refine acalls_of ty_ok isKParse rfl rfl ?_
  rw [akP]
  cases hp : ptF b 0 16 with
  | bad c o =>
    have hc1 := c_parts_at (envL.at 0) b 0 16 (by omega) hp
    have := pt_bad hp
    repeat' (first | ((with_reducible show AWp _ _ _ _ _); (first | refine awp_seq ?_ | refine awp_block ?_ | refine awp_skip ?_ | refine awp_exit ?_ | refine awp_scope ?_ | refine awp_label ?_ | refine awp_run ty_ok rfl sdm ?_ | refine awp_ret ⟨_, _, rfl, rfl, ?_⟩ | refine awp_ret ⟨_, rfl, ?_⟩ | ((refine awp_cond (ty := ty) rfl (fun hc => ?_) (fun hc => ?_)) <;> (try simp only [nms, reduceCtorEq] at hc) <;> (try (exfalso; omega))) | refine awp_anyS 3 2 ty_ok mixed rfl rfl rfl rfl rfl rfl rfl rfl rfl (by kernel_rfl) ?_)) | ((with_reducible show AOps _ _ _ _ _ _); (first | refine aops_nil ?_ | refine aops_go ty_ok rfl rfl sdm ?_ | refine aops_gate ty_ok rfl rfl rfl sdm ?_ | refine aops_callE (ty := ty) rfl rfl rfl rfl rfl rfl rfl (hc1) rfl ?_ | refine aops_litE ty_ok rfl rfl rfl rfl rfl rfl rfl rfl rfl rfl rfl rfl ?_ | refine aops_litA ty_ok rfl rfl rfl rfl rfl rfl rfl rfl rfl rfl rfl rfl rfl rfl rfl rfl ?_ | refine aops_buildArr ty_ok rfl rfl rfl rfl rfl rfl rfl rfl rfl rfl ?_ | refine aops_indexArr ty_ok rfl rfl rfl rfl rfl rfl rfl rfl rfl rfl sdm ?_ | refine aops_lit0 ty_ok rfl rfl rfl rfl rfl rfl rfl ?_ | refine aops_field ty_ok rfl rfl rfl rfl rfl rfl rfl rfl rfl rfl ?_ | refine aops_cutE ty_ok rfl rfl rfl rfl rfl rfl rfl rfl rfl sdm rfl ?_ | ((fail_if_success (refine aops_known rfl ?_)); (refine aops_split ty_ok rfl rfl rfl rfl rfl rfl (fun hc => ⟨?_, ?_⟩) (fun hc => ⟨?_, ?_⟩)) <;> (try simp only [nms, reduceCtorEq] at hc) <;> (try (exfalso; omega)) <;> (try exact sdm)))) | ((with_reducible show HeadT _ _ _ _ _ _ _ _ _ _); (first | refine head_end ?_ | refine head_goP ty_ok rfl rfl sdm ?_ | refine head_gate ty_ok rfl rfl rfl sdm ?_ | refine head_callE (ty := ty) rfl rfl rfl rfl rfl rfl rfl (hc1) rfl ?_ | ((fail_if_success (refine head_known rfl ?_)); (refine head_split ty_ok rfl rfl rfl rfl (fun hc => ⟨?_, ?_⟩) (fun hc => ⟨?_, ?_⟩)) <;> (try simp only [nms, reduceCtorEq] at hc) <;> (try (exfalso; omega)) <;> (try exact sdm)))) | ((fail_if_success (with_reducible show AWp _ _ _ _ _)); (fail_if_success (with_reducible show AOps _ _ _ _ _ _)); (fail_if_success (with_reducible show HeadT _ _ _ _ _ _ _ _ _ _)); (first | (show AWp _ _ _ _ _) | (show AOps _ _ _ _ _ _) | refine st_go rfl rfl rfl rfl rfl rfl rfl ?_)))
    rfl
  | ok l =>
    have hc1 := (c_parts_at (envL.at 0) b 0 16 (by omega) hp).ownT_d
    obtain ⟨ts, hbe, E⟩ := seq_ok hp
    match l, E, hp, hc1 with
    | [], E, hp, hc1 =>
      have hl : (els []).length = 0 := rfl
      have hf := c_afailed (envL.at 0) 1 b.length
      rw [← bys_len b] at hf
      repeat' (first | ((with_reducible show AWp _ _ _ _ _); (first | refine awp_seq ?_ | refine awp_block ?_ | refine awp_skip ?_ | refine awp_exit ?_ | refine awp_scope ?_ | refine awp_label ?_ | refine awp_run ty_ok rfl sdm ?_ | refine awp_ret ⟨_, _, rfl, rfl, ?_⟩ | refine awp_ret ⟨_, rfl, ?_⟩ | ((refine awp_cond (ty := ty) rfl (fun hc => ?_) (fun hc => ?_)) <;> (try simp only [nms, reduceCtorEq] at hc) <;> (try (exfalso; omega))))) | ((with_reducible show AOps _ _ _ _ _ _); (first | refine aops_nil ?_ | refine aops_go ty_ok rfl rfl sdm ?_ | refine aops_gate ty_ok rfl rfl rfl sdm ?_ | refine aops_callE (ty := ty) rfl rfl rfl rfl rfl rfl rfl (hc1) rfl ?_ | refine aops_callE (ty := ty) rfl rfl rfl rfl rfl rfl rfl (hf) rfl ?_ | refine aops_litE ty_ok rfl rfl rfl rfl rfl rfl rfl rfl rfl rfl rfl rfl ?_ | refine aops_litA ty_ok rfl rfl rfl rfl rfl rfl rfl rfl rfl rfl rfl rfl rfl rfl rfl rfl ?_ | refine aops_buildArr ty_ok rfl rfl rfl rfl rfl rfl rfl rfl rfl rfl ?_ | refine aops_indexArr ty_ok rfl rfl rfl rfl rfl rfl rfl rfl rfl rfl sdm ?_ | refine aops_lit0 ty_ok rfl rfl rfl rfl rfl rfl rfl ?_ | refine aops_field ty_ok rfl rfl rfl rfl rfl rfl rfl rfl rfl rfl ?_ | refine aops_cutE ty_ok rfl rfl rfl rfl rfl rfl rfl rfl rfl sdm rfl ?_ | ((fail_if_success (refine aops_known rfl ?_)); (refine aops_split ty_ok rfl rfl rfl rfl rfl rfl (fun hc => ⟨?_, ?_⟩) (fun hc => ⟨?_, ?_⟩)) <;> (try simp only [nms, reduceCtorEq] at hc) <;> (try (exfalso; omega)) <;> (try exact sdm)))) | ((fail_if_success (with_reducible show AWp _ _ _ _ _)); (fail_if_success (with_reducible show AOps _ _ _ _ _ _)); (first | (show AWp _ _ _ _ _) | (show AOps _ _ _ _ _ _))))
      first | rfl | (rw [bys_len]; rfl)
    | [e], E, hp, hc1 =>
      have hl : (els [e]).length = 1 := rfl
      have hf := c_afailed (envL.at 0) 1 b.length
      rw [← bys_len b] at hf
      repeat' (first | ((with_reducible show AWp _ _ _ _ _); (first | refine awp_seq ?_ | refine awp_block ?_ | refine awp_skip ?_ | refine awp_exit ?_ | refine awp_scope ?_ | refine awp_label ?_ | refine awp_run ty_ok rfl sdm ?_ | refine awp_ret ⟨_, _, rfl, rfl, ?_⟩ | refine awp_ret ⟨_, rfl, ?_⟩ | ((refine awp_cond (ty := ty) rfl (fun hc => ?_) (fun hc => ?_)) <;> (try simp only [nms, reduceCtorEq] at hc) <;> (try (exfalso; omega))))) | ((with_reducible show AOps _ _ _ _ _ _); (first | refine aops_nil ?_ | refine aops_go ty_ok rfl rfl sdm ?_ | refine aops_gate ty_ok rfl rfl rfl sdm ?_ | refine aops_callE (ty := ty) rfl rfl rfl rfl rfl rfl rfl (hc1) rfl ?_ | refine aops_callE (ty := ty) rfl rfl rfl rfl rfl rfl rfl (hf) rfl ?_ | refine aops_litE ty_ok rfl rfl rfl rfl rfl rfl rfl rfl rfl rfl rfl rfl ?_ | refine aops_litA ty_ok rfl rfl rfl rfl rfl rfl rfl rfl rfl rfl rfl rfl rfl rfl rfl rfl ?_ | refine aops_buildArr ty_ok rfl rfl rfl rfl rfl rfl rfl rfl rfl rfl ?_ | refine aops_indexArr ty_ok rfl rfl rfl rfl rfl rfl rfl rfl rfl rfl sdm ?_ | refine aops_lit0 ty_ok rfl rfl rfl rfl rfl rfl rfl ?_ | refine aops_field ty_ok rfl rfl rfl rfl rfl rfl rfl rfl rfl rfl ?_ | refine aops_cutE ty_ok rfl rfl rfl rfl rfl rfl rfl rfl rfl sdm rfl ?_ | ((fail_if_success (refine aops_known rfl ?_)); (refine aops_split ty_ok rfl rfl rfl rfl rfl rfl (fun hc => ⟨?_, ?_⟩) (fun hc => ⟨?_, ?_⟩)) <;> (try simp only [nms, reduceCtorEq] at hc) <;> (try (exfalso; omega)) <;> (try exact sdm)))) | ((fail_if_success (with_reducible show AWp _ _ _ _ _)); (fail_if_success (with_reducible show AOps _ _ _ _ _ _)); (first | (show AWp _ _ _ _ _) | (show AOps _ _ _ _ _ _))))
      first | rfl | (rw [bys_len]; rfl)
    | e :: f :: g :: r, E, hp, hc1 =>
      have hl : (els (e :: f :: g :: r)).length = r.length + 3 := by simp [els_len]
      obtain ⟨s1, s2, s3, s4, s5, s6, s7⟩ := el_facts (X := (els (e :: f :: g :: r)).getD (Int.toNat 2) default) (e := g) rfl
      have hf := c_afailed (envL.at 0) 2 g.st
      rw [← s5] at hf
      repeat' (first | ((with_reducible show AWp _ _ _ _ _); (first | refine awp_seq ?_ | refine awp_block ?_ | refine awp_skip ?_ | refine awp_exit ?_ | refine awp_scope ?_ | refine awp_label ?_ | refine awp_run ty_ok rfl sdm ?_ | refine awp_ret ⟨_, _, rfl, rfl, ?_⟩ | refine awp_ret ⟨_, rfl, ?_⟩ | ((refine awp_cond (ty := ty) rfl (fun hc => ?_) (fun hc => ?_)) <;> (try simp only [nms, reduceCtorEq] at hc) <;> (try (exfalso; omega))))) | ((with_reducible show AOps _ _ _ _ _ _); (first | refine aops_nil ?_ | refine aops_go ty_ok rfl rfl sdm ?_ | refine aops_gate ty_ok rfl rfl rfl sdm ?_ | refine aops_callE (ty := ty) rfl rfl rfl rfl rfl rfl rfl (hc1) rfl ?_ | refine aops_callE (ty := ty) rfl rfl rfl rfl rfl rfl rfl (hf) rfl ?_ | refine aops_litE ty_ok rfl rfl rfl rfl rfl rfl rfl rfl rfl rfl rfl rfl ?_ | refine aops_litA ty_ok rfl rfl rfl rfl rfl rfl rfl rfl rfl rfl rfl rfl rfl rfl rfl rfl ?_ | refine aops_buildArr ty_ok rfl rfl rfl rfl rfl rfl rfl rfl rfl rfl ?_ | refine aops_indexArr ty_ok rfl rfl rfl rfl rfl rfl rfl rfl rfl rfl sdm ?_ | refine aops_lit0 ty_ok rfl rfl rfl rfl rfl rfl rfl ?_ | refine aops_field ty_ok rfl rfl rfl rfl rfl rfl rfl rfl rfl rfl ?_ | refine aops_cutE ty_ok rfl rfl rfl rfl rfl rfl rfl rfl rfl sdm rfl ?_ | ((fail_if_success (refine aops_known rfl ?_)); (refine aops_split ty_ok rfl rfl rfl rfl rfl rfl (fun hc => ⟨?_, ?_⟩) (fun hc => ⟨?_, ?_⟩)) <;> (try simp only [nms, reduceCtorEq] at hc) <;> (try (exfalso; omega)) <;> (try exact sdm)))) | ((fail_if_success (with_reducible show AWp _ _ _ _ _)); (fail_if_success (with_reducible show AOps _ _ _ _ _ _)); (first | (show AWp _ _ _ _ _) | (show AOps _ _ _ _ _ _))))
      first | rfl | (rw [s5]; rfl)
    | [e, f], E, hp, hc1 =>
      simp only
      obtain ⟨h1, h2, h3⟩ := E.le 0 (by simp)
      obtain ⟨h4, h5, h6⟩ := E.le 1 (by simp)
      simp only [List.getElem_cons_zero, List.getElem_cons_succ] at h1 h2 h3 h4 h5 h6
      obtain ⟨q1, q2, q3, q4, q5, q6, q7⟩ := el_facts (X := (els [e, f]).getD (Int.toNat 0) default) (e := e) rfl
      obtain ⟨p1, p2, p3, p4, p5, p6, p7⟩ := el_facts (X := (els [e, f]).getD (Int.toNat 1) default) (e := f) rfl
      have hl : (els [e, f]).length = 2 := rfl
      obtain ⟨k1, k2, k3⟩ := cut_side b (Nat.le_trans h1 h2) h3
      obtain ⟨k4, k5, k6⟩ := cut_side b h5 h6
      cases hi : isB f.x 0 false 3 with
      | false =>
        have hc2 := c_is_at (envL.at 0) f 0 3 false hi
        have hf := c_afailed (envL.at 0) 3 f.st
        rw [← p5] at hf
        repeat' (first | ((with_reducible show AWp _ _ _ _ _); (first | refine awp_seq ?_ | refine awp_block ?_ | refine awp_skip ?_ | refine awp_exit ?_ | refine awp_scope ?_ | refine awp_label ?_ | refine awp_run ty_ok rfl sdm ?_ | refine awp_ret ⟨_, _, rfl, rfl, ?_⟩ | refine awp_ret ⟨_, rfl, ?_⟩ | ((refine awp_cond (ty := ty) rfl (fun hc => ?_) (fun hc => ?_)) <;> (try simp only [nms, reduceCtorEq] at hc) <;> (try (exfalso; omega))))) | ((with_reducible show AOps _ _ _ _ _ _); (first | refine aops_nil ?_ | refine aops_go ty_ok rfl rfl sdm ?_ | refine aops_gate ty_ok rfl rfl rfl sdm ?_ | refine aops_callE (ty := ty) rfl rfl rfl rfl rfl rfl rfl (hc1) rfl ?_ | refine aops_callE (ty := ty) rfl rfl rfl rfl rfl rfl rfl (hc2) rfl ?_ | refine aops_callE (ty := ty) rfl rfl rfl rfl rfl rfl rfl (hf) rfl ?_ | refine aops_litE ty_ok rfl rfl rfl rfl rfl rfl rfl rfl rfl rfl rfl rfl ?_ | refine aops_litA ty_ok rfl rfl rfl rfl rfl rfl rfl rfl rfl rfl rfl rfl rfl rfl rfl rfl ?_ | refine aops_buildArr ty_ok rfl rfl rfl rfl rfl rfl rfl rfl rfl rfl ?_ | refine aops_indexArr ty_ok rfl rfl rfl rfl rfl rfl rfl rfl rfl rfl sdm ?_ | refine aops_lit0 ty_ok rfl rfl rfl rfl rfl rfl rfl ?_ | refine aops_field ty_ok rfl rfl rfl rfl rfl rfl rfl rfl rfl rfl ?_ | refine aops_cutE ty_ok rfl rfl rfl rfl rfl rfl rfl rfl rfl sdm rfl ?_ | ((fail_if_success (refine aops_known rfl ?_)); (refine aops_split ty_ok rfl rfl rfl rfl rfl rfl (fun hc => ⟨?_, ?_⟩) (fun hc => ⟨?_, ?_⟩)) <;> (try simp only [nms, reduceCtorEq] at hc) <;> (try (exfalso; omega)) <;> (try exact sdm)))) | ((fail_if_success (with_reducible show AWp _ _ _ _ _)); (fail_if_success (with_reducible show AOps _ _ _ _ _ _)); (first | (show AWp _ _ _ _ _) | (show AOps _ _ _ _ _ _))))
        first | rfl | (rw [p5]; rfl)
      | true =>
        have hc2 := c_is_at (envL.at 0) f 0 3 false hi
        simp only
        have hcl := cut_len b e.st e.en h3
        cases ha : agP (cut b e.st e.en) with
        | bad c o =>
          have hc3 := c_aparse_cut b (i := e.st) (j := e.en) h3 hb ha
          have := ag_bad ha
          have hf := c_afailed (envL.at 0) c (e.st + o)
          repeat' (first | ((with_reducible show AWp _ _ _ _ _); (first | refine awp_seq ?_ | refine awp_block ?_ | refine awp_skip ?_ | refine awp_exit ?_ | refine awp_scope ?_ | refine awp_label ?_ | refine awp_run ty_ok rfl sdm ?_ | refine awp_ret ⟨_, _, rfl, rfl, ?_⟩ | refine awp_ret ⟨_, rfl, ?_⟩ | ((refine awp_cond (ty := ty) rfl (fun hc => ?_) (fun hc => ?_)) <;> (try simp only [nms, reduceCtorEq] at hc) <;> (try (exfalso; omega))) | refine awp_anyA 16 15 14 ty_ok mixed rfl rfl rfl rfl rfl rfl rfl rfl rfl rfl rfl rfl (by kernel_rfl) ?_ | refine awp_anyS 12 11 ty_ok mixed rfl rfl rfl rfl rfl rfl rfl rfl rfl (by kernel_rfl) ?_ | refine awp_anyS 8 7 ty_ok mixed rfl rfl rfl rfl rfl rfl rfl rfl rfl (by kernel_rfl) ?_)) | ((with_reducible show AOps _ _ _ _ _ _); (first | refine aops_nil ?_ | refine aops_go ty_ok rfl rfl sdm ?_ | refine aops_gate ty_ok rfl rfl rfl sdm ?_ | refine aops_callE (ty := ty) rfl rfl rfl rfl rfl rfl rfl (hc1) rfl ?_ | refine aops_callE (ty := ty) rfl rfl rfl rfl rfl rfl rfl (hc2) rfl ?_ | refine aops_callE (ty := ty) rfl rfl rfl rfl rfl rfl rfl (hc3) rfl ?_ | refine aops_callE (ty := ty) rfl rfl rfl rfl rfl rfl rfl (hf) rfl ?_ | refine aops_litE ty_ok rfl rfl rfl rfl rfl rfl rfl rfl rfl rfl rfl rfl ?_ | refine aops_litA ty_ok rfl rfl rfl rfl rfl rfl rfl rfl rfl rfl rfl rfl rfl rfl rfl rfl ?_ | refine aops_buildArr ty_ok rfl rfl rfl rfl rfl rfl rfl rfl rfl rfl ?_ | refine aops_indexArr ty_ok rfl rfl rfl rfl rfl rfl rfl rfl rfl rfl sdm ?_ | refine aops_lit0 ty_ok rfl rfl rfl rfl rfl rfl rfl ?_ | refine aops_field ty_ok rfl rfl rfl rfl rfl rfl rfl rfl rfl rfl ?_ | refine aops_cutE ty_ok rfl rfl rfl rfl rfl rfl rfl rfl rfl sdm rfl ?_ | ((fail_if_success (refine aops_known rfl ?_)); (refine aops_split ty_ok rfl rfl rfl rfl rfl rfl (fun hc => ⟨?_, ?_⟩) (fun hc => ⟨?_, ?_⟩)) <;> (try simp only [nms, reduceCtorEq] at hc) <;> (try (exfalso; omega)) <;> (try exact sdm)))) | ((with_reducible show HeadT _ _ _ _ _ _ _ _ _ _); (first | refine head_end ?_ | refine head_goP ty_ok rfl rfl sdm ?_ | refine head_gate ty_ok rfl rfl rfl sdm ?_ | refine head_callE (ty := ty) rfl rfl rfl rfl rfl rfl rfl (hc1) rfl ?_ | refine head_callE (ty := ty) rfl rfl rfl rfl rfl rfl rfl (hc2) rfl ?_ | refine head_callE (ty := ty) rfl rfl rfl rfl rfl rfl rfl (hc3) rfl ?_ | refine head_callE (ty := ty) rfl rfl rfl rfl rfl rfl rfl (hf) rfl ?_ | ((fail_if_success (refine head_known rfl ?_)); (refine head_split ty_ok rfl rfl rfl rfl (fun hc => ⟨?_, ?_⟩) (fun hc => ⟨?_, ?_⟩)) <;> (try simp only [nms, reduceCtorEq] at hc) <;> (try (exfalso; omega)) <;> (try exact sdm)))) | ((fail_if_success (with_reducible show AWp _ _ _ _ _)); (fail_if_success (with_reducible show AOps _ _ _ _ _ _)); (fail_if_success (with_reducible show HeadT _ _ _ _ _ _ _ _ _ _)); (first | (show AWp _ _ _ _ _) | (show AOps _ _ _ _ _ _) | refine st_go rfl rfl rfl rfl rfl rfl rfl ?_ | ((with_reducible show AlK _ _ _ _ _ _ _ _ _ _ _ _ _ _); refine al_go ?_) | ((with_reducible show StKA _ _ _ _ _ _ _ _ _ _ _ _ _); refine sta_go rfl rfl rfl rfl rfl rfl rfl ?_))))
          rfl
        | ok a =>
          have hc3 := c_aparse_cut b (i := e.st) (j := e.en) h3 hb ha
          simp only
          unfold akB
          rcases decF_cases (cut b f.bd f.en) with hd | ⟨q, x, g1, g2, hd⟩
          · rw [hd]
            have hc4 := c_bsdec_at (envL.at 0) b h6 hb hd
            have hf := c_afailed (envL.at 0) 6 f.bd
            rw [← p6] at hf
            repeat' (first | ((with_reducible show AWp _ _ _ _ _); (first | refine awp_seq ?_ | refine awp_block ?_ | refine awp_skip ?_ | refine awp_exit ?_ | refine awp_scope ?_ | refine awp_label ?_ | refine awp_run ty_ok rfl sdm ?_ | refine awp_ret ⟨_, _, rfl, rfl, ?_⟩ | refine awp_ret ⟨_, rfl, ?_⟩ | ((refine awp_cond (ty := ty) rfl (fun hc => ?_) (fun hc => ?_)) <;> (try simp only [nms, reduceCtorEq] at hc) <;> (try (exfalso; omega))) | refine awp_anyA 16 15 14 ty_ok mixed rfl rfl rfl rfl rfl rfl rfl rfl rfl rfl rfl rfl (by kernel_rfl) ?_ | refine awp_anyS 12 11 ty_ok mixed rfl rfl rfl rfl rfl rfl rfl rfl rfl (by kernel_rfl) ?_ | refine awp_anyS 8 7 ty_ok mixed rfl rfl rfl rfl rfl rfl rfl rfl rfl (by kernel_rfl) ?_)) | ((with_reducible show AOps _ _ _ _ _ _); (first | refine aops_nil ?_ | refine aops_go ty_ok rfl rfl sdm ?_ | refine aops_gate ty_ok rfl rfl rfl sdm ?_ | refine aops_callE (ty := ty) rfl rfl rfl rfl rfl rfl rfl (hc1) rfl ?_ | refine aops_callE (ty := ty) rfl rfl rfl rfl rfl rfl rfl (hc2) rfl ?_ | refine aops_callE (ty := ty) rfl rfl rfl rfl rfl rfl rfl (hc3) rfl ?_ | refine aops_callE (ty := ty) rfl rfl rfl rfl rfl rfl rfl (hc4) rfl ?_ | refine aops_callE (ty := ty) rfl rfl rfl rfl rfl rfl rfl (hf) rfl ?_ | refine aops_litE ty_ok rfl rfl rfl rfl rfl rfl rfl rfl rfl rfl rfl rfl ?_ | refine aops_litA ty_ok rfl rfl rfl rfl rfl rfl rfl rfl rfl rfl rfl rfl rfl rfl rfl rfl ?_ | refine aops_buildArr ty_ok rfl rfl rfl rfl rfl rfl rfl rfl rfl rfl ?_ | refine aops_indexArr ty_ok rfl rfl rfl rfl rfl rfl rfl rfl rfl rfl sdm ?_ | refine aops_lit0 ty_ok rfl rfl rfl rfl rfl rfl rfl ?_ | refine aops_field ty_ok rfl rfl rfl rfl rfl rfl rfl rfl rfl rfl ?_ | refine aops_cutE ty_ok rfl rfl rfl rfl rfl rfl rfl rfl rfl sdm rfl ?_ | ((fail_if_success (refine aops_known rfl ?_)); (refine aops_split ty_ok rfl rfl rfl rfl rfl rfl (fun hc => ⟨?_, ?_⟩) (fun hc => ⟨?_, ?_⟩)) <;> (try simp only [nms, reduceCtorEq] at hc) <;> (try (exfalso; omega)) <;> (try exact sdm)))) | ((with_reducible show HeadT _ _ _ _ _ _ _ _ _ _); (first | refine head_end ?_ | refine head_goP ty_ok rfl rfl sdm ?_ | refine head_gate ty_ok rfl rfl rfl sdm ?_ | refine head_callE (ty := ty) rfl rfl rfl rfl rfl rfl rfl (hc1) rfl ?_ | refine head_callE (ty := ty) rfl rfl rfl rfl rfl rfl rfl (hc2) rfl ?_ | refine head_callE (ty := ty) rfl rfl rfl rfl rfl rfl rfl (hc3) rfl ?_ | refine head_callE (ty := ty) rfl rfl rfl rfl rfl rfl rfl (hc4) rfl ?_ | refine head_callE (ty := ty) rfl rfl rfl rfl rfl rfl rfl (hf) rfl ?_ | ((fail_if_success (refine head_known rfl ?_)); (refine head_split ty_ok rfl rfl rfl rfl (fun hc => ⟨?_, ?_⟩) (fun hc => ⟨?_, ?_⟩)) <;> (try simp only [nms, reduceCtorEq] at hc) <;> (try (exfalso; omega)) <;> (try exact sdm)))) | ((fail_if_success (with_reducible show AWp _ _ _ _ _)); (fail_if_success (with_reducible show AOps _ _ _ _ _ _)); (fail_if_success (with_reducible show HeadT _ _ _ _ _ _ _ _ _ _)); (first | (show AWp _ _ _ _ _) | (show AOps _ _ _ _ _ _) | refine st_go rfl rfl rfl rfl rfl rfl rfl ?_ | ((with_reducible show AlK _ _ _ _ _ _ _ _ _ _ _ _ _ _); refine al_go ?_) | ((with_reducible show StKA _ _ _ _ _ _ _ _ _ _ _ _ _); refine sta_go rfl rfl rfl rfl rfl rfl rfl ?_))))
            first | rfl | (rw [p6]; rfl)
          · rw [hd]
            have hc4 := c_bsdec_at (envL.at 0) b h6 hb hd
            repeat' (first | ((with_reducible show AWp _ _ _ _ _); (first | refine awp_seq ?_ | refine awp_block ?_ | refine awp_skip ?_ | refine awp_exit ?_ | refine awp_scope ?_ | refine awp_label ?_ | refine awp_run ty_ok rfl sdm ?_ | refine awp_ret ⟨_, _, rfl, rfl, ?_⟩ | refine awp_ret ⟨_, rfl, ?_⟩ | ((refine awp_cond (ty := ty) rfl (fun hc => ?_) (fun hc => ?_)) <;> (try simp only [nms, reduceCtorEq] at hc) <;> (try (exfalso; omega))) | refine awp_anyA 16 15 14 ty_ok mixed rfl rfl rfl rfl rfl rfl rfl rfl rfl rfl rfl rfl (by kernel_rfl) ?_ | refine awp_anyS 12 11 ty_ok mixed rfl rfl rfl rfl rfl rfl rfl rfl rfl (by kernel_rfl) ?_ | refine awp_anyS 8 7 ty_ok mixed rfl rfl rfl rfl rfl rfl rfl rfl rfl (by kernel_rfl) ?_)) | ((with_reducible show AOps _ _ _ _ _ _); (first | refine aops_nil ?_ | refine aops_go ty_ok rfl rfl sdm ?_ | refine aops_gate ty_ok rfl rfl rfl sdm ?_ | refine aops_callE (ty := ty) rfl rfl rfl rfl rfl rfl rfl (hc1) rfl ?_ | refine aops_callE (ty := ty) rfl rfl rfl rfl rfl rfl rfl (hc2) rfl ?_ | refine aops_callE (ty := ty) rfl rfl rfl rfl rfl rfl rfl (hc3) rfl ?_ | refine aops_callE (ty := ty) rfl rfl rfl rfl rfl rfl rfl (hc4) rfl ?_ | refine aops_litE ty_ok rfl rfl rfl rfl rfl rfl rfl rfl rfl rfl rfl rfl ?_ | refine aops_litA ty_ok rfl rfl rfl rfl rfl rfl rfl rfl rfl rfl rfl rfl rfl rfl rfl rfl ?_ | refine aops_buildArr ty_ok rfl rfl rfl rfl rfl rfl rfl rfl rfl rfl ?_ | refine aops_indexArr ty_ok rfl rfl rfl rfl rfl rfl rfl rfl rfl rfl sdm ?_ | refine aops_lit0 ty_ok rfl rfl rfl rfl rfl rfl rfl ?_ | refine aops_field ty_ok rfl rfl rfl rfl rfl rfl rfl rfl rfl rfl ?_ | refine aops_cutE ty_ok rfl rfl rfl rfl rfl rfl rfl rfl rfl sdm rfl ?_ | ((fail_if_success (refine aops_known rfl ?_)); (refine aops_split ty_ok rfl rfl rfl rfl rfl rfl (fun hc => ⟨?_, ?_⟩) (fun hc => ⟨?_, ?_⟩)) <;> (try simp only [nms, reduceCtorEq] at hc) <;> (try (exfalso; omega)) <;> (try exact sdm)))) | ((with_reducible show HeadT _ _ _ _ _ _ _ _ _ _); (first | refine head_end ?_ | refine head_goP ty_ok rfl rfl sdm ?_ | refine head_gate ty_ok rfl rfl rfl sdm ?_ | refine head_callE (ty := ty) rfl rfl rfl rfl rfl rfl rfl (hc1) rfl ?_ | refine head_callE (ty := ty) rfl rfl rfl rfl rfl rfl rfl (hc2) rfl ?_ | refine head_callE (ty := ty) rfl rfl rfl rfl rfl rfl rfl (hc3) rfl ?_ | refine head_callE (ty := ty) rfl rfl rfl rfl rfl rfl rfl (hc4) rfl ?_ | ((fail_if_success (refine head_known rfl ?_)); (refine head_split ty_ok rfl rfl rfl rfl (fun hc => ⟨?_, ?_⟩) (fun hc => ⟨?_, ?_⟩)) <;> (try simp only [nms, reduceCtorEq] at hc) <;> (try (exfalso; omega)) <;> (try exact sdm)))) | ((fail_if_success (with_reducible show AWp _ _ _ _ _)); (fail_if_success (with_reducible show AOps _ _ _ _ _ _)); (fail_if_success (with_reducible show HeadT _ _ _ _ _ _ _ _ _ _)); (first | (show AWp _ _ _ _ _) | (show AOps _ _ _ _ _ _) | refine st_go rfl rfl rfl rfl rfl rfl rfl ?_ | ((with_reducible show AlK _ _ _ _ _ _ _ _ _ _ _ _ _ _); refine al_go ?_) | ((with_reducible show StKA _ _ _ _ _ _ _ _ _ _ _ _ _); refine sta_go rfl rfl rfl rfl rfl rfl rfl ?_))))
            rfl
theorem c_kparse_at (b : List UInt8) (hb : b.length ≤ 1000000) {v : Ex PKey} (h : akP b = v) : ACalls Tryz.prog envL 27 [.sl none (bys b)] (fun r => r = kpR v) := by
  subst h
  exact c_kparse b hb
end Go.Proofs.YtdihjpmdmfmbiaaGreatDoor

/- The abstract machine: literals and appends to fresh slices in a head whose order is drawn. No program. -/
namespace Go.Am
open Go.RowKit
set_option linter.unusedSimpArgs false
set_option linter.unusedVariables false
section
variable {P : Program} {Γ : Env} {Q : Exit → St → Prop} {σ : St} {ty : TypeId → Option TI}

theorem below_alloc (w : World) (o : Obj) : Below w.heap.size w (w.alloc o) := ⟨rfl, rfl, rfl, by simp, fun b hb => heap_alloc_old w o hb⟩
/-- What has no room may be appended to: the result is read-only here. -/
def emptyA : AV → Option (Option Nat)
  | .nil ek => some ek
  | .empty ek => some ek
  | _ => none
/-- A slice of one struct, in a head. -/
theorem HStep.litA (hT : TyOk P ty) {σm : St} {o : Oper} {id : Nat} {t e : TypeId} {x : Operand} {ti ei : TI} {y : AV} {ds : List Dat} (ho : o.op = .buildSlice t 1 #[(0, x)]) (ht : ty t = some ti) (hde : ti.desc = .slice e) (he : ty e = some ei) (hek : ei.agg = true)
    (hx : σm.ev ty e x = some y) (hp : datOf σm y = some (.agg ds)) (hl : Nat.beq ds.length ei.size = true) (h1 : ds.all (·.one) = true) (h0 : Nat.ble 1 ei.size = true) (hN : Nat.ble ei.size 16777216 = true) : HStep P Γ σm o id (.ref id) (some (.row (some ei.size) e [.agg ds])) := by
  have hl' := Nat.eq_of_beq_eq_true hl
  have h0' := Nat.le_of_ble_eq_true h0
  have hN' := Nat.le_of_ble_eq_true hN
  have h1' : ∀ z ∈ ds, z.one = true := List.all_eq_true.1 h1
  intro a C K R b m hid hk
  have hB := b.B
  obtain ⟨j, hj, hjs, _, hjz⟩ := hT.info _ _ he
  obtain ⟨hz1, hz2⟩ := hT.zsize _ _ he
  have hu := hT.und _ _ ht
  rw [hde] at hu
  have hrd := datOf_sound m hp (ev_sound m hx)
  obtain ⟨v, hv⟩ : ∃ v, v = a.eval x := ⟨_, rfl⟩
  rw [← hv] at hrd
  cases hrd with
  | agg _ vs hvl _ hvr =>
    have hvs : (Value.agg vs).cells.size = j.size := by
      show vs.size = _
      rw [hvl, hl', hjs]
    have hzr := hT.zrep _ _ he
    have hzo := hT.zone _ _ he
    have hinit : CsRep C (ei.zd.map .d) ((Array.range (1 * j.size)).map (ei.zero.cells[· % ei.zero.cells.size]!)) := by
      refine ⟨by simp [hjs, hz2], ?_, ?_⟩
      · intro y hy
        obtain ⟨q, hq, rfl⟩ := List.mem_map.1 hy
        exact hzo q hq
      · intro i y hy
        rw [List.getElem?_map] at hy
        obtain ⟨q, hq, rfl⟩ := Option.map_eq_some_iff.1 hy
        have hil : i < ei.size := by rw [← hz2]; exact (List.getElem?_eq_some_iff.1 hq).1
        have e1 : ((Array.range (1 * j.size)).map (ei.zero.cells[· % ei.zero.cells.size]!)).getD i undef = ei.zero.cells.getD i undef := by
          have h2 : i < ei.zero.cells.size := by rw [hz1]; exact hil
          simp [hjs, hil, Nat.mod_eq_of_lt h2, h2]
        rw [e1]
        exact .d (hzr C.w C.pr i q hq)
    have hset := setAll_sound (c := C) 0 (ds.map .d) vs.toList 0 _ _ hinit (by simp [hvl]) (by
      intro y hy
      obtain ⟨q, hq, rfl⟩ := List.mem_map.1 hy
      exact h1' q hq) (by
      intro i y hy
      rw [List.getElem?_map] at hy
      obtain ⟨q, hq, rfl⟩ := Option.map_eq_some_iff.1 hy
      have := hvr i q hq
      simpa using Rep.d (c := C) this)
    obtain ⟨cs, hcs⟩ : ∃ cs, cs = (Value.agg vs).cells.zipIdx.foldl (fun (cs : Array Value) (x : Value × Nat) => cs.setIfInBounds (0 + x.2) x.1) ((Array.range (1 * j.size)).map (ei.zero.cells[· % ei.zero.cells.size]!)) := ⟨_, rfl⟩
    have hset' : CsRep C (setAll (ei.zd.map .d) 0 (ds.map .d)) cs := by
      rw [hcs, ← Array.foldl_toList, Array.toList_zipIdx]
      exact hset
    have hrun : (execOp a.eval o).run P C.w = .ok (.value (.slice (some ⟨C.w.heap.size, 0, none⟩) 1 1)) (C.w.alloc (.cells cs e)) := by
      unfold execOp
      simp only [ho]
      refine run_value ?_
      have := run_lit1 (v := .agg vs) hu hj hjz hvs (by rw [hjs]; omega) (by rw [hjs]; omega) C.w
      rw [← hcs] at this
      have e2 : (#[(0, x)] : Array (Nat × Operand)).map (fun (i, x) => (i, a.eval x)) = #[(0, Value.agg vs)] := by simp [← hv]
      rw [e2]
      exact this
    have hcsz : cs.size = ei.size := by
      rw [hset'.1, setAll_length, List.length_map, hz2]
    have hro : ORep (C.new id (.cells cs e) (.slice (some ⟨C.w.heap.size, 0, none⟩) 1 1)) id (.row (some ei.size) e [.agg ds]) := by
      have := new_row (C := C) hid hB (ek := some ei.size) (e := e) (xs := [.agg ds]) (vs := cs) 1 (by simp) (by simp [maxLen]) (by simp [hcsz, esz]) (by
        intro k d hk
        match k, hk with
        | 0, hk =>
          simp only [List.getElem?_cons_zero, Option.some.injEq] at hk
          subst hk
          refine ⟨⟨ds, rfl, hl', h1'⟩, fun i y hy => ?_⟩
          have hil : i < ds.length := (List.getElem?_eq_some_iff.1 hy).1
          have hlt : i < (setAll (ei.zd.map AV.d) 0 (ds.map .d)).length := by rw [setAll_length, List.length_map, hz2, ← hl']; exact hil
          have hget := List.getElem?_eq_getElem hlt
          rcases setAll_get (by simp [hz2, hl']) hget with ⟨h, _⟩ | ⟨_, _, h⟩ | ⟨h, _⟩
          · omega
          · rw [Nat.sub_zero, List.getElem?_map] at h
            have hy' : ds[i]? = some y := hy
            rw [hy'] at h
            simp only [Option.map_some, Option.some.injEq] at h
            have hrep := hset'.2.2 i _ hget
            rw [← h] at hrep
            refine ⟨cs.getD i undef, ?_, ?_⟩
            · have : i < cs.size := by rw [hcsz, ← hl']; exact hil
              simp [this]
            · cases hrep with
              | d hh => exact hh
          · simp at h
            omega)
      exact this
    refine upon_value hrun (hk _ (C.new id (.cells cs e) (.slice (some ⟨C.w.heap.size, 0, none⟩) 1 1)) (Ct.new_evo hid hB _ _) (fun i hi => (ok_or hi).imp (fun h => h) (fun h => ⟨h, rfl⟩)) (.ref _ (by simp [Ct.new]) _ (by simp [Ct.new]) rfl) (fun ao h => ?_) (fun g hg => ⟨heap_alloc_old C.w _ hg, ?_⟩))
    · cases h
      refine ⟨hro, fun g hg => ?_⟩
      simp [Ct.new, blk] at hg
      omega
    · simp only [Ct.new]
      rw [if_neg (by omega)]

end
end Go.Am

/- The abstract machine: a literal of plain cells in a head whose order is drawn; it is read-only from there on. No program. -/
namespace Go.Am
open Go.RowKit
set_option linter.unusedSimpArgs false
set_option linter.unusedVariables false
section
variable {P : Program} {Γ : Env} {Q : Exit → St → Prop} {σ : St} {ty : TypeId → Option TI}

theorem HStep.litD (hT : TyOk P ty) {σm : St} {o : Oper} {id : Nat} {t e : TypeId} {n : Nat} {parts : Array (Nat × Operand)} {ti ei : TI} {ds : List Dat} (ho : o.op = .buildSlice t n parts) (ht : ty t = some ti) (hde : ti.desc = .slice e) (he : ty e = some ei)
    (hek : ei.agg = false) (hp : litParts σm ty e 0 parts.toList = some ds) (hn : Nat.beq n ds.length = true) (hN : Nat.ble n 16777216 = true) : HStep P Γ σm o id (.d (.sl none ds)) none := by
  intro a C K R b m hid hk
  have hn' := Nat.eq_of_beq_eq_true hn
  have hN' := Nat.le_of_ble_eq_true hN
  obtain ⟨j, hj, hjs, _, hjz⟩ := hT.info _ _ he
  have h1s := hT.one _ _ he hek
  obtain ⟨hz1, _⟩ := hT.zsize _ _ he
  have hu := hT.und _ _ ht
  rw [hde] at hu
  obtain ⟨i1, i2, i3, i4⟩ := litParts_sound m hp
  obtain ⟨L, hL⟩ : ∃ L, L = parts.toList.map fun (i, x) => (i, a.eval x) := ⟨_, rfl⟩
  have hget : ∀ (j : Nat) (q : Nat × Value), L[j]? = some q → ∃ p, parts.toList[j]? = some p ∧ q = (p.1, a.eval p.2) := by
    intro j q hq
    rw [hL, List.getElem?_map] at hq
    obtain ⟨p, hp, rfl⟩ := Option.map_eq_some_iff.1 hq
    exact ⟨p, hp, rfl⟩
  have hone : ∀ (j : Nat) (q : Nat × Value), L[j]? = some q → q.1 = 0 + j ∧ q.2.cells = #[q.2] := by
    intro j q hq
    obtain ⟨p, hp1, rfl⟩ := hget j q hq
    refine ⟨i3 j p hp1, ?_⟩
    have hjl : j < ds.length := by rw [i1]; exact (List.getElem?_eq_some_iff.1 hp1).1
    have hr := i4 j p ds[j] hp1 (List.getElem?_eq_getElem hjl)
    have := hr.oneCell (i2 _ (List.getElem_mem hjl))
    exact one_cells this
  have hLl : L.length = n := by rw [hL, List.length_map, ← i1, hn']
  obtain ⟨cs, f1, f2, _, f4⟩ := fill_lit L 0 ((Array.range (n * 1)).map ((if n = 0 then #[] else ei.zero.cells)[· % (if n = 0 then #[] else ei.zero.cells).size]!)) hone (by rw [hLl]; simp)
  have hrun : (execOp a.eval o).run P C.w = .ok (.value (.slice (some ⟨C.w.heap.size, 0, none⟩) n n)) (C.w.alloc (.cells cs e)) := by
    unfold execOp
    simp only [ho]
    refine run_value (run_lit hu hj (by rw [hjs, h1s]) hjz hN' C.w (fun zc z0 z1 => ?_))
    have hzc : zc = if n = 0 then #[] else ei.zero.cells := by
      by_cases hn0 : n = 0
      · rw [if_pos hn0]; exact z0 hn0
      · rw [if_neg hn0]; exact z1 hn0
    rw [hzc]
    have : (parts.map fun (i, x) => (i, a.eval x)).toList = L := by rw [hL]; simp
    rw [this]
    exact f1
  have hcs : cs.size = n := by rw [f2]; simp
  have hbel := below_alloc C.w (.cells cs e)
  have hD : RepD (C.w.alloc (.cells cs e)) (C.back0 (C.w.alloc (.cells cs e))).pr (.sl none ds) (.slice (some ⟨C.w.heap.size, 0, none⟩) n n) := by
    have hl1 : cs.toList.length = n := by simpa using hcs
    refine own_datum (w0 := C.w) (pr := C.pr) (e := e) ⟨cs.toList, ⟨?_, .inr ⟨C.w.heap.size, n, cs, ?_, Nat.le_refl _, heap_alloc_new C.w _, ?_, ?_, ?_, ?_⟩⟩, ?_⟩
    · rw [hl1, hn']
      simp [esz]
    · rw [hn']
    · omega
    · simp only [maxLen]
      omega
    · simp [esz, hcs]
    · rw [← hn']
      simp [esz, List.take_of_length_le, hcs]
    · intro k d hk
      have h1 := i2 d (List.mem_of_getElem? hk)
      refine ⟨h1, fun j y hj => ?_⟩
      have hdc := dat_one_cells h1
      rw [hdc] at hj
      match j, hj with
      | 0, hj =>
        simp at hj
        subst hj
        have hkl : k < parts.toList.length := by rw [← i1]; exact (List.getElem?_eq_some_iff.1 hk).1
        have hpk := List.getElem?_eq_getElem hkl
        refine ⟨a.eval (parts.toList[k]).2, ?_, (i4 k _ d hpk hk).mono fun g hg hp => ⟨hbel.block g hg, ?_⟩⟩
        · have := f4 k (parts.toList[k].1, a.eval (parts.toList[k]).2) (by rw [hL, List.getElem?_map, hpk]; rfl)
          simpa [esz] using this
        · have hne : C.w.heap.size ≠ g := by omega
          simp [hp, blk, hne]
  refine upon_value hrun (hk _ (C.back0 (C.w.alloc (.cells cs e))) (Ct.back0_evo b.B hbel) (fun i hi => .inl hi) (.d hD) (by simp) (fun g hg => ⟨hbel.block g hg, ?_⟩))
  simp [Ct.back0]
  intro hh
  omega
theorem head_litD (hT : TyOk P ty) {l : List Oper} {n : Nat} {D : List Oper} {K : List Ent → Prop} {r : List Oper} {j : Nat} {acc : List Ent} {o : Oper} {t e : TypeId} {nn : Nat} {parts : Array (Nat × Operand)} {ti ei : TI} {ds : List Dat} (hd : dstOk σ o.dst = true) (hw : wantedA l (minE σ n D acc o) o = some true) (ho : o.op = .buildSlice t nn parts) (ht : ty t = some ti) (hde : ti.desc = .slice e) (he : ty e = some ei)
    (hek : ei.agg = false) (hp : litParts (minE σ n D acc o) ty e 0 parts.toList = some ds) (hn : Nat.beq nn ds.length = true) (hN : Nat.ble nn 16777216 = true)
    (k : HeadT P Γ l σ n D K r (j + 1) (⟨j, o.dst, .d (.sl none ds), none⟩ :: acc)) : HeadT P Γ l σ n D K (o :: r) j acc :=
  ⟨.d (.sl none ds), none, ⟨hd, .inl ⟨hw, HStep.litD hT ho ht hde he hek hp hn hN⟩⟩, k⟩
end
end Go.Am

/- Trees by the reference, written: the octets of what was read. And what of algorithm identifiers the reference says. Walked by the abstract machine. -/
namespace Go.Proofs.YtdihjpmdmfmbiaaGreatDoor
open Go.Am
set_option linter.unusedSimpArgs false
set_option linter.unusedVariables false
-- withAmZ withAmMp withAmHl

theorem u8_parts (x : UInt8) : x.toNat = 64 * (x.toNat / 64) + 32 * (x.toNat / 32 % 2) + x.toNat % 32 := by
  have := u8_lt x
  omega
theorem isRIdent : IsFn Tryz.prog 106 Tryz.f106 := ⟨Tryz.func106, by decide, rfl⟩
theorem c_rident (Γ : Env) (x : UInt8) (hx : x.toNat % 32 ≠ 31) : ACalls Tryz.prog Γ 106 [clsD x, .bool (conB x), numD x] (fun r => r = .d (.tup [.int .u8 x.toNat, .int .i64 0])) := by
  refine acalls_of ty_ok isRIdent rfl rfl ?_
  have h1 := u8_lt x
  have h2 := u8_parts x
  unfold clsD numD
  cases hc : conB x with
  | false =>
    have h3 : ¬ x.toNat / 32 % 2 = 1 := of_decide_eq_false hc
    have hw : IntKind.u8.wrap (((x.toNat / 64 : Nat) : Int) * 64 + ((x.toNat % 32 : Nat) : Int)) = (x.toNat : Int) := by
      rw [IntKind.wrap_u8]
      omega
    repeat' (first | ((with_reducible show AWp _ _ _ _ _); (first | refine awp_seq ?_ | refine awp_block ?_ | refine awp_skip ?_ | refine awp_exit ?_ | refine awp_scope ?_ | refine awp_label ?_ | refine awp_run ty_ok rfl sdm ?_ | refine awp_ret ⟨_, _, rfl, rfl, ?_⟩ | refine awp_ret ⟨_, rfl, ?_⟩ | ((refine awp_cond (ty := ty) rfl (fun hc => ?_) (fun hc => ?_)) <;> (try simp only [nms, reduceCtorEq] at hc) <;> (try (exfalso; omega))))) | ((with_reducible show AOps _ _ _ _ _ _); (first | refine aops_nil ?_ | refine aops_go ty_ok rfl rfl sdm ?_ | refine aops_gate ty_ok rfl rfl rfl sdm ?_ | refine aops_litE ty_ok rfl rfl rfl rfl rfl rfl rfl rfl rfl rfl rfl rfl ?_ | refine aops_litA ty_ok rfl rfl rfl rfl rfl rfl rfl rfl rfl rfl rfl rfl rfl rfl rfl rfl ?_ | refine aops_buildArr ty_ok rfl rfl rfl rfl rfl rfl rfl rfl rfl rfl ?_ | refine aops_indexArr ty_ok rfl rfl rfl rfl rfl rfl rfl rfl rfl rfl sdm ?_ | refine aops_lit0 ty_ok rfl rfl rfl rfl rfl rfl rfl ?_ | refine aops_field ty_ok rfl rfl rfl rfl rfl rfl rfl rfl rfl rfl ?_ | refine aops_cutE ty_ok rfl rfl rfl rfl rfl rfl rfl rfl rfl sdm rfl ?_ | ((fail_if_success (refine aops_known rfl ?_)); (refine aops_split ty_ok rfl rfl rfl rfl rfl rfl (fun hc => ⟨?_, ?_⟩) (fun hc => ⟨?_, ?_⟩)) <;> (try simp only [nms, reduceCtorEq] at hc) <;> (try (exfalso; omega)) <;> (try exact sdm)))) | ((fail_if_success (with_reducible show AWp _ _ _ _ _)); (fail_if_success (with_reducible show AOps _ _ _ _ _ _)); (first | (show AWp _ _ _ _ _) | (show AOps _ _ _ _ _ _))))
    all_goals first | (exfalso; omega) | (rw [hw])
  | true =>
    have h3 : x.toNat / 32 % 2 = 1 := of_decide_eq_true hc
    have hw : IntKind.u8.wrap (((x.toNat / 64 : Nat) : Int) * 64 + ((x.toNat % 32 : Nat) : Int) + 32) = (x.toNat : Int) := by
      rw [IntKind.wrap_u8]
      omega
    repeat' (first | ((with_reducible show AWp _ _ _ _ _); (first | refine awp_seq ?_ | refine awp_block ?_ | refine awp_skip ?_ | refine awp_exit ?_ | refine awp_scope ?_ | refine awp_label ?_ | refine awp_run ty_ok rfl sdm ?_ | refine awp_ret ⟨_, _, rfl, rfl, ?_⟩ | refine awp_ret ⟨_, rfl, ?_⟩ | ((refine awp_cond (ty := ty) rfl (fun hc => ?_) (fun hc => ?_)) <;> (try simp only [nms, reduceCtorEq] at hc) <;> (try (exfalso; omega))))) | ((with_reducible show AOps _ _ _ _ _ _); (first | refine aops_nil ?_ | refine aops_go ty_ok rfl rfl sdm ?_ | refine aops_gate ty_ok rfl rfl rfl sdm ?_ | refine aops_litE ty_ok rfl rfl rfl rfl rfl rfl rfl rfl rfl rfl rfl rfl ?_ | refine aops_litA ty_ok rfl rfl rfl rfl rfl rfl rfl rfl rfl rfl rfl rfl rfl rfl rfl rfl ?_ | refine aops_buildArr ty_ok rfl rfl rfl rfl rfl rfl rfl rfl rfl rfl ?_ | refine aops_indexArr ty_ok rfl rfl rfl rfl rfl rfl rfl rfl rfl rfl sdm ?_ | refine aops_lit0 ty_ok rfl rfl rfl rfl rfl rfl rfl ?_ | refine aops_field ty_ok rfl rfl rfl rfl rfl rfl rfl rfl rfl rfl ?_ | refine aops_cutE ty_ok rfl rfl rfl rfl rfl rfl rfl rfl rfl sdm rfl ?_ | ((fail_if_success (refine aops_known rfl ?_)); (refine aops_split ty_ok rfl rfl rfl rfl rfl rfl (fun hc => ⟨?_, ?_⟩) (fun hc => ⟨?_, ?_⟩)) <;> (try simp only [nms, reduceCtorEq] at hc) <;> (try (exfalso; omega)) <;> (try exact sdm)))) | ((fail_if_success (with_reducible show AWp _ _ _ _ _)); (fail_if_success (with_reducible show AOps _ _ _ _ _ _)); (first | (show AWp _ _ _ _ _) | (show AOps _ _ _ _ _ _))))
    all_goals first | (exfalso; omega) | (rw [hw])
/-- The kids of a tree that was read, each with its octets. -/
theorem tr_kidsO {d : Nat} {n : Dat} {b : List UInt8} (h : Tr d n b) : ∃ (x : UInt8) (c : List UInt8) (ts : List (UInt8 × List UInt8 × List Dat)) (os : List (List UInt8)), n = nodeD x c (ts.map ndD) ∧ x.toNat % 32 ≠ 31 ∧ b = putF x (c ++ os.flatten) ∧ ts.length = os.length ∧ (∀ (i : Nat) (t : UInt8 × List UInt8 × List Dat) (o : List UInt8), ts[i]? = some t → os[i]? = some o → Tr (d - 1) (ndD t) o) ∧ (∀ t ∈ ts, t.2.1.length ≤ b.length) ∧ ts.length ≤ b.length := by
  cases h with
  | prim d x c hx hc hl => exact ⟨x, c, [], [], rfl, hx, by simp, rfl, by simp, by simp, Nat.zero_le _⟩
  | cons d x ks bs hx hc hl hn hk =>
    have key : ∀ (ks : List Dat) (bs : List (List UInt8)), ks.length = bs.length → (∀ (i : Nat) (k : Dat) (b : List UInt8), ks[i]? = some k → bs[i]? = some b → Tr d k b) → ∃ ts : List (UInt8 × List UInt8 × List Dat), ks = ts.map ndD ∧ ts.length ≤ bs.flatten.length ∧ ∀ t ∈ ts, t.2.1.length ≤ bs.flatten.length := by
      clear hn hl hk
      intro ks
      induction ks with
      | nil => intro bs _ _; exact ⟨[], rfl, Nat.zero_le _, by simp⟩
      | cons k ks ih =>
        intro bs hn hk
        match bs, hn with
        | b :: bs, hn =>
          obtain ⟨ts, h1, h2, h3⟩ := ih bs (by simpa using hn) (fun i k b hi hb => hk (i + 1) k b (by simpa using hi) (by simpa using hb))
          have ht := hk 0 k b rfl rfl
          have hp := ht.pos
          have hc : ∃ x c ks, k = nodeD x c ks ∧ c.length ≤ b.length := by
            cases ht with
            | prim d x c _ _ _ => exact ⟨x, c, [], rfl, by rw [putF_len]; omega⟩
            | cons d x ks bs _ _ _ _ _ => exact ⟨x, [], ks, rfl, by simp⟩
          obtain ⟨x, c, ks', rfl, hl⟩ := hc
          refine ⟨(x, c, ks') :: ts, by rw [h1]; rfl, by rw [List.flatten_cons, List.length_append, List.length_cons]; omega, ?_⟩
          intro t hm
          rw [List.flatten_cons, List.length_append]
          rcases List.mem_cons.1 hm with rfl | hm
          · simp only; omega
          · have := h3 t hm; omega
    obtain ⟨ts, h1, h2, h3⟩ := key ks bs hn hk
    refine ⟨x, [], ts, bs, by rw [h1], hx, by simp, by rw [← hn, h1, List.length_map], ?_, ?_, ?_⟩
    · intro i t o hi ho
      refine hk i (ndD t) o ?_ ho
      rw [h1, List.getElem?_map, hi]
      rfl
    · intro t ht
      have := h3 t ht
      rw [putF_len]; omega
    · rw [putF_len]; omega
theorem flat_at {os : List (List UInt8)} {i : Nat} {o : List UInt8} (h : os[i]? = some o) : o.length ≤ os.flatten.length := by
  have h1 := List.mem_of_getElem? h
  obtain ⟨a, b, rfl⟩ := List.append_of_mem h1
  simp
  omega
theorem isRBytes : IsFn Tryz.prog 88 Tryz.f88 := ⟨Tryz.func88, by decide, rfl⟩
set_option maxHeartbeats 2000000 in
theorem c_rbytes (Γ : Env) : ∀ (d : Nat) (n : Dat) (b : List UInt8), Tr d n b → b.length ≤ 1000000 → ACalls Tryz.prog Γ 88 [n] (fun r => r = .own none 5 (bys b))
  | 0, n, b, ht, hb => by cases ht
  | d + 1, n, b, ht, hb => by
    obtain ⟨x, c, ts, os, rfl, hx, rfl, hlen, hk, _, _⟩ := tr_kidsO ht
    refine acalls_of ty_ok isRBytes rfl rfl ?_
    have hpl := putF_len x (c ++ os.flatten)
    rw [List.length_append] at hpl
    have hc1 := c_rident (Γ.at 0) x hx
    have hc2 := c_rput (Γ.at 0) x (c ++ os.flatten) (by rw [List.length_append]; omega)
    obtain ⟨K, hK⟩ : ∃ K, K = ts.map ndD := ⟨_, rfl⟩
    have hKl : K.length = os.length := by rw [hK, List.length_map, hlen]
    rw [← hK]
    unfold clsD numD at hc1
    unfold nodeD clsD numD
    repeat' (first | ((with_reducible show AWp _ _ _ _ _); (first | refine awp_seq ?_ | refine awp_block ?_ | refine awp_skip ?_ | refine awp_exit ?_ | refine awp_scope ?_ | refine awp_label ?_ | refine awp_run ty_ok rfl sdm ?_ | refine awp_ret ⟨_, _, rfl, rfl, ?_⟩ | refine awp_ret ⟨_, rfl, ?_⟩ | ((refine awp_cond (ty := ty) rfl (fun hc => ?_) (fun hc => ?_)) <;> (try simp only [nms, reduceCtorEq] at hc) <;> (try (exfalso; omega))))) | ((with_reducible show AOps _ _ _ _ _ _); (first | refine aops_nil ?_ | refine aops_go ty_ok rfl rfl sdm ?_ | refine aops_gate ty_ok rfl rfl rfl sdm ?_ | refine aops_callE (ty := ty) rfl rfl rfl rfl rfl rfl rfl (hc1) rfl ?_ | refine aops_litE ty_ok rfl rfl rfl rfl rfl rfl rfl rfl rfl rfl rfl rfl ?_ | refine aops_litA ty_ok rfl rfl rfl rfl rfl rfl rfl rfl rfl rfl rfl rfl rfl rfl rfl rfl ?_ | refine aops_buildArr ty_ok rfl rfl rfl rfl rfl rfl rfl rfl rfl rfl ?_ | refine aops_indexArr ty_ok rfl rfl rfl rfl rfl rfl rfl rfl rfl rfl sdm ?_ | refine aops_lit0 ty_ok rfl rfl rfl rfl rfl rfl rfl ?_ | refine aops_field ty_ok rfl rfl rfl rfl rfl rfl rfl rfl rfl rfl ?_ | refine aops_cutE ty_ok rfl rfl rfl rfl rfl rfl rfl rfl rfl sdm rfl ?_ | ((fail_if_success (refine aops_known rfl ?_)); (refine aops_split ty_ok rfl rfl rfl rfl rfl rfl (fun hc => ⟨?_, ?_⟩) (fun hc => ⟨?_, ?_⟩)) <;> (try simp only [nms, reduceCtorEq] at hc) <;> (try (exfalso; omega)) <;> (try exact sdm)))) | ((fail_if_success (with_reducible show AWp _ _ _ _ _)); (fail_if_success (with_reducible show AOps _ _ _ _ _ _)); (first | (show AWp _ _ _ _ _) | (show AOps _ _ _ _ _ _))))
    refine awp_loopR (G := { k : Nat // k ≤ os.length }) (fun k => ⟨Tryz.f88.ntmps, [(1, .ptr 0 0), (3, .d (.int .u8 x.toNat)), (5, .ref 1), (6, .d (.int .i64 k.1))], [(0, .box 73 [.d (.int .i64 (x.toNat / 64 : Nat)), .d (.int .i64 (x.toNat % 32 : Nat)), .d (.bool (conB x)), .d (.sl none (bys c)), .d (.sl (some 5) K)]), (1, .row none 5 (bys (c ++ (os.take k.1).flatten)))], 2⟩) (fun k => os.length - k.1) ⟨0, Nat.zero_le _⟩ [(0, 0), (2, 1)]
      (SubR.mk' rfl rfl ⟨⟨_, rfl, rfl⟩, ⟨_, rfl, rfl⟩, ⟨_, rfl, rfl⟩, ⟨_, rfl, rfl⟩, trivial⟩ ⟨⟨_, _, rfl, rfl, rfl⟩, ⟨_, _, rfl, rfl, congrArg (AO.row none 5) (by simp)⟩, trivial⟩) ?_
    rintro ⟨k, hkl⟩
    dsimp only at hkl ⊢
    rcases Nat.lt_or_ge k os.length with hko | hko
    · have hkt : k < ts.length := by omega
      have hX : K.getD (k : Int).toNat default = ndD ts[k] := by rw [hK]; exact nd_at hkt
      have hcan := nd_facts hX
      have hfl := flat_at (List.getElem?_eq_getElem hko)
      have hc3 := c_rbytes (Γ.at 0) d (ndD ts[k]) os[k] (hk k _ _ (List.getElem?_eq_getElem hkt) (List.getElem?_eq_getElem hko)) (by omega)
      rw [← hX, hcan] at hc3
      have hsum : (c ++ (os.take k).flatten).length + os[k].length ≤ c.length + os.flatten.length := by
        have e := List.take_append_drop k os
        rw [List.drop_eq_getElem_cons hko] at e
        have e2 := congrArg (fun z : List (List UInt8) => z.flatten.length) e
        simp only [List.flatten_append, List.flatten_cons, List.length_append] at e2 ⊢
        omega
      have hb1 := bys_len (c ++ (os.take k).flatten)
      have hb2 := bys_len os[k]
      repeat' (first | ((with_reducible show AWp _ _ _ _ _); (first | refine awp_seq ?_ | refine awp_block ?_ | refine awp_skip ?_ | refine awp_exit ?_ | refine awp_scope ?_ | refine awp_label ?_ | refine awp_run ty_ok rfl sdm ?_ | refine awp_ret ⟨_, _, rfl, rfl, ?_⟩ | refine awp_ret ⟨_, rfl, ?_⟩ | ((refine awp_cond (ty := ty) rfl (fun hc => ?_) (fun hc => ?_)) <;> (try simp only [nms, reduceCtorEq] at hc) <;> (try (exfalso; omega))))) | ((with_reducible show AOps _ _ _ _ _ _); (first | refine aops_nil ?_ | refine aops_go ty_ok rfl rfl sdm ?_ | refine aops_gate ty_ok rfl rfl rfl sdm ?_ | refine aops_callE (ty := ty) rfl rfl rfl rfl rfl rfl rfl (hc3) rfl ?_ | refine aops_litE ty_ok rfl rfl rfl rfl rfl rfl rfl rfl rfl rfl rfl rfl ?_ | refine aops_litA ty_ok rfl rfl rfl rfl rfl rfl rfl rfl rfl rfl rfl rfl rfl rfl rfl rfl ?_ | refine aops_buildArr ty_ok rfl rfl rfl rfl rfl rfl rfl rfl rfl rfl ?_ | refine aops_indexArr ty_ok rfl rfl rfl rfl rfl rfl rfl rfl rfl rfl sdm ?_ | refine aops_lit0 ty_ok rfl rfl rfl rfl rfl rfl rfl ?_ | refine aops_field ty_ok rfl rfl rfl rfl rfl rfl rfl rfl rfl rfl ?_ | refine aops_cutE ty_ok rfl rfl rfl rfl rfl rfl rfl rfl rfl sdm rfl ?_ | ((fail_if_success (refine aops_known rfl ?_)); (refine aops_split ty_ok rfl rfl rfl rfl rfl rfl (fun hc => ⟨?_, ?_⟩) (fun hc => ⟨?_, ?_⟩)) <;> (try simp only [nms, reduceCtorEq] at hc) <;> (try (exfalso; omega)) <;> (try exact sdm)))) | ((fail_if_success (with_reducible show AWp _ _ _ _ _)); (fail_if_success (with_reducible show AOps _ _ _ _ _ _)); (first | (show AWp _ _ _ _ _) | (show AOps _ _ _ _ _ _))))
      refine ⟨⟨k + 1, hko⟩, [(0, 0), (3, 1)], SubR.mk' rfl rfl ⟨⟨_, rfl, rfl⟩, ⟨_, rfl, rfl⟩, ⟨_, rfl, rfl⟩, ⟨_, rfl, rfl⟩, trivial⟩ ⟨⟨_, _, rfl, rfl, rfl⟩, ⟨_, _, rfl, rfl, congrArg (AO.row none 5) ?_⟩, trivial⟩, by simp only; omega⟩
      rw [List.take_succ_eq_append_getElem hko, List.flatten_append, ← bys_app]
      simp
    · have hke : k = os.length := by omega
      subst hke
      rw [List.take_length]
      repeat' (first | ((with_reducible show AWp _ _ _ _ _); (first | refine awp_seq ?_ | refine awp_block ?_ | refine awp_skip ?_ | refine awp_exit ?_ | refine awp_scope ?_ | refine awp_label ?_ | refine awp_run ty_ok rfl sdm ?_ | refine awp_ret ⟨_, _, rfl, rfl, ?_⟩ | refine awp_ret ⟨_, rfl, ?_⟩ | ((refine awp_cond (ty := ty) rfl (fun hc => ?_) (fun hc => ?_)) <;> (try simp only [nms, reduceCtorEq] at hc) <;> (try (exfalso; omega))))) | ((with_reducible show AOps _ _ _ _ _ _); (first | refine aops_nil ?_ | refine aops_go ty_ok rfl rfl sdm ?_ | refine aops_gate ty_ok rfl rfl rfl sdm ?_ | refine aops_callE (ty := ty) rfl rfl rfl rfl rfl rfl rfl (hc2) rfl ?_ | refine aops_litE ty_ok rfl rfl rfl rfl rfl rfl rfl rfl rfl rfl rfl rfl ?_ | refine aops_litA ty_ok rfl rfl rfl rfl rfl rfl rfl rfl rfl rfl rfl rfl rfl rfl rfl rfl ?_ | refine aops_buildArr ty_ok rfl rfl rfl rfl rfl rfl rfl rfl rfl rfl ?_ | refine aops_indexArr ty_ok rfl rfl rfl rfl rfl rfl rfl rfl rfl rfl sdm ?_ | refine aops_lit0 ty_ok rfl rfl rfl rfl rfl rfl rfl ?_ | refine aops_field ty_ok rfl rfl rfl rfl rfl rfl rfl rfl rfl rfl ?_ | refine aops_cutE ty_ok rfl rfl rfl rfl rfl rfl rfl rfl rfl sdm rfl ?_ | ((fail_if_success (refine aops_known rfl ?_)); (refine aops_split ty_ok rfl rfl rfl rfl rfl rfl (fun hc => ⟨?_, ?_⟩) (fun hc => ⟨?_, ?_⟩)) <;> (try simp only [nms, reduceCtorEq] at hc) <;> (try (exfalso; omega)) <;> (try exact sdm)))) | ((fail_if_success (with_reducible show AWp _ _ _ _ _)); (fail_if_success (with_reducible show AOps _ _ _ _ _ _)); (first | (show AWp _ _ _ _ _) | (show AOps _ _ _ _ _ _))))
      rfl
/-! ### Algorithm identifiers -/
theorem isRParse3 : IsFn Tryz.prog 60 Tryz.f60 := ⟨Tryz.func60, by decide, rfl⟩
theorem c_rparse3 (Γ : Env) (b : List UInt8) (hb : b.length ≤ 1000000) {v : Ex Dat} (h : wiF 16 b = v) : ACalls Tryz.prog Γ 60 [.sl none (bys b)] (fun r => r = .d (wiD v)) := by
  refine acalls_of ty_ok isRParse3 rfl rfl ?_
  have hc := c_rwithin_at (Γ.at 0) 16 (by omega) b hb h
  cases v with
  | bad c o =>
    have := wi_le h
    repeat' (first | ((with_reducible show AWp _ _ _ _ _); (first | refine awp_seq ?_ | refine awp_block ?_ | refine awp_skip ?_ | refine awp_exit ?_ | refine awp_scope ?_ | refine awp_label ?_ | refine awp_run ty_ok rfl sdm ?_ | refine awp_ret ⟨_, _, rfl, rfl, ?_⟩ | refine awp_ret ⟨_, rfl, ?_⟩ | ((refine awp_cond (ty := ty) rfl (fun hc => ?_) (fun hc => ?_)) <;> (try simp only [nms, reduceCtorEq] at hc) <;> (try (exfalso; omega))))) | ((with_reducible show AOps _ _ _ _ _ _); (first | refine aops_nil ?_ | refine aops_go ty_ok rfl rfl sdm ?_ | refine aops_gate ty_ok rfl rfl rfl sdm ?_ | refine aops_callE (ty := ty) rfl rfl rfl rfl rfl rfl rfl (hc) rfl ?_ | refine aops_litE ty_ok rfl rfl rfl rfl rfl rfl rfl rfl rfl rfl rfl rfl ?_ | refine aops_litA ty_ok rfl rfl rfl rfl rfl rfl rfl rfl rfl rfl rfl rfl rfl rfl rfl rfl ?_ | refine aops_buildArr ty_ok rfl rfl rfl rfl rfl rfl rfl rfl rfl rfl ?_ | refine aops_indexArr ty_ok rfl rfl rfl rfl rfl rfl rfl rfl rfl rfl sdm ?_ | refine aops_lit0 ty_ok rfl rfl rfl rfl rfl rfl rfl ?_ | refine aops_field ty_ok rfl rfl rfl rfl rfl rfl rfl rfl rfl rfl ?_ | refine aops_cutE ty_ok rfl rfl rfl rfl rfl rfl rfl rfl rfl sdm rfl ?_ | ((fail_if_success (refine aops_known rfl ?_)); (refine aops_split ty_ok rfl rfl rfl rfl rfl rfl (fun hc => ⟨?_, ?_⟩) (fun hc => ⟨?_, ?_⟩)) <;> (try simp only [nms, reduceCtorEq] at hc) <;> (try (exfalso; omega)) <;> (try exact sdm)))) | ((fail_if_success (with_reducible show AWp _ _ _ _ _)); (fail_if_success (with_reducible show AOps _ _ _ _ _ _)); (first | (show AWp _ _ _ _ _) | (show AOps _ _ _ _ _ _))))
    rfl
  | ok n =>
    obtain ⟨x, c, ks, rfl⟩ := tr_node (wi_ok.1 h)
    repeat' (first | ((with_reducible show AWp _ _ _ _ _); (first | refine awp_seq ?_ | refine awp_block ?_ | refine awp_skip ?_ | refine awp_exit ?_ | refine awp_scope ?_ | refine awp_label ?_ | refine awp_run ty_ok rfl sdm ?_ | refine awp_ret ⟨_, _, rfl, rfl, ?_⟩ | refine awp_ret ⟨_, rfl, ?_⟩ | ((refine awp_cond (ty := ty) rfl (fun hc => ?_) (fun hc => ?_)) <;> (try simp only [nms, reduceCtorEq] at hc) <;> (try (exfalso; omega))))) | ((with_reducible show AOps _ _ _ _ _ _); (first | refine aops_nil ?_ | refine aops_go ty_ok rfl rfl sdm ?_ | refine aops_gate ty_ok rfl rfl rfl sdm ?_ | refine aops_callE (ty := ty) rfl rfl rfl rfl rfl rfl rfl (hc) rfl ?_ | refine aops_litE ty_ok rfl rfl rfl rfl rfl rfl rfl rfl rfl rfl rfl rfl ?_ | refine aops_litA ty_ok rfl rfl rfl rfl rfl rfl rfl rfl rfl rfl rfl rfl rfl rfl rfl rfl ?_ | refine aops_buildArr ty_ok rfl rfl rfl rfl rfl rfl rfl rfl rfl rfl ?_ | refine aops_indexArr ty_ok rfl rfl rfl rfl rfl rfl rfl rfl rfl rfl sdm ?_ | refine aops_lit0 ty_ok rfl rfl rfl rfl rfl rfl rfl ?_ | refine aops_field ty_ok rfl rfl rfl rfl rfl rfl rfl rfl rfl rfl ?_ | refine aops_cutE ty_ok rfl rfl rfl rfl rfl rfl rfl rfl rfl sdm rfl ?_ | ((fail_if_success (refine aops_known rfl ?_)); (refine aops_split ty_ok rfl rfl rfl rfl rfl rfl (fun hc => ⟨?_, ?_⟩) (fun hc => ⟨?_, ?_⟩)) <;> (try simp only [nms, reduceCtorEq] at hc) <;> (try (exfalso; omega)) <;> (try exact sdm)))) | ((fail_if_success (with_reducible show AWp _ _ _ _ _)); (fail_if_success (with_reducible show AOps _ _ _ _ _ _)); (first | (show AWp _ _ _ _ _) | (show AOps _ _ _ _ _ _))))
    rfl
theorem isROpen3 : IsFn Tryz.prog 37 Tryz.f37 := ⟨Tryz.func37, by decide, rfl⟩
theorem c_ropen3 (Γ : Env) (b : List UInt8) (hb : b.length ≤ 1000000) {v : Bool} (h : opB b = v) : ACalls Tryz.prog Γ 37 [.sl none (bys b)] (fun r => r = .d (.bool v)) := by
  refine acalls_of ty_ok isROpen3 rfl rfl ?_
  subst h
  rw [opB]
  cases hr : wiF 16 b with
  | bad e o =>
    have := wi_bad hr
    repeat' (first | ((with_reducible show AWp _ _ _ _ _); (first | refine awp_seq ?_ | refine awp_block ?_ | refine awp_skip ?_ | refine awp_exit ?_ | refine awp_scope ?_ | refine awp_label ?_ | refine awp_run ty_ok rfl sdm ?_ | refine awp_ret ⟨_, _, rfl, rfl, ?_⟩ | refine awp_ret ⟨_, rfl, ?_⟩ | ((refine awp_cond (ty := ty) rfl (fun hc => ?_) (fun hc => ?_)) <;> (try simp only [nms, reduceCtorEq] at hc) <;> (try (exfalso; omega))))) | ((with_reducible show AOps _ _ _ _ _ _); (first | refine aops_nil ?_ | refine aops_go ty_ok rfl rfl sdm ?_ | refine aops_gate ty_ok rfl rfl rfl sdm ?_ | refine aops_callE (ty := ty) rfl rfl rfl rfl rfl rfl rfl (c_rparse3 _ b hb hr) rfl ?_ | refine aops_litE ty_ok rfl rfl rfl rfl rfl rfl rfl rfl rfl rfl rfl rfl ?_ | refine aops_litA ty_ok rfl rfl rfl rfl rfl rfl rfl rfl rfl rfl rfl rfl rfl rfl rfl rfl ?_ | refine aops_buildArr ty_ok rfl rfl rfl rfl rfl rfl rfl rfl rfl rfl ?_ | refine aops_indexArr ty_ok rfl rfl rfl rfl rfl rfl rfl rfl rfl rfl sdm ?_ | refine aops_lit0 ty_ok rfl rfl rfl rfl rfl rfl rfl ?_ | refine aops_field ty_ok rfl rfl rfl rfl rfl rfl rfl rfl rfl rfl ?_ | refine aops_cutE ty_ok rfl rfl rfl rfl rfl rfl rfl rfl rfl sdm rfl ?_ | ((fail_if_success (refine aops_known rfl ?_)); (refine aops_split ty_ok rfl rfl rfl rfl rfl rfl (fun hc => ⟨?_, ?_⟩) (fun hc => ⟨?_, ?_⟩)) <;> (try simp only [nms, reduceCtorEq] at hc) <;> (try (exfalso; omega)) <;> (try exact sdm)))) | ((fail_if_success (with_reducible show AWp _ _ _ _ _)); (fail_if_success (with_reducible show AOps _ _ _ _ _ _)); (first | (show AWp _ _ _ _ _) | (show AOps _ _ _ _ _ _))))
    simp only
    rw [beq_eq_false_iff_ne.2 (by omega)]
  | ok n =>
    obtain ⟨x, c, ks, rfl⟩ := tr_node (wi_ok.1 hr)
    repeat' (first | ((with_reducible show AWp _ _ _ _ _); (first | refine awp_seq ?_ | refine awp_block ?_ | refine awp_skip ?_ | refine awp_exit ?_ | refine awp_scope ?_ | refine awp_label ?_ | refine awp_run ty_ok rfl sdm ?_ | refine awp_ret ⟨_, _, rfl, rfl, ?_⟩ | refine awp_ret ⟨_, rfl, ?_⟩ | ((refine awp_cond (ty := ty) rfl (fun hc => ?_) (fun hc => ?_)) <;> (try simp only [nms, reduceCtorEq] at hc) <;> (try (exfalso; omega))))) | ((with_reducible show AOps _ _ _ _ _ _); (first | refine aops_nil ?_ | refine aops_go ty_ok rfl rfl sdm ?_ | refine aops_gate ty_ok rfl rfl rfl sdm ?_ | refine aops_callE (ty := ty) rfl rfl rfl rfl rfl rfl rfl (c_rparse3 _ b hb hr) rfl ?_ | refine aops_litE ty_ok rfl rfl rfl rfl rfl rfl rfl rfl rfl rfl rfl rfl ?_ | refine aops_litA ty_ok rfl rfl rfl rfl rfl rfl rfl rfl rfl rfl rfl rfl rfl rfl rfl rfl ?_ | refine aops_buildArr ty_ok rfl rfl rfl rfl rfl rfl rfl rfl rfl rfl ?_ | refine aops_indexArr ty_ok rfl rfl rfl rfl rfl rfl rfl rfl rfl rfl sdm ?_ | refine aops_lit0 ty_ok rfl rfl rfl rfl rfl rfl rfl ?_ | refine aops_field ty_ok rfl rfl rfl rfl rfl rfl rfl rfl rfl rfl ?_ | refine aops_cutE ty_ok rfl rfl rfl rfl rfl rfl rfl rfl rfl sdm rfl ?_ | ((fail_if_success (refine aops_known rfl ?_)); (refine aops_split ty_ok rfl rfl rfl rfl rfl rfl (fun hc => ⟨?_, ?_⟩) (fun hc => ⟨?_, ?_⟩)) <;> (try simp only [nms, reduceCtorEq] at hc) <;> (try (exfalso; omega)) <;> (try exact sdm)))) | ((fail_if_success (with_reducible show AWp _ _ _ _ _)); (fail_if_success (with_reducible show AOps _ _ _ _ _ _)); (first | (show AWp _ _ _ _ _) | (show AOps _ _ _ _ _ _))))
    rfl
theorem isRAValid : IsFn Tryz.prog 17 Tryz.f17 := ⟨Tryz.func17, by decide, rfl⟩
theorem c_ravalid (Γ : Env) (a : Alg) (ho : a.o.length ≤ 100000000) (hp : a.p.length ≤ 1000000) {v : Bool} (h : agV a = v) : ACalls Tryz.prog Γ 17 [agD a] (fun r => r = .d (.bool v)) := by
  refine acalls_of ty_ok isRAValid rfl rfl ?_
  subst h
  have hc1 := c_rovalid (Γ.at 0) a.o ho
  have hc2 := c_ropen3 (Γ.at 0) a.p hp rfl
  unfold sD at hc1
  unfold agD sD agV
  obtain ⟨o, p⟩ := a
  simp only at hc1 hc2 ⊢
  have hl := bys_len p
  cases hv : oidV o with
  | false =>
    rw [hv] at hc1
    repeat' (first | ((with_reducible show AWp _ _ _ _ _); (first | refine awp_seq ?_ | refine awp_block ?_ | refine awp_skip ?_ | refine awp_exit ?_ | refine awp_scope ?_ | refine awp_label ?_ | refine awp_run ty_ok rfl sdm ?_ | refine awp_ret ⟨_, _, rfl, rfl, ?_⟩ | refine awp_ret ⟨_, rfl, ?_⟩ | ((refine awp_cond (ty := ty) rfl (fun hc => ?_) (fun hc => ?_)) <;> (try simp only [nms, reduceCtorEq] at hc) <;> (try (exfalso; omega))))) | ((with_reducible show AOps _ _ _ _ _ _); (first | refine aops_nil ?_ | refine aops_go ty_ok rfl rfl sdm ?_ | refine aops_gate ty_ok rfl rfl rfl sdm ?_ | refine aops_callE (ty := ty) rfl rfl rfl rfl rfl rfl rfl (hc1) rfl ?_ | refine aops_litE ty_ok rfl rfl rfl rfl rfl rfl rfl rfl rfl rfl rfl rfl ?_ | refine aops_litA ty_ok rfl rfl rfl rfl rfl rfl rfl rfl rfl rfl rfl rfl rfl rfl rfl rfl ?_ | refine aops_buildArr ty_ok rfl rfl rfl rfl rfl rfl rfl rfl rfl rfl ?_ | refine aops_indexArr ty_ok rfl rfl rfl rfl rfl rfl rfl rfl rfl rfl sdm ?_ | refine aops_lit0 ty_ok rfl rfl rfl rfl rfl rfl rfl ?_ | refine aops_field ty_ok rfl rfl rfl rfl rfl rfl rfl rfl rfl rfl ?_ | refine aops_cutE ty_ok rfl rfl rfl rfl rfl rfl rfl rfl rfl sdm rfl ?_ | ((fail_if_success (refine aops_known rfl ?_)); (refine aops_split ty_ok rfl rfl rfl rfl rfl rfl (fun hc => ⟨?_, ?_⟩) (fun hc => ⟨?_, ?_⟩)) <;> (try simp only [nms, reduceCtorEq] at hc) <;> (try (exfalso; omega)) <;> (try exact sdm)))) | ((fail_if_success (with_reducible show AWp _ _ _ _ _)); (fail_if_success (with_reducible show AOps _ _ _ _ _ _)); (first | (show AWp _ _ _ _ _) | (show AOps _ _ _ _ _ _))))
    rfl
  | true =>
    rw [hv] at hc1
    cases p with
    | nil =>
      repeat' (first | ((with_reducible show AWp _ _ _ _ _); (first | refine awp_seq ?_ | refine awp_block ?_ | refine awp_skip ?_ | refine awp_exit ?_ | refine awp_scope ?_ | refine awp_label ?_ | refine awp_run ty_ok rfl sdm ?_ | refine awp_ret ⟨_, _, rfl, rfl, ?_⟩ | refine awp_ret ⟨_, rfl, ?_⟩ | ((refine awp_cond (ty := ty) rfl (fun hc => ?_) (fun hc => ?_)) <;> (try simp only [nms, reduceCtorEq] at hc) <;> (try (exfalso; omega))))) | ((with_reducible show AOps _ _ _ _ _ _); (first | refine aops_nil ?_ | refine aops_go ty_ok rfl rfl sdm ?_ | refine aops_gate ty_ok rfl rfl rfl sdm ?_ | refine aops_callE (ty := ty) rfl rfl rfl rfl rfl rfl rfl (hc1) rfl ?_ | refine aops_litE ty_ok rfl rfl rfl rfl rfl rfl rfl rfl rfl rfl rfl rfl ?_ | refine aops_litA ty_ok rfl rfl rfl rfl rfl rfl rfl rfl rfl rfl rfl rfl rfl rfl rfl rfl ?_ | refine aops_buildArr ty_ok rfl rfl rfl rfl rfl rfl rfl rfl rfl rfl ?_ | refine aops_indexArr ty_ok rfl rfl rfl rfl rfl rfl rfl rfl rfl rfl sdm ?_ | refine aops_lit0 ty_ok rfl rfl rfl rfl rfl rfl rfl ?_ | refine aops_field ty_ok rfl rfl rfl rfl rfl rfl rfl rfl rfl rfl ?_ | refine aops_cutE ty_ok rfl rfl rfl rfl rfl rfl rfl rfl rfl sdm rfl ?_ | ((fail_if_success (refine aops_known rfl ?_)); (refine aops_split ty_ok rfl rfl rfl rfl rfl rfl (fun hc => ⟨?_, ?_⟩) (fun hc => ⟨?_, ?_⟩)) <;> (try simp only [nms, reduceCtorEq] at hc) <;> (try (exfalso; omega)) <;> (try exact sdm)))) | ((fail_if_success (with_reducible show AWp _ _ _ _ _)); (fail_if_success (with_reducible show AOps _ _ _ _ _ _)); (first | (show AWp _ _ _ _ _) | (show AOps _ _ _ _ _ _))))
      rfl
    | cons x r =>
      simp only [List.length_cons] at hl
      repeat' (first | ((with_reducible show AWp _ _ _ _ _); (first | refine awp_seq ?_ | refine awp_block ?_ | refine awp_skip ?_ | refine awp_exit ?_ | refine awp_scope ?_ | refine awp_label ?_ | refine awp_run ty_ok rfl sdm ?_ | refine awp_ret ⟨_, _, rfl, rfl, ?_⟩ | refine awp_ret ⟨_, rfl, ?_⟩ | ((refine awp_cond (ty := ty) rfl (fun hc => ?_) (fun hc => ?_)) <;> (try simp only [nms, reduceCtorEq] at hc) <;> (try (exfalso; omega))))) | ((with_reducible show AOps _ _ _ _ _ _); (first | refine aops_nil ?_ | refine aops_go ty_ok rfl rfl sdm ?_ | refine aops_gate ty_ok rfl rfl rfl sdm ?_ | refine aops_callE (ty := ty) rfl rfl rfl rfl rfl rfl rfl (hc1) rfl ?_ | refine aops_callE (ty := ty) rfl rfl rfl rfl rfl rfl rfl (hc2) rfl ?_ | refine aops_litE ty_ok rfl rfl rfl rfl rfl rfl rfl rfl rfl rfl rfl rfl ?_ | refine aops_litA ty_ok rfl rfl rfl rfl rfl rfl rfl rfl rfl rfl rfl rfl rfl rfl rfl rfl ?_ | refine aops_buildArr ty_ok rfl rfl rfl rfl rfl rfl rfl rfl rfl rfl ?_ | refine aops_indexArr ty_ok rfl rfl rfl rfl rfl rfl rfl rfl rfl rfl sdm ?_ | refine aops_lit0 ty_ok rfl rfl rfl rfl rfl rfl rfl ?_ | refine aops_field ty_ok rfl rfl rfl rfl rfl rfl rfl rfl rfl rfl ?_ | refine aops_cutE ty_ok rfl rfl rfl rfl rfl rfl rfl rfl rfl sdm rfl ?_ | ((fail_if_success (refine aops_known rfl ?_)); (refine aops_split ty_ok rfl rfl rfl rfl rfl rfl (fun hc => ⟨?_, ?_⟩) (fun hc => ⟨?_, ?_⟩)) <;> (try simp only [nms, reduceCtorEq] at hc) <;> (try (exfalso; omega)) <;> (try exact sdm)))) | ((fail_if_success (with_reducible show AWp _ _ _ _ _)); (fail_if_success (with_reducible show AOps _ _ _ _ _ _)); (first | (show AWp _ _ _ _ _) | (show AOps _ _ _ _ _ _))))
      rfl
theorem isRAMarshal : IsFn Tryz.prog 14 Tryz.f14 := ⟨Tryz.func14, by decide, rfl⟩
set_option maxHeartbeats 1000000 in
theorem c_ramarshal_ok (Γ : Env) (a : Alg) (ho : a.o.length ≤ 1000000) (hp : a.p.length ≤ 1000000) (hv : agV a = true) : ACalls Tryz.prog Γ 14 [agD a] (fun r => r = .ownT none 5 (bys (agF a)) [.int .i64 0]) := by
  refine acalls_of ty_ok isRAMarshal rfl rfl ?_
  have he := encO_len a.o
  have hcat := agF_le a
  have hfl := agF_len a
  have hc1 := c_ravalid (Γ.at 0) a (by omega) hp hv
  have hc2 := (c_robject (Γ.at 0) a.o (by omega)).own_d
  have hs := c_rput3 (Γ.at 0) 48 [objF a.o, a.p] (by simp) (by
    show [objF a.o, a.p].flatten.length ≤ _
    rw [show [objF a.o, a.p].flatten = agBd a from by simp [agBd]]
    omega)
  unfold agD sD at hc1
  unfold sD at hc2
  unfold agD sD
  repeat' (first | ((with_reducible show AWp _ _ _ _ _); (first | refine awp_seq ?_ | refine awp_block ?_ | refine awp_skip ?_ | refine awp_exit ?_ | refine awp_scope ?_ | refine awp_label ?_ | refine awp_run ty_ok rfl sdm ?_ | refine awp_ret ⟨_, _, rfl, rfl, ?_⟩ | refine awp_ret ⟨_, rfl, ?_⟩ | ((refine awp_cond (ty := ty) rfl (fun hc => ?_) (fun hc => ?_)) <;> (try simp only [nms, reduceCtorEq] at hc) <;> (try (exfalso; omega))) | refine awp_anyL 8 mixed rfl (by kernel_rfl) ?_)) | ((with_reducible show AOps _ _ _ _ _ _); (first | refine aops_nil ?_ | refine aops_go ty_ok rfl rfl sdm ?_ | refine aops_gate ty_ok rfl rfl rfl sdm ?_ | refine aops_callE (ty := ty) rfl rfl rfl rfl rfl rfl rfl (hc1) rfl ?_ | refine aops_callE (ty := ty) rfl rfl rfl rfl rfl rfl rfl (hc2) rfl ?_ | refine aops_callE (ty := ty) rfl rfl rfl rfl rfl rfl rfl (hs) rfl ?_ | refine aops_litE ty_ok rfl rfl rfl rfl rfl rfl rfl rfl rfl rfl rfl rfl ?_ | refine aops_litA ty_ok rfl rfl rfl rfl rfl rfl rfl rfl rfl rfl rfl rfl rfl rfl rfl rfl ?_ | refine aops_buildArr ty_ok rfl rfl rfl rfl rfl rfl rfl rfl rfl rfl ?_ | refine aops_indexArr ty_ok rfl rfl rfl rfl rfl rfl rfl rfl rfl rfl sdm ?_ | refine aops_lit0 ty_ok rfl rfl rfl rfl rfl rfl rfl ?_ | refine aops_field ty_ok rfl rfl rfl rfl rfl rfl rfl rfl rfl rfl ?_ | refine aops_cutE ty_ok rfl rfl rfl rfl rfl rfl rfl rfl rfl sdm rfl ?_ | ((fail_if_success (refine aops_known rfl ?_)); (refine aops_split ty_ok rfl rfl rfl rfl rfl rfl (fun hc => ⟨?_, ?_⟩) (fun hc => ⟨?_, ?_⟩)) <;> (try simp only [nms, reduceCtorEq] at hc) <;> (try (exfalso; omega)) <;> (try exact sdm)))) | ((with_reducible show HeadT _ _ _ _ _ _ _ _ _ _); (first | refine head_end ?_ | refine head_goP ty_ok rfl rfl sdm ?_ | refine head_gate ty_ok rfl rfl rfl sdm ?_ | refine head_litD ty_ok rfl rfl rfl rfl rfl rfl rfl rfl rfl rfl ?_ | refine head_callO (ty := ty) rfl rfl rfl rfl rfl rfl rfl (hs) ?_ | refine head_callE (ty := ty) rfl rfl rfl rfl rfl rfl rfl (hc1) rfl ?_ | refine head_callE (ty := ty) rfl rfl rfl rfl rfl rfl rfl (hc2) rfl ?_ | ((fail_if_success (refine head_known rfl ?_)); (refine head_split ty_ok rfl rfl rfl rfl (fun hc => ⟨?_, ?_⟩) (fun hc => ⟨?_, ?_⟩)) <;> (try simp only [nms, reduceCtorEq] at hc) <;> (try (exfalso; omega)) <;> (try exact sdm)))) | ((fail_if_success (with_reducible show AWp _ _ _ _ _)); (fail_if_success (with_reducible show AOps _ _ _ _ _ _)); (fail_if_success (with_reducible show HeadT _ _ _ _ _ _ _ _ _ _)); (first | (show AWp _ _ _ _ _) | (show AOps _ _ _ _ _ _))))
  all_goals simp [agF, agBd]
theorem c_ramarshal_bad (Γ : Env) (a : Alg) (ho : a.o.length ≤ 1000000) (hp : a.p.length ≤ 1000000) (hv : agV a = false) : ACalls Tryz.prog Γ 14 [agD a] (fun r => r = .d (.tup [.sl none [], .int .i64 8])) := by
  refine acalls_of ty_ok isRAMarshal rfl rfl ?_
  have hc1 := c_ravalid (Γ.at 0) a (by omega) hp hv
  unfold agD sD at hc1
  unfold agD sD
  repeat' (first | ((with_reducible show AWp _ _ _ _ _); (first | refine awp_seq ?_ | refine awp_block ?_ | refine awp_skip ?_ | refine awp_exit ?_ | refine awp_scope ?_ | refine awp_label ?_ | refine awp_run ty_ok rfl sdm ?_ | refine awp_ret ⟨_, _, rfl, rfl, ?_⟩ | refine awp_ret ⟨_, rfl, ?_⟩ | ((refine awp_cond (ty := ty) rfl (fun hc => ?_) (fun hc => ?_)) <;> (try simp only [nms, reduceCtorEq] at hc) <;> (try (exfalso; omega))))) | ((with_reducible show AOps _ _ _ _ _ _); (first | refine aops_nil ?_ | refine aops_go ty_ok rfl rfl sdm ?_ | refine aops_gate ty_ok rfl rfl rfl sdm ?_ | refine aops_callE (ty := ty) rfl rfl rfl rfl rfl rfl rfl (hc1) rfl ?_ | refine aops_litE ty_ok rfl rfl rfl rfl rfl rfl rfl rfl rfl rfl rfl rfl ?_ | refine aops_litA ty_ok rfl rfl rfl rfl rfl rfl rfl rfl rfl rfl rfl rfl rfl rfl rfl rfl ?_ | refine aops_buildArr ty_ok rfl rfl rfl rfl rfl rfl rfl rfl rfl rfl ?_ | refine aops_indexArr ty_ok rfl rfl rfl rfl rfl rfl rfl rfl rfl rfl sdm ?_ | refine aops_lit0 ty_ok rfl rfl rfl rfl rfl rfl rfl ?_ | refine aops_field ty_ok rfl rfl rfl rfl rfl rfl rfl rfl rfl rfl ?_ | refine aops_cutE ty_ok rfl rfl rfl rfl rfl rfl rfl rfl rfl sdm rfl ?_ | ((fail_if_success (refine aops_known rfl ?_)); (refine aops_split ty_ok rfl rfl rfl rfl rfl rfl (fun hc => ⟨?_, ?_⟩) (fun hc => ⟨?_, ?_⟩)) <;> (try simp only [nms, reduceCtorEq] at hc) <;> (try (exfalso; omega)) <;> (try exact sdm)))) | ((fail_if_success (with_reducible show AWp _ _ _ _ _)); (fail_if_success (with_reducible show AOps _ _ _ _ _ _)); (first | (show AWp _ _ _ _ _) | (show AOps _ _ _ _ _ _))))
  rfl
theorem isBAlg : IsFn Tryz.prog 19 Tryz.f19 := ⟨Tryz.func19, by decide, rfl⟩
theorem c_balg (Γ : Env) (x y : Alg) (hx : agSm x) {v : Bool} (h : decide (x = y) = v) : ACalls Tryz.prog Γ 19 [agD x, agD y] (fun r => r = .d (.bool v)) := by
  refine acalls_of ty_ok isBAlg rfl rfl ?_
  subst h
  rw [alg_eq]
  have hb := c_bytes (Γ.at 0) x.p y.p
  have ho := @bA_inj x.o y.o
  unfold agD sD
  repeat' (first | ((with_reducible show AWp _ _ _ _ _); (first | refine awp_seq ?_ | refine awp_block ?_ | refine awp_skip ?_ | refine awp_exit ?_ | refine awp_scope ?_ | refine awp_label ?_ | refine awp_run ty_ok rfl sdm ?_ | refine awp_ret ⟨_, _, rfl, rfl, ?_⟩ | refine awp_ret ⟨_, rfl, ?_⟩ | ((refine awp_cond (ty := ty) rfl (fun hc => ?_) (fun hc => ?_)) <;> (try simp only [nms, reduceCtorEq] at hc) <;> (try (exfalso; omega))))) | ((with_reducible show AOps _ _ _ _ _ _); (first | refine aops_nil ?_ | refine aops_go ty_ok rfl rfl sdm ?_ | refine aops_gate ty_ok rfl rfl rfl sdm ?_ | refine aops_callE (ty := ty) rfl rfl rfl rfl rfl rfl rfl (hb) rfl ?_ | refine aops_litE ty_ok rfl rfl rfl rfl rfl rfl rfl rfl rfl rfl rfl rfl ?_ | refine aops_litA ty_ok rfl rfl rfl rfl rfl rfl rfl rfl rfl rfl rfl rfl rfl rfl rfl rfl ?_ | refine aops_buildArr ty_ok rfl rfl rfl rfl rfl rfl rfl rfl rfl rfl ?_ | refine aops_indexArr ty_ok rfl rfl rfl rfl rfl rfl rfl rfl rfl rfl sdm ?_ | refine aops_lit0 ty_ok rfl rfl rfl rfl rfl rfl rfl ?_ | refine aops_field ty_ok rfl rfl rfl rfl rfl rfl rfl rfl rfl rfl ?_ | refine aops_cutE ty_ok rfl rfl rfl rfl rfl rfl rfl rfl rfl sdm rfl ?_ | ((fail_if_success (refine aops_known rfl ?_)); (refine aops_split ty_ok rfl rfl rfl rfl rfl rfl (fun hc => ⟨?_, ?_⟩) (fun hc => ⟨?_, ?_⟩)) <;> (try simp only [nms, reduceCtorEq] at hc) <;> (try (exfalso; omega)) <;> (try exact sdm)))) | ((fail_if_success (with_reducible show AWp _ _ _ _ _)); (fail_if_success (with_reducible show AOps _ _ _ _ _ _)); (first | (show AWp _ _ _ _ _) | (show AOps _ _ _ _ _ _))))
  · rw [ho] at *
    simp_all
  · rw [ho] at *
    simp_all
end Go.Proofs.YtdihjpmdmfmbiaaGreatDoor

/- Algorithm identifiers by the reference: Read and Parse. Walked by the abstract machine. -/
namespace Go.Proofs.YtdihjpmdmfmbiaaGreatDoor
open Go.Am
set_option linter.unusedSimpArgs false
set_option linter.unusedVariables false
-- withAmZ withAmMp

/-- Kids and their octets fit. -/
def KO (Γ : Env) (B : Nat) (ts : List (UInt8 × List UInt8 × List Dat)) (os : List (List UInt8)) : Prop :=
  ts.length = os.length ∧ ts.length ≤ B ∧ (∀ t ∈ ts, t.2.1.length ≤ B) ∧ ∀ (i : Nat) (t : UInt8 × List UInt8 × List Dat) (o : List UInt8), ts[i]? = some t → os[i]? = some o → o.length ≤ B ∧ ACalls Tryz.prog Γ 88 [ndD t] (fun r => r = .own none 5 (bys o))
def octN (os : List (List UInt8)) (i : Nat) : List UInt8 := os.getD i []
theorem isROctets : IsFn Tryz.prog 68 Tryz.f68 := ⟨Tryz.func68, by decide, rfl⟩
theorem c_roctets_in (Γ : Env) (B : Nat) (x : UInt8) (c : List UInt8) (ts : List (UInt8 × List UInt8 × List Dat)) (os : List (List UInt8)) (hK : KO (Γ.at 0) B ts os) (hB : B ≤ 1000000) (i : Nat) (hi : i < ts.length) : ACalls Tryz.prog Γ 68 [nodeD x c (ts.map ndD), .int .i64 i] (fun r => r = .own none 5 (bys (octN os i))) := by
  refine acalls_of ty_ok isROctets rfl rfl ?_
  obtain ⟨k1, k2, k3, k4⟩ := hK
  have hio : i < os.length := by omega
  obtain ⟨k5, hc1⟩ := k4 i ts[i] os[i] (List.getElem?_eq_getElem hi) (List.getElem?_eq_getElem hio)
  have hX := nd_at hi
  have hcan := nd_facts hX
  have hoc : octN os i = os[i] := by rw [octN, List.getD_eq_getElem?_getD, List.getElem?_eq_getElem hio]; rfl
  rw [hoc]
  rw [← hX, hcan] at hc1
  obtain ⟨K, hKK⟩ : ∃ K, K = ts.map ndD := ⟨_, rfl⟩
  have hKl : K.length = ts.length := by rw [hKK]; simp
  rw [← hKK] at hcan hc1 ⊢
  unfold nodeD
  repeat' (first | ((with_reducible show AWp _ _ _ _ _); (first | refine awp_seq ?_ | refine awp_block ?_ | refine awp_skip ?_ | refine awp_exit ?_ | refine awp_scope ?_ | refine awp_label ?_ | refine awp_run ty_ok rfl sdm ?_ | refine awp_ret ⟨_, _, rfl, rfl, ?_⟩ | refine awp_ret ⟨_, rfl, ?_⟩ | ((refine awp_cond (ty := ty) rfl (fun hc => ?_) (fun hc => ?_)) <;> (try simp only [nms, reduceCtorEq] at hc) <;> (try (exfalso; omega))))) | ((with_reducible show AOps _ _ _ _ _ _); (first | refine aops_nil ?_ | refine aops_go ty_ok rfl rfl sdm ?_ | refine aops_gate ty_ok rfl rfl rfl sdm ?_ | refine aops_callE (ty := ty) rfl rfl rfl rfl rfl rfl rfl (hc1) rfl ?_ | refine aops_litE ty_ok rfl rfl rfl rfl rfl rfl rfl rfl rfl rfl rfl rfl ?_ | refine aops_litA ty_ok rfl rfl rfl rfl rfl rfl rfl rfl rfl rfl rfl rfl rfl rfl rfl rfl ?_ | refine aops_buildArr ty_ok rfl rfl rfl rfl rfl rfl rfl rfl rfl rfl ?_ | refine aops_indexArr ty_ok rfl rfl rfl rfl rfl rfl rfl rfl rfl rfl sdm ?_ | refine aops_lit0 ty_ok rfl rfl rfl rfl rfl rfl rfl ?_ | refine aops_field ty_ok rfl rfl rfl rfl rfl rfl rfl rfl rfl rfl ?_ | refine aops_cutE ty_ok rfl rfl rfl rfl rfl rfl rfl rfl rfl sdm rfl ?_ | ((fail_if_success (refine aops_known rfl ?_)); (refine aops_split ty_ok rfl rfl rfl rfl rfl rfl (fun hc => ⟨?_, ?_⟩) (fun hc => ⟨?_, ?_⟩)) <;> (try simp only [nms, reduceCtorEq] at hc) <;> (try (exfalso; omega)) <;> (try exact sdm)))) | ((fail_if_success (with_reducible show AWp _ _ _ _ _)); (fail_if_success (with_reducible show AOps _ _ _ _ _ _)); (first | (show AWp _ _ _ _ _) | (show AOps _ _ _ _ _ _))))
  all_goals first | (exfalso; omega) | rfl
theorem c_roctets_out (Γ : Env) (x : UInt8) (c : List UInt8) (K : List Dat) (i : Nat) (hi : ¬ i < K.length) : ACalls Tryz.prog Γ 68 [nodeD x c K, .int .i64 i] (fun r => r = .d (.sl none [])) := by
  refine acalls_of ty_ok isROctets rfl rfl ?_
  unfold nodeD
  repeat' (first | ((with_reducible show AWp _ _ _ _ _); (first | refine awp_seq ?_ | refine awp_block ?_ | refine awp_skip ?_ | refine awp_exit ?_ | refine awp_scope ?_ | refine awp_label ?_ | refine awp_run ty_ok rfl sdm ?_ | refine awp_ret ⟨_, _, rfl, rfl, ?_⟩ | refine awp_ret ⟨_, rfl, ?_⟩ | ((refine awp_cond (ty := ty) rfl (fun hc => ?_) (fun hc => ?_)) <;> (try simp only [nms, reduceCtorEq] at hc) <;> (try (exfalso; omega))))) | ((with_reducible show AOps _ _ _ _ _ _); (first | refine aops_nil ?_ | refine aops_go ty_ok rfl rfl sdm ?_ | refine aops_gate ty_ok rfl rfl rfl sdm ?_ | refine aops_litE ty_ok rfl rfl rfl rfl rfl rfl rfl rfl rfl rfl rfl rfl ?_ | refine aops_litA ty_ok rfl rfl rfl rfl rfl rfl rfl rfl rfl rfl rfl rfl rfl rfl rfl rfl ?_ | refine aops_buildArr ty_ok rfl rfl rfl rfl rfl rfl rfl rfl rfl rfl ?_ | refine aops_indexArr ty_ok rfl rfl rfl rfl rfl rfl rfl rfl rfl rfl sdm ?_ | refine aops_lit0 ty_ok rfl rfl rfl rfl rfl rfl rfl ?_ | refine aops_field ty_ok rfl rfl rfl rfl rfl rfl rfl rfl rfl rfl ?_ | refine aops_cutE ty_ok rfl rfl rfl rfl rfl rfl rfl rfl rfl sdm rfl ?_ | ((fail_if_success (refine aops_known rfl ?_)); (refine aops_split ty_ok rfl rfl rfl rfl rfl rfl (fun hc => ⟨?_, ?_⟩) (fun hc => ⟨?_, ?_⟩)) <;> (try simp only [nms, reduceCtorEq] at hc) <;> (try (exfalso; omega)) <;> (try exact sdm)))) | ((fail_if_success (with_reducible show AWp _ _ _ _ _)); (fail_if_success (with_reducible show AOps _ _ _ _ _ _)); (first | (show AWp _ _ _ _ _) | (show AOps _ _ _ _ _ _))))
  all_goals first | (exfalso; omega) | rfl
def agRd (ts : List (UInt8 × List UInt8 × List Dat)) (os : List (List UInt8)) : Alg := ⟨(decS (kidN ts 0).2.1).1, octN os 1⟩
theorem isRARead : IsFn Tryz.prog 45 Tryz.f45 := ⟨Tryz.func45, by decide, rfl⟩
theorem c_raread (Γ : Env) (B : Nat) (x : UInt8) (c : List UInt8) (ts : List (UInt8 × List UInt8 × List Dat)) (os : List (List UInt8)) (hK : KO ((Γ.at 0).at 0) B ts os) (hB : B ≤ 1000000) : ACalls Tryz.prog Γ 45 [nodeD x c (ts.map ndD)] (fun r => r = .d (agD (agRd ts os))) := by
  refine acalls_of ty_ok isRARead rfl rfl ?_
  have hk0 := c_rkid (Γ.at 0) x c ts 0
  have hro := c_readobject (Γ.at 0) (kidN ts 0).1 (kidN ts 0).2.1 (kidN ts 0).2.2 (Nat.le_trans (kidN_len hK.2.2.1 0) hB)
  by_cases h : 1 < ts.length
  · have ho := (c_roctets_in (Γ.at 0) B x c ts os hK hB 1 h).own_d
    unfold nodeD at hk0 ho ⊢
    unfold agRd agD
    repeat' (first | ((with_reducible show AWp _ _ _ _ _); (first | refine awp_seq ?_ | refine awp_block ?_ | refine awp_skip ?_ | refine awp_exit ?_ | refine awp_scope ?_ | refine awp_label ?_ | refine awp_run ty_ok rfl sdm ?_ | refine awp_ret ⟨_, _, rfl, rfl, ?_⟩ | refine awp_ret ⟨_, rfl, ?_⟩ | ((refine awp_cond (ty := ty) rfl (fun hc => ?_) (fun hc => ?_)) <;> (try simp only [nms, reduceCtorEq] at hc) <;> (try (exfalso; omega))) | refine awp_anyL 6 mixed rfl (by kernel_rfl) ?_)) | ((with_reducible show AOps _ _ _ _ _ _); (first | refine aops_nil ?_ | refine aops_go ty_ok rfl rfl sdm ?_ | refine aops_gate ty_ok rfl rfl rfl sdm ?_ | refine aops_callE (ty := ty) rfl rfl rfl rfl rfl rfl rfl (hk0) rfl ?_ | refine aops_callE (ty := ty) rfl rfl rfl rfl rfl rfl rfl (hro) rfl ?_ | refine aops_callE (ty := ty) rfl rfl rfl rfl rfl rfl rfl (ho) rfl ?_ | refine aops_litE ty_ok rfl rfl rfl rfl rfl rfl rfl rfl rfl rfl rfl rfl ?_ | refine aops_litA ty_ok rfl rfl rfl rfl rfl rfl rfl rfl rfl rfl rfl rfl rfl rfl rfl rfl ?_ | refine aops_buildArr ty_ok rfl rfl rfl rfl rfl rfl rfl rfl rfl rfl ?_ | refine aops_indexArr ty_ok rfl rfl rfl rfl rfl rfl rfl rfl rfl rfl sdm ?_ | refine aops_lit0 ty_ok rfl rfl rfl rfl rfl rfl rfl ?_ | refine aops_field ty_ok rfl rfl rfl rfl rfl rfl rfl rfl rfl rfl ?_ | refine aops_cutE ty_ok rfl rfl rfl rfl rfl rfl rfl rfl rfl sdm rfl ?_ | ((fail_if_success (refine aops_known rfl ?_)); (refine aops_split ty_ok rfl rfl rfl rfl rfl rfl (fun hc => ⟨?_, ?_⟩) (fun hc => ⟨?_, ?_⟩)) <;> (try simp only [nms, reduceCtorEq] at hc) <;> (try (exfalso; omega)) <;> (try exact sdm)))) | ((with_reducible show HeadT _ _ _ _ _ _ _ _ _ _); (first | refine head_end ?_ | refine head_goP ty_ok rfl rfl sdm ?_ | refine head_gate ty_ok rfl rfl rfl sdm ?_ | refine head_callE (ty := ty) rfl rfl rfl rfl rfl rfl rfl (hk0) rfl ?_ | refine head_callE (ty := ty) rfl rfl rfl rfl rfl rfl rfl (hro) rfl ?_ | refine head_callE (ty := ty) rfl rfl rfl rfl rfl rfl rfl (ho) rfl ?_ | ((fail_if_success (refine head_known rfl ?_)); (refine head_split ty_ok rfl rfl rfl rfl (fun hc => ⟨?_, ?_⟩) (fun hc => ⟨?_, ?_⟩)) <;> (try simp only [nms, reduceCtorEq] at hc) <;> (try (exfalso; omega)) <;> (try exact sdm)))) | ((fail_if_success (with_reducible show AWp _ _ _ _ _)); (fail_if_success (with_reducible show AOps _ _ _ _ _ _)); (fail_if_success (with_reducible show HeadT _ _ _ _ _ _ _ _ _ _)); (first | (show AWp _ _ _ _ _) | (show AOps _ _ _ _ _ _))))
    rfl
  · have ho := c_roctets_out (Γ.at 0) x c (ts.map ndD) 1 (by rw [List.length_map]; exact h)
    have h2 : octN os 1 = [] := by
      rw [octN, List.getD_eq_getElem?_getD, List.getElem?_eq_none (by have := hK.1; omega)]
      rfl
    unfold nodeD at hk0 ho ⊢
    unfold agRd agD
    rw [h2]
    repeat' (first | ((with_reducible show AWp _ _ _ _ _); (first | refine awp_seq ?_ | refine awp_block ?_ | refine awp_skip ?_ | refine awp_exit ?_ | refine awp_scope ?_ | refine awp_label ?_ | refine awp_run ty_ok rfl sdm ?_ | refine awp_ret ⟨_, _, rfl, rfl, ?_⟩ | refine awp_ret ⟨_, rfl, ?_⟩ | ((refine awp_cond (ty := ty) rfl (fun hc => ?_) (fun hc => ?_)) <;> (try simp only [nms, reduceCtorEq] at hc) <;> (try (exfalso; omega))) | refine awp_anyL 6 mixed rfl (by kernel_rfl) ?_)) | ((with_reducible show AOps _ _ _ _ _ _); (first | refine aops_nil ?_ | refine aops_go ty_ok rfl rfl sdm ?_ | refine aops_gate ty_ok rfl rfl rfl sdm ?_ | refine aops_callE (ty := ty) rfl rfl rfl rfl rfl rfl rfl (hk0) rfl ?_ | refine aops_callE (ty := ty) rfl rfl rfl rfl rfl rfl rfl (hro) rfl ?_ | refine aops_callE (ty := ty) rfl rfl rfl rfl rfl rfl rfl (ho) rfl ?_ | refine aops_litE ty_ok rfl rfl rfl rfl rfl rfl rfl rfl rfl rfl rfl rfl ?_ | refine aops_litA ty_ok rfl rfl rfl rfl rfl rfl rfl rfl rfl rfl rfl rfl rfl rfl rfl rfl ?_ | refine aops_buildArr ty_ok rfl rfl rfl rfl rfl rfl rfl rfl rfl rfl ?_ | refine aops_indexArr ty_ok rfl rfl rfl rfl rfl rfl rfl rfl rfl rfl sdm ?_ | refine aops_lit0 ty_ok rfl rfl rfl rfl rfl rfl rfl ?_ | refine aops_field ty_ok rfl rfl rfl rfl rfl rfl rfl rfl rfl rfl ?_ | refine aops_cutE ty_ok rfl rfl rfl rfl rfl rfl rfl rfl rfl sdm rfl ?_ | ((fail_if_success (refine aops_known rfl ?_)); (refine aops_split ty_ok rfl rfl rfl rfl rfl rfl (fun hc => ⟨?_, ?_⟩) (fun hc => ⟨?_, ?_⟩)) <;> (try simp only [nms, reduceCtorEq] at hc) <;> (try (exfalso; omega)) <;> (try exact sdm)))) | ((with_reducible show HeadT _ _ _ _ _ _ _ _ _ _); (first | refine head_end ?_ | refine head_goP ty_ok rfl rfl sdm ?_ | refine head_gate ty_ok rfl rfl rfl sdm ?_ | refine head_callE (ty := ty) rfl rfl rfl rfl rfl rfl rfl (hk0) rfl ?_ | refine head_callE (ty := ty) rfl rfl rfl rfl rfl rfl rfl (hro) rfl ?_ | refine head_callE (ty := ty) rfl rfl rfl rfl rfl rfl rfl (ho) rfl ?_ | ((fail_if_success (refine head_known rfl ?_)); (refine head_split ty_ok rfl rfl rfl rfl (fun hc => ⟨?_, ?_⟩) (fun hc => ⟨?_, ?_⟩)) <;> (try simp only [nms, reduceCtorEq] at hc) <;> (try (exfalso; omega)) <;> (try exact sdm)))) | ((fail_if_success (with_reducible show AWp _ _ _ _ _)); (fail_if_success (with_reducible show AOps _ _ _ _ _ _)); (fail_if_success (with_reducible show HeadT _ _ _ _ _ _ _ _ _ _)); (first | (show AWp _ _ _ _ _) | (show AOps _ _ _ _ _ _))))
    rfl
theorem agRd_len {Γ : Env} {B : Nat} {ts : List (UInt8 × List UInt8 × List Dat)} {os : List (List UInt8)} (hK : KO Γ B ts os) : (agRd ts os).o.length ≤ (B + 2) * 11 ∧ (agRd ts os).p.length ≤ B := by
  obtain ⟨k1, k2, k3, k4⟩ := hK
  have h1 := kidN_len k3 0
  have h2 := decS_len (kidN ts 0).2.1
  refine ⟨by show (decS (kidN ts 0).2.1).1.length ≤ _; omega, ?_⟩
  show (octN os 1).length ≤ _
  by_cases h : 1 < ts.length
  · have hio : 1 < os.length := by omega
    have := (k4 1 ts[1] os[1] (List.getElem?_eq_getElem h) (List.getElem?_eq_getElem hio)).1
    rw [octN, List.getD_eq_getElem?_getD, List.getElem?_eq_getElem hio]
    exact this
  · rw [octN, List.getD_eq_getElem?_getD, List.getElem?_eq_none (by omega)]
    exact Nat.zero_le _
def raD (b : List UInt8) (a : Alg) : Res := if agV a = true ∧ agF a = b then .d (.tup [agD a, .bool true]) else .d (.tup [agD ag0, .bool false])
theorem isRAParse : IsFn Tryz.prog 20 Tryz.f20 := ⟨Tryz.func20, by decide, rfl⟩
set_option maxHeartbeats 1000000 in
theorem c_raparse_core (b : List UInt8) (hb : b.length ≤ 3000) (x : UInt8) (w : Bool) (c : List UInt8) (ts : List (UInt8 × List UInt8 × List Dat)) (os : List (List UInt8)) (hK : KO (((envL.at 0).at 0).at 0) b.length ts os)
    (hd : ACalls Tryz.prog (envL.at 0) 44 [.sl none (bys b)] (fun r => r = .d (.tup [nodeD x c (ts.map ndD), .bool w]))) :
    ACalls Tryz.prog envL 20 [.sl none (bys b)] (fun r => r = raD b (agRd ts os)) := by
  refine acalls_of ty_ok isRAParse rfl rfl ?_
  have hr := c_raread (envL.at 0) b.length x c ts os hK (by omega)
  obtain ⟨h1, h2⟩ := agRd_len hK
  generalize agRd ts os = X at h1 h2 hr ⊢
  generalize ts.map ndD = K at hd hr
  unfold raD
  cases hv : agV X with
  | false =>
    have hm := c_ramarshal_bad (envL.at 0) X (by omega) (by omega) hv
    rw [if_neg (by simp)]
    obtain ⟨o, p⟩ := X
    unfold agD sD at *
    unfold nodeD at *
    simp only at hm hr
    repeat' (first | ((with_reducible show AWp _ _ _ _ _); (first | refine awp_seq ?_ | refine awp_block ?_ | refine awp_skip ?_ | refine awp_exit ?_ | refine awp_scope ?_ | refine awp_label ?_ | refine awp_run ty_ok rfl sdm ?_ | refine awp_ret ⟨_, _, rfl, rfl, ?_⟩ | refine awp_ret ⟨_, rfl, ?_⟩ | ((refine awp_cond (ty := ty) rfl (fun hc => ?_) (fun hc => ?_)) <;> (try simp only [nms, reduceCtorEq] at hc) <;> (try (exfalso; omega))))) | ((with_reducible show AOps _ _ _ _ _ _); (first | refine aops_nil ?_ | refine aops_go ty_ok rfl rfl sdm ?_ | refine aops_gate ty_ok rfl rfl rfl sdm ?_ | refine aops_callE (ty := ty) rfl rfl rfl rfl rfl rfl rfl (hd) rfl ?_ | refine aops_callE (ty := ty) rfl rfl rfl rfl rfl rfl rfl (hr) rfl ?_ | refine aops_callE (ty := ty) rfl rfl rfl rfl rfl rfl rfl (hm) rfl ?_ | refine aops_litE ty_ok rfl rfl rfl rfl rfl rfl rfl rfl rfl rfl rfl rfl ?_ | refine aops_litA ty_ok rfl rfl rfl rfl rfl rfl rfl rfl rfl rfl rfl rfl rfl rfl rfl rfl ?_ | refine aops_buildArr ty_ok rfl rfl rfl rfl rfl rfl rfl rfl rfl rfl ?_ | refine aops_indexArr ty_ok rfl rfl rfl rfl rfl rfl rfl rfl rfl rfl sdm ?_ | refine aops_lit0 ty_ok rfl rfl rfl rfl rfl rfl rfl ?_ | refine aops_field ty_ok rfl rfl rfl rfl rfl rfl rfl rfl rfl rfl ?_ | refine aops_cutE ty_ok rfl rfl rfl rfl rfl rfl rfl rfl rfl sdm rfl ?_ | ((fail_if_success (refine aops_known rfl ?_)); (refine aops_split ty_ok rfl rfl rfl rfl rfl rfl (fun hc => ⟨?_, ?_⟩) (fun hc => ⟨?_, ?_⟩)) <;> (try simp only [nms, reduceCtorEq] at hc) <;> (try (exfalso; omega)) <;> (try exact sdm)))) | ((fail_if_success (with_reducible show AWp _ _ _ _ _)); (fail_if_success (with_reducible show AOps _ _ _ _ _ _)); (first | (show AWp _ _ _ _ _) | (show AOps _ _ _ _ _ _))))
    all_goals rfl
  | true =>
    have hm := c_ramarshal_ok (envL.at 0) X (by omega) (by omega) hv
    have hbe := c_bytes (envL.at 0) (agF X) b
    by_cases he : agF X = b
    · rw [if_pos ⟨rfl, he⟩]
      rw [decide_eq_true he] at hbe
      obtain ⟨o, p⟩ := X
      unfold agD sD at *
      unfold nodeD at *
      simp only at hm hr hbe
      repeat' (first | ((with_reducible show AWp _ _ _ _ _); (first | refine awp_seq ?_ | refine awp_block ?_ | refine awp_skip ?_ | refine awp_exit ?_ | refine awp_scope ?_ | refine awp_label ?_ | refine awp_run ty_ok rfl sdm ?_ | refine awp_ret ⟨_, _, rfl, rfl, ?_⟩ | refine awp_ret ⟨_, rfl, ?_⟩ | ((refine awp_cond (ty := ty) rfl (fun hc => ?_) (fun hc => ?_)) <;> (try simp only [nms, reduceCtorEq] at hc) <;> (try (exfalso; omega))))) | ((with_reducible show AOps _ _ _ _ _ _); (first | refine aops_nil ?_ | refine aops_go ty_ok rfl rfl sdm ?_ | refine aops_gate ty_ok rfl rfl rfl sdm ?_ | refine aops_callE (ty := ty) rfl rfl rfl rfl rfl rfl rfl (hd) rfl ?_ | refine aops_callE (ty := ty) rfl rfl rfl rfl rfl rfl rfl (hr) rfl ?_ | refine aops_callE (ty := ty) rfl rfl rfl rfl rfl rfl rfl (hm) rfl ?_ | refine aops_callE (ty := ty) rfl rfl rfl rfl rfl rfl rfl (hbe) rfl ?_ | refine aops_litE ty_ok rfl rfl rfl rfl rfl rfl rfl rfl rfl rfl rfl rfl ?_ | refine aops_litA ty_ok rfl rfl rfl rfl rfl rfl rfl rfl rfl rfl rfl rfl rfl rfl rfl rfl ?_ | refine aops_buildArr ty_ok rfl rfl rfl rfl rfl rfl rfl rfl rfl rfl ?_ | refine aops_indexArr ty_ok rfl rfl rfl rfl rfl rfl rfl rfl rfl rfl sdm ?_ | refine aops_lit0 ty_ok rfl rfl rfl rfl rfl rfl rfl ?_ | refine aops_field ty_ok rfl rfl rfl rfl rfl rfl rfl rfl rfl rfl ?_ | refine aops_cutE ty_ok rfl rfl rfl rfl rfl rfl rfl rfl rfl sdm rfl ?_ | ((fail_if_success (refine aops_known rfl ?_)); (refine aops_split ty_ok rfl rfl rfl rfl rfl rfl (fun hc => ⟨?_, ?_⟩) (fun hc => ⟨?_, ?_⟩)) <;> (try simp only [nms, reduceCtorEq] at hc) <;> (try (exfalso; omega)) <;> (try exact sdm)))) | ((fail_if_success (with_reducible show AWp _ _ _ _ _)); (fail_if_success (with_reducible show AOps _ _ _ _ _ _)); (first | (show AWp _ _ _ _ _) | (show AOps _ _ _ _ _ _))))
      all_goals rfl
    · rw [if_neg (by simp [he])]
      rw [decide_eq_false he] at hbe
      obtain ⟨o, p⟩ := X
      unfold agD sD at *
      unfold nodeD at *
      simp only at hm hr hbe
      repeat' (first | ((with_reducible show AWp _ _ _ _ _); (first | refine awp_seq ?_ | refine awp_block ?_ | refine awp_skip ?_ | refine awp_exit ?_ | refine awp_scope ?_ | refine awp_label ?_ | refine awp_run ty_ok rfl sdm ?_ | refine awp_ret ⟨_, _, rfl, rfl, ?_⟩ | refine awp_ret ⟨_, rfl, ?_⟩ | ((refine awp_cond (ty := ty) rfl (fun hc => ?_) (fun hc => ?_)) <;> (try simp only [nms, reduceCtorEq] at hc) <;> (try (exfalso; omega))))) | ((with_reducible show AOps _ _ _ _ _ _); (first | refine aops_nil ?_ | refine aops_go ty_ok rfl rfl sdm ?_ | refine aops_gate ty_ok rfl rfl rfl sdm ?_ | refine aops_callE (ty := ty) rfl rfl rfl rfl rfl rfl rfl (hd) rfl ?_ | refine aops_callE (ty := ty) rfl rfl rfl rfl rfl rfl rfl (hr) rfl ?_ | refine aops_callE (ty := ty) rfl rfl rfl rfl rfl rfl rfl (hm) rfl ?_ | refine aops_callE (ty := ty) rfl rfl rfl rfl rfl rfl rfl (hbe) rfl ?_ | refine aops_litE ty_ok rfl rfl rfl rfl rfl rfl rfl rfl rfl rfl rfl rfl ?_ | refine aops_litA ty_ok rfl rfl rfl rfl rfl rfl rfl rfl rfl rfl rfl rfl rfl rfl rfl rfl ?_ | refine aops_buildArr ty_ok rfl rfl rfl rfl rfl rfl rfl rfl rfl rfl ?_ | refine aops_indexArr ty_ok rfl rfl rfl rfl rfl rfl rfl rfl rfl rfl sdm ?_ | refine aops_lit0 ty_ok rfl rfl rfl rfl rfl rfl rfl ?_ | refine aops_field ty_ok rfl rfl rfl rfl rfl rfl rfl rfl rfl rfl ?_ | refine aops_cutE ty_ok rfl rfl rfl rfl rfl rfl rfl rfl rfl sdm rfl ?_ | ((fail_if_success (refine aops_known rfl ?_)); (refine aops_split ty_ok rfl rfl rfl rfl rfl rfl (fun hc => ⟨?_, ?_⟩) (fun hc => ⟨?_, ?_⟩)) <;> (try simp only [nms, reduceCtorEq] at hc) <;> (try (exfalso; omega)) <;> (try exact sdm)))) | ((fail_if_success (with_reducible show AWp _ _ _ _ _)); (fail_if_success (with_reducible show AOps _ _ _ _ _ _)); (first | (show AWp _ _ _ _ _) | (show AOps _ _ _ _ _ _))))
      all_goals rfl
/-- What the reader hands back, whether there is a tree or not. -/
theorem deep_ko (b : List UInt8) (hb : b.length ≤ 1000000) (Γ Δ : Env) : ∃ (x : UInt8) (w : Bool) (c : List UInt8) (ts : List (UInt8 × List UInt8 × List Dat)) (os : List (List UInt8)), KO Δ b.length ts os ∧ ACalls Tryz.prog Γ 44 [.sl none (bys b)] (fun r => r = .d (.tup [nodeD x c (ts.map ndD), .bool w])) ∧ (∀ n, wiF 60 b = .ok n → n = nodeD x c (ts.map ndD) ∧ b = putF x (c ++ os.flatten)) := by
  cases hw : wiF 60 b with
  | bad e o =>
    refine ⟨0, false, [], [], [], ⟨rfl, Nat.zero_le _, by simp, by simp⟩, c_rdeep_at Γ b (by omega) hw, ?_⟩
    intro n hn
    cases hn
  | ok n =>
    have ht := wi_ok.1 hw
    obtain ⟨x, c, ts, os, rfl, h1, h2, h3, h4, h5, h6⟩ := tr_kidsO ht
    refine ⟨x, true, c, ts, os, ⟨h3, h6, h5, ?_⟩, c_rdeep_at Γ b (by omega) hw, ?_⟩
    · intro i t o hi ho
      have h7 := flat_at ho
      have h8 : o.length ≤ b.length := by
        have := putF_len x (c ++ os.flatten)
        rw [List.length_append] at this
        rw [h2]
        omega
      exact ⟨h8, c_rbytes Δ 59 (ndD t) o (h4 i t o hi ho) (by omega)⟩
    · intro n hn
      cases hn
      exact ⟨rfl, h2⟩
end Go.Proofs.YtdihjpmdmfmbiaaGreatDoor

/- Algorithm identifiers by the reference: Parse, settled. -/
namespace Go.Proofs.YtdihjpmdmfmbiaaGreatDoor
open Go.Am
set_option linter.unusedSimpArgs false
set_option linter.unusedVariables false

theorem tr_mono {d : Nat} {n : Dat} {b : List UInt8} (h : Tr d n b) : ∀ {d' : Nat}, d ≤ d' → Tr d' n b := by
  induction h with
  | prim d x c hx hc hl =>
    intro d' h
    obtain ⟨e, rfl⟩ : ∃ e, d' = e + 1 := ⟨d' - 1, by omega⟩
    exact .prim e x c hx hc hl
  | cons d x ks bs hx hc hl hn hk ih =>
    intro d' h
    obtain ⟨e, rfl⟩ : ∃ e, d' = e + 1 := ⟨d' - 1, by omega⟩
    exact .cons e x ks bs hx hc hl hn fun i k b h1 h2 => ih i k b h1 h2 (by omega)
theorem c_rbytes_any (Γ : Env) {d : Nat} {n : Dat} {b : List UInt8} (h : Tr d n b) (hb : b.length ≤ 1000000) : ACalls Tryz.prog Γ 88 [n] (fun r => r = .own none 5 (bys b)) := c_rbytes Γ d n b h hb
/-- The tree of an algorithm identifier. -/
theorem ag_tree {a : Alg} (hv : agV a = true) (hl : (agBd a).length ≤ 2147483647) (hB : (agF a).length ≤ 1000000) : ∃ ts os, Tr 18 (nodeD 48 [] (ts.map ndD)) (agF a) ∧ agRd ts os = a ∧ ∀ Δ, KO Δ (agF a).length ts os := by
  obtain ⟨o, p⟩ := a
  have h2 := agF_len ⟨o, p⟩
  have h3 := hsz_ge (agBd ⟨o, p⟩)
  have h4 := agBd_len ⟨o, p⟩
  have h5 := hsz_ge (encO o)
  have h6 := putF_len 6 (encO o)
  simp only at h4
  have hd := decS_encO (ag_val hv)
  simp only at hd
  have h7 : Tr 17 (ndD ((6 : UInt8), encO o, ([] : List Dat))) (putF 6 (encO o)) := .prim 16 6 (encO o) (by decide) (by decide) (by omega)
  by_cases hp : p = []
  · subst hp
    refine ⟨[(6, encO o, [])], [putF 6 (encO o)], ?_, Alg.ext' (show (decS (encO o)).1 = o by rw [hd]) rfl, fun Δ => ⟨rfl, by simp only [List.length_cons, List.length_nil]; omega, ?_, ?_⟩⟩
    · have := Tr.cons 17 48 [ndD ((6 : UInt8), encO o, ([] : List Dat))] [putF 6 (encO o)] (by decide) (by decide) (by simp; omega) rfl (by
        intro i k b h1 h2
        match i with
        | 0 =>
          cases h1
          cases h2
          exact h7
        | i + 1 => cases h1)
      have e : putF 48 [putF 6 (encO o)].flatten = agF ⟨o, []⟩ := by simp [agF, objF]
      rw [e] at this
      exact this
    · intro t ht
      rw [List.mem_singleton.1 ht]
      simp only
      omega
    · intro i t q h1 h2
      match i with
      | 0 =>
        cases h1
        cases h2
        exact ⟨by omega, c_rbytes_any Δ h7 (by omega)⟩
      | i + 1 => cases h1
  · have hop : opB p = true := by
      unfold agV at hv
      rw [Bool.and_eq_true] at hv
      cases p with
      | nil => exact absurd rfl hp
      | cons x r => simpa using hv.2
    obtain ⟨n, hw⟩ := op_iff.1 hop
    have ht := wi_ok.1 hw
    obtain ⟨x, c, ts, os, rfl, _, h9, _, _, h10, _⟩ := tr_kidsO ht
    have hc : c.length ≤ p.length := by
      have := congrArg List.length h9
      rw [putF_len, List.length_append] at this
      omega
    have h8 : Tr 17 (ndD (x, c, ts.map ndD)) p := tr_mono ht (by omega)
    refine ⟨[(6, encO o, []), (x, c, ts.map ndD)], [putF 6 (encO o), p], ?_, Alg.ext' (show (decS (encO o)).1 = o by rw [hd]) rfl, fun Δ => ⟨rfl, by simp only [List.length_cons, List.length_nil]; omega, ?_, ?_⟩⟩
    · have := Tr.cons 17 48 [ndD ((6 : UInt8), encO o, ([] : List Dat)), ndD (x, c, ts.map ndD)] [putF 6 (encO o), p] (by decide) (by decide) (by simp; omega) rfl (by
        intro i k b h1 h2
        match i with
        | 0 =>
          cases h1
          cases h2
          exact h7
        | 1 =>
          cases h1
          cases h2
          exact h8
        | i + 2 => cases h1)
      have e : putF 48 [putF 6 (encO o), p].flatten = agF ⟨o, p⟩ := by simp [agF, objF]
      rw [e] at this
      exact this
    · intro t ht
      simp only [List.mem_cons, List.not_mem_nil, or_false] at ht
      rcases ht with rfl | rfl <;> simp only <;> omega
    · intro i t q h1 h2
      match i with
      | 0 =>
        cases h1
        cases h2
        exact ⟨by omega, c_rbytes_any Δ h7 (by omega)⟩
      | 1 =>
        cases h1
        cases h2
        exact ⟨by omega, c_rbytes_any Δ h8 (by omega)⟩
      | i + 2 => cases h1
theorem c_ragparse_ok (a : Alg) (hv : agV a = true) (hb : (agF a).length ≤ 3000) : ACalls Tryz.prog envL 20 [.sl none (bys (agF a))] (fun r => r = .d (.tup [agD a, .bool true])) := by
  have h2 := agF_len a
  obtain ⟨ts, os, h3, h4, h5⟩ := ag_tree hv (by omega) (by omega)
  have hw : wiF 60 (agF a) = .ok (nodeD 48 [] (ts.map ndD)) := wi_ok.2 (tr_mono h3 (by omega))
  have hd := c_rdeep_at (envL.at 0) (agF a) (by omega) hw
  have h1 := c_raparse_core (agF a) hb 48 true [] ts os (h5 _) hd
  rw [h4, raD, if_pos ⟨hv, rfl⟩] at h1
  exact h1
theorem c_ragparse_bad (b : List UInt8) (hb : b.length ≤ 3000) (hn : ∀ a, agV a = true → agF a ≠ b) : ACalls Tryz.prog envL 20 [.sl none (bys b)] (fun r => r = .d (.tup [agD ag0, .bool false])) := by
  obtain ⟨x, w, c, ts, os, hK, hd, _⟩ := deep_ko b (by omega) (envL.at 0) (((envL.at 0).at 0).at 0)
  have h1 := c_raparse_core b hb x w c ts os hK hd
  rw [raD, if_neg (fun h => hn _ h.1 h.2)] at h1
  exact h1
end Go.Proofs.YtdihjpmdmfmbiaaGreatDoor

/- Algorithm identifiers: the contracts as the laws want them, and the examples. Walked by the abstract machine. -/
namespace Go.Proofs.YtdihjpmdmfmbiaaGreatDoor
open Go.Am
set_option linter.unusedSimpArgs false
set_option linter.unusedVariables false
-- withAmZ withAmMp

theorem c_agmar_ok (a : Alg) (s : agSm a) (h : agV a = true) : ACalls Tryz.prog envL 13 [agD a] (fun r => r = .ownT none 5 (bys (agF a)) [.int .i64 0]) := c_amarshal_ok a (by have := s.1; omega) (by have := s.2; omega) h
theorem c_agmar_bad (a : Alg) (s : agSm a) (h : agV a = false) : ACalls Tryz.prog envL 13 [agD a] (fun r => r = .d (.tup [.sl none [], .int .i64 8])) := c_amarshal_bad a (by have := s.1; omega) (by have := s.2; omega) h
theorem c_agparse_at (b : List UInt8) (hb : b.length ≤ 1000000) {v : Ex Alg} (h : agP b = v) : ACalls Tryz.prog envL 18 [.sl none (bys b)] (fun r => r = apR v) := c_aparse_at b hb h
def rsaO : List UInt8 := [49, 46, 50, 46, 56, 52, 48, 46, 49, 49, 51, 53, 52, 57, 46, 49, 46, 49, 46, 49, 49]
def basA : Alg := ⟨rsaO, [5, 0]⟩
def basK : PKey := ⟨⟨rsaO, []⟩, [160], 5⟩
theorem basA_v : agV basA = true := by decide +kernel
theorem basA_f : agF basA = [48, 13, 6, 9, 42, 134, 72, 134, 247, 13, 1, 1, 11, 5, 0] := by decide +kernel
theorem basK_v : akV basK = true := by decide +kernel
theorem basK_f : akF basK = [48, 17, 48, 11, 6, 9, 42, 134, 72, 134, 247, 13, 1, 1, 11, 3, 2, 5, 160] := by decide +kernel
theorem basK_b : (agF basK.a ++ putF 3 (bcF basK)).length ≤ 2147483647 := by decide +kernel
theorem isAwake10 : IsFn Tryz.prog 11 Tryz.f11 := ⟨Tryz.func11, by decide, rfl⟩
set_option maxHeartbeats 1000000 in
theorem c_awake10 : ACalls Tryz.prog envL 11 [] (fun r => r = .d (.bool true)) := by
  refine acalls_of ty_ok isAwake10 rfl rfl ?_
  have h1 := c_agmar_ok basA ⟨by decide, by decide⟩ basA_v
  rw [basA_f] at h1
  have h2 := c_kmarshal_ok basK (by decide) (by decide) (by decide) basK_v
  have h3 := c_kparse_at (akF basK) (by rw [basK_f]; decide) (ak_of basK_v basK_b)
  rw [basK_f] at h2 h3
  repeat' (first | ((with_reducible show AWp _ _ _ _ _); (first | refine awp_seq ?_ | refine awp_block ?_ | refine awp_skip ?_ | refine awp_exit ?_ | refine awp_scope ?_ | refine awp_label ?_ | refine awp_run ty_ok rfl sdm ?_ | refine awp_ret ⟨_, _, rfl, rfl, ?_⟩ | refine awp_ret ⟨_, rfl, ?_⟩ | ((refine awp_cond (ty := ty) rfl (fun hc => ?_) (fun hc => ?_)) <;> (try simp only [nms, reduceCtorEq] at hc) <;> (try (exfalso; omega))))) | ((with_reducible show AOps _ _ _ _ _ _); (first | refine aops_nil ?_ | refine aops_go ty_ok rfl rfl sdm ?_ | refine aops_gate ty_ok rfl rfl rfl sdm ?_ | refine aops_callE (ty := ty) rfl rfl rfl rfl rfl rfl rfl (h1) rfl ?_ | refine aops_callE (ty := ty) rfl rfl rfl rfl rfl rfl rfl (h2) rfl ?_ | refine aops_callE (ty := ty) rfl rfl rfl rfl rfl rfl rfl (h3) rfl ?_ | refine aops_eqE (ty := ty) errEq rfl rfl rfl rfl rfl rfl rfl rfl ?_ | refine aops_neE (ty := ty) errEq rfl rfl rfl rfl rfl rfl rfl rfl ?_ | refine aops_callE (ty := ty) rfl rfl rfl rfl rfl rfl rfl (c_bytes_eq _ [48, 13, 6, 9, 42, 134, 72, 134, 247, 13, 1, 1, 11, 5, 0] [48, 13, 6, 9, 42, 134, 72, 134, 247, 13, 1, 1, 11, 5, 0] rfl) rfl ?_ | refine aops_callE (ty := ty) rfl rfl rfl rfl rfl rfl rfl (c_bytes_eq _ [48, 17, 48, 11, 6, 9, 42, 134, 72, 134, 247, 13, 1, 1, 11, 3, 2, 5, 160] [48, 17, 48, 11, 6, 9, 42, 134, 72, 134, 247, 13, 1, 1, 11, 3, 2, 5, 160] rfl) rfl ?_ | refine aops_litE ty_ok rfl rfl rfl rfl rfl rfl rfl rfl rfl rfl rfl rfl ?_ | refine aops_litA ty_ok rfl rfl rfl rfl rfl rfl rfl rfl rfl rfl rfl rfl rfl rfl rfl rfl ?_ | refine aops_buildArr ty_ok rfl rfl rfl rfl rfl rfl rfl rfl rfl rfl ?_ | refine aops_indexArr ty_ok rfl rfl rfl rfl rfl rfl rfl rfl rfl rfl sdm ?_ | refine aops_lit0 ty_ok rfl rfl rfl rfl rfl rfl rfl ?_ | refine aops_field ty_ok rfl rfl rfl rfl rfl rfl rfl rfl rfl rfl ?_ | refine aops_cutE ty_ok rfl rfl rfl rfl rfl rfl rfl rfl rfl sdm rfl ?_ | ((fail_if_success (refine aops_known rfl ?_)); (refine aops_split ty_ok rfl rfl rfl rfl rfl rfl (fun hc => ⟨?_, ?_⟩) (fun hc => ⟨?_, ?_⟩)) <;> (try simp only [nms, reduceCtorEq] at hc) <;> (try (exfalso; omega)) <;> (try exact sdm)))) | ((fail_if_success (with_reducible show AWp _ _ _ _ _)); (fail_if_success (with_reducible show AOps _ _ _ _ _ _)); (first | (show AWp _ _ _ _ _) | (show AOps _ _ _ _ _ _))))
  all_goals first | rfl | exact absurd rfl hc
end Go.Proofs.YtdihjpmdmfmbiaaGreatDoor

/- One octet replaced: plain facts for the laws. No program. -/
namespace Go.Am
open Go.RowKit
set_option linter.unusedSimpArgs false
set_option linter.unusedVariables false
end Go.Am

/- The laws Marshals, Parses, Changes and Ends of algorithm identifiers, walked by the abstract machine. -/
namespace Go.Proofs.YtdihjpmdmfmbiaaGreatDoor
open Go.Am
set_option linter.unusedSimpArgs false
set_option linter.unusedVariables false
-- withAmZ withAmMp

end Go.Proofs.YtdihjpmdmfmbiaaGreatDoor

/- The law AlgorithmCopies: what Parse hands back lies in new blocks only. Walked by the abstract machine. -/
namespace Go.Proofs.YtdihjpmdmfmbiaaGreatDoor
open Go.Am
set_option linter.unusedSimpArgs false
set_option linter.unusedVariables false
-- withAmZ withAmMp

theorem isAParseF : IsFn Tryz.prog 18 Tryz.f18 := ⟨Tryz.func18, by decide, rfl⟩
set_option maxHeartbeats 4000000 in
set_option maxRecDepth 100000 in
theorem f_aparse (b : List UInt8) (hb : b.length ≤ 1000000) (a : Alg) (ha : agP b = .ok a) : AFresh Tryz.prog envL 18 [.sl none (bys b)] (fun y => y = .tup [agD a, errD 0 0]) := by
  refine afresh_of ty_ok isAParseF rfl rfl ?_
  rw [agP] at ha
  cases hp : ptF b 0 16 with
  | bad c o => rw [hp] at ha; cases ha
  | ok l =>
    rw [hp] at ha
    have hc1 := (c_parts_at (envL.at 0) b 0 16 (by omega) hp).ownT_d
    obtain ⟨ts, hbe, E⟩ := seq_ok hp
    match l, E, hp, hc1, ha with
    | [], E, hp, hc1, ha => cases ha
    | e :: f :: g :: r, E, hp, hc1, ha => cases ha
    | [e], E, hp, hc1, ha =>
      simp only at ha
      obtain ⟨h1, h2, h3⟩ := E.le 0 (by simp)
      simp only [List.getElem_cons_zero, List.getElem_cons_succ] at h1 h2 h3
      obtain ⟨q1, q2, q3, q4, q5, q6, q7⟩ := el_facts (X := (els [e]).getD (Int.toNat 0) default) (e := e) rfl
      have hl : (els [e]).length = 1 := rfl
      obtain ⟨k1, k2, k3⟩ := cut_side b h2 h3
      cases hi : isB e.x 0 false 6 with
      | false => rw [agI, hi] at ha; cases ha
      | true =>
        have hc2 := c_is_at (envL.at 0) e 0 6 false hi
        rw [agI, hi] at ha
        by_cases hd : (decS (cut b e.bd e.en)).2 = 0
        · have hc3 := c_odec_ok b h3 h2 (by omega) hd
          rw [decide_eq_true hd] at ha
          simp only at ha
          cases ha
          repeat' (first | ((with_reducible show AWp _ _ _ _ _); (first | refine awp_seq ?_ | refine awp_block ?_ | refine awp_skip ?_ | refine awp_exit ?_ | refine awp_scope ?_ | refine awp_label ?_ | refine awp_run ty_ok rfl sdm ?_ | refine awp_ret ⟨_, _, rfl, rfl, ?_⟩ | refine awp_ret ⟨_, rfl, ?_⟩ | ((refine awp_cond (ty := ty) rfl (fun hc => ?_) (fun hc => ?_)) <;> (try simp only [nms, reduceCtorEq] at hc) <;> (try (exfalso; omega))) | refine awp_anyL 15 mixed rfl (by kernel_rfl) ?_)) | ((with_reducible show AOps _ _ _ _ _ _); (first | refine aops_nil ?_ | refine aops_go ty_ok rfl rfl sdm ?_ | refine aops_gate ty_ok rfl rfl rfl sdm ?_ | refine aops_callE (ty := ty) rfl rfl rfl rfl rfl rfl rfl (hc1) rfl ?_ | refine aops_callE (ty := ty) rfl rfl rfl rfl rfl rfl rfl (hc2) rfl ?_ | refine aops_callE (ty := ty) rfl rfl rfl rfl rfl rfl rfl (hc3) rfl ?_ | refine aops_litE ty_ok rfl rfl rfl rfl rfl rfl rfl rfl rfl rfl rfl rfl ?_ | refine aops_litA ty_ok rfl rfl rfl rfl rfl rfl rfl rfl rfl rfl rfl rfl rfl rfl rfl rfl ?_ | refine aops_buildArr ty_ok rfl rfl rfl rfl rfl rfl rfl rfl rfl rfl ?_ | refine aops_indexArr ty_ok rfl rfl rfl rfl rfl rfl rfl rfl rfl rfl sdm ?_ | refine aops_lit0 ty_ok rfl rfl rfl rfl rfl rfl rfl ?_ | refine aops_field ty_ok rfl rfl rfl rfl rfl rfl rfl rfl rfl rfl ?_ | refine aops_cutE ty_ok rfl rfl rfl rfl rfl rfl rfl rfl rfl sdm rfl ?_ | ((fail_if_success (refine aops_known rfl ?_)); (refine aops_split ty_ok rfl rfl rfl rfl rfl rfl (fun hc => ⟨?_, ?_⟩) (fun hc => ⟨?_, ?_⟩)) <;> (try simp only [nms, reduceCtorEq] at hc) <;> (try (exfalso; omega)) <;> (try exact sdm)))) | ((with_reducible show HeadT _ _ _ _ _ _ _ _ _ _); (first | refine head_end ?_ | refine head_goP ty_ok rfl rfl sdm ?_ | refine head_gate ty_ok rfl rfl rfl sdm ?_ | refine head_callE (ty := ty) rfl rfl rfl rfl rfl rfl rfl (hc1) rfl ?_ | refine head_callE (ty := ty) rfl rfl rfl rfl rfl rfl rfl (hc2) rfl ?_ | refine head_callE (ty := ty) rfl rfl rfl rfl rfl rfl rfl (hc3) rfl ?_ | ((fail_if_success (refine head_known rfl ?_)); (refine head_split ty_ok rfl rfl rfl rfl (fun hc => ⟨?_, ?_⟩) (fun hc => ⟨?_, ?_⟩)) <;> (try simp only [nms, reduceCtorEq] at hc) <;> (try (exfalso; omega)) <;> (try exact sdm)))) | ((fail_if_success (with_reducible show AWp _ _ _ _ _)); (fail_if_success (with_reducible show AOps _ _ _ _ _ _)); (fail_if_success (with_reducible show HeadT _ _ _ _ _ _ _ _ _ _)); (first | (show AWp _ _ _ _ _) | (show AOps _ _ _ _ _ _))))
          refine ⟨?_, rfl⟩
          (repeat' apply And.intro) <;> first | exact flat_str _ | exact flat_none _ | exact flat_int _ _ | exact flat_bys _ | exact trivial | (intro x hx; simp only [List.mem_cons, List.not_mem_nil, or_false] at hx; rcases hx with rfl | rfl <;> rfl)
        · rw [decide_eq_false hd] at ha
          cases ha
    | [e, f], E, hp, hc1, ha =>
      simp only at ha
      obtain ⟨h1, h2, h3⟩ := E.le 0 (by simp)
      obtain ⟨h4, h5, h6⟩ := E.le 1 (by simp)
      simp only [List.getElem_cons_zero, List.getElem_cons_succ] at h1 h2 h3 h4 h5 h6
      obtain ⟨q1, q2, q3, q4, q5, q6, q7⟩ := el_facts (X := (els [e, f]).getD (Int.toNat 0) default) (e := e) rfl
      obtain ⟨p1, p2, p3, p4, p5, p6, p7⟩ := el_facts (X := (els [e, f]).getD (Int.toNat 1) default) (e := f) rfl
      have hl : (els [e, f]).length = 2 := rfl
      obtain ⟨k1, k2, k3⟩ := cut_side b h2 h3
      obtain ⟨k4, k5, k6⟩ := cut_side b (Nat.le_trans h4 h5) h6
      cases hi : isB e.x 0 false 6 with
      | false => rw [agI, hi] at ha; cases ha
      | true =>
        have hc2 := c_is_at (envL.at 0) e 0 6 false hi
        rw [agI, hi] at ha
        by_cases hd : (decS (cut b e.bd e.en)).2 = 0
        · have hc3 := c_odec_ok b h3 h2 (by omega) hd
          rw [decide_eq_true hd] at ha
          simp only at ha
          have hcl := cut_len b f.st f.en h6
          have hc5 := c_clone_at (envL.at 0) b (i := f.st) h6 hb
          cases hw : wiF 16 (cut b f.st f.en) with
          | bad c o => rw [hw] at ha; cases ha
          | ok n =>
            rw [hw] at ha
            cases ha
            have hc6 := c_tparse_at (envL.at 0) (cut b f.st f.en) (by omega) hw
            obtain ⟨x, c, ks, rfl⟩ := tr_node (wi_ok.1 hw)
            repeat' (first | ((with_reducible show AWp _ _ _ _ _); (first | refine awp_seq ?_ | refine awp_block ?_ | refine awp_skip ?_ | refine awp_exit ?_ | refine awp_scope ?_ | refine awp_label ?_ | refine awp_run ty_ok rfl sdm ?_ | refine awp_ret ⟨_, _, rfl, rfl, ?_⟩ | refine awp_ret ⟨_, rfl, ?_⟩ | ((refine awp_cond (ty := ty) rfl (fun hc => ?_) (fun hc => ?_)) <;> (try simp only [nms, reduceCtorEq] at hc) <;> (try (exfalso; omega))) | refine awp_anyL 15 mixed rfl (by kernel_rfl) ?_ | refine awp_anyS 12 11 ty_ok mixed rfl rfl rfl rfl rfl rfl rfl rfl rfl (by kernel_rfl) ?_ | refine awp_anyL 12 mixed rfl (by kernel_rfl) ?_)) | ((with_reducible show AOps _ _ _ _ _ _); (first | refine aops_nil ?_ | refine aops_go ty_ok rfl rfl sdm ?_ | refine aops_gate ty_ok rfl rfl rfl sdm ?_ | refine aops_callE (ty := ty) rfl rfl rfl rfl rfl rfl rfl (hc1) rfl ?_ | refine aops_callE (ty := ty) rfl rfl rfl rfl rfl rfl rfl (hc2) rfl ?_ | refine aops_callE (ty := ty) rfl rfl rfl rfl rfl rfl rfl (hc3) rfl ?_ | refine aops_callE (ty := ty) rfl rfl rfl rfl rfl rfl rfl (hc5) rfl ?_ | refine aops_callE (ty := ty) rfl rfl rfl rfl rfl rfl rfl (hc6) rfl ?_ | refine aops_litE ty_ok rfl rfl rfl rfl rfl rfl rfl rfl rfl rfl rfl rfl ?_ | refine aops_litA ty_ok rfl rfl rfl rfl rfl rfl rfl rfl rfl rfl rfl rfl rfl rfl rfl rfl ?_ | refine aops_buildArr ty_ok rfl rfl rfl rfl rfl rfl rfl rfl rfl rfl ?_ | refine aops_indexArr ty_ok rfl rfl rfl rfl rfl rfl rfl rfl rfl rfl sdm ?_ | refine aops_lit0 ty_ok rfl rfl rfl rfl rfl rfl rfl ?_ | refine aops_field ty_ok rfl rfl rfl rfl rfl rfl rfl rfl rfl rfl ?_ | refine aops_cutE ty_ok rfl rfl rfl rfl rfl rfl rfl rfl rfl sdm rfl ?_ | ((fail_if_success (refine aops_known rfl ?_)); (refine aops_split ty_ok rfl rfl rfl rfl rfl rfl (fun hc => ⟨?_, ?_⟩) (fun hc => ⟨?_, ?_⟩)) <;> (try simp only [nms, reduceCtorEq] at hc) <;> (try (exfalso; omega)) <;> (try exact sdm)))) | ((with_reducible show HeadT _ _ _ _ _ _ _ _ _ _); (first | refine head_end ?_ | refine head_goP ty_ok rfl rfl sdm ?_ | refine head_gate ty_ok rfl rfl rfl sdm ?_ | refine head_callO (ty := ty) rfl rfl rfl rfl rfl rfl rfl (hc5) ?_ | refine head_callE (ty := ty) rfl rfl rfl rfl rfl rfl rfl (hc1) rfl ?_ | refine head_callE (ty := ty) rfl rfl rfl rfl rfl rfl rfl (hc2) rfl ?_ | refine head_callE (ty := ty) rfl rfl rfl rfl rfl rfl rfl (hc3) rfl ?_ | refine head_callE (ty := ty) rfl rfl rfl rfl rfl rfl rfl (hc6) rfl ?_ | ((fail_if_success (refine head_known rfl ?_)); (refine head_split ty_ok rfl rfl rfl rfl (fun hc => ⟨?_, ?_⟩) (fun hc => ⟨?_, ?_⟩)) <;> (try simp only [nms, reduceCtorEq] at hc) <;> (try (exfalso; omega)) <;> (try exact sdm)))) | ((fail_if_success (with_reducible show AWp _ _ _ _ _)); (fail_if_success (with_reducible show AOps _ _ _ _ _ _)); (fail_if_success (with_reducible show HeadT _ _ _ _ _ _ _ _ _ _)); (first | (show AWp _ _ _ _ _) | (show AOps _ _ _ _ _ _) | refine st_go rfl rfl rfl rfl rfl rfl rfl ?_)))
            refine ⟨?_, rfl⟩
            (repeat' apply And.intro) <;> first | exact flat_str _ | exact flat_none _ | exact flat_int _ _ | exact flat_bys _ | exact trivial | (intro x hx; simp only [List.mem_cons, List.not_mem_nil, or_false] at hx; rcases hx with rfl | rfl <;> rfl)
        · rw [decide_eq_false hd] at ha
          cases ha
theorem flat_err' (c o : Nat) : FlatD (errD c o) := flat_agg (by
  intro x hx
  simp only [List.mem_cons, List.not_mem_nil, or_false] at hx
  rcases hx with rfl | rfl <;> exact flat_int _ _)
theorem bump' (l : List UInt8) (k : Nat) : (bys l).set (k : Int).toNat (.int .u8 (IntKind.u8.wrap (((bys l).getD (k : Int).toNat default).num + 1))) = bys (l.set k (l.getD k 0 + 1)) := by
  rw [Int.toNat_natCast]
  by_cases h : k < l.length
  · have e1 : ((bys l).getD k default).num = (l[k].toNat : Int) := by
      rw [List.getD_eq_getElem?_getD, bys, List.getElem?_map, List.getElem?_eq_getElem h]
      rfl
    have e2 : l.getD k 0 = l[k] := by rw [List.getD_eq_getElem?_getD, List.getElem?_eq_getElem h]; rfl
    rw [e1, e2, bys, bys, List.map_set, by1]
    congr 2
  · rw [List.set_eq_of_length_le (by simp [bys]; omega), List.set_eq_of_length_le (by omega)]
theorem isLCopiesag : IsFn Tryz.prog 7 Tryz.f7 := ⟨Tryz.func7, by decide, rfl⟩
set_option maxHeartbeats 4000000 in
theorem l_agcopies (b : List UInt8) : ACalls Tryz.prog envL 7 [.sl none (bys b)] (fun r => r = .d (.bool true)) := by
  refine acalls_of ty_ok isLCopiesag rfl rfl ?_
  by_cases hb : b.length ≤ 3000
  · have hB : AFresh Tryz.prog (envL.at 0) 15 [.sl none (bys b), .sl none (bys b)] (fun y => y = .bool true) := .of_flat (c_bytes_eq _ b b rfl) (flat_bool _)
    cases hp : agP b with
    | bad c o =>
      obtain ⟨h1, h2⟩ := ag_bad hp
      have hn : ∀ v, agV v = true → agF v ≠ b := by
        intro v hv e
        have h3 := (ag_len hv (by rw [e]; omega)).1
        have h4 := ag_of hv h3
        rw [e, hp] at h4
        cases h4
      have hP : AFresh Tryz.prog (envL.at 0) 18 [.sl none (bys b)] (fun y => y = .tup [.agg [.str ⟨#[]⟩, .sl none []], errD c o]) := .of_flat (c_agparse_at b (by omega) hp) (flat_tup (by
        intro x hx
        simp only [List.mem_cons, List.not_mem_nil, or_false] at hx
        rcases hx with rfl | rfl
        · exact flat_agg (by
            intro x hx
            simp only [List.mem_cons, List.not_mem_nil, or_false] at hx
            rcases hx with rfl | rfl
            · exact flat_str _
            · exact flat_none _)
        · exact flat_err' c o))
      repeat' (first | ((with_reducible show AWp _ _ _ _ _); (first | refine awp_seq ?_ | refine awp_block ?_ | refine awp_skip ?_ | refine awp_exit ?_ | refine awp_scope ?_ | refine awp_label ?_ | refine awp_run ty_ok rfl sdm ?_ | refine awp_ret ⟨_, _, rfl, rfl, ?_⟩ | refine awp_ret ⟨_, rfl, ?_⟩ | ((refine awp_cond (ty := ty) rfl (fun hc => ?_) (fun hc => ?_)) <;> (try simp only [nms, reduceCtorEq] at hc) <;> (try (exfalso; omega))))) | ((with_reducible show AOps _ _ _ _ _ _); (first | refine aops_nil ?_ | refine aops_go ty_ok rfl rfl sdm ?_ | refine aops_gate ty_ok rfl rfl rfl sdm ?_ | refine aops_callE (ty := ty) rfl rfl rfl rfl rfl rfl rfl (c_awake10) rfl ?_ | refine aops_lend (ty := ty) rfl rfl rfl rfl rfl rfl rfl (hP) rfl ?_ | refine aops_lend (ty := ty) rfl rfl rfl rfl rfl rfl rfl (hB) rfl ?_ | refine aops_litE ty_ok rfl rfl rfl rfl rfl rfl rfl rfl rfl rfl rfl rfl ?_ | refine aops_litA ty_ok rfl rfl rfl rfl rfl rfl rfl rfl rfl rfl rfl rfl rfl rfl rfl rfl ?_ | refine aops_buildArr ty_ok rfl rfl rfl rfl rfl rfl rfl rfl rfl rfl ?_ | refine aops_indexArr ty_ok rfl rfl rfl rfl rfl rfl rfl rfl rfl rfl sdm ?_ | refine aops_lit0 ty_ok rfl rfl rfl rfl rfl rfl rfl ?_ | refine aops_field ty_ok rfl rfl rfl rfl rfl rfl rfl rfl rfl rfl ?_ | refine aops_cutE ty_ok rfl rfl rfl rfl rfl rfl rfl rfl rfl sdm rfl ?_ | ((fail_if_success (refine aops_known rfl ?_)); (refine aops_split ty_ok rfl rfl rfl rfl rfl rfl (fun hc => ⟨?_, ?_⟩) (fun hc => ⟨?_, ?_⟩)) <;> (try simp only [nms, reduceCtorEq] at hc) <;> (try (exfalso; omega)) <;> (try exact sdm)))) | ((fail_if_success (with_reducible show AWp _ _ _ _ _)); (fail_if_success (with_reducible show AOps _ _ _ _ _ _)); (first | (show AWp _ _ _ _ _) | (show AOps _ _ _ _ _ _))))
      refine awp_loopR (G := { p : Nat × List UInt8 // p.1 ≤ b.length ∧ p.2.length = b.length }) (fun p => ⟨Tryz.f7.ntmps, [(0, .d (.sl none (bys b))), (3, .ref 0), (4, .ptr 1 0), (5, .ptr 2 0), (6, .d (.int .i64 p.1.1))], [(0, .row none 5 (bys p.1.2)), (1, .box 24 [.d (.str ⟨#[]⟩), .d (.sl none [])]), (2, .box 32 [.d (.int .i64 c), .d (.int .i64 o)])], 3⟩) (fun p => b.length - p.1.1) ⟨(0, b), Nat.zero_le _, rfl⟩ [(1, 0), (2, 1), (3, 2)]
        (SubR.mk' rfl rfl ⟨⟨_, rfl, rfl⟩, ⟨_, rfl, rfl⟩, ⟨_, rfl, rfl⟩, ⟨_, rfl, rfl⟩, ⟨_, rfl, rfl⟩, trivial⟩ ⟨⟨_, _, rfl, rfl, rfl⟩, ⟨_, _, rfl, rfl, rfl⟩, ⟨_, _, rfl, rfl, rfl⟩, trivial⟩) ?_
      rintro ⟨⟨k, l⟩, hk, hll⟩
      dsimp only at hk hll ⊢
      by_cases h : k < b.length
      · repeat' (first | ((with_reducible show AWp _ _ _ _ _); (first | refine awp_seq ?_ | refine awp_block ?_ | refine awp_skip ?_ | refine awp_exit ?_ | refine awp_scope ?_ | refine awp_label ?_ | refine awp_run ty_ok rfl sdm ?_ | refine awp_ret ⟨_, _, rfl, rfl, ?_⟩ | refine awp_ret ⟨_, rfl, ?_⟩ | ((refine awp_cond (ty := ty) rfl (fun hc => ?_) (fun hc => ?_)) <;> (try simp only [nms, reduceCtorEq] at hc) <;> (try (exfalso; omega))))) | ((with_reducible show AOps _ _ _ _ _ _); (first | refine aops_nil ?_ | refine aops_go ty_ok rfl rfl sdm ?_ | refine aops_gate ty_ok rfl rfl rfl sdm ?_ | refine aops_litE ty_ok rfl rfl rfl rfl rfl rfl rfl rfl rfl rfl rfl rfl ?_ | refine aops_litA ty_ok rfl rfl rfl rfl rfl rfl rfl rfl rfl rfl rfl rfl rfl rfl rfl rfl ?_ | refine aops_buildArr ty_ok rfl rfl rfl rfl rfl rfl rfl rfl rfl rfl ?_ | refine aops_indexArr ty_ok rfl rfl rfl rfl rfl rfl rfl rfl rfl rfl sdm ?_ | refine aops_lit0 ty_ok rfl rfl rfl rfl rfl rfl rfl ?_ | refine aops_field ty_ok rfl rfl rfl rfl rfl rfl rfl rfl rfl rfl ?_ | refine aops_cutE ty_ok rfl rfl rfl rfl rfl rfl rfl rfl rfl sdm rfl ?_ | ((fail_if_success (refine aops_known rfl ?_)); (refine aops_split ty_ok rfl rfl rfl rfl rfl rfl (fun hc => ⟨?_, ?_⟩) (fun hc => ⟨?_, ?_⟩)) <;> (try simp only [nms, reduceCtorEq] at hc) <;> (try (exfalso; omega)) <;> (try exact sdm)))) | ((fail_if_success (with_reducible show AWp _ _ _ _ _)); (fail_if_success (with_reducible show AOps _ _ _ _ _ _)); (first | (show AWp _ _ _ _ _) | (show AOps _ _ _ _ _ _))))
        refine ⟨⟨(k + 1, l.set k (l.getD k 0 + 1)), h, by simp [hll]⟩, [(0, 0), (1, 1), (2, 2)], SubR.mk' rfl rfl ⟨⟨_, rfl, rfl⟩, ⟨_, rfl, rfl⟩, ⟨_, rfl, rfl⟩, ⟨_, rfl, rfl⟩, ⟨_, rfl, rfl⟩, trivial⟩ ⟨⟨_, _, rfl, rfl, congrArg (AO.row none 5) ?_⟩, ⟨_, _, rfl, rfl, rfl⟩, ⟨_, _, rfl, rfl, rfl⟩, trivial⟩, by simp only; omega⟩
        exact bump' l k
      · have hm := c_agmar_bad ag0 agSm0 (by decide +kernel)
        repeat' (first | ((with_reducible show AWp _ _ _ _ _); (first | refine awp_seq ?_ | refine awp_block ?_ | refine awp_skip ?_ | refine awp_exit ?_ | refine awp_scope ?_ | refine awp_label ?_ | refine awp_run ty_ok rfl sdm ?_ | refine awp_ret ⟨_, _, rfl, rfl, ?_⟩ | refine awp_ret ⟨_, rfl, ?_⟩ | ((refine awp_cond (ty := ty) rfl (fun hc => ?_) (fun hc => ?_)) <;> (try simp only [nms, reduceCtorEq] at hc) <;> (try (exfalso; omega))))) | ((with_reducible show AOps _ _ _ _ _ _); (first | refine aops_nil ?_ | refine aops_go ty_ok rfl rfl sdm ?_ | refine aops_gate ty_ok rfl rfl rfl sdm ?_ | refine aops_callE (ty := ty) rfl rfl rfl rfl rfl rfl rfl (hm) rfl ?_ | refine aops_callE (ty := ty) rfl rfl rfl rfl rfl rfl rfl (c_ragparse_bad b hb hn) rfl ?_ | refine aops_callE (ty := ty) rfl rfl rfl rfl rfl rfl rfl (c_balg _ ag0 ag0 agSm0 (decide_eq_true rfl)) rfl ?_ | refine aops_litE ty_ok rfl rfl rfl rfl rfl rfl rfl rfl rfl rfl rfl rfl ?_ | refine aops_litA ty_ok rfl rfl rfl rfl rfl rfl rfl rfl rfl rfl rfl rfl rfl rfl rfl rfl ?_ | refine aops_buildArr ty_ok rfl rfl rfl rfl rfl rfl rfl rfl rfl rfl ?_ | refine aops_indexArr ty_ok rfl rfl rfl rfl rfl rfl rfl rfl rfl rfl sdm ?_ | refine aops_lit0 ty_ok rfl rfl rfl rfl rfl rfl rfl ?_ | refine aops_field ty_ok rfl rfl rfl rfl rfl rfl rfl rfl rfl rfl ?_ | refine aops_cutE ty_ok rfl rfl rfl rfl rfl rfl rfl rfl rfl sdm rfl ?_ | ((fail_if_success (refine aops_known rfl ?_)); (refine aops_split ty_ok rfl rfl rfl rfl rfl rfl (fun hc => ⟨?_, ?_⟩) (fun hc => ⟨?_, ?_⟩)) <;> (try simp only [nms, reduceCtorEq] at hc) <;> (try (exfalso; omega)) <;> (try exact sdm)))) | ((fail_if_success (with_reducible show AWp _ _ _ _ _)); (fail_if_success (with_reducible show AOps _ _ _ _ _ _)); (first | (show AWp _ _ _ _ _) | (show AOps _ _ _ _ _ _))))
        refine awp_loopR (G := Unit) (fun _ => ⟨Tryz.f7.ntmps, [(7, .d (.sl none [])), (8, .d (.int .i64 8)), (10, .d (.bool false)), (11, .d (.int .i64 0))], [], 0⟩) (fun _ => 0) () []
          (SubR.mk' rfl rfl ⟨⟨_, rfl, rfl⟩, ⟨_, rfl, rfl⟩, ⟨_, rfl, rfl⟩, ⟨_, rfl, rfl⟩, trivial⟩ trivial) ?_
        rintro ⟨⟩
        repeat' (first | ((with_reducible show AWp _ _ _ _ _); (first | refine awp_seq ?_ | refine awp_block ?_ | refine awp_skip ?_ | refine awp_exit ?_ | refine awp_scope ?_ | refine awp_label ?_ | refine awp_run ty_ok rfl sdm ?_ | refine awp_ret ⟨_, _, rfl, rfl, ?_⟩ | refine awp_ret ⟨_, rfl, ?_⟩ | ((refine awp_cond (ty := ty) rfl (fun hc => ?_) (fun hc => ?_)) <;> (try simp only [nms, reduceCtorEq] at hc) <;> (try (exfalso; omega))))) | ((with_reducible show AOps _ _ _ _ _ _); (first | refine aops_nil ?_ | refine aops_go ty_ok rfl rfl sdm ?_ | refine aops_gate ty_ok rfl rfl rfl sdm ?_ | refine aops_litE ty_ok rfl rfl rfl rfl rfl rfl rfl rfl rfl rfl rfl rfl ?_ | refine aops_litA ty_ok rfl rfl rfl rfl rfl rfl rfl rfl rfl rfl rfl rfl rfl rfl rfl rfl ?_ | refine aops_buildArr ty_ok rfl rfl rfl rfl rfl rfl rfl rfl rfl rfl ?_ | refine aops_indexArr ty_ok rfl rfl rfl rfl rfl rfl rfl rfl rfl rfl sdm ?_ | refine aops_lit0 ty_ok rfl rfl rfl rfl rfl rfl rfl ?_ | refine aops_field ty_ok rfl rfl rfl rfl rfl rfl rfl rfl rfl rfl ?_ | refine aops_cutE ty_ok rfl rfl rfl rfl rfl rfl rfl rfl rfl sdm rfl ?_ | ((fail_if_success (refine aops_known rfl ?_)); (refine aops_split ty_ok rfl rfl rfl rfl rfl rfl (fun hc => ⟨?_, ?_⟩) (fun hc => ⟨?_, ?_⟩)) <;> (try simp only [nms, reduceCtorEq] at hc) <;> (try (exfalso; omega)) <;> (try exact sdm)))) | ((fail_if_success (with_reducible show AWp _ _ _ _ _)); (fail_if_success (with_reducible show AOps _ _ _ _ _ _)); (first | (show AWp _ _ _ _ _) | (show AOps _ _ _ _ _ _))))
        all_goals rfl
    | ok v =>
      obtain ⟨hv, hbe, _⟩ := ag_ok hp
      obtain ⟨_, s⟩ := ag_len hv (by rw [← hbe]; omega)
      have hP : AFresh Tryz.prog (envL.at 0) 18 [.sl none (bys b)] (fun y => y = .tup [agD v, errD 0 0]) := f_aparse b (by omega) v hp
      have hr := c_ragparse_ok v hv (by rw [← hbe]; omega)
      rw [← hbe] at hr
      have hm := c_agmar_ok v s hv
      rw [← hbe] at hm
      have hS := fun Γ => c_balg Γ v v s (decide_eq_true rfl)
      obtain ⟨o, w⟩ := v
      unfold agD sD at hP hr hm hS
      simp only at hP hr hm hS
      repeat' (first | ((with_reducible show AWp _ _ _ _ _); (first | refine awp_seq ?_ | refine awp_block ?_ | refine awp_skip ?_ | refine awp_exit ?_ | refine awp_scope ?_ | refine awp_label ?_ | refine awp_run ty_ok rfl sdm ?_ | refine awp_ret ⟨_, _, rfl, rfl, ?_⟩ | refine awp_ret ⟨_, rfl, ?_⟩ | ((refine awp_cond (ty := ty) rfl (fun hc => ?_) (fun hc => ?_)) <;> (try simp only [nms, reduceCtorEq] at hc) <;> (try (exfalso; omega))))) | ((with_reducible show AOps _ _ _ _ _ _); (first | refine aops_nil ?_ | refine aops_go ty_ok rfl rfl sdm ?_ | refine aops_gate ty_ok rfl rfl rfl sdm ?_ | refine aops_callE (ty := ty) rfl rfl rfl rfl rfl rfl rfl (c_awake10) rfl ?_ | refine aops_lend (ty := ty) rfl rfl rfl rfl rfl rfl rfl (hP) rfl ?_ | refine aops_lend (ty := ty) rfl rfl rfl rfl rfl rfl rfl (hB) rfl ?_ | refine aops_litE ty_ok rfl rfl rfl rfl rfl rfl rfl rfl rfl rfl rfl rfl ?_ | refine aops_litA ty_ok rfl rfl rfl rfl rfl rfl rfl rfl rfl rfl rfl rfl rfl rfl rfl rfl ?_ | refine aops_buildArr ty_ok rfl rfl rfl rfl rfl rfl rfl rfl rfl rfl ?_ | refine aops_indexArr ty_ok rfl rfl rfl rfl rfl rfl rfl rfl rfl rfl sdm ?_ | refine aops_lit0 ty_ok rfl rfl rfl rfl rfl rfl rfl ?_ | refine aops_field ty_ok rfl rfl rfl rfl rfl rfl rfl rfl rfl rfl ?_ | refine aops_cutE ty_ok rfl rfl rfl rfl rfl rfl rfl rfl rfl sdm rfl ?_ | ((fail_if_success (refine aops_known rfl ?_)); (refine aops_split ty_ok rfl rfl rfl rfl rfl rfl (fun hc => ⟨?_, ?_⟩) (fun hc => ⟨?_, ?_⟩)) <;> (try simp only [nms, reduceCtorEq] at hc) <;> (try (exfalso; omega)) <;> (try exact sdm)))) | ((fail_if_success (with_reducible show AWp _ _ _ _ _)); (fail_if_success (with_reducible show AOps _ _ _ _ _ _)); (first | (show AWp _ _ _ _ _) | (show AOps _ _ _ _ _ _))))
      refine awp_loopR (G := { p : Nat × List UInt8 // p.1 ≤ b.length ∧ p.2.length = b.length }) (fun p => ⟨Tryz.f7.ntmps, [(0, .d (.sl none (bys b))), (3, .ref 0), (4, .ptr 1 0), (5, .ptr 2 0), (6, .d (.int .i64 p.1.1))], [(0, .row none 5 (bys p.1.2)), (1, .box 24 [.d (.str (bA o)), .d (.sl none (bys w))]), (2, .box 32 [.d (.int .i64 0), .d (.int .i64 0)])], 3⟩) (fun p => b.length - p.1.1) ⟨(0, b), Nat.zero_le _, rfl⟩ [(1, 0), (2, 1), (3, 2)]
        (SubR.mk' rfl rfl ⟨⟨_, rfl, rfl⟩, ⟨_, rfl, rfl⟩, ⟨_, rfl, rfl⟩, ⟨_, rfl, rfl⟩, ⟨_, rfl, rfl⟩, trivial⟩ ⟨⟨_, _, rfl, rfl, rfl⟩, ⟨_, _, rfl, rfl, rfl⟩, ⟨_, _, rfl, rfl, rfl⟩, trivial⟩) ?_
      rintro ⟨⟨k, l⟩, hk, hll⟩
      dsimp only at hk hll ⊢
      by_cases h : k < b.length
      · repeat' (first | ((with_reducible show AWp _ _ _ _ _); (first | refine awp_seq ?_ | refine awp_block ?_ | refine awp_skip ?_ | refine awp_exit ?_ | refine awp_scope ?_ | refine awp_label ?_ | refine awp_run ty_ok rfl sdm ?_ | refine awp_ret ⟨_, _, rfl, rfl, ?_⟩ | refine awp_ret ⟨_, rfl, ?_⟩ | ((refine awp_cond (ty := ty) rfl (fun hc => ?_) (fun hc => ?_)) <;> (try simp only [nms, reduceCtorEq] at hc) <;> (try (exfalso; omega))))) | ((with_reducible show AOps _ _ _ _ _ _); (first | refine aops_nil ?_ | refine aops_go ty_ok rfl rfl sdm ?_ | refine aops_gate ty_ok rfl rfl rfl sdm ?_ | refine aops_litE ty_ok rfl rfl rfl rfl rfl rfl rfl rfl rfl rfl rfl rfl ?_ | refine aops_litA ty_ok rfl rfl rfl rfl rfl rfl rfl rfl rfl rfl rfl rfl rfl rfl rfl rfl ?_ | refine aops_buildArr ty_ok rfl rfl rfl rfl rfl rfl rfl rfl rfl rfl ?_ | refine aops_indexArr ty_ok rfl rfl rfl rfl rfl rfl rfl rfl rfl rfl sdm ?_ | refine aops_lit0 ty_ok rfl rfl rfl rfl rfl rfl rfl ?_ | refine aops_field ty_ok rfl rfl rfl rfl rfl rfl rfl rfl rfl rfl ?_ | refine aops_cutE ty_ok rfl rfl rfl rfl rfl rfl rfl rfl rfl sdm rfl ?_ | ((fail_if_success (refine aops_known rfl ?_)); (refine aops_split ty_ok rfl rfl rfl rfl rfl rfl (fun hc => ⟨?_, ?_⟩) (fun hc => ⟨?_, ?_⟩)) <;> (try simp only [nms, reduceCtorEq] at hc) <;> (try (exfalso; omega)) <;> (try exact sdm)))) | ((fail_if_success (with_reducible show AWp _ _ _ _ _)); (fail_if_success (with_reducible show AOps _ _ _ _ _ _)); (first | (show AWp _ _ _ _ _) | (show AOps _ _ _ _ _ _))))
        refine ⟨⟨(k + 1, l.set k (l.getD k 0 + 1)), h, by simp [hll]⟩, [(0, 0), (1, 1), (2, 2)], SubR.mk' rfl rfl ⟨⟨_, rfl, rfl⟩, ⟨_, rfl, rfl⟩, ⟨_, rfl, rfl⟩, ⟨_, rfl, rfl⟩, ⟨_, rfl, rfl⟩, trivial⟩ ⟨⟨_, _, rfl, rfl, congrArg (AO.row none 5) ?_⟩, ⟨_, _, rfl, rfl, rfl⟩, ⟨_, _, rfl, rfl, rfl⟩, trivial⟩, by simp only; omega⟩
        exact bump' l k
      · repeat' (first | ((with_reducible show AWp _ _ _ _ _); (first | refine awp_seq ?_ | refine awp_block ?_ | refine awp_skip ?_ | refine awp_exit ?_ | refine awp_scope ?_ | refine awp_label ?_ | refine awp_run ty_ok rfl sdm ?_ | refine awp_ret ⟨_, _, rfl, rfl, ?_⟩ | refine awp_ret ⟨_, rfl, ?_⟩ | ((refine awp_cond (ty := ty) rfl (fun hc => ?_) (fun hc => ?_)) <;> (try simp only [nms, reduceCtorEq] at hc) <;> (try (exfalso; omega))))) | ((with_reducible show AOps _ _ _ _ _ _); (first | refine aops_nil ?_ | refine aops_go ty_ok rfl rfl sdm ?_ | refine aops_gate ty_ok rfl rfl rfl sdm ?_ | refine aops_callE (ty := ty) rfl rfl rfl rfl rfl rfl rfl (hm) rfl ?_ | refine aops_callE (ty := ty) rfl rfl rfl rfl rfl rfl rfl (hr) rfl ?_ | refine aops_callE (ty := ty) rfl rfl rfl rfl rfl rfl rfl (hS _) rfl ?_ | refine aops_litE ty_ok rfl rfl rfl rfl rfl rfl rfl rfl rfl rfl rfl rfl ?_ | refine aops_litA ty_ok rfl rfl rfl rfl rfl rfl rfl rfl rfl rfl rfl rfl rfl rfl rfl rfl ?_ | refine aops_buildArr ty_ok rfl rfl rfl rfl rfl rfl rfl rfl rfl rfl ?_ | refine aops_indexArr ty_ok rfl rfl rfl rfl rfl rfl rfl rfl rfl rfl sdm ?_ | refine aops_lit0 ty_ok rfl rfl rfl rfl rfl rfl rfl ?_ | refine aops_field ty_ok rfl rfl rfl rfl rfl rfl rfl rfl rfl rfl ?_ | refine aops_cutE ty_ok rfl rfl rfl rfl rfl rfl rfl rfl rfl sdm rfl ?_ | ((fail_if_success (refine aops_known rfl ?_)); (refine aops_split ty_ok rfl rfl rfl rfl rfl rfl (fun hc => ⟨?_, ?_⟩) (fun hc => ⟨?_, ?_⟩)) <;> (try simp only [nms, reduceCtorEq] at hc) <;> (try (exfalso; omega)) <;> (try exact sdm)))) | ((fail_if_success (with_reducible show AWp _ _ _ _ _)); (fail_if_success (with_reducible show AOps _ _ _ _ _ _)); (first | (show AWp _ _ _ _ _) | (show AOps _ _ _ _ _ _))))
        refine awp_loopR (G := { p : Nat × List UInt8 // p.1 ≤ b.length ∧ p.2.length = b.length }) (fun p => ⟨Tryz.f7.ntmps, [(4, .ptr 0 0), (7, .ref 2), (8, .d (.int .i64 0)), (9, .ptr 1 0), (10, .d (.bool true)), (11, .d (.int .i64 p.1.1))], [(0, .box 24 [.d (.str (bA o)), .d (.sl none (bys w))]), (1, .box 24 [.d (.str (bA o)), .d (.sl none (bys w))]), (2, .row none 5 (bys p.1.2))], 3⟩) (fun p => b.length - p.1.1) ⟨(0, b), Nat.zero_le _, rfl⟩ [(1, 0), (4, 1), (3, 2)]
          (SubR.mk' rfl rfl ⟨⟨_, rfl, rfl⟩, ⟨_, rfl, rfl⟩, ⟨_, rfl, rfl⟩, ⟨_, rfl, rfl⟩, ⟨_, rfl, rfl⟩, ⟨_, rfl, rfl⟩, trivial⟩ ⟨⟨_, _, rfl, rfl, rfl⟩, ⟨_, _, rfl, rfl, rfl⟩, ⟨_, _, rfl, rfl, rfl⟩, trivial⟩) ?_
        rintro ⟨⟨m, n⟩, hm, hnl⟩
        dsimp only at hm hnl ⊢
        by_cases h' : m < b.length
        · repeat' (first | ((with_reducible show AWp _ _ _ _ _); (first | refine awp_seq ?_ | refine awp_block ?_ | refine awp_skip ?_ | refine awp_exit ?_ | refine awp_scope ?_ | refine awp_label ?_ | refine awp_run ty_ok rfl sdm ?_ | refine awp_ret ⟨_, _, rfl, rfl, ?_⟩ | refine awp_ret ⟨_, rfl, ?_⟩ | ((refine awp_cond (ty := ty) rfl (fun hc => ?_) (fun hc => ?_)) <;> (try simp only [nms, reduceCtorEq] at hc) <;> (try (exfalso; omega))))) | ((with_reducible show AOps _ _ _ _ _ _); (first | refine aops_nil ?_ | refine aops_go ty_ok rfl rfl sdm ?_ | refine aops_gate ty_ok rfl rfl rfl sdm ?_ | refine aops_litE ty_ok rfl rfl rfl rfl rfl rfl rfl rfl rfl rfl rfl rfl ?_ | refine aops_litA ty_ok rfl rfl rfl rfl rfl rfl rfl rfl rfl rfl rfl rfl rfl rfl rfl rfl ?_ | refine aops_buildArr ty_ok rfl rfl rfl rfl rfl rfl rfl rfl rfl rfl ?_ | refine aops_indexArr ty_ok rfl rfl rfl rfl rfl rfl rfl rfl rfl rfl sdm ?_ | refine aops_lit0 ty_ok rfl rfl rfl rfl rfl rfl rfl ?_ | refine aops_field ty_ok rfl rfl rfl rfl rfl rfl rfl rfl rfl rfl ?_ | refine aops_cutE ty_ok rfl rfl rfl rfl rfl rfl rfl rfl rfl sdm rfl ?_ | ((fail_if_success (refine aops_known rfl ?_)); (refine aops_split ty_ok rfl rfl rfl rfl rfl rfl (fun hc => ⟨?_, ?_⟩) (fun hc => ⟨?_, ?_⟩)) <;> (try simp only [nms, reduceCtorEq] at hc) <;> (try (exfalso; omega)) <;> (try exact sdm)))) | ((fail_if_success (with_reducible show AWp _ _ _ _ _)); (fail_if_success (with_reducible show AOps _ _ _ _ _ _)); (first | (show AWp _ _ _ _ _) | (show AOps _ _ _ _ _ _))))
          refine ⟨⟨(m + 1, n.set m (n.getD m 0 + 1)), h', by simp [hnl]⟩, [(0, 0), (1, 1), (2, 2)], SubR.mk' rfl rfl ⟨⟨_, rfl, rfl⟩, ⟨_, rfl, rfl⟩, ⟨_, rfl, rfl⟩, ⟨_, rfl, rfl⟩, ⟨_, rfl, rfl⟩, ⟨_, rfl, rfl⟩, trivial⟩ ⟨⟨_, _, rfl, rfl, rfl⟩, ⟨_, _, rfl, rfl, rfl⟩, ⟨_, _, rfl, rfl, congrArg (AO.row none 5) ?_⟩, trivial⟩, by simp only; omega⟩
          exact bump' n m
        · repeat' (first | ((with_reducible show AWp _ _ _ _ _); (first | refine awp_seq ?_ | refine awp_block ?_ | refine awp_skip ?_ | refine awp_exit ?_ | refine awp_scope ?_ | refine awp_label ?_ | refine awp_run ty_ok rfl sdm ?_ | refine awp_ret ⟨_, _, rfl, rfl, ?_⟩ | refine awp_ret ⟨_, rfl, ?_⟩ | ((refine awp_cond (ty := ty) rfl (fun hc => ?_) (fun hc => ?_)) <;> (try simp only [nms, reduceCtorEq] at hc) <;> (try (exfalso; omega))))) | ((with_reducible show AOps _ _ _ _ _ _); (first | refine aops_nil ?_ | refine aops_go ty_ok rfl rfl sdm ?_ | refine aops_gate ty_ok rfl rfl rfl sdm ?_ | refine aops_callE (ty := ty) rfl rfl rfl rfl rfl rfl rfl (hS _) rfl ?_ | refine aops_litE ty_ok rfl rfl rfl rfl rfl rfl rfl rfl rfl rfl rfl rfl ?_ | refine aops_litA ty_ok rfl rfl rfl rfl rfl rfl rfl rfl rfl rfl rfl rfl rfl rfl rfl rfl ?_ | refine aops_buildArr ty_ok rfl rfl rfl rfl rfl rfl rfl rfl rfl rfl ?_ | refine aops_indexArr ty_ok rfl rfl rfl rfl rfl rfl rfl rfl rfl rfl sdm ?_ | refine aops_lit0 ty_ok rfl rfl rfl rfl rfl rfl rfl ?_ | refine aops_field ty_ok rfl rfl rfl rfl rfl rfl rfl rfl rfl rfl ?_ | refine aops_cutE ty_ok rfl rfl rfl rfl rfl rfl rfl rfl rfl sdm rfl ?_ | ((fail_if_success (refine aops_known rfl ?_)); (refine aops_split ty_ok rfl rfl rfl rfl rfl rfl (fun hc => ⟨?_, ?_⟩) (fun hc => ⟨?_, ?_⟩)) <;> (try simp only [nms, reduceCtorEq] at hc) <;> (try (exfalso; omega)) <;> (try exact sdm)))) | ((fail_if_success (with_reducible show AWp _ _ _ _ _)); (fail_if_success (with_reducible show AOps _ _ _ _ _ _)); (first | (show AWp _ _ _ _ _) | (show AOps _ _ _ _ _ _))))
          all_goals rfl
  · repeat' (first | ((with_reducible show AWp _ _ _ _ _); (first | refine awp_seq ?_ | refine awp_block ?_ | refine awp_skip ?_ | refine awp_exit ?_ | refine awp_scope ?_ | refine awp_label ?_ | refine awp_run ty_ok rfl sdm ?_ | refine awp_ret ⟨_, _, rfl, rfl, ?_⟩ | refine awp_ret ⟨_, rfl, ?_⟩ | ((refine awp_cond (ty := ty) rfl (fun hc => ?_) (fun hc => ?_)) <;> (try simp only [nms, reduceCtorEq] at hc) <;> (try (exfalso; omega))))) | ((with_reducible show AOps _ _ _ _ _ _); (first | refine aops_nil ?_ | refine aops_go ty_ok rfl rfl sdm ?_ | refine aops_gate ty_ok rfl rfl rfl sdm ?_ | refine aops_callE (ty := ty) rfl rfl rfl rfl rfl rfl rfl (c_awake10) rfl ?_ | refine aops_litE ty_ok rfl rfl rfl rfl rfl rfl rfl rfl rfl rfl rfl rfl ?_ | refine aops_litA ty_ok rfl rfl rfl rfl rfl rfl rfl rfl rfl rfl rfl rfl rfl rfl rfl rfl ?_ | refine aops_buildArr ty_ok rfl rfl rfl rfl rfl rfl rfl rfl rfl rfl ?_ | refine aops_indexArr ty_ok rfl rfl rfl rfl rfl rfl rfl rfl rfl rfl sdm ?_ | refine aops_lit0 ty_ok rfl rfl rfl rfl rfl rfl rfl ?_ | refine aops_field ty_ok rfl rfl rfl rfl rfl rfl rfl rfl rfl rfl ?_ | refine aops_cutE ty_ok rfl rfl rfl rfl rfl rfl rfl rfl rfl sdm rfl ?_ | ((fail_if_success (refine aops_known rfl ?_)); (refine aops_split ty_ok rfl rfl rfl rfl rfl rfl (fun hc => ⟨?_, ?_⟩) (fun hc => ⟨?_, ?_⟩)) <;> (try simp only [nms, reduceCtorEq] at hc) <;> (try (exfalso; omega)) <;> (try exact sdm)))) | ((fail_if_success (with_reducible show AWp _ _ _ _ _)); (fail_if_success (with_reducible show AOps _ _ _ _ _ _)); (first | (show AWp _ _ _ _ _) | (show AOps _ _ _ _ _ _))))
    all_goals rfl
end Go.Proofs.YtdihjpmdmfmbiaaGreatDoor

/- The abstract machine, twenty-first part: the given statement out of a contract, where the row lists variables. No program. -/
namespace Go.Am
open Go.RowKit Go.ChangeShapes Go.WideShapes
set_option linter.unusedSimpArgs false
set_option linter.unusedVariables false

end Go.Am

/- The abstract machine: what a law is handed, opened as data, with a bound on its sizes. No program. -/
namespace Go.Am
open Go.RowKit Go.ChangeShapes Go.WideShapes Go.ChangeAt
set_option linter.unusedSimpArgs false
set_option linter.unusedVariables false

def Light {H : Type} (P : Program) (t : TypeId) (d : DataW H) : Prop := ∀ n ∈ d.weights P t, n ≤ reachBytes
def OpensQ (P : Program) (t : TypeId) {α : Type} (f : α → List Dat) (ok : α → Prop) : Prop :=
  ∀ (H : Type) (enc : TypeId × Value → H) (w : World) (fuel : Nat) (cs : List Value) (x : DataW H × List MemPlace), DataW.trod enc P w 0 (fun _ => true) true fuel t cs = some x → Light P t x.1 → ∃ a, ok a ∧ CellsAre w (f a) cs
section
variable {P : Program} {t e : TypeId} {α β : Type}
theorem OpensQ.of {f : α → List Dat} {ok : α → Prop} (h : Opens P t f ok) : OpensQ P t f ok := fun H enc w fuel cs x hx _ => h H enc w fuel cs x hx
theorem OpensQ.str (ht : P.underlying t = some .string) : OpensQ P t (fun s : ByteArray => [.str s]) (fun s => s.size ≤ reachBytes) := by
  intro H enc w fuel cs x h hw
  obtain ⟨s, rfl, rfl, hs⟩ := DataW.trod_string ht h
  refine ⟨s, ?_, cellsAre_one rfl (.str s)⟩
  have := hw s.data.toList.length (by simp [DataW.weights])
  simpa using this
theorem OpensQ.map {f : α → List Dat} {ok : α → Prop} {f' : β → List Dat} {ok' : β → Prop} (h : OpensQ P t f ok) (g : α → β) (hf : ∀ a, ok a → f' (g a) = f a) (hk : ∀ a, ok a → ok' (g a)) : OpensQ P t f' ok' := fun H enc w fuel cs x hx hw => by
  obtain ⟨a, h1, h2⟩ := h H enc w fuel cs x hx hw
  exact ⟨g a, hk a h1, by rw [hf a h1]; exact h2⟩
theorem weightsAll_mem {H : Type} {P : Program} {e : TypeId} : ∀ {l : List (DataW H)} {d : DataW H}, d ∈ l → ∀ n ∈ d.weights P e, n ∈ DataW.weightsAll P e l
  | [], d, h, n, hn => by cases h
  | x :: r, d, h, n, hn => by
    unfold DataW.weightsAll
    rw [List.mem_append]
    rcases List.mem_cons.1 h with rfl | h
    · exact .inl hn
    · exact .inr (weightsAll_mem h n hn)
theorem OpensQ.slice {ek : Option Nat} {f : α → List Dat} {ok : α → Prop} (ht : P.underlying t = some (.slice e)) (hc : P.cellsOf e = Am.esz ek) (hpos : 0 < Am.esz ek) (hby : 0 < P.bytesOf e) (he : OpensQ P e f ok) (pack : α → Dat)
    (hpack : ∀ a, (f a).length = Am.esz ek → (∀ y ∈ f a, y.one = true) → Fits ek (pack a) ∧ (pack a).cells = f a) : OpensQ P t (fun l : List α => [.sl ek (l.map pack)]) (fun l => (∀ a ∈ l, ok a) ∧ l.length ≤ reachBytes) := by
  intro H enc w fuel cs x h hw
  rcases DataW.trod_slice ht h with ⟨rfl, _⟩ | ⟨a, len, cap, elems, rest, n, _, rfl, rfl, _, hl, hm, hlen, hel, _⟩
  · exact ⟨[], by simp, cellsAre_one rfl (.nil ek)⟩
  have hwe : ∀ y ∈ elems, Light P e y.1 := fun y hy n hn => hw n (by
    simp only [DataW.weights, ht]
    exact List.mem_cons_of_mem _ (List.mem_append_left _ (weightsAll_mem (List.mem_map.2 ⟨y, hy, rfl⟩) n hn)))
  have hwl : len ≤ reachBytes := by
    have h1 := hw ((elems.map (·.1)).length * P.bytesOf e + (rest.map (·.1)).length * P.bytesOf e) (by
      simp only [DataW.weights, ht, ← Nat.add_mul]
      exact List.mem_cons_self ..)
    rw [List.length_map, hlen] at h1
    have h2 : len * 1 ≤ len * P.bytesOf e := Nat.mul_le_mul_left _ hby
    omega
  have each : ∀ i, i < len → ∃ z, ok z ∧ ∃ cs', w.cells? 0 (a.add (i * P.cellsOf e)) (P.cellsOf e) = some cs' ∧ CellsAre w (f z) cs' := by
    intro i hi
    have h1 := hel i hi
    rw [List.getElem?_eq_getElem (by omega)] at h1
    obtain ⟨cs', h2, h3⟩ := Option.bind_eq_some_iff.1 h1
    obtain ⟨z, hz, hz2⟩ := he H enc w n cs' _ h3 (hwe _ (List.getElem_mem _))
    exact ⟨z, hz, cs', h2, hz2⟩
  obtain ⟨l, hll, hq⟩ := list_of len each
  refine ⟨l, ⟨fun z hz => ?_, by omega⟩, cellsAre_one rfl ?_⟩
  · obtain ⟨i, hi⟩ := List.mem_iff_getElem?.1 hz
    exact (hq i z hi).1
  obtain ⟨b, off, spot⟩ := a
  have fit : ∀ z ∈ l, Fits ek (pack z) ∧ (pack z).cells = f z := by
    intro z hz
    obtain ⟨i, hi⟩ := List.mem_iff_getElem?.1 hz
    obtain ⟨_, cs', h1, h2, h3, _⟩ := hq i z hi
    refine hpack z ?_ h3
    rw [h2, (World.cells?_some h1).2.1, hc]
  have hsp : 0 < l.length → spot = none := by
    intro h0
    obtain ⟨_, cs', h1, _⟩ := hq 0 l[0] (List.getElem?_eq_getElem h0)
    obtain ⟨_, h3, h4⟩ := World.cells?_some h1
    have h5 := h4 0 (by rw [hc]; exact hpos)
    rw [List.getElem?_eq_getElem (by rw [h3, hc]; exact hpos)] at h5
    have h6 := World.cell?_spot h5
    simpa [Addr.add] using h6
  refine RepD.sl_mk (by simpa using hll.symm) (by simp; omega) hm (by simpa using hsp) (fun z hz => ?_) (fun k z hk j y hj => ?_)
  · obtain ⟨z', hz', rfl⟩ := List.mem_map.1 hz
    exact (fit z' hz').1
  · rw [List.getElem?_map] at hk
    obtain ⟨z', hz', rfl⟩ := Option.map_eq_some_iff.1 hk
    obtain ⟨_, cs', h1, h2, h3, h4⟩ := hq k z' hz'
    have hmem := List.mem_of_getElem? hz'
    rw [(fit z' hmem).2] at hj
    obtain ⟨_, h6, h7⟩ := World.cells?_some h1
    have hjl : j < (f z').length := (List.getElem?_eq_some_iff.1 hj).1
    have h8 := h7 j (by omega)
    have h9 : spot = none := hsp (by have := (List.getElem?_eq_some_iff.1 hz').1; omega)
    subst h9
    rw [Addr.add_lit, Addr.add_lit, List.getElem?_eq_getElem (by omega)] at h8
    refine ⟨rfl, h3 y (List.mem_of_getElem? hj), _, by rw [← h8, hc], ?_⟩
    have := h4 j y hj
    rwa [List.getD_eq_getElem?_getD, List.getElem?_eq_getElem (by omega)] at this
theorem OpensQ.bytes (ht : P.underlying t = some (.slice e)) (he : P.underlying e = some (.int .u8)) (hc : P.cellsOf e = 1) (hby : 0 < P.bytesOf e) : OpensQ P t (fun l : List UInt8 => [.sl none (bys l)]) (fun l => l.length ≤ reachBytes) :=
  OpensQ.map (OpensQ.slice (ek := none) ht hc (by decide) hby (OpensQ.of (Opens.u8 he)) by1 (fun a _ _ => ⟨rfl, rfl⟩)) (fun l => l) (fun _ _ => rfl) (fun _ h => h.2)
def OpensQF (P : Program) (off : Nat) (fs : List Field) {α : Type} (f : α → List Dat) (ok : α → Prop) : Prop :=
  ∀ (H : Type) (enc : TypeId × Value → H) (w : World) (fuel : Nat) (cs : List Value), (∀ fd ∈ fs, ∃ x, DataW.trod enc P w 0 (fun _ => true) true fuel fd.type ((cs.drop fd.offset).take (P.cellsOf fd.type)) = some x ∧ Light P fd.type x.1) →
    ∃ a, ok a ∧ CellsAre w (f a) ((cs.drop off).take (f a).length)
theorem OpensQF.one {fd : Field} {off sz : Nat} {f : α → List Dat} {ok : α → Prop} (ho : fd.offset = off) (h : OpensQ P fd.type f ok) : OpensQF P off [fd] f ok := by
  intro H enc w fuel cs hx
  obtain ⟨x, hx, hw⟩ := hx fd (by simp)
  obtain ⟨a, h1, h2⟩ := h H enc w fuel _ x hx hw
  refine ⟨a, h1, ?_⟩
  rw [ho] at h2
  have hl := h2.1
  rw [List.length_take] at hl
  have : (cs.drop off).take (f a).length = (cs.drop off).take (P.cellsOf fd.type) := by
    rw [hl]
    by_cases hle : P.cellsOf fd.type ≤ (cs.drop off).length
    · rw [Nat.min_eq_left hle]
    · rw [Nat.min_eq_right (by omega), List.take_of_length_le (Nat.le_refl _), List.take_of_length_le (by omega)]
  rw [this]
  exact h2
theorem OpensQF.cons {fd : Field} {fs : List Field} {off sz : Nat} {f : α → List Dat} {ok : α → Prop} {g : β → List Dat} {ok' : β → Prop} (ho : fd.offset = off) (hsz : ∀ a, (f a).length = sz) (h : OpensQ P fd.type f ok) (hs : OpensQF P (off + sz) fs g ok') :
    OpensQF P off (fd :: fs) (fun p : α × β => f p.1 ++ g p.2) (fun p => ok p.1 ∧ ok' p.2) := by
  intro H enc w fuel cs hx
  obtain ⟨a, h1, h2⟩ := OpensQF.one (sz := sz) ho h H enc w fuel cs (fun fd' hfd => hx fd' (by simp at hfd; simp [hfd]))
  obtain ⟨b, h3, h4⟩ := hs H enc w fuel cs (fun fd' hfd => hx fd' (by simp [hfd]))
  refine ⟨(a, b), ⟨h1, h3⟩, ?_⟩
  have e1 := h2.1
  have e2 := h4.1
  rw [hsz] at h2 e1
  have key : (cs.drop off).take (f a ++ g b).length = (cs.drop off).take sz ++ (cs.drop (off + sz)).take (g b).length := by
    rw [List.length_append, hsz, List.take_add, List.drop_drop]
  refine ⟨?_, ?_, ?_⟩
  · rw [key, List.length_append, List.length_append, ← e2, ← e1, hsz]
  · intro y hy
    rcases List.mem_append.1 hy with hy | hy
    · exact h2.2.1 y hy
    · exact h4.2.1 y hy
  · intro j y hj
    simp only at hj ⊢
    rw [key]
    rw [List.getElem?_append] at hj
    rw [List.getD_eq_getElem?_getD, List.getElem?_append]
    rw [hsz] at hj
    split at hj
    · rename_i hlt
      rw [if_pos (by omega)]
      exact h2.2.2 j y hj
    · rename_i hlt
      rw [if_neg (by omega), ← e1]
      exact h4.2.2 _ y hj
theorem OpensQ.struct {fs : Array Field} {f : α → List Dat} {ok : α → Prop} (ht : P.underlying t = some (.struct fs)) (hsz : ∀ a, (f a).length = P.cellsOf t) (h : OpensQF P 0 fs.toList f ok) : OpensQ P t f ok := by
  intro H enc w fuel cs x hx hw
  obtain ⟨xs, n, rfl, rfl, hl, hxl, hg⟩ := DataW.trod_struct ht hx
  obtain ⟨a, h1, h2⟩ := h H enc w n cs (fun fd hfd => by
    obtain ⟨i, hi⟩ := List.mem_iff_getElem?.1 hfd
    have hi' : fs[i]? = some fd := by simpa using hi
    have h3 := hg i fd hi'
    have hlt := (Array.getElem?_eq_some_iff.1 hi').1
    rw [List.getElem?_eq_getElem (by omega)] at h3
    refine ⟨_, h3, fun q hq => hw q ?_⟩
    simp only [DataW.weights, ht]
    refine DataW.weights_mem_each (j := i) (t := fd.type) (d := (xs[i]'(by omega)).1) (by simp [hi']) (by simp [show i < xs.length by omega]) q hq)
  refine ⟨a, h1, ?_⟩
  rw [hsz, List.drop_zero, ← hl, List.take_length] at h2
  exact h2

def OpensQV (P : Program) (t : TypeId) {α : Type} (f : α → Dat) (ok : α → Prop) : Prop :=
  ∀ (H : Type) (enc : TypeId × Value → H) (w : World) (base : Nat) (v : Value) (d : DataW H) (ps : List MemPlace), DataW.Trod enc P w 0 (fun _ => true) true t v d ps → Light P t d → Value.okWide P w .any base t v → ∃ a, ok a ∧ RepD w (fun _ => true) (f a) v
theorem OpensQV.of {f : α → Dat} {ok : α → Prop} (h : OpensV P t f ok) : OpensQV P t f ok := fun H enc w base v d ps hx _ hok => h H enc w base v d ps hx hok
theorem OpensQV.slice {f : α → Dat} {ok : α → Prop} (ht : P.underlying t = some (.slice e)) (h : OpensQ P t (fun a => [f a]) ok) : OpensQV P t f ok := by
  intro H enc w base v d ps ⟨fuel, hf⟩ hw hok
  obtain ⟨a, l, c, rfl⟩ := okWide_slice ht hok
  obtain ⟨a, h1, h2, h3, h4⟩ := h H enc w fuel _ _ hf hw
  exact ⟨a, h1, by simpa [Value.cells] using h4 0 (f a) rfl⟩
theorem OpensQV.struct {fs : Array Field} {f : α → List Dat} {ok : α → Prop} (ht : P.underlying t = some (.struct fs)) (h : OpensQ P t f ok) : OpensQV P t (fun a => .agg (f a)) ok := by
  intro H enc w base v d ps ⟨fuel, hf⟩ hw hok
  obtain ⟨cs, rfl, _⟩ := okWide_struct ht hok
  obtain ⟨a, h1, h2, h3, h4⟩ := h H enc w fuel _ _ hf hw
  refine ⟨a, h1, .agg _ cs (by simpa [Value.cells] using h2.symm) h3 (fun j y hj => by simpa [Value.cells] using h4 j y hj)⟩
def OpensQA (P : Program) (ts : List TypeId) {α : Type} (g : α → List Dat) (ok : α → Prop) : Prop :=
  ∀ (H : Type) (enc : TypeId × Value → H) (w : World) (base : Nat) (vs : List Value) (ds : List (DataW H)) (ps : List MemPlace), DataW.TrodAll enc P w 0 (fun _ => true) true ts vs ds ps → (∀ (j : Nat) t d, ts[j]? = some t → ds[j]? = some d → Light P t d) → (∀ (j : Nat) t v, ts[j]? = some t → vs[j]? = some v → Value.okWide P w .any base t v) →
    ∃ a, ok a ∧ (g a).length = vs.length ∧ ∀ (j : Nat) (y : Dat), (g a)[j]? = some y → RepD w (fun _ => true) y (vs.getD j undef)
theorem OpensQA.nil : OpensQA P [] (fun _ : Unit => []) (fun _ => True) := by
  intro H enc w base vs ds ps h _ _
  obtain ⟨rfl, _, _⟩ := trodAll_nil h
  exact ⟨(), trivial, rfl, by simp⟩
theorem OpensQA.cons {ts : List TypeId} {f : α → Dat} {ok : α → Prop} {g : β → List Dat} {ok' : β → Prop} (h : OpensQV P t f ok) (hs : OpensQA P ts g ok') : OpensQA P (t :: ts) (fun p : α × β => f p.1 :: g p.2) (fun p => ok p.1 ∧ ok' p.2) := by
  intro H enc w base vs ds ps ht hw hok
  obtain ⟨v, vs', d, ds', p, q, rfl, rfl, rfl, h1, h2⟩ := trodAll_cons ht
  obtain ⟨a, h3, h4⟩ := h H enc w base v d p h1 (hw 0 t d rfl rfl) (hok 0 t v rfl rfl)
  obtain ⟨b, h5, h6, h7⟩ := hs H enc w base vs' ds' q h2 (fun j t d hj hd => hw (j + 1) t d (by simpa using hj) (by simpa using hd)) (fun j t v hj hv => hok (j + 1) t v (by simpa using hj) (by simpa using hv))
  refine ⟨(a, b), ⟨h3, h5⟩, by simp [h6], fun j y hj => ?_⟩
  cases j with
  | zero => simp at hj; subst hj; simpa using h4
  | succ j => simpa using h7 j y (by simpa using hj)
end
theorem lifted_laidQ {C : Checked} {f : FuncId} {fn : Func} {s : ChangeSpec} {conds : List PathCond} {tb : TypeId} {os : Os} {H : Type} {enc : TypeId × Value → H} {laid : List (String × DataW Unit)} {Γ : Env} (own : ownKnob C.prog.godebug = none) (started : os.Started) (noInit : C.prog.inits.idxOf? f = none) (hfn : C.prog.funcs[f]? = some fn)
    (laidOut : laidOutB C.prog = true) (hts : ∀ t ∈ fn.params.toList, C.prog.readableRec t = true ∧ t < C.prog.types.size) (hres : fn.resultTypes = #[tb]) (htb : C.prog.underlying tb = some .bool) (hvars : s.vars = [])
    (hspec : ∀ (vs : List Value) (w : World) (ds : List (DataW H)) (ps : List MemPlace), DataW.TrodAll enc C.prog w 0 (fun _ => true) true fn.params.toList vs ds ps → s.fn H ds = { results := [.lit (.bool true)], args := ds })
    (witness : ∃ (w : World) (tape : Tape) (i : Input), w.os = os ∧ (w.forCall tape i).Shaped C.prog ∧ i.vars = [] ∧ Input.okWide C.prog (w.forCall tape i) .any w.heap.size f i ∧
      ((s.pre enc C.prog fn conds false (w.forCall tape i).memory i.args ∧ laidMetH C.prog laid (w.forCall tape i).memory) ∧ sizedMet enc C.prog fn (OpenSpec.ofChange s) false (w.forCall tape i).memory i.args) ∧ ({} : Assume).holds C.prog (lone (Frame.enter C.prog f i.args .normal) [] (w.forCall tape i)))
    (hΓ : ∀ W, laidMetH C.prog laid W → Γ.ok W)
    {α : Type} {g : α → List Dat} {ok : α → Prop} (hop : OpensQA C.prog fn.params.toList g ok) (hA : ∀ a, ok a → ACalls C.prog Γ f (g a) (fun r => r = .d (.bool true))) :
    ReturnsInHanded {} C os f .any (fun w args => (s.pre enc C.prog fn conds false w args ∧ laidMetH C.prog laid w) ∧ sizedMet enc C.prog fn (OpenSpec.ofChange s) false w args) (s.post enc C.prog fn false true false false) := by
  refine returnsInHanded_of_change_and (C := C) (X := fun w _ => laidMetH C.prog laid w) (fun _ _ _ hh h => laidMetH.of_heap hh h) own started noInit hfn witness ?_
  intro W base args ds gs before hval hW _ hwt hL _
  have hW' := hW
  obtain ⟨p, q, hT, hV, rfl, hfz, hnd⟩ := hW
  rw [hvars] at hV
  obtain ⟨rfl, rfl⟩ := trodVars_none hV
  obtain ⟨a, ha, hlen, hrep⟩ := hop H enc W base args.toList ds p hT (fun j t d hj hd n hn => of_decide_eq_true (List.all_eq_true.1 hwt n (DataW.weights_mem_each (j := j) (by rw [List.getElem?_append_left (List.getElem?_eq_some_iff.1 hj).1]; exact hj) (by rw [List.append_nil]; exact hd) n hn))) (fun j t v hj hv => hval j t v (by simpa using hj) (by simpa using hv))
  refine ((hA a ha).2 W (fun _ => true) args (hΓ W hL) (by simpa using hlen.symm) (fun j x hj => by simpa using hrep j x hj)).mono fun e W' ⟨v, r, he, bel, hrr, hr⟩ => ?_
  subst he
  subst hr
  have hv : v = .bool true := by
    cases hrr
    rfl
  subst hv
  obtain ⟨pa, hpa⟩ := trodAll_stay laidOut bel hts hT
  refine ⟨_, rfl, ds, [], p ++ [], [], pa, [], hW', ?_, ?_, ?_, bel.frame _, fun h => by cases h⟩
  · rw [List.append_nil, hspec _ _ _ _ hT, hres]
    exact trodAll_mk1 ⟨1, by simp [DataW.trod, Value.cells, htb]⟩
  · rw [List.append_nil, hspec _ _ _ _ hT]
    exact hpa
  · rw [List.append_nil, hspec _ _ _ _ hT, hvars]
    exact rfl
end Go.Am

/- What the laws of object identifiers are handed, opened as data. -/
namespace Go.Proofs.YtdihjpmdmfmbiaaGreatDoor
open Go.Am Go.ChangeShapes Go.WideShapes Go.ChangeAt Go.RowKit
set_option linter.unusedSimpArgs false
set_option linter.unusedVariables false

theorem open_bytes : OpensV Tryz.prog 22 (fun l : List UInt8 => .sl none (bys l)) (fun l => l.length ≤ maxLen) := OpensV.bytes Tryz.underlying22 Tryz.underlying5 (by kernel_rfl)
theorem OpensV.map {P : Program} {t : TypeId} {α β : Type} {f : α → Dat} {ok : α → Prop} {f' : β → Dat} {ok' : β → Prop} (h : OpensV P t f ok) (g : α → β) (hf : ∀ a, f' (g a) = f a) (hk : ∀ a, ok a → ok' (g a)) : OpensV P t f' ok' := fun H enc w base v d ps ht hok => by
  obtain ⟨a, h1, h2⟩ := h H enc w base v d ps ht hok
  exact ⟨g a, hk a h1, by rw [hf]; exact h2⟩
theorem read_all {ts : List TypeId} (h : ts.all (fun t => Tryz.prog.readableRec t && decide (t < Tryz.prog.types.size)) = true) : ∀ t ∈ ts, Tryz.prog.readableRec t = true ∧ t < Tryz.prog.types.size := by
  intro t ht
  have := List.all_eq_true.1 h t ht
  simpa using this
end Go.Proofs.YtdihjpmdmfmbiaaGreatDoor

/- What the laws of algorithm identifiers and public keys are handed, opened as data. -/
namespace Go.Proofs.YtdihjpmdmfmbiaaGreatDoor
open Go.Am Go.ChangeShapes Go.WideShapes Go.ChangeAt Go.RowKit
set_option linter.unusedSimpArgs false
set_option linter.unusedVariables false

def alg2 (p : ByteArray × List UInt8) : List Dat := [.str p.1] ++ [.sl none (bys p.2)]
def alg2X (p : ByteArray × List UInt8) : Alg := ⟨p.1.data.toList, p.2⟩
def bits2 (p : List UInt8 × Int) : List Dat := [.sl none (bys p.1)] ++ [.int .i64 p.2]
def key4 (p : (ByteArray × List UInt8) × (List UInt8 × Int)) : List Dat := alg2 p.1 ++ bits2 p.2
def key4X (p : (ByteArray × List UInt8) × (List UInt8 × Int)) : PKey := ⟨alg2X p.1, p.2.1, p.2.2⟩
end Go.Proofs.YtdihjpmdmfmbiaaGreatDoor
