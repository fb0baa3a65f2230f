/- Part 6 of the texts of this proof: an abstract machine for walks, the walks of the functions, plain laws. Each part says in its own first lines what is proved there. -/
import Derived.Test.YtdihjpmdmfmbiaaGreatDoorK5
import Derived.Lay
import Derived.Stop.Joined
import Derived.SizedLaws

/- The laws Marshals, Parses, Changes and Ends of public keys, walked by the abstract machine. -/
namespace Go.Proofs.YtdihjpmdmfmbiaaGreatDoor
open Go.Am
set_option linter.unusedSimpArgs false
set_option linter.unusedVariables false
-- withAmZ withAmMp

theorem isLMarshalsak : IsFn Tryz.prog 8 Tryz.f8 := ⟨Tryz.func8, by decide, rfl⟩
set_option maxHeartbeats 2000000 in
theorem l_akmarshals (v : PKey) : ACalls Tryz.prog envL 8 [akD v] (fun r => r = .d (.bool true)) := by
  refine acalls_of ty_ok isLMarshalsak rfl rfl ?_
  cases hf : fewK v with
  | false =>
    have hcf := c_rakfew (envL.at 0) v hf
    repeat' (first | ((with_reducible show AWp _ _ _ _ _); (first | refine awp_seq ?_ | refine awp_block ?_ | refine awp_skip ?_ | refine awp_exit ?_ | refine awp_scope ?_ | refine awp_label ?_ | refine awp_run ty_ok rfl sdm ?_ | refine awp_ret ⟨_, _, rfl, rfl, ?_⟩ | refine awp_ret ⟨_, rfl, ?_⟩ | ((refine awp_cond (ty := ty) rfl (fun hc => ?_) (fun hc => ?_)) <;> (try simp only [nms, reduceCtorEq] at hc) <;> (try (exfalso; omega))))) | ((with_reducible show AOps _ _ _ _ _ _); (first | refine aops_nil ?_ | refine aops_go ty_ok rfl rfl sdm ?_ | refine aops_gate ty_ok rfl rfl rfl sdm ?_ | refine aops_callE (ty := ty) rfl rfl rfl rfl rfl rfl rfl (c_awake10) rfl ?_ | refine aops_callE (ty := ty) rfl rfl rfl rfl rfl rfl rfl (hcf) rfl ?_ | refine aops_litE ty_ok rfl rfl rfl rfl rfl rfl rfl rfl rfl rfl rfl rfl ?_ | refine aops_litA ty_ok rfl rfl rfl rfl rfl rfl rfl rfl rfl rfl rfl rfl rfl rfl rfl rfl ?_ | refine aops_buildArr ty_ok rfl rfl rfl rfl rfl rfl rfl rfl rfl rfl ?_ | refine aops_indexArr ty_ok rfl rfl rfl rfl rfl rfl rfl rfl rfl rfl sdm ?_ | refine aops_lit0 ty_ok rfl rfl rfl rfl rfl rfl rfl ?_ | refine aops_field ty_ok rfl rfl rfl rfl rfl rfl rfl rfl rfl rfl ?_ | refine aops_cutE ty_ok rfl rfl rfl rfl rfl rfl rfl rfl rfl sdm rfl ?_ | ((fail_if_success (refine aops_known rfl ?_)); (refine aops_split ty_ok rfl rfl rfl rfl rfl rfl (fun hc => ⟨?_, ?_⟩) (fun hc => ⟨?_, ?_⟩)) <;> (try simp only [nms, reduceCtorEq] at hc) <;> (try (exfalso; omega)) <;> (try exact sdm)))) | ((fail_if_success (with_reducible show AWp _ _ _ _ _)); (fail_if_success (with_reducible show AOps _ _ _ _ _ _)); (first | (show AWp _ _ _ _ _) | (show AOps _ _ _ _ _ _))))
    all_goals rfl
  | true =>
    obtain ⟨s, e1, e2, e3⟩ := ak_small hf
    have hcf := c_rakfew (envL.at 0) v hf
    cases hv : akV v with
    | false =>
      have h1 := c_akmar_bad v s hv
      have h2 := c_rakmar_bad (envL.at 0) v s hv
      have h3 := c_akval_at v s hv
      have h4 := c_rakval_at (envL.at 0) v s hv
      repeat' (first | ((with_reducible show AWp _ _ _ _ _); (first | refine awp_seq ?_ | refine awp_block ?_ | refine awp_skip ?_ | refine awp_exit ?_ | refine awp_scope ?_ | refine awp_label ?_ | refine awp_run ty_ok rfl sdm ?_ | refine awp_ret ⟨_, _, rfl, rfl, ?_⟩ | refine awp_ret ⟨_, rfl, ?_⟩ | ((refine awp_cond (ty := ty) rfl (fun hc => ?_) (fun hc => ?_)) <;> (try simp only [nms, reduceCtorEq] at hc) <;> (try (exfalso; omega))) | refine awp_anyL 19 mixed rfl (by kernel_rfl) ?_ | refine awp_anyL 15 mixed rfl (by kernel_rfl) ?_)) | ((with_reducible show AOps _ _ _ _ _ _); (first | refine aops_nil ?_ | refine aops_go ty_ok rfl rfl sdm ?_ | refine aops_gate ty_ok rfl rfl rfl sdm ?_ | refine aops_callE (ty := ty) rfl rfl rfl rfl rfl rfl rfl (c_awake10) rfl ?_ | refine aops_callE (ty := ty) rfl rfl rfl rfl rfl rfl rfl (hcf) rfl ?_ | refine aops_callE (ty := ty) rfl rfl rfl rfl rfl rfl rfl (h1) rfl ?_ | refine aops_callE (ty := ty) rfl rfl rfl rfl rfl rfl rfl (h2) rfl ?_ | refine aops_callE (ty := ty) rfl rfl rfl rfl rfl rfl rfl (c_bytes_eq _ [] [] rfl) rfl ?_ | refine aops_callE (ty := ty) rfl rfl rfl rfl rfl rfl rfl (h3) rfl ?_ | refine aops_callE (ty := ty) rfl rfl rfl rfl rfl rfl rfl (h4) rfl ?_ | refine aops_litE ty_ok rfl rfl rfl rfl rfl rfl rfl rfl rfl rfl rfl rfl ?_ | refine aops_litA ty_ok rfl rfl rfl rfl rfl rfl rfl rfl rfl rfl rfl rfl rfl rfl rfl rfl ?_ | refine aops_buildArr ty_ok rfl rfl rfl rfl rfl rfl rfl rfl rfl rfl ?_ | refine aops_indexArr ty_ok rfl rfl rfl rfl rfl rfl rfl rfl rfl rfl sdm ?_ | refine aops_lit0 ty_ok rfl rfl rfl rfl rfl rfl rfl ?_ | refine aops_field ty_ok rfl rfl rfl rfl rfl rfl rfl rfl rfl rfl ?_ | refine aops_cutE ty_ok rfl rfl rfl rfl rfl rfl rfl rfl rfl sdm rfl ?_ | ((fail_if_success (refine aops_known rfl ?_)); (refine aops_split ty_ok rfl rfl rfl rfl rfl rfl (fun hc => ⟨?_, ?_⟩) (fun hc => ⟨?_, ?_⟩)) <;> (try simp only [nms, reduceCtorEq] at hc) <;> (try (exfalso; omega)) <;> (try exact sdm)))) | ((with_reducible show HeadT _ _ _ _ _ _ _ _ _ _); (first | refine head_end ?_ | refine head_goP ty_ok rfl rfl sdm ?_ | refine head_gate ty_ok rfl rfl rfl sdm ?_ | refine head_callE (ty := ty) rfl rfl rfl rfl rfl rfl rfl (c_awake10) rfl ?_ | refine head_callE (ty := ty) rfl rfl rfl rfl rfl rfl rfl (hcf) rfl ?_ | refine head_callE (ty := ty) rfl rfl rfl rfl rfl rfl rfl (h1) rfl ?_ | refine head_callE (ty := ty) rfl rfl rfl rfl rfl rfl rfl (h2) rfl ?_ | refine head_callE (ty := ty) rfl rfl rfl rfl rfl rfl rfl (c_bytes_eq _ [] [] rfl) rfl ?_ | refine head_callE (ty := ty) rfl rfl rfl rfl rfl rfl rfl (h3) rfl ?_ | refine head_callE (ty := ty) rfl rfl rfl rfl rfl rfl rfl (h4) rfl ?_ | ((fail_if_success (refine head_known rfl ?_)); (refine head_split ty_ok rfl rfl rfl rfl (fun hc => ⟨?_, ?_⟩) (fun hc => ⟨?_, ?_⟩)) <;> (try simp only [nms, reduceCtorEq] at hc) <;> (try (exfalso; omega)) <;> (try exact sdm)))) | ((fail_if_success (with_reducible show AWp _ _ _ _ _)); (fail_if_success (with_reducible show AOps _ _ _ _ _ _)); (fail_if_success (with_reducible show HeadT _ _ _ _ _ _ _ _ _ _)); (first | (show AWp _ _ _ _ _) | (show AOps _ _ _ _ _ _))))
      all_goals rfl
    | true =>
      have h1 := c_akmar_ok v s hv
      have h2 := c_rakmar_ok (envL.at 0) v s hv
      have h3 := c_akval_at v s hv
      have h4 := c_rakval_at (envL.at 0) v s hv
      have h5 := c_akparse_at (akF v) (by omega) (ak_of hv e1)
      have h6 := c_bkey (envL.at 0) v v s (decide_eq_true rfl)
      repeat' (first | ((with_reducible show AWp _ _ _ _ _); (first | refine awp_seq ?_ | refine awp_block ?_ | refine awp_skip ?_ | refine awp_exit ?_ | refine awp_scope ?_ | refine awp_label ?_ | refine awp_run ty_ok rfl sdm ?_ | refine awp_ret ⟨_, _, rfl, rfl, ?_⟩ | refine awp_ret ⟨_, rfl, ?_⟩ | ((refine awp_cond (ty := ty) rfl (fun hc => ?_) (fun hc => ?_)) <;> (try simp only [nms, reduceCtorEq] at hc) <;> (try (exfalso; omega))) | refine awp_anyF [.ref 1, .ref 2] 19 mixed rfl (by kernel_rfl) rfl ?_)) | ((with_reducible show AOps _ _ _ _ _ _); (first | refine aops_nil ?_ | refine aops_go ty_ok rfl rfl sdm ?_ | refine aops_gate ty_ok rfl rfl rfl sdm ?_ | refine aops_callE (ty := ty) rfl rfl rfl rfl rfl rfl rfl (c_awake10) rfl ?_ | refine aops_callE (ty := ty) rfl rfl rfl rfl rfl rfl rfl (hcf) rfl ?_ | refine aops_callE (ty := ty) rfl rfl rfl rfl rfl rfl rfl (h1) rfl ?_ | refine aops_callE (ty := ty) rfl rfl rfl rfl rfl rfl rfl (h2) rfl ?_ | refine aops_callE (ty := ty) rfl rfl rfl rfl rfl rfl rfl (c_bytes_eq _ (akF v) (akF v) rfl) rfl ?_ | refine aops_callE (ty := ty) rfl rfl rfl rfl rfl rfl rfl (h3) rfl ?_ | refine aops_callE (ty := ty) rfl rfl rfl rfl rfl rfl rfl (h4) rfl ?_ | refine aops_callE (ty := ty) rfl rfl rfl rfl rfl rfl rfl (h5) rfl ?_ | refine aops_eqE (ty := ty) errEq rfl rfl rfl rfl rfl rfl rfl rfl ?_ | refine aops_callE (ty := ty) rfl rfl rfl rfl rfl rfl rfl (h6) rfl ?_ | refine aops_litE ty_ok rfl rfl rfl rfl rfl rfl rfl rfl rfl rfl rfl rfl ?_ | refine aops_litA ty_ok rfl rfl rfl rfl rfl rfl rfl rfl rfl rfl rfl rfl rfl rfl rfl rfl ?_ | refine aops_buildArr ty_ok rfl rfl rfl rfl rfl rfl rfl rfl rfl rfl ?_ | refine aops_indexArr ty_ok rfl rfl rfl rfl rfl rfl rfl rfl rfl rfl sdm ?_ | refine aops_lit0 ty_ok rfl rfl rfl rfl rfl rfl rfl ?_ | refine aops_field ty_ok rfl rfl rfl rfl rfl rfl rfl rfl rfl rfl ?_ | refine aops_cutE ty_ok rfl rfl rfl rfl rfl rfl rfl rfl rfl sdm rfl ?_ | ((fail_if_success (refine aops_known rfl ?_)); (refine aops_split ty_ok rfl rfl rfl rfl rfl rfl (fun hc => ⟨?_, ?_⟩) (fun hc => ⟨?_, ?_⟩)) <;> (try simp only [nms, reduceCtorEq] at hc) <;> (try (exfalso; omega)) <;> (try exact sdm)))) | ((with_reducible show HeadT _ _ _ _ _ _ _ _ _ _); (first | refine head_end ?_ | refine head_goP ty_ok rfl rfl sdm ?_ | refine head_gate ty_ok rfl rfl rfl sdm ?_ | refine head_callE (ty := ty) rfl rfl rfl rfl rfl rfl rfl (c_awake10) rfl ?_ | refine head_callE (ty := ty) rfl rfl rfl rfl rfl rfl rfl (hcf) rfl ?_ | refine head_callE (ty := ty) rfl rfl rfl rfl rfl rfl rfl (h1) rfl ?_ | refine head_callE (ty := ty) rfl rfl rfl rfl rfl rfl rfl (h2) rfl ?_ | refine head_callE (ty := ty) rfl rfl rfl rfl rfl rfl rfl (c_bytes_eq _ (akF v) (akF v) rfl) rfl ?_ | refine head_callE (ty := ty) rfl rfl rfl rfl rfl rfl rfl (h3) rfl ?_ | refine head_callE (ty := ty) rfl rfl rfl rfl rfl rfl rfl (h4) rfl ?_ | refine head_callE (ty := ty) rfl rfl rfl rfl rfl rfl rfl (h5) rfl ?_ | refine head_callE (ty := ty) rfl rfl rfl rfl rfl rfl rfl (h6) rfl ?_ | ((fail_if_success (refine head_known rfl ?_)); (refine head_split ty_ok rfl rfl rfl rfl (fun hc => ⟨?_, ?_⟩) (fun hc => ⟨?_, ?_⟩)) <;> (try simp only [nms, reduceCtorEq] at hc) <;> (try (exfalso; omega)) <;> (try exact sdm)))) | ((fail_if_success (with_reducible show AWp _ _ _ _ _)); (fail_if_success (with_reducible show AOps _ _ _ _ _ _)); (fail_if_success (with_reducible show HeadT _ _ _ _ _ _ _ _ _ _)); (first | (show AWp _ _ _ _ _) | (show AOps _ _ _ _ _ _))))
      all_goals rfl
theorem isLParsesak : IsFn Tryz.prog 9 Tryz.f9 := ⟨Tryz.func9, by decide, rfl⟩
set_option maxHeartbeats 2000000 in
theorem l_akparses (b : List UInt8) : ACalls Tryz.prog envL 9 [.sl none (bys b)] (fun r => r = .d (.bool true)) := by
  refine acalls_of ty_ok isLParsesak rfl rfl ?_
  by_cases hb : b.length ≤ 3000
  · cases hp : akP b with
    | bad c o =>
      obtain ⟨h1, h2⟩ := ak_bad hp
      have hw := c_within_bad (envL.at 0) c o b.length h1 h2
      rw [← bys_len b] at hw
      have hn : ∀ v, akV v = true → akF v ≠ b := by
        intro v hv e
        have h3 := (ak_len hv (by rw [e]; omega)).1
        have h4 := ak_of hv h3
        rw [e, hp] at h4
        cases h4
      have h5 := c_akparse_at b (by omega) hp
      have h6 := c_rakparse_bad b hb hn
      have h7 := c_bkey (envL.at 0) ak0 ak0 akSm0 (decide_eq_true rfl)
      repeat' (first | ((with_reducible show AWp _ _ _ _ _); (first | refine awp_seq ?_ | refine awp_block ?_ | refine awp_skip ?_ | refine awp_exit ?_ | refine awp_scope ?_ | refine awp_label ?_ | refine awp_run ty_ok rfl sdm ?_ | refine awp_ret ⟨_, _, rfl, rfl, ?_⟩ | refine awp_ret ⟨_, rfl, ?_⟩ | ((refine awp_cond (ty := ty) rfl (fun hc => ?_) (fun hc => ?_)) <;> (try simp only [nms, reduceCtorEq] at hc) <;> (try (exfalso; omega))))) | ((with_reducible show AOps _ _ _ _ _ _); (first | refine aops_nil ?_ | refine aops_go ty_ok rfl rfl sdm ?_ | refine aops_gate ty_ok rfl rfl rfl sdm ?_ | refine aops_callE (ty := ty) rfl rfl rfl rfl rfl rfl rfl (c_awake10) rfl ?_ | refine aops_callE (ty := ty) rfl rfl rfl rfl rfl rfl rfl (h5) rfl ?_ | refine aops_callE (ty := ty) rfl rfl rfl rfl rfl rfl rfl (h6) rfl ?_ | refine aops_callE (ty := ty) rfl rfl rfl rfl rfl rfl rfl (h7) rfl ?_ | refine aops_callE (ty := ty) rfl rfl rfl rfl rfl rfl rfl (hw) rfl ?_ | refine aops_litE ty_ok rfl rfl rfl rfl rfl rfl rfl rfl rfl rfl rfl rfl ?_ | refine aops_litA ty_ok rfl rfl rfl rfl rfl rfl rfl rfl rfl rfl rfl rfl rfl rfl rfl rfl ?_ | refine aops_buildArr ty_ok rfl rfl rfl rfl rfl rfl rfl rfl rfl rfl ?_ | refine aops_indexArr ty_ok rfl rfl rfl rfl rfl rfl rfl rfl rfl rfl sdm ?_ | refine aops_lit0 ty_ok rfl rfl rfl rfl rfl rfl rfl ?_ | refine aops_field ty_ok rfl rfl rfl rfl rfl rfl rfl rfl rfl rfl ?_ | refine aops_cutE ty_ok rfl rfl rfl rfl rfl rfl rfl rfl rfl sdm rfl ?_ | ((fail_if_success (refine aops_known rfl ?_)); (refine aops_split ty_ok rfl rfl rfl rfl rfl rfl (fun hc => ⟨?_, ?_⟩) (fun hc => ⟨?_, ?_⟩)) <;> (try simp only [nms, reduceCtorEq] at hc) <;> (try (exfalso; omega)) <;> (try exact sdm)))) | ((fail_if_success (with_reducible show AWp _ _ _ _ _)); (fail_if_success (with_reducible show AOps _ _ _ _ _ _)); (first | (show AWp _ _ _ _ _) | (show AOps _ _ _ _ _ _))))
      all_goals rfl
    | ok v =>
      obtain ⟨hv, hbe, hsz⟩ := ak_ok hp
      subst hbe
      obtain ⟨_, s⟩ := ak_len hv (by omega)
      have h5 := c_akparse_at (akF v) (by omega) hp
      have h6 := c_rakparse_ok v hv hb
      have h7 := c_bkey (envL.at 0) v v s (decide_eq_true rfl)
      have h1 := c_akmar_ok v s hv
      have h3 := c_akval_at v s hv
      repeat' (first | ((with_reducible show AWp _ _ _ _ _); (first | refine awp_seq ?_ | refine awp_block ?_ | refine awp_skip ?_ | refine awp_exit ?_ | refine awp_scope ?_ | refine awp_label ?_ | refine awp_run ty_ok rfl sdm ?_ | refine awp_ret ⟨_, _, rfl, rfl, ?_⟩ | refine awp_ret ⟨_, rfl, ?_⟩ | ((refine awp_cond (ty := ty) rfl (fun hc => ?_) (fun hc => ?_)) <;> (try simp only [nms, reduceCtorEq] at hc) <;> (try (exfalso; omega))))) | ((with_reducible show AOps _ _ _ _ _ _); (first | refine aops_nil ?_ | refine aops_go ty_ok rfl rfl sdm ?_ | refine aops_gate ty_ok rfl rfl rfl sdm ?_ | refine aops_callE (ty := ty) rfl rfl rfl rfl rfl rfl rfl (c_awake10) rfl ?_ | refine aops_callE (ty := ty) rfl rfl rfl rfl rfl rfl rfl (h5) rfl ?_ | refine aops_callE (ty := ty) rfl rfl rfl rfl rfl rfl rfl (h6) rfl ?_ | refine aops_callE (ty := ty) rfl rfl rfl rfl rfl rfl rfl (h7) rfl ?_ | refine aops_callE (ty := ty) rfl rfl rfl rfl rfl rfl rfl (c_within_ok _ _) rfl ?_ | refine aops_callE (ty := ty) rfl rfl rfl rfl rfl rfl rfl (h1) rfl ?_ | refine aops_callE (ty := ty) rfl rfl rfl rfl rfl rfl rfl (h3) rfl ?_ | refine aops_callE (ty := ty) rfl rfl rfl rfl rfl rfl rfl (c_bytes_eq _ (akF v) (akF v) rfl) rfl ?_ | refine aops_litE ty_ok rfl rfl rfl rfl rfl rfl rfl rfl rfl rfl rfl rfl ?_ | refine aops_litA ty_ok rfl rfl rfl rfl rfl rfl rfl rfl rfl rfl rfl rfl rfl rfl rfl rfl ?_ | refine aops_buildArr ty_ok rfl rfl rfl rfl rfl rfl rfl rfl rfl rfl ?_ | refine aops_indexArr ty_ok rfl rfl rfl rfl rfl rfl rfl rfl rfl rfl sdm ?_ | refine aops_lit0 ty_ok rfl rfl rfl rfl rfl rfl rfl ?_ | refine aops_field ty_ok rfl rfl rfl rfl rfl rfl rfl rfl rfl rfl ?_ | refine aops_cutE ty_ok rfl rfl rfl rfl rfl rfl rfl rfl rfl sdm rfl ?_ | ((fail_if_success (refine aops_known rfl ?_)); (refine aops_split ty_ok rfl rfl rfl rfl rfl rfl (fun hc => ⟨?_, ?_⟩) (fun hc => ⟨?_, ?_⟩)) <;> (try simp only [nms, reduceCtorEq] at hc) <;> (try (exfalso; omega)) <;> (try exact sdm)))) | ((fail_if_success (with_reducible show AWp _ _ _ _ _)); (fail_if_success (with_reducible show AOps _ _ _ _ _ _)); (first | (show AWp _ _ _ _ _) | (show AOps _ _ _ _ _ _))))
      all_goals rfl
  · repeat' (first | ((with_reducible show AWp _ _ _ _ _); (first | refine awp_seq ?_ | refine awp_block ?_ | refine awp_skip ?_ | refine awp_exit ?_ | refine awp_scope ?_ | refine awp_label ?_ | refine awp_run ty_ok rfl sdm ?_ | refine awp_ret ⟨_, _, rfl, rfl, ?_⟩ | refine awp_ret ⟨_, rfl, ?_⟩ | ((refine awp_cond (ty := ty) rfl (fun hc => ?_) (fun hc => ?_)) <;> (try simp only [nms, reduceCtorEq] at hc) <;> (try (exfalso; omega))))) | ((with_reducible show AOps _ _ _ _ _ _); (first | refine aops_nil ?_ | refine aops_go ty_ok rfl rfl sdm ?_ | refine aops_gate ty_ok rfl rfl rfl sdm ?_ | refine aops_callE (ty := ty) rfl rfl rfl rfl rfl rfl rfl (c_awake10) rfl ?_ | refine aops_litE ty_ok rfl rfl rfl rfl rfl rfl rfl rfl rfl rfl rfl rfl ?_ | refine aops_litA ty_ok rfl rfl rfl rfl rfl rfl rfl rfl rfl rfl rfl rfl rfl rfl rfl rfl ?_ | refine aops_buildArr ty_ok rfl rfl rfl rfl rfl rfl rfl rfl rfl rfl ?_ | refine aops_indexArr ty_ok rfl rfl rfl rfl rfl rfl rfl rfl rfl rfl sdm ?_ | refine aops_lit0 ty_ok rfl rfl rfl rfl rfl rfl rfl ?_ | refine aops_field ty_ok rfl rfl rfl rfl rfl rfl rfl rfl rfl rfl ?_ | refine aops_cutE ty_ok rfl rfl rfl rfl rfl rfl rfl rfl rfl sdm rfl ?_ | ((fail_if_success (refine aops_known rfl ?_)); (refine aops_split ty_ok rfl rfl rfl rfl rfl rfl (fun hc => ⟨?_, ?_⟩) (fun hc => ⟨?_, ?_⟩)) <;> (try simp only [nms, reduceCtorEq] at hc) <;> (try (exfalso; omega)) <;> (try exact sdm)))) | ((fail_if_success (with_reducible show AWp _ _ _ _ _)); (fail_if_success (with_reducible show AOps _ _ _ _ _ _)); (first | (show AWp _ _ _ _ _) | (show AOps _ _ _ _ _ _))))
    all_goals rfl
theorem isLChangesak : IsFn Tryz.prog 10 Tryz.f10 := ⟨Tryz.func10, by decide, rfl⟩
set_option maxHeartbeats 2000000 in
theorem l_akchanges (v : PKey) (p : Int) (x : UInt8) (h0 : 0 ≤ p) (h1 : p ≤ 65535) : ACalls Tryz.prog envL 10 [akD v, .int .u16 p, .int .u8 x.toNat] (fun r => r = .d (.bool true)) := by
  refine acalls_of ty_ok isLChangesak rfl rfl ?_
  cases hf : fewK v with
  | false =>
    have hcf := c_rakfew (envL.at 0) v hf
    repeat' (first | ((with_reducible show AWp _ _ _ _ _); (first | refine awp_seq ?_ | refine awp_block ?_ | refine awp_skip ?_ | refine awp_exit ?_ | refine awp_scope ?_ | refine awp_label ?_ | refine awp_run ty_ok rfl sdm ?_ | refine awp_ret ⟨_, _, rfl, rfl, ?_⟩ | refine awp_ret ⟨_, rfl, ?_⟩ | ((refine awp_cond (ty := ty) rfl (fun hc => ?_) (fun hc => ?_)) <;> (try simp only [nms, reduceCtorEq] at hc) <;> (try (exfalso; omega))))) | ((with_reducible show AOps _ _ _ _ _ _); (first | refine aops_nil ?_ | refine aops_go ty_ok rfl rfl sdm ?_ | refine aops_gate ty_ok rfl rfl rfl sdm ?_ | refine aops_callE (ty := ty) rfl rfl rfl rfl rfl rfl rfl (c_awake10) rfl ?_ | refine aops_callE (ty := ty) rfl rfl rfl rfl rfl rfl rfl (hcf) rfl ?_ | refine aops_litE ty_ok rfl rfl rfl rfl rfl rfl rfl rfl rfl rfl rfl rfl ?_ | refine aops_litA ty_ok rfl rfl rfl rfl rfl rfl rfl rfl rfl rfl rfl rfl rfl rfl rfl rfl ?_ | refine aops_buildArr ty_ok rfl rfl rfl rfl rfl rfl rfl rfl rfl rfl ?_ | refine aops_indexArr ty_ok rfl rfl rfl rfl rfl rfl rfl rfl rfl rfl sdm ?_ | refine aops_lit0 ty_ok rfl rfl rfl rfl rfl rfl rfl ?_ | refine aops_field ty_ok rfl rfl rfl rfl rfl rfl rfl rfl rfl rfl ?_ | refine aops_cutE ty_ok rfl rfl rfl rfl rfl rfl rfl rfl rfl sdm rfl ?_ | ((fail_if_success (refine aops_known rfl ?_)); (refine aops_split ty_ok rfl rfl rfl rfl rfl rfl (fun hc => ⟨?_, ?_⟩) (fun hc => ⟨?_, ?_⟩)) <;> (try simp only [nms, reduceCtorEq] at hc) <;> (try (exfalso; omega)) <;> (try exact sdm)))) | ((fail_if_success (with_reducible show AWp _ _ _ _ _)); (fail_if_success (with_reducible show AOps _ _ _ _ _ _)); (first | (show AWp _ _ _ _ _) | (show AOps _ _ _ _ _ _))))
    all_goals rfl
  | true =>
    obtain ⟨s, e1, e2, e3⟩ := ak_small hf
    have hcf := c_rakfew (envL.at 0) v hf
    cases hv : akV v with
    | false =>
      have hm := c_akmar_bad v s hv
      repeat' (first | ((with_reducible show AWp _ _ _ _ _); (first | refine awp_seq ?_ | refine awp_block ?_ | refine awp_skip ?_ | refine awp_exit ?_ | refine awp_scope ?_ | refine awp_label ?_ | refine awp_run ty_ok rfl sdm ?_ | refine awp_ret ⟨_, _, rfl, rfl, ?_⟩ | refine awp_ret ⟨_, rfl, ?_⟩ | ((refine awp_cond (ty := ty) rfl (fun hc => ?_) (fun hc => ?_)) <;> (try simp only [nms, reduceCtorEq] at hc) <;> (try (exfalso; omega))))) | ((with_reducible show AOps _ _ _ _ _ _); (first | refine aops_nil ?_ | refine aops_go ty_ok rfl rfl sdm ?_ | refine aops_gate ty_ok rfl rfl rfl sdm ?_ | refine aops_callE (ty := ty) rfl rfl rfl rfl rfl rfl rfl (c_awake10) rfl ?_ | refine aops_callE (ty := ty) rfl rfl rfl rfl rfl rfl rfl (hcf) rfl ?_ | refine aops_callE (ty := ty) rfl rfl rfl rfl rfl rfl rfl (hm) rfl ?_ | refine aops_litE ty_ok rfl rfl rfl rfl rfl rfl rfl rfl rfl rfl rfl rfl ?_ | refine aops_litA ty_ok rfl rfl rfl rfl rfl rfl rfl rfl rfl rfl rfl rfl rfl rfl rfl rfl ?_ | refine aops_buildArr ty_ok rfl rfl rfl rfl rfl rfl rfl rfl rfl rfl ?_ | refine aops_indexArr ty_ok rfl rfl rfl rfl rfl rfl rfl rfl rfl rfl sdm ?_ | refine aops_lit0 ty_ok rfl rfl rfl rfl rfl rfl rfl ?_ | refine aops_field ty_ok rfl rfl rfl rfl rfl rfl rfl rfl rfl rfl ?_ | refine aops_cutE ty_ok rfl rfl rfl rfl rfl rfl rfl rfl rfl sdm rfl ?_ | ((fail_if_success (refine aops_known rfl ?_)); (refine aops_split ty_ok rfl rfl rfl rfl rfl rfl (fun hc => ⟨?_, ?_⟩) (fun hc => ⟨?_, ?_⟩)) <;> (try simp only [nms, reduceCtorEq] at hc) <;> (try (exfalso; omega)) <;> (try exact sdm)))) | ((fail_if_success (with_reducible show AWp _ _ _ _ _)); (fail_if_success (with_reducible show AOps _ _ _ _ _ _)); (first | (show AWp _ _ _ _ _) | (show AOps _ _ _ _ _ _))))
      all_goals rfl
    | true =>
      obtain ⟨L, hL⟩ : ∃ L, akF v = L := ⟨_, rfl⟩
      have hm := c_akmar_ok v s hv
      rw [hL] at e2 e3 hm
      obtain ⟨m, hm1, hm2⟩ := mod_at p L h0 h1 e3
      have hset := set_same L m x hm1
      have hold := old_at L m hm1
      have hsl : (L.set m x).length = L.length := List.length_set
      cases hp : akP (L.set m x) with
      | bad c o =>
        obtain ⟨g1, g2⟩ := ak_bad hp
        have hw := c_within_bad (envL.at 0) c o _ g1 g2
        rw [← bys_len] at hw
        have hne : x ≠ L[m] := fun e => by
          rw [hset.2 e, ← hL, ak_of hv e1] at hp
          cases hp
        have h5 := c_akparse_at _ (by omega) hp
        have h7 := c_bkey (envL.at 0) ak0 ak0 akSm0 (decide_eq_true rfl)
        repeat' (first | ((with_reducible show AWp _ _ _ _ _); (first | refine awp_seq ?_ | refine awp_block ?_ | refine awp_skip ?_ | refine awp_exit ?_ | refine awp_scope ?_ | refine awp_label ?_ | refine awp_run ty_ok rfl sdm ?_ | refine awp_ret ⟨_, _, rfl, rfl, ?_⟩ | refine awp_ret ⟨_, rfl, ?_⟩ | ((refine awp_cond (ty := ty) rfl (fun hc => ?_) (fun hc => ?_)) <;> (try simp only [nms, reduceCtorEq] at hc) <;> (try (exfalso; omega))))) | ((with_reducible show AOps _ _ _ _ _ _); (first | refine aops_nil ?_ | refine aops_go ty_ok rfl rfl sdm ?_ | refine aops_gate ty_ok rfl rfl rfl sdm ?_ | refine aops_callE (ty := ty) rfl rfl rfl rfl rfl rfl rfl (c_awake10) rfl ?_ | refine aops_callE (ty := ty) rfl rfl rfl rfl rfl rfl rfl (hcf) rfl ?_ | refine aops_callE (ty := ty) rfl rfl rfl rfl rfl rfl rfl (hm) rfl ?_ | refine aops_litE ty_ok rfl rfl rfl rfl rfl rfl rfl rfl rfl rfl rfl rfl ?_ | refine aops_litA ty_ok rfl rfl rfl rfl rfl rfl rfl rfl rfl rfl rfl rfl rfl rfl rfl rfl ?_ | refine aops_buildArr ty_ok rfl rfl rfl rfl rfl rfl rfl rfl rfl rfl ?_ | refine aops_indexArr ty_ok rfl rfl rfl rfl rfl rfl rfl rfl rfl rfl sdm ?_ | refine aops_lit0 ty_ok rfl rfl rfl rfl rfl rfl rfl ?_ | refine aops_field ty_ok rfl rfl rfl rfl rfl rfl rfl rfl rfl rfl ?_ | refine aops_cutE ty_ok rfl rfl rfl rfl rfl rfl rfl rfl rfl sdm rfl ?_ | ((fail_if_success (refine aops_known rfl ?_)); (refine aops_split ty_ok rfl rfl rfl rfl rfl rfl (fun hc => ⟨?_, ?_⟩) (fun hc => ⟨?_, ?_⟩)) <;> (try simp only [nms, reduceCtorEq] at hc) <;> (try (exfalso; omega)) <;> (try exact sdm)))) | ((fail_if_success (with_reducible show AWp _ _ _ _ _)); (fail_if_success (with_reducible show AOps _ _ _ _ _ _)); (first | (show AWp _ _ _ _ _) | (show AOps _ _ _ _ _ _))))
        rw [hm2]
        repeat' (first | ((with_reducible show AWp _ _ _ _ _); (first | refine awp_seq ?_ | refine awp_block ?_ | refine awp_skip ?_ | refine awp_exit ?_ | refine awp_scope ?_ | refine awp_label ?_ | refine awp_run ty_ok rfl sdm ?_ | refine awp_ret ⟨_, _, rfl, rfl, ?_⟩ | refine awp_ret ⟨_, rfl, ?_⟩ | ((refine awp_cond (ty := ty) rfl (fun hc => ?_) (fun hc => ?_)) <;> (try simp only [nms, reduceCtorEq] at hc) <;> (try (exfalso; omega))))) | ((with_reducible show AOps _ _ _ _ _ _); (first | refine aops_nil ?_ | refine aops_go ty_ok rfl rfl sdm ?_ | refine aops_gate ty_ok rfl rfl rfl sdm ?_ | refine aops_litE ty_ok rfl rfl rfl rfl rfl rfl rfl rfl rfl rfl rfl rfl ?_ | refine aops_litA ty_ok rfl rfl rfl rfl rfl rfl rfl rfl rfl rfl rfl rfl rfl rfl rfl rfl ?_ | refine aops_buildArr ty_ok rfl rfl rfl rfl rfl rfl rfl rfl rfl rfl ?_ | refine aops_indexArr ty_ok rfl rfl rfl rfl rfl rfl rfl rfl rfl rfl sdm ?_ | refine aops_lit0 ty_ok rfl rfl rfl rfl rfl rfl rfl ?_ | refine aops_field ty_ok rfl rfl rfl rfl rfl rfl rfl rfl rfl rfl ?_ | refine aops_cutE ty_ok rfl rfl rfl rfl rfl rfl rfl rfl rfl sdm rfl ?_ | ((fail_if_success (refine aops_known rfl ?_)); (refine aops_split ty_ok rfl rfl rfl rfl rfl rfl (fun hc => ⟨?_, ?_⟩) (fun hc => ⟨?_, ?_⟩)) <;> (try simp only [nms, reduceCtorEq] at hc) <;> (try (exfalso; omega)) <;> (try exact sdm)))) | ((fail_if_success (with_reducible show AWp _ _ _ _ _)); (fail_if_success (with_reducible show AOps _ _ _ _ _ _)); (first | (show AWp _ _ _ _ _) | (show AOps _ _ _ _ _ _))))
        rw [set_at]
        repeat' (first | ((with_reducible show AWp _ _ _ _ _); (first | refine awp_seq ?_ | refine awp_block ?_ | refine awp_skip ?_ | refine awp_exit ?_ | refine awp_scope ?_ | refine awp_label ?_ | refine awp_run ty_ok rfl sdm ?_ | refine awp_ret ⟨_, _, rfl, rfl, ?_⟩ | refine awp_ret ⟨_, rfl, ?_⟩ | ((refine awp_cond (ty := ty) rfl (fun hc => ?_) (fun hc => ?_)) <;> (try simp only [nms, reduceCtorEq] at hc) <;> (try (exfalso; omega))))) | ((with_reducible show AOps _ _ _ _ _ _); (first | refine aops_nil ?_ | refine aops_go ty_ok rfl rfl sdm ?_ | refine aops_gate ty_ok rfl rfl rfl sdm ?_ | refine aops_callE (ty := ty) rfl rfl rfl rfl rfl rfl rfl (h5) rfl ?_ | refine aops_callE (ty := ty) rfl rfl rfl rfl rfl rfl rfl (h7) rfl ?_ | refine aops_callE (ty := ty) rfl rfl rfl rfl rfl rfl rfl (hw) rfl ?_ | refine aops_litE ty_ok rfl rfl rfl rfl rfl rfl rfl rfl rfl rfl rfl rfl ?_ | refine aops_litA ty_ok rfl rfl rfl rfl rfl rfl rfl rfl rfl rfl rfl rfl rfl rfl rfl rfl ?_ | refine aops_buildArr ty_ok rfl rfl rfl rfl rfl rfl rfl rfl rfl rfl ?_ | refine aops_indexArr ty_ok rfl rfl rfl rfl rfl rfl rfl rfl rfl rfl sdm ?_ | refine aops_lit0 ty_ok rfl rfl rfl rfl rfl rfl rfl ?_ | refine aops_field ty_ok rfl rfl rfl rfl rfl rfl rfl rfl rfl rfl ?_ | refine aops_cutE ty_ok rfl rfl rfl rfl rfl rfl rfl rfl rfl sdm rfl ?_ | ((fail_if_success (refine aops_known rfl ?_)); (refine aops_split ty_ok rfl rfl rfl rfl rfl rfl (fun hc => ⟨?_, ?_⟩) (fun hc => ⟨?_, ?_⟩)) <;> (try simp only [nms, reduceCtorEq] at hc) <;> (try (exfalso; omega)) <;> (try exact sdm)))) | ((fail_if_success (with_reducible show AWp _ _ _ _ _)); (fail_if_success (with_reducible show AOps _ _ _ _ _ _)); (first | (show AWp _ _ _ _ _) | (show AOps _ _ _ _ _ _))))
        · rfl
        · rw [hold] at hc
          exact absurd (u8_ext (by omega)) hne
      | ok w =>
        obtain ⟨g1, g2, g3⟩ := ak_ok hp
        obtain ⟨_, sw⟩ := ak_len g1 (by rw [← g2]; omega)
        have h5 := c_akparse_at _ (by omega) hp
        have h6 := c_akmar_ok w sw g1
        have h7 := c_bkey (envL.at 0) w v sw rfl
        repeat' (first | ((with_reducible show AWp _ _ _ _ _); (first | refine awp_seq ?_ | refine awp_block ?_ | refine awp_skip ?_ | refine awp_exit ?_ | refine awp_scope ?_ | refine awp_label ?_ | refine awp_run ty_ok rfl sdm ?_ | refine awp_ret ⟨_, _, rfl, rfl, ?_⟩ | refine awp_ret ⟨_, rfl, ?_⟩ | ((refine awp_cond (ty := ty) rfl (fun hc => ?_) (fun hc => ?_)) <;> (try simp only [nms, reduceCtorEq] at hc) <;> (try (exfalso; omega))))) | ((with_reducible show AOps _ _ _ _ _ _); (first | refine aops_nil ?_ | refine aops_go ty_ok rfl rfl sdm ?_ | refine aops_gate ty_ok rfl rfl rfl sdm ?_ | refine aops_callE (ty := ty) rfl rfl rfl rfl rfl rfl rfl (c_awake10) rfl ?_ | refine aops_callE (ty := ty) rfl rfl rfl rfl rfl rfl rfl (hcf) rfl ?_ | refine aops_callE (ty := ty) rfl rfl rfl rfl rfl rfl rfl (hm) rfl ?_ | refine aops_litE ty_ok rfl rfl rfl rfl rfl rfl rfl rfl rfl rfl rfl rfl ?_ | refine aops_litA ty_ok rfl rfl rfl rfl rfl rfl rfl rfl rfl rfl rfl rfl rfl rfl rfl rfl ?_ | refine aops_buildArr ty_ok rfl rfl rfl rfl rfl rfl rfl rfl rfl rfl ?_ | refine aops_indexArr ty_ok rfl rfl rfl rfl rfl rfl rfl rfl rfl rfl sdm ?_ | refine aops_lit0 ty_ok rfl rfl rfl rfl rfl rfl rfl ?_ | refine aops_field ty_ok rfl rfl rfl rfl rfl rfl rfl rfl rfl rfl ?_ | refine aops_cutE ty_ok rfl rfl rfl rfl rfl rfl rfl rfl rfl sdm rfl ?_ | ((fail_if_success (refine aops_known rfl ?_)); (refine aops_split ty_ok rfl rfl rfl rfl rfl rfl (fun hc => ⟨?_, ?_⟩) (fun hc => ⟨?_, ?_⟩)) <;> (try simp only [nms, reduceCtorEq] at hc) <;> (try (exfalso; omega)) <;> (try exact sdm)))) | ((fail_if_success (with_reducible show AWp _ _ _ _ _)); (fail_if_success (with_reducible show AOps _ _ _ _ _ _)); (first | (show AWp _ _ _ _ _) | (show AOps _ _ _ _ _ _))))
        rw [hm2]
        repeat' (first | ((with_reducible show AWp _ _ _ _ _); (first | refine awp_seq ?_ | refine awp_block ?_ | refine awp_skip ?_ | refine awp_exit ?_ | refine awp_scope ?_ | refine awp_label ?_ | refine awp_run ty_ok rfl sdm ?_ | refine awp_ret ⟨_, _, rfl, rfl, ?_⟩ | refine awp_ret ⟨_, rfl, ?_⟩ | ((refine awp_cond (ty := ty) rfl (fun hc => ?_) (fun hc => ?_)) <;> (try simp only [nms, reduceCtorEq] at hc) <;> (try (exfalso; omega))))) | ((with_reducible show AOps _ _ _ _ _ _); (first | refine aops_nil ?_ | refine aops_go ty_ok rfl rfl sdm ?_ | refine aops_gate ty_ok rfl rfl rfl sdm ?_ | refine aops_litE ty_ok rfl rfl rfl rfl rfl rfl rfl rfl rfl rfl rfl rfl ?_ | refine aops_litA ty_ok rfl rfl rfl rfl rfl rfl rfl rfl rfl rfl rfl rfl rfl rfl rfl rfl ?_ | refine aops_buildArr ty_ok rfl rfl rfl rfl rfl rfl rfl rfl rfl rfl ?_ | refine aops_indexArr ty_ok rfl rfl rfl rfl rfl rfl rfl rfl rfl rfl sdm ?_ | refine aops_lit0 ty_ok rfl rfl rfl rfl rfl rfl rfl ?_ | refine aops_field ty_ok rfl rfl rfl rfl rfl rfl rfl rfl rfl rfl ?_ | refine aops_cutE ty_ok rfl rfl rfl rfl rfl rfl rfl rfl rfl sdm rfl ?_ | ((fail_if_success (refine aops_known rfl ?_)); (refine aops_split ty_ok rfl rfl rfl rfl rfl rfl (fun hc => ⟨?_, ?_⟩) (fun hc => ⟨?_, ?_⟩)) <;> (try simp only [nms, reduceCtorEq] at hc) <;> (try (exfalso; omega)) <;> (try exact sdm)))) | ((fail_if_success (with_reducible show AWp _ _ _ _ _)); (fail_if_success (with_reducible show AOps _ _ _ _ _ _)); (first | (show AWp _ _ _ _ _) | (show AOps _ _ _ _ _ _))))
        rw [set_at]
        repeat' (first | ((with_reducible show AWp _ _ _ _ _); (first | refine awp_seq ?_ | refine awp_block ?_ | refine awp_skip ?_ | refine awp_exit ?_ | refine awp_scope ?_ | refine awp_label ?_ | refine awp_run ty_ok rfl sdm ?_ | refine awp_ret ⟨_, _, rfl, rfl, ?_⟩ | refine awp_ret ⟨_, rfl, ?_⟩ | ((refine awp_cond (ty := ty) rfl (fun hc => ?_) (fun hc => ?_)) <;> (try simp only [nms, reduceCtorEq] at hc) <;> (try (exfalso; omega))))) | ((with_reducible show AOps _ _ _ _ _ _); (first | refine aops_nil ?_ | refine aops_go ty_ok rfl rfl sdm ?_ | refine aops_gate ty_ok rfl rfl rfl sdm ?_ | refine aops_callE (ty := ty) rfl rfl rfl rfl rfl rfl rfl (h5) rfl ?_ | refine aops_callE (ty := ty) rfl rfl rfl rfl rfl rfl rfl (h6) rfl ?_ | refine aops_callE (ty := ty) rfl rfl rfl rfl rfl rfl rfl (c_bytes_eq _ (akF w) (L.set m x) g2.symm) rfl ?_ | refine aops_callE (ty := ty) rfl rfl rfl rfl rfl rfl rfl (h7) rfl ?_ | refine aops_litE ty_ok rfl rfl rfl rfl rfl rfl rfl rfl rfl rfl rfl rfl ?_ | refine aops_litA ty_ok rfl rfl rfl rfl rfl rfl rfl rfl rfl rfl rfl rfl rfl rfl rfl rfl ?_ | refine aops_buildArr ty_ok rfl rfl rfl rfl rfl rfl rfl rfl rfl rfl ?_ | refine aops_indexArr ty_ok rfl rfl rfl rfl rfl rfl rfl rfl rfl rfl sdm ?_ | refine aops_lit0 ty_ok rfl rfl rfl rfl rfl rfl rfl ?_ | refine aops_field ty_ok rfl rfl rfl rfl rfl rfl rfl rfl rfl rfl ?_ | refine aops_cutE ty_ok rfl rfl rfl rfl rfl rfl rfl rfl rfl sdm rfl ?_ | ((fail_if_success (refine aops_known rfl ?_)); (refine aops_split ty_ok rfl rfl rfl rfl rfl rfl (fun hc => ⟨?_, ?_⟩) (fun hc => ⟨?_, ?_⟩)) <;> (try simp only [nms, reduceCtorEq] at hc) <;> (try (exfalso; omega)) <;> (try exact sdm)))) | ((fail_if_success (with_reducible show AWp _ _ _ _ _)); (fail_if_success (with_reducible show AOps _ _ _ _ _ _)); (first | (show AWp _ _ _ _ _) | (show AOps _ _ _ _ _ _))))
        rw [hold, byte_eq]
        have hiff : (w = v) ↔ x = L[m] := by
          rw [← hset, g2, ← hL]
          constructor
          · intro h
            rw [h]
          · intro h
            exact ak_inj g1 hv (by rw [h, hL]; omega) h
        by_cases h : x = L[m]
        · rw [decide_eq_true h, decide_eq_true (hiff.2 h)]
          rfl
        · rw [decide_eq_false h, decide_eq_false (fun e => h (hiff.1 e))]
          rfl
end Go.Proofs.YtdihjpmdmfmbiaaGreatDoor

/- The abstract machine, twenty-first part: the given statement out of a contract, where the row lists variables. No program. -/
namespace Go.Am
open Go.RowKit Go.ChangeShapes Go.WideShapes
set_option linter.unusedSimpArgs false
set_option linter.unusedVariables false

end Go.Am

/- The abstract machine: what a law is handed, opened as data, with a bound on its sizes. No program. -/
namespace Go.Am
open Go.RowKit Go.ChangeShapes Go.WideShapes Go.ChangeAt
set_option linter.unusedSimpArgs false
set_option linter.unusedVariables false

def Light {H : Type} (P : Program) (t : TypeId) (d : DataW H) : Prop := ∀ n ∈ d.weights P t, n ≤ reachBytes
def OpensQ (P : Program) (t : TypeId) {α : Type} (f : α → List Dat) (ok : α → Prop) : Prop :=
  ∀ (H : Type) (enc : TypeId × Value → H) (w : World) (fuel : Nat) (cs : List Value) (x : DataW H × List MemPlace), DataW.trod enc P w 0 (fun _ => true) true fuel t cs = some x → Light P t x.1 → ∃ a, ok a ∧ CellsAre w (f a) cs
section
variable {P : Program} {t e : TypeId} {α β : Type}
theorem OpensQ.of {f : α → List Dat} {ok : α → Prop} (h : Opens P t f ok) : OpensQ P t f ok := fun H enc w fuel cs x hx _ => h H enc w fuel cs x hx
theorem OpensQ.str (ht : P.underlying t = some .string) : OpensQ P t (fun s : ByteArray => [.str s]) (fun s => s.size ≤ reachBytes) := by
  intro H enc w fuel cs x h hw
  obtain ⟨s, rfl, rfl, hs⟩ := DataW.trod_string ht h
  refine ⟨s, ?_, cellsAre_one rfl (.str s)⟩
  have := hw s.data.toList.length (by simp [DataW.weights])
  simpa using this
theorem OpensQ.map {f : α → List Dat} {ok : α → Prop} {f' : β → List Dat} {ok' : β → Prop} (h : OpensQ P t f ok) (g : α → β) (hf : ∀ a, ok a → f' (g a) = f a) (hk : ∀ a, ok a → ok' (g a)) : OpensQ P t f' ok' := fun H enc w fuel cs x hx hw => by
  obtain ⟨a, h1, h2⟩ := h H enc w fuel cs x hx hw
  exact ⟨g a, hk a h1, by rw [hf a h1]; exact h2⟩
theorem weightsAll_mem {H : Type} {P : Program} {e : TypeId} : ∀ {l : List (DataW H)} {d : DataW H}, d ∈ l → ∀ n ∈ d.weights P e, n ∈ DataW.weightsAll P e l
  | [], d, h, n, hn => by cases h
  | x :: r, d, h, n, hn => by
    unfold DataW.weightsAll
    rw [List.mem_append]
    rcases List.mem_cons.1 h with rfl | h
    · exact .inl hn
    · exact .inr (weightsAll_mem h n hn)
theorem OpensQ.slice {ek : Option Nat} {f : α → List Dat} {ok : α → Prop} (ht : P.underlying t = some (.slice e)) (hc : P.cellsOf e = Am.esz ek) (hpos : 0 < Am.esz ek) (hby : 0 < P.bytesOf e) (he : OpensQ P e f ok) (pack : α → Dat)
    (hpack : ∀ a, (f a).length = Am.esz ek → (∀ y ∈ f a, y.one = true) → Fits ek (pack a) ∧ (pack a).cells = f a) : OpensQ P t (fun l : List α => [.sl ek (l.map pack)]) (fun l => (∀ a ∈ l, ok a) ∧ l.length ≤ reachBytes) := by
  intro H enc w fuel cs x h hw
  rcases DataW.trod_slice ht h with ⟨rfl, _⟩ | ⟨a, len, cap, elems, rest, n, _, rfl, rfl, _, hl, hm, hlen, hel, _⟩
  · exact ⟨[], by simp, cellsAre_one rfl (.nil ek)⟩
  have hwe : ∀ y ∈ elems, Light P e y.1 := fun y hy n hn => hw n (by
    simp only [DataW.weights, ht]
    exact List.mem_cons_of_mem _ (List.mem_append_left _ (weightsAll_mem (List.mem_map.2 ⟨y, hy, rfl⟩) n hn)))
  have hwl : len ≤ reachBytes := by
    have h1 := hw ((elems.map (·.1)).length * P.bytesOf e + (rest.map (·.1)).length * P.bytesOf e) (by
      simp only [DataW.weights, ht, ← Nat.add_mul]
      exact List.mem_cons_self ..)
    rw [List.length_map, hlen] at h1
    have h2 : len * 1 ≤ len * P.bytesOf e := Nat.mul_le_mul_left _ hby
    omega
  have each : ∀ i, i < len → ∃ z, ok z ∧ ∃ cs', w.cells? 0 (a.add (i * P.cellsOf e)) (P.cellsOf e) = some cs' ∧ CellsAre w (f z) cs' := by
    intro i hi
    have h1 := hel i hi
    rw [List.getElem?_eq_getElem (by omega)] at h1
    obtain ⟨cs', h2, h3⟩ := Option.bind_eq_some_iff.1 h1
    obtain ⟨z, hz, hz2⟩ := he H enc w n cs' _ h3 (hwe _ (List.getElem_mem _))
    exact ⟨z, hz, cs', h2, hz2⟩
  obtain ⟨l, hll, hq⟩ := list_of len each
  refine ⟨l, ⟨fun z hz => ?_, by omega⟩, cellsAre_one rfl ?_⟩
  · obtain ⟨i, hi⟩ := List.mem_iff_getElem?.1 hz
    exact (hq i z hi).1
  obtain ⟨b, off, spot⟩ := a
  have fit : ∀ z ∈ l, Fits ek (pack z) ∧ (pack z).cells = f z := by
    intro z hz
    obtain ⟨i, hi⟩ := List.mem_iff_getElem?.1 hz
    obtain ⟨_, cs', h1, h2, h3, _⟩ := hq i z hi
    refine hpack z ?_ h3
    rw [h2, (World.cells?_some h1).2.1, hc]
  have hsp : 0 < l.length → spot = none := by
    intro h0
    obtain ⟨_, cs', h1, _⟩ := hq 0 l[0] (List.getElem?_eq_getElem h0)
    obtain ⟨_, h3, h4⟩ := World.cells?_some h1
    have h5 := h4 0 (by rw [hc]; exact hpos)
    rw [List.getElem?_eq_getElem (by rw [h3, hc]; exact hpos)] at h5
    have h6 := World.cell?_spot h5
    simpa [Addr.add] using h6
  refine RepD.sl_mk (by simpa using hll.symm) (by simp; omega) hm (by simpa using hsp) (fun z hz => ?_) (fun k z hk j y hj => ?_)
  · obtain ⟨z', hz', rfl⟩ := List.mem_map.1 hz
    exact (fit z' hz').1
  · rw [List.getElem?_map] at hk
    obtain ⟨z', hz', rfl⟩ := Option.map_eq_some_iff.1 hk
    obtain ⟨_, cs', h1, h2, h3, h4⟩ := hq k z' hz'
    have hmem := List.mem_of_getElem? hz'
    rw [(fit z' hmem).2] at hj
    obtain ⟨_, h6, h7⟩ := World.cells?_some h1
    have hjl : j < (f z').length := (List.getElem?_eq_some_iff.1 hj).1
    have h8 := h7 j (by omega)
    have h9 : spot = none := hsp (by have := (List.getElem?_eq_some_iff.1 hz').1; omega)
    subst h9
    rw [Addr.add_lit, Addr.add_lit, List.getElem?_eq_getElem (by omega)] at h8
    refine ⟨rfl, h3 y (List.mem_of_getElem? hj), _, by rw [← h8, hc], ?_⟩
    have := h4 j y hj
    rwa [List.getD_eq_getElem?_getD, List.getElem?_eq_getElem (by omega)] at this
theorem OpensQ.bytes (ht : P.underlying t = some (.slice e)) (he : P.underlying e = some (.int .u8)) (hc : P.cellsOf e = 1) (hby : 0 < P.bytesOf e) : OpensQ P t (fun l : List UInt8 => [.sl none (bys l)]) (fun l => l.length ≤ reachBytes) :=
  OpensQ.map (OpensQ.slice (ek := none) ht hc (by decide) hby (OpensQ.of (Opens.u8 he)) by1 (fun a _ _ => ⟨rfl, rfl⟩)) (fun l => l) (fun _ _ => rfl) (fun _ h => h.2)
def OpensQF (P : Program) (off : Nat) (fs : List Field) {α : Type} (f : α → List Dat) (ok : α → Prop) : Prop :=
  ∀ (H : Type) (enc : TypeId × Value → H) (w : World) (fuel : Nat) (cs : List Value), (∀ fd ∈ fs, ∃ x, DataW.trod enc P w 0 (fun _ => true) true fuel fd.type ((cs.drop fd.offset).take (P.cellsOf fd.type)) = some x ∧ Light P fd.type x.1) →
    ∃ a, ok a ∧ CellsAre w (f a) ((cs.drop off).take (f a).length)
theorem OpensQF.one {fd : Field} {off sz : Nat} {f : α → List Dat} {ok : α → Prop} (ho : fd.offset = off) (h : OpensQ P fd.type f ok) : OpensQF P off [fd] f ok := by
  intro H enc w fuel cs hx
  obtain ⟨x, hx, hw⟩ := hx fd (by simp)
  obtain ⟨a, h1, h2⟩ := h H enc w fuel _ x hx hw
  refine ⟨a, h1, ?_⟩
  rw [ho] at h2
  have hl := h2.1
  rw [List.length_take] at hl
  have : (cs.drop off).take (f a).length = (cs.drop off).take (P.cellsOf fd.type) := by
    rw [hl]
    by_cases hle : P.cellsOf fd.type ≤ (cs.drop off).length
    · rw [Nat.min_eq_left hle]
    · rw [Nat.min_eq_right (by omega), List.take_of_length_le (Nat.le_refl _), List.take_of_length_le (by omega)]
  rw [this]
  exact h2
theorem OpensQF.cons {fd : Field} {fs : List Field} {off sz : Nat} {f : α → List Dat} {ok : α → Prop} {g : β → List Dat} {ok' : β → Prop} (ho : fd.offset = off) (hsz : ∀ a, (f a).length = sz) (h : OpensQ P fd.type f ok) (hs : OpensQF P (off + sz) fs g ok') :
    OpensQF P off (fd :: fs) (fun p : α × β => f p.1 ++ g p.2) (fun p => ok p.1 ∧ ok' p.2) := by
  intro H enc w fuel cs hx
  obtain ⟨a, h1, h2⟩ := OpensQF.one (sz := sz) ho h H enc w fuel cs (fun fd' hfd => hx fd' (by simp at hfd; simp [hfd]))
  obtain ⟨b, h3, h4⟩ := hs H enc w fuel cs (fun fd' hfd => hx fd' (by simp [hfd]))
  refine ⟨(a, b), ⟨h1, h3⟩, ?_⟩
  have e1 := h2.1
  have e2 := h4.1
  rw [hsz] at h2 e1
  have key : (cs.drop off).take (f a ++ g b).length = (cs.drop off).take sz ++ (cs.drop (off + sz)).take (g b).length := by
    rw [List.length_append, hsz, List.take_add, List.drop_drop]
  refine ⟨?_, ?_, ?_⟩
  · rw [key, List.length_append, List.length_append, ← e2, ← e1, hsz]
  · intro y hy
    rcases List.mem_append.1 hy with hy | hy
    · exact h2.2.1 y hy
    · exact h4.2.1 y hy
  · intro j y hj
    simp only at hj ⊢
    rw [key]
    rw [List.getElem?_append] at hj
    rw [List.getD_eq_getElem?_getD, List.getElem?_append]
    rw [hsz] at hj
    split at hj
    · rename_i hlt
      rw [if_pos (by omega)]
      exact h2.2.2 j y hj
    · rename_i hlt
      rw [if_neg (by omega), ← e1]
      exact h4.2.2 _ y hj
theorem OpensQ.struct {fs : Array Field} {f : α → List Dat} {ok : α → Prop} (ht : P.underlying t = some (.struct fs)) (hsz : ∀ a, (f a).length = P.cellsOf t) (h : OpensQF P 0 fs.toList f ok) : OpensQ P t f ok := by
  intro H enc w fuel cs x hx hw
  obtain ⟨xs, n, rfl, rfl, hl, hxl, hg⟩ := DataW.trod_struct ht hx
  obtain ⟨a, h1, h2⟩ := h H enc w n cs (fun fd hfd => by
    obtain ⟨i, hi⟩ := List.mem_iff_getElem?.1 hfd
    have hi' : fs[i]? = some fd := by simpa using hi
    have h3 := hg i fd hi'
    have hlt := (Array.getElem?_eq_some_iff.1 hi').1
    rw [List.getElem?_eq_getElem (by omega)] at h3
    refine ⟨_, h3, fun q hq => hw q ?_⟩
    simp only [DataW.weights, ht]
    refine DataW.weights_mem_each (j := i) (t := fd.type) (d := (xs[i]'(by omega)).1) (by simp [hi']) (by simp [show i < xs.length by omega]) q hq)
  refine ⟨a, h1, ?_⟩
  rw [hsz, List.drop_zero, ← hl, List.take_length] at h2
  exact h2

def OpensQV (P : Program) (t : TypeId) {α : Type} (f : α → Dat) (ok : α → Prop) : Prop :=
  ∀ (H : Type) (enc : TypeId × Value → H) (w : World) (base : Nat) (v : Value) (d : DataW H) (ps : List MemPlace), DataW.Trod enc P w 0 (fun _ => true) true t v d ps → Light P t d → Value.okWide P w .any base t v → ∃ a, ok a ∧ RepD w (fun _ => true) (f a) v
theorem OpensQV.of {f : α → Dat} {ok : α → Prop} (h : OpensV P t f ok) : OpensQV P t f ok := fun H enc w base v d ps hx _ hok => h H enc w base v d ps hx hok
theorem OpensQV.slice {f : α → Dat} {ok : α → Prop} (ht : P.underlying t = some (.slice e)) (h : OpensQ P t (fun a => [f a]) ok) : OpensQV P t f ok := by
  intro H enc w base v d ps ⟨fuel, hf⟩ hw hok
  obtain ⟨a, l, c, rfl⟩ := okWide_slice ht hok
  obtain ⟨a, h1, h2, h3, h4⟩ := h H enc w fuel _ _ hf hw
  exact ⟨a, h1, by simpa [Value.cells] using h4 0 (f a) rfl⟩
theorem OpensQV.struct {fs : Array Field} {f : α → List Dat} {ok : α → Prop} (ht : P.underlying t = some (.struct fs)) (h : OpensQ P t f ok) : OpensQV P t (fun a => .agg (f a)) ok := by
  intro H enc w base v d ps ⟨fuel, hf⟩ hw hok
  obtain ⟨cs, rfl, _⟩ := okWide_struct ht hok
  obtain ⟨a, h1, h2, h3, h4⟩ := h H enc w fuel _ _ hf hw
  refine ⟨a, h1, .agg _ cs (by simpa [Value.cells] using h2.symm) h3 (fun j y hj => by simpa [Value.cells] using h4 j y hj)⟩
def OpensQA (P : Program) (ts : List TypeId) {α : Type} (g : α → List Dat) (ok : α → Prop) : Prop :=
  ∀ (H : Type) (enc : TypeId × Value → H) (w : World) (base : Nat) (vs : List Value) (ds : List (DataW H)) (ps : List MemPlace), DataW.TrodAll enc P w 0 (fun _ => true) true ts vs ds ps → (∀ (j : Nat) t d, ts[j]? = some t → ds[j]? = some d → Light P t d) → (∀ (j : Nat) t v, ts[j]? = some t → vs[j]? = some v → Value.okWide P w .any base t v) →
    ∃ a, ok a ∧ (g a).length = vs.length ∧ ∀ (j : Nat) (y : Dat), (g a)[j]? = some y → RepD w (fun _ => true) y (vs.getD j undef)
theorem OpensQA.nil : OpensQA P [] (fun _ : Unit => []) (fun _ => True) := by
  intro H enc w base vs ds ps h _ _
  obtain ⟨rfl, _, _⟩ := trodAll_nil h
  exact ⟨(), trivial, rfl, by simp⟩
theorem OpensQA.cons {ts : List TypeId} {f : α → Dat} {ok : α → Prop} {g : β → List Dat} {ok' : β → Prop} (h : OpensQV P t f ok) (hs : OpensQA P ts g ok') : OpensQA P (t :: ts) (fun p : α × β => f p.1 :: g p.2) (fun p => ok p.1 ∧ ok' p.2) := by
  intro H enc w base vs ds ps ht hw hok
  obtain ⟨v, vs', d, ds', p, q, rfl, rfl, rfl, h1, h2⟩ := trodAll_cons ht
  obtain ⟨a, h3, h4⟩ := h H enc w base v d p h1 (hw 0 t d rfl rfl) (hok 0 t v rfl rfl)
  obtain ⟨b, h5, h6, h7⟩ := hs H enc w base vs' ds' q h2 (fun j t d hj hd => hw (j + 1) t d (by simpa using hj) (by simpa using hd)) (fun j t v hj hv => hok (j + 1) t v (by simpa using hj) (by simpa using hv))
  refine ⟨(a, b), ⟨h3, h5⟩, by simp [h6], fun j y hj => ?_⟩
  cases j with
  | zero => simp at hj; subst hj; simpa using h4
  | succ j => simpa using h7 j y (by simpa using hj)
end
theorem lifted_laidQ {C : Checked} {f : FuncId} {fn : Func} {s : ChangeSpec} {conds : List PathCond} {tb : TypeId} {os : Os} {H : Type} {enc : TypeId × Value → H} {laid : List (String × DataW Unit)} {Γ : Env} (own : ownKnob C.prog.godebug = none) (started : os.Started) (noInit : C.prog.inits.idxOf? f = none) (hfn : C.prog.funcs[f]? = some fn)
    (laidOut : laidOutB C.prog = true) (hts : ∀ t ∈ fn.params.toList, C.prog.readableRec t = true ∧ t < C.prog.types.size) (hres : fn.resultTypes = #[tb]) (htb : C.prog.underlying tb = some .bool) (hvars : s.vars = [])
    (hspec : ∀ (vs : List Value) (w : World) (ds : List (DataW H)) (ps : List MemPlace), DataW.TrodAll enc C.prog w 0 (fun _ => true) true fn.params.toList vs ds ps → s.fn H ds = { results := [.lit (.bool true)], args := ds })
    (witness : ∃ (w : World) (tape : Tape) (i : Input), w.os = os ∧ (w.forCall tape i).Shaped C.prog ∧ i.vars = [] ∧ Input.okWide C.prog (w.forCall tape i) .any w.heap.size f i ∧
      ((s.pre enc C.prog fn conds false (w.forCall tape i).memory i.args ∧ laidMetH C.prog laid (w.forCall tape i).memory) ∧ sizedMet enc C.prog fn (OpenSpec.ofChange s) false (w.forCall tape i).memory i.args) ∧ ({} : Assume).holds C.prog (lone (Frame.enter C.prog f i.args .normal) [] (w.forCall tape i)))
    (hΓ : ∀ W, laidMetH C.prog laid W → Γ.ok W)
    {α : Type} {g : α → List Dat} {ok : α → Prop} (hop : OpensQA C.prog fn.params.toList g ok) (hA : ∀ a, ok a → ACalls C.prog Γ f (g a) (fun r => r = .d (.bool true))) :
    ReturnsInHanded {} C os f .any (fun w args => (s.pre enc C.prog fn conds false w args ∧ laidMetH C.prog laid w) ∧ sizedMet enc C.prog fn (OpenSpec.ofChange s) false w args) (s.post enc C.prog fn false true false false) := by
  refine returnsInHanded_of_change_and (C := C) (X := fun w _ => laidMetH C.prog laid w) (fun _ _ _ hh h => laidMetH.of_heap hh h) own started noInit hfn witness ?_
  intro W base args ds gs before hval hW _ hwt hL _
  have hW' := hW
  obtain ⟨p, q, hT, hV, rfl, hfz, hnd⟩ := hW
  rw [hvars] at hV
  obtain ⟨rfl, rfl⟩ := trodVars_none hV
  obtain ⟨a, ha, hlen, hrep⟩ := hop H enc W base args.toList ds p hT (fun j t d hj hd n hn => of_decide_eq_true (List.all_eq_true.1 hwt n (DataW.weights_mem_each (j := j) (by rw [List.getElem?_append_left (List.getElem?_eq_some_iff.1 hj).1]; exact hj) (by rw [List.append_nil]; exact hd) n hn))) (fun j t v hj hv => hval j t v (by simpa using hj) (by simpa using hv))
  refine ((hA a ha).2 W (fun _ => true) args (hΓ W hL) (by simpa using hlen.symm) (fun j x hj => by simpa using hrep j x hj)).mono fun e W' ⟨v, r, he, bel, hrr, hr⟩ => ?_
  subst he
  subst hr
  have hv : v = .bool true := by
    cases hrr
    rfl
  subst hv
  obtain ⟨pa, hpa⟩ := trodAll_stay laidOut bel hts hT
  refine ⟨_, rfl, ds, [], p ++ [], [], pa, [], hW', ?_, ?_, ?_, bel.frame _, fun h => by cases h⟩
  · rw [List.append_nil, hspec _ _ _ _ hT, hres]
    exact trodAll_mk1 ⟨1, by simp [DataW.trod, Value.cells, htb]⟩
  · rw [List.append_nil, hspec _ _ _ _ hT]
    exact hpa
  · rw [List.append_nil, hspec _ _ _ _ hT, hvars]
    exact rfl
end Go.Am

/- What the laws of object identifiers are handed, opened as data. -/
namespace Go.Proofs.YtdihjpmdmfmbiaaGreatDoor
open Go.Am Go.ChangeShapes Go.WideShapes Go.ChangeAt Go.RowKit
set_option linter.unusedSimpArgs false
set_option linter.unusedVariables false

theorem open_bytes : OpensV Tryz.prog 22 (fun l : List UInt8 => .sl none (bys l)) (fun l => l.length ≤ maxLen) := OpensV.bytes Tryz.underlying22 Tryz.underlying5 (by kernel_rfl)
theorem open_u8 : OpensV Tryz.prog 5 (fun n : UInt8 => by1 n) (fun _ => True) := OpensV.u8 Tryz.underlying5
theorem OpensV.map {P : Program} {t : TypeId} {α β : Type} {f : α → Dat} {ok : α → Prop} {f' : β → Dat} {ok' : β → Prop} (h : OpensV P t f ok) (g : α → β) (hf : ∀ a, f' (g a) = f a) (hk : ∀ a, ok a → ok' (g a)) : OpensV P t f' ok' := fun H enc w base v d ps ht hok => by
  obtain ⟨a, h1, h2⟩ := h H enc w base v d ps ht hok
  exact ⟨g a, hk a h1, by rw [hf]; exact h2⟩
theorem read_all {ts : List TypeId} (h : ts.all (fun t => Tryz.prog.readableRec t && decide (t < Tryz.prog.types.size)) = true) : ∀ t ∈ ts, Tryz.prog.readableRec t = true ∧ t < Tryz.prog.types.size := by
  intro t ht
  have := List.all_eq_true.1 h t ht
  simpa using this
theorem wf_u16 {n : Int} (h : (Lit.int .u16 n).wf = true) : 0 ≤ n ∧ n ≤ 65535 := by
  simp [Lit.wf, IntKind.min, IntKind.max, IntKind.signed, IntKind.bits] at h
  omega
theorem open_u16 : OpensV Tryz.prog 40 (fun n : Int => .int .u16 n) (fun n => 0 ≤ n ∧ n ≤ 65535) :=
  OpensV.map (OpensV.int Tryz.underlying40) (fun n => n) (fun _ => rfl) (fun n h => wf_u16 h)
end Go.Proofs.YtdihjpmdmfmbiaaGreatDoor

/- What the laws of algorithm identifiers and public keys are handed, opened as data. -/
namespace Go.Proofs.YtdihjpmdmfmbiaaGreatDoor
open Go.Am Go.ChangeShapes Go.WideShapes Go.ChangeAt Go.RowKit
set_option linter.unusedSimpArgs false
set_option linter.unusedVariables false

def alg2 (p : ByteArray × List UInt8) : List Dat := [.str p.1] ++ [.sl none (bys p.2)]
def alg2X (p : ByteArray × List UInt8) : Alg := ⟨p.1.data.toList, p.2⟩
theorem alg2_agD (p : ByteArray × List UInt8) : agD (alg2X p) = .agg (alg2 p) := by
  obtain ⟨s, l⟩ := p
  show Dat.agg [.str (bA s.data.toList), .sl none (bys l)] = _
  rw [← bA_of]
  rfl
set_option maxRecDepth 100000 in
theorem open_alg2 : OpensQ Tryz.prog 24 alg2 (fun p => p.1.size ≤ reachBytes ∧ p.2.length ≤ reachBytes) :=
  OpensQ.struct Tryz.underlying24 (by intro a; rfl)
    (OpensQF.cons (sz := 1) rfl (fun _ => rfl) (OpensQ.str Tryz.underlying9) (OpensQF.one (sz := 1) rfl (OpensQ.bytes Tryz.underlying22 Tryz.underlying5 (by kernel_rfl) (by decide +kernel))))
set_option maxRecDepth 100000 in
theorem open_alg : OpensQV Tryz.prog 24 agD (fun _ => True) := fun H enc w base v d ps hx hl hok => by
  obtain ⟨a, _, h2⟩ := OpensQV.struct Tryz.underlying24 open_alg2 H enc w base v d ps hx hl hok
  exact ⟨alg2X a, trivial, by rw [alg2_agD]; exact h2⟩
def bits2 (p : List UInt8 × Int) : List Dat := [.sl none (bys p.1)] ++ [.int .i64 p.2]
set_option maxRecDepth 100000 in
theorem open_bits2 : OpensQ Tryz.prog 44 bits2 (fun p => p.1.length ≤ reachBytes ∧ (Lit.int .i64 p.2).wf = true) :=
  OpensQ.struct Tryz.underlying44 (by intro a; rfl)
    (OpensQF.cons (sz := 1) rfl (fun _ => rfl) (OpensQ.bytes Tryz.underlying22 Tryz.underlying5 (by kernel_rfl) (by decide +kernel)) (OpensQF.one (sz := 1) rfl (OpensQ.of (Opens.int Tryz.underlying3))))
def key4 (p : (ByteArray × List UInt8) × (List UInt8 × Int)) : List Dat := alg2 p.1 ++ bits2 p.2
def key4X (p : (ByteArray × List UInt8) × (List UInt8 × Int)) : PKey := ⟨alg2X p.1, p.2.1, p.2.2⟩
theorem key4_akD (p : (ByteArray × List UInt8) × (List UInt8 × Int)) : akD (key4X p) = .agg (key4 p) := by
  obtain ⟨⟨s, l⟩, x, u⟩ := p
  show Dat.agg [.str (bA s.data.toList), .sl none (bys l), .sl none (bys x), .int .i64 u] = _
  rw [← bA_of]
  rfl
set_option maxRecDepth 100000 in
theorem open_key4 : OpensQ Tryz.prog 46 (fun p : (ByteArray × List UInt8) × (List UInt8 × Int) => alg2 p.1 ++ bits2 p.2) (fun p => (p.1.1.size ≤ reachBytes ∧ p.1.2.length ≤ reachBytes) ∧ (p.2.1.length ≤ reachBytes ∧ (Lit.int .i64 p.2.2).wf = true)) :=
  OpensQ.struct Tryz.underlying46 (by intro a; rfl)
    (OpensQF.cons (f := alg2) (g := bits2) (ok := fun p => p.1.size ≤ reachBytes ∧ p.2.length ≤ reachBytes) (ok' := fun p => p.1.length ≤ reachBytes ∧ (Lit.int .i64 p.2).wf = true) (sz := 2) rfl (fun _ => rfl) open_alg2 (OpensQF.one (sz := 2) rfl open_bits2))
set_option maxRecDepth 100000 in
theorem open_key : OpensQV Tryz.prog 46 akD (fun _ => True) := fun H enc w base v d ps hx hl hok => by
  obtain ⟨a, _, h2⟩ := OpensQV.struct Tryz.underlying46 open_key4 H enc w base v d ps hx hl hok
  exact ⟨key4X a, trivial, by rw [key4_akD]; exact h2⟩
end Go.Proofs.YtdihjpmdmfmbiaaGreatDoor
