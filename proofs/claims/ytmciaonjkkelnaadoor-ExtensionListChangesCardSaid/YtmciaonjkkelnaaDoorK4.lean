/- Part 4 of the texts of this proof: an abstract machine for walks, the walks of the functions, plain laws. Each part says in its own first lines what is proved there. -/
import Derived.Test.YtmciaonjkkelnaaDoorK3
import Derived.MapKept

/- Elements in a row, and in a constructed element: List and Parts of package element. Walked by the abstract machine. -/
namespace Go.Proofs.YtmciaonjkkelnaaDoor
open Go.Am
set_option linter.unusedSimpArgs false
set_option linter.unusedVariables false
-- withAmZ

def els (l : List El) : List Dat := l.map elD
theorem els_len (l : List El) : (els l).length = l.length := by simp [els]
theorem els_app (a b : List El) : els (a ++ b) = els a ++ els b := by simp [els]
def preX (acc : List El) : Ex (List El) → Ex (List El)
  | .bad c o => .bad c o
  | .ok l => .ok (acc ++ l)
def elsR : Ex (List El) → Res
  | .bad c o => .d (.tup [.sl (some 6) [], errD c o])
  | .ok l => .ownT (some 6) 69 (els l) [errD 0 0]
theorem isEList : IsFn Tryd.prog 56 Tryd.f56 := ⟨Tryd.func56, by decide, rfl⟩
set_option maxHeartbeats 4000000 in
set_option maxRecDepth 100000 in
theorem c_elist (Γ : Env) (b : List UInt8) (i j : Nat) (hb : b.length ≤ 1099511627) (hij : i ≤ j) (hj : j ≤ b.length) : ACalls Tryd.prog Γ 56 [.sl none (bys b), .int .i64 i, .int .i64 j] (fun r => r = elsR (lsF b i j)) := by
  refine acalls_of ty_ok isEList rfl rfl ?_
  repeat' (first | ((with_reducible show AWp _ _ _ _ _); (first | refine awp_seq ?_ | refine awp_block ?_ | refine awp_skip ?_ | refine awp_exit ?_ | refine awp_scope ?_ | refine awp_label ?_ | refine awp_run ty_ok rfl sd ?_ | refine awp_ret ⟨_, _, rfl, rfl, ?_⟩ | refine awp_ret ⟨_, rfl, ?_⟩ | ((refine awp_cond (ty := ty) rfl (fun hc => ?_) (fun hc => ?_)) <;> (try simp only [nms, reduceCtorEq] at hc) <;> (try (exfalso; omega))))) | ((with_reducible show AOps _ _ _ _ _ _); (first | refine aops_nil ?_ | refine aops_go ty_ok rfl rfl sd ?_ | refine aops_gate ty_ok rfl rfl rfl sd ?_ | refine aops_litE ty_ok rfl rfl rfl rfl rfl rfl rfl rfl rfl rfl rfl rfl ?_ | refine aops_litA ty_ok rfl rfl rfl rfl rfl rfl rfl rfl rfl rfl rfl rfl rfl rfl rfl rfl ?_ | refine aops_buildArr ty_ok rfl rfl rfl rfl rfl rfl rfl rfl rfl rfl ?_ | refine aops_indexArr ty_ok rfl rfl rfl rfl rfl rfl rfl rfl rfl rfl sd ?_ | refine aops_cutE ty_ok rfl rfl rfl rfl rfl rfl rfl rfl rfl sd rfl ?_ | ((fail_if_success (refine aops_known rfl ?_)); (refine aops_split ty_ok rfl rfl rfl rfl rfl rfl (fun hc => ⟨?_, ?_⟩) (fun hc => ⟨?_, ?_⟩)) <;> (try simp only [nms, reduceCtorEq] at hc) <;> (try (exfalso; omega)) <;> (try exact sd)))) | ((fail_if_success (with_reducible show AWp _ _ _ _ _)); (fail_if_success (with_reducible show AOps _ _ _ _ _ _)); (first | (show AWp _ _ _ _ _) | (show AOps _ _ _ _ _ _))))
  refine awp_nilrow 8 69 rfl ?_
  refine awp_loopR (G := { p : List El × Nat // p.2 ≤ j ∧ p.1.length ≤ p.2 ∧ ∃ k, j - p.2 ≤ k ∧ lsF b i j = preX p.1 (lsT b j k p.2) }) (fun p => ⟨Tryd.f56.ntmps, [(0, .d (.sl none (bys b))), (2, .d (.int .i64 j)), (7, .ptr 0 0), (8, .ref 1), (9, .d (.int .i64 p.1.2))], [(0, .box 42 [.d (.int .i64 0), .d (.int .i64 0)]), (1, .row (some 6) 69 (els p.1.1))], 2⟩) (fun p => j - p.1.2) ⟨([], i), hij, Nat.zero_le _, j - i, Nat.le_refl _, by
      unfold lsF
      cases lsT b j (j - i) i <;> rfl⟩ [(0, 0), (1, 1)]
    (SubR.mk' rfl rfl ⟨⟨_, rfl, rfl⟩, ⟨_, rfl, rfl⟩, ⟨_, rfl, rfl⟩, ⟨_, rfl, rfl⟩, ⟨_, rfl, rfl⟩, trivial⟩ ⟨⟨_, _, rfl, rfl, rfl⟩, ⟨_, _, rfl, rfl, rfl⟩, trivial⟩) ?_
  rintro ⟨⟨acc, q⟩, hq, hacc, k, hk, hl⟩
  dsimp only at hq hacc hk hl ⊢
  by_cases h : q < j
  · obtain ⟨k, rfl⟩ : ∃ k', k = k' + 1 := ⟨k - 1, by omega⟩
    rw [lsT, if_pos h] at hl
    have hel : (els acc).length ≤ 1099511627 := by rw [els_len]; omega
    cases hn : nxF b q j with
    | bad c o =>
      rw [hn] at hl
      have hc1 := c_next_at (Γ.at 0) b q j (by omega) hq hj hn
      have := nx_bad hq hj hn
      repeat' (first | ((with_reducible show AWp _ _ _ _ _); (first | refine awp_seq ?_ | refine awp_block ?_ | refine awp_skip ?_ | refine awp_exit ?_ | refine awp_scope ?_ | refine awp_label ?_ | refine awp_run ty_ok rfl sd ?_ | refine awp_ret ⟨_, _, rfl, rfl, ?_⟩ | refine awp_ret ⟨_, rfl, ?_⟩ | ((refine awp_cond (ty := ty) rfl (fun hc => ?_) (fun hc => ?_)) <;> (try simp only [nms, reduceCtorEq] at hc) <;> (try (exfalso; omega))) | refine awp_anyL 2 mixed rfl (by kernel_rfl) ?_)) | ((with_reducible show AOps _ _ _ _ _ _); (first | refine aops_nil ?_ | refine aops_go ty_ok rfl rfl sd ?_ | refine aops_gate ty_ok rfl rfl rfl sd ?_ | refine aops_callE (ty := ty) rfl rfl rfl rfl rfl rfl rfl (hc1) rfl ?_ | refine aops_litE ty_ok rfl rfl rfl rfl rfl rfl rfl rfl rfl rfl rfl rfl ?_ | refine aops_litA ty_ok rfl rfl rfl rfl rfl rfl rfl rfl rfl rfl rfl rfl rfl rfl rfl rfl ?_ | refine aops_buildArr ty_ok rfl rfl rfl rfl rfl rfl rfl rfl rfl rfl ?_ | refine aops_indexArr ty_ok rfl rfl rfl rfl rfl rfl rfl rfl rfl rfl sd ?_ | refine aops_cutE ty_ok rfl rfl rfl rfl rfl rfl rfl rfl rfl sd rfl ?_ | ((fail_if_success (refine aops_known rfl ?_)); (refine aops_split ty_ok rfl rfl rfl rfl rfl rfl (fun hc => ⟨?_, ?_⟩) (fun hc => ⟨?_, ?_⟩)) <;> (try simp only [nms, reduceCtorEq] at hc) <;> (try (exfalso; omega)) <;> (try exact sd)))) | ((with_reducible show HeadT _ _ _ _ _ _ _ _ _ _); (first | refine head_end ?_ | refine head_goP ty_ok rfl rfl sd ?_ | refine head_gate ty_ok rfl rfl rfl sd ?_ | refine head_callE (ty := ty) rfl rfl rfl rfl rfl rfl rfl (hc1) rfl ?_ | ((fail_if_success (refine head_known rfl ?_)); (refine head_split ty_ok rfl rfl rfl rfl (fun hc => ⟨?_, ?_⟩) (fun hc => ⟨?_, ?_⟩)) <;> (try simp only [nms, reduceCtorEq] at hc) <;> (try (exfalso; omega)) <;> (try exact sd)))) | ((fail_if_success (with_reducible show AWp _ _ _ _ _)); (fail_if_success (with_reducible show AOps _ _ _ _ _ _)); (fail_if_success (with_reducible show HeadT _ _ _ _ _ _ _ _ _ _)); (first | (show AWp _ _ _ _ _) | (show AOps _ _ _ _ _ _))))
      rw [hl]
      rfl
    | ok e =>
      rw [hn] at hl
      simp only at hl
      have hc1 := c_next_at (Γ.at 0) b q j (by omega) hq hj hn
      obtain ⟨c, g1, g2, g3, g4, g5, g6, g7⟩ := nx_ok hq hj hn
      have hz := hsz_ge c
      have hen : e.en = q + hsz c + c.length := by rw [g4]
      repeat' (first | ((with_reducible show AWp _ _ _ _ _); (first | refine awp_seq ?_ | refine awp_block ?_ | refine awp_skip ?_ | refine awp_exit ?_ | refine awp_scope ?_ | refine awp_label ?_ | refine awp_run ty_ok rfl sd ?_ | refine awp_ret ⟨_, _, rfl, rfl, ?_⟩ | refine awp_ret ⟨_, rfl, ?_⟩ | ((refine awp_cond (ty := ty) rfl (fun hc => ?_) (fun hc => ?_)) <;> (try simp only [nms, reduceCtorEq] at hc) <;> (try (exfalso; omega))) | refine awp_anyL 2 mixed rfl (by kernel_rfl) ?_)) | ((with_reducible show AOps _ _ _ _ _ _); (first | refine aops_nil ?_ | refine aops_go ty_ok rfl rfl sd ?_ | refine aops_gate ty_ok rfl rfl rfl sd ?_ | refine aops_callE (ty := ty) rfl rfl rfl rfl rfl rfl rfl (hc1) rfl ?_ | refine aops_litE ty_ok rfl rfl rfl rfl rfl rfl rfl rfl rfl rfl rfl rfl ?_ | refine aops_litA ty_ok rfl rfl rfl rfl rfl rfl rfl rfl rfl rfl rfl rfl rfl rfl rfl rfl ?_ | refine aops_buildArr ty_ok rfl rfl rfl rfl rfl rfl rfl rfl rfl rfl ?_ | refine aops_indexArr ty_ok rfl rfl rfl rfl rfl rfl rfl rfl rfl rfl sd ?_ | refine aops_cutE ty_ok rfl rfl rfl rfl rfl rfl rfl rfl rfl sd rfl ?_ | ((fail_if_success (refine aops_known rfl ?_)); (refine aops_split ty_ok rfl rfl rfl rfl rfl rfl (fun hc => ⟨?_, ?_⟩) (fun hc => ⟨?_, ?_⟩)) <;> (try simp only [nms, reduceCtorEq] at hc) <;> (try (exfalso; omega)) <;> (try exact sd)))) | ((with_reducible show HeadT _ _ _ _ _ _ _ _ _ _); (first | refine head_end ?_ | refine head_goP ty_ok rfl rfl sd ?_ | refine head_gate ty_ok rfl rfl rfl sd ?_ | refine head_callE (ty := ty) rfl rfl rfl rfl rfl rfl rfl (hc1) rfl ?_ | ((fail_if_success (refine head_known rfl ?_)); (refine head_split ty_ok rfl rfl rfl rfl (fun hc => ⟨?_, ?_⟩) (fun hc => ⟨?_, ?_⟩)) <;> (try simp only [nms, reduceCtorEq] at hc) <;> (try (exfalso; omega)) <;> (try exact sd)))) | ((fail_if_success (with_reducible show AWp _ _ _ _ _)); (fail_if_success (with_reducible show AOps _ _ _ _ _ _)); (fail_if_success (with_reducible show HeadT _ _ _ _ _ _ _ _ _ _)); (first | (show AWp _ _ _ _ _) | (show AOps _ _ _ _ _ _))))
      refine ⟨⟨(acc ++ [e], e.en), by simp only; omega, by simp; omega, k, by simp only; omega, ?_⟩, [(0, 0), (5, 1)], SubR.mk' rfl rfl ⟨⟨_, rfl, rfl⟩, ⟨_, rfl, rfl⟩, ⟨_, rfl, rfl⟩, ⟨_, rfl, rfl⟩, ⟨_, rfl, rfl⟩, trivial⟩ ⟨⟨_, _, rfl, rfl, rfl⟩, ⟨_, _, rfl, rfl, congrArg (AO.row (some 6) 69) ?_⟩, trivial⟩, by simp only; omega⟩
      · rw [hl]
        simp only
        cases lsT b j k e.en with
        | bad c o => rfl
        | ok l => simp [preX]
      · rw [els_app]
        rfl
  · repeat' (first | ((with_reducible show AWp _ _ _ _ _); (first | refine awp_seq ?_ | refine awp_block ?_ | refine awp_skip ?_ | refine awp_exit ?_ | refine awp_scope ?_ | refine awp_label ?_ | refine awp_run ty_ok rfl sd ?_ | refine awp_ret ⟨_, _, rfl, rfl, ?_⟩ | refine awp_ret ⟨_, rfl, ?_⟩ | ((refine awp_cond (ty := ty) rfl (fun hc => ?_) (fun hc => ?_)) <;> (try simp only [nms, reduceCtorEq] at hc) <;> (try (exfalso; omega))))) | ((with_reducible show AOps _ _ _ _ _ _); (first | refine aops_nil ?_ | refine aops_go ty_ok rfl rfl sd ?_ | refine aops_gate ty_ok rfl rfl rfl sd ?_ | refine aops_litE ty_ok rfl rfl rfl rfl rfl rfl rfl rfl rfl rfl rfl rfl ?_ | refine aops_litA ty_ok rfl rfl rfl rfl rfl rfl rfl rfl rfl rfl rfl rfl rfl rfl rfl rfl ?_ | refine aops_buildArr ty_ok rfl rfl rfl rfl rfl rfl rfl rfl rfl rfl ?_ | refine aops_indexArr ty_ok rfl rfl rfl rfl rfl rfl rfl rfl rfl rfl sd ?_ | refine aops_cutE ty_ok rfl rfl rfl rfl rfl rfl rfl rfl rfl sd rfl ?_ | ((fail_if_success (refine aops_known rfl ?_)); (refine aops_split ty_ok rfl rfl rfl rfl rfl rfl (fun hc => ⟨?_, ?_⟩) (fun hc => ⟨?_, ?_⟩)) <;> (try simp only [nms, reduceCtorEq] at hc) <;> (try (exfalso; omega)) <;> (try exact sd)))) | ((fail_if_success (with_reducible show AWp _ _ _ _ _)); (fail_if_success (with_reducible show AOps _ _ _ _ _ _)); (first | (show AWp _ _ _ _ _) | (show AOps _ _ _ _ _ _))))
    have hz : lsT b j k q = .ok [] := by
      cases k with
      | zero => rfl
      | succ k => rw [lsT, if_neg h]
    rw [hl, hz]
    simp [preX, elsR]
    rfl
theorem c_elist_at (Γ : Env) (b : List UInt8) (i j : Nat) (hb : b.length ≤ 1099511627) (hij : i ≤ j) (hj : j ≤ b.length) {v : Ex (List El)} (h : lsF b i j = v) : ACalls Tryd.prog Γ 56 [.sl none (bys b), .int .i64 i, .int .i64 j] (fun r => r = elsR v) := by
  subst h
  exact c_elist Γ b i j hb hij hj
theorem isParts : IsFn Tryd.prog 41 Tryd.f41 := ⟨Tryd.func41, by decide, rfl⟩
set_option maxHeartbeats 4000000 in
theorem c_parts (Γ : Env) (b : List UInt8) (cls num : Nat) (hb : b.length ≤ 1099511627) : ACalls Tryd.prog Γ 41 [.sl none (bys b), .int .i64 cls, .int .i64 num] (fun r => r = elsR (ptF b cls num)) := by
  refine acalls_of ty_ok isParts rfl rfl ?_
  rw [ptF]
  cases ho : onF b with
  | bad c o =>
    have hc1 := c_one_at (Γ.at 0) b (by omega) ho
    have := on_bad ho
    repeat' (first | ((with_reducible show AWp _ _ _ _ _); (first | refine awp_seq ?_ | refine awp_block ?_ | refine awp_skip ?_ | refine awp_exit ?_ | refine awp_scope ?_ | refine awp_label ?_ | refine awp_run ty_ok rfl sd ?_ | refine awp_ret ⟨_, _, rfl, rfl, ?_⟩ | refine awp_ret ⟨_, rfl, ?_⟩ | ((refine awp_cond (ty := ty) rfl (fun hc => ?_) (fun hc => ?_)) <;> (try simp only [nms, reduceCtorEq] at hc) <;> (try (exfalso; omega))) | refine awp_anyL 2 mixed rfl (by kernel_rfl) ?_)) | ((with_reducible show AOps _ _ _ _ _ _); (first | refine aops_nil ?_ | refine aops_go ty_ok rfl rfl sd ?_ | refine aops_gate ty_ok rfl rfl rfl sd ?_ | refine aops_callE (ty := ty) rfl rfl rfl rfl rfl rfl rfl (hc1) rfl ?_ | refine aops_litE ty_ok rfl rfl rfl rfl rfl rfl rfl rfl rfl rfl rfl rfl ?_ | refine aops_litA ty_ok rfl rfl rfl rfl rfl rfl rfl rfl rfl rfl rfl rfl rfl rfl rfl rfl ?_ | refine aops_buildArr ty_ok rfl rfl rfl rfl rfl rfl rfl rfl rfl rfl ?_ | refine aops_indexArr ty_ok rfl rfl rfl rfl rfl rfl rfl rfl rfl rfl sd ?_ | refine aops_cutE ty_ok rfl rfl rfl rfl rfl rfl rfl rfl rfl sd rfl ?_ | ((fail_if_success (refine aops_known rfl ?_)); (refine aops_split ty_ok rfl rfl rfl rfl rfl rfl (fun hc => ⟨?_, ?_⟩) (fun hc => ⟨?_, ?_⟩)) <;> (try simp only [nms, reduceCtorEq] at hc) <;> (try (exfalso; omega)) <;> (try exact sd)))) | ((with_reducible show HeadT _ _ _ _ _ _ _ _ _ _); (first | refine head_end ?_ | refine head_goP ty_ok rfl rfl sd ?_ | refine head_gate ty_ok rfl rfl rfl sd ?_ | refine head_callE (ty := ty) rfl rfl rfl rfl rfl rfl rfl (hc1) rfl ?_ | ((fail_if_success (refine head_known rfl ?_)); (refine head_split ty_ok rfl rfl rfl rfl (fun hc => ⟨?_, ?_⟩) (fun hc => ⟨?_, ?_⟩)) <;> (try simp only [nms, reduceCtorEq] at hc) <;> (try (exfalso; omega)) <;> (try exact sd)))) | ((fail_if_success (with_reducible show AWp _ _ _ _ _)); (fail_if_success (with_reducible show AOps _ _ _ _ _ _)); (fail_if_success (with_reducible show HeadT _ _ _ _ _ _ _ _ _ _)); (first | (show AWp _ _ _ _ _) | (show AOps _ _ _ _ _ _))))
    rfl
  | ok e =>
    have hc1 := c_one_at (Γ.at 0) b (by omega) ho
    obtain ⟨c, _, _, _, _, _, h6, h7⟩ := on_ok ho
    simp only
    cases hi : isB e.x cls true num with
    | false =>
      rw [if_neg (by simp)]
      repeat' (first | ((with_reducible show AWp _ _ _ _ _); (first | refine awp_seq ?_ | refine awp_block ?_ | refine awp_skip ?_ | refine awp_exit ?_ | refine awp_scope ?_ | refine awp_label ?_ | refine awp_run ty_ok rfl sd ?_ | refine awp_ret ⟨_, _, rfl, rfl, ?_⟩ | refine awp_ret ⟨_, rfl, ?_⟩ | ((refine awp_cond (ty := ty) rfl (fun hc => ?_) (fun hc => ?_)) <;> (try simp only [nms, reduceCtorEq] at hc) <;> (try (exfalso; omega))) | refine awp_anyL 2 mixed rfl (by kernel_rfl) ?_)) | ((with_reducible show AOps _ _ _ _ _ _); (first | refine aops_nil ?_ | refine aops_go ty_ok rfl rfl sd ?_ | refine aops_gate ty_ok rfl rfl rfl sd ?_ | refine aops_callE (ty := ty) rfl rfl rfl rfl rfl rfl rfl (hc1) rfl ?_ | refine aops_callE (ty := ty) rfl rfl rfl rfl rfl rfl rfl (c_is_at _ e cls num true hi) rfl ?_ | refine aops_litE ty_ok rfl rfl rfl rfl rfl rfl rfl rfl rfl rfl rfl rfl ?_ | refine aops_litA ty_ok rfl rfl rfl rfl rfl rfl rfl rfl rfl rfl rfl rfl rfl rfl rfl rfl ?_ | refine aops_buildArr ty_ok rfl rfl rfl rfl rfl rfl rfl rfl rfl rfl ?_ | refine aops_indexArr ty_ok rfl rfl rfl rfl rfl rfl rfl rfl rfl rfl sd ?_ | refine aops_cutE ty_ok rfl rfl rfl rfl rfl rfl rfl rfl rfl sd rfl ?_ | ((fail_if_success (refine aops_known rfl ?_)); (refine aops_split ty_ok rfl rfl rfl rfl rfl rfl (fun hc => ⟨?_, ?_⟩) (fun hc => ⟨?_, ?_⟩)) <;> (try simp only [nms, reduceCtorEq] at hc) <;> (try (exfalso; omega)) <;> (try exact sd)))) | ((with_reducible show HeadT _ _ _ _ _ _ _ _ _ _); (first | refine head_end ?_ | refine head_goP ty_ok rfl rfl sd ?_ | refine head_gate ty_ok rfl rfl rfl sd ?_ | refine head_callE (ty := ty) rfl rfl rfl rfl rfl rfl rfl (hc1) rfl ?_ | refine head_callE (ty := ty) rfl rfl rfl rfl rfl rfl rfl (c_is_at _ e cls num true hi) rfl ?_ | ((fail_if_success (refine head_known rfl ?_)); (refine head_split ty_ok rfl rfl rfl rfl (fun hc => ⟨?_, ?_⟩) (fun hc => ⟨?_, ?_⟩)) <;> (try simp only [nms, reduceCtorEq] at hc) <;> (try (exfalso; omega)) <;> (try exact sd)))) | ((fail_if_success (with_reducible show AWp _ _ _ _ _)); (fail_if_success (with_reducible show AOps _ _ _ _ _ _)); (fail_if_success (with_reducible show HeadT _ _ _ _ _ _ _ _ _ _)); (first | (show AWp _ _ _ _ _) | (show AOps _ _ _ _ _ _))))
      rfl
    | true =>
      rw [if_pos rfl]
      cases hl : lsF b e.bd e.en with
      | bad c o =>
        have hc2 := c_elist_at (Γ.at 0) b e.bd e.en hb h6 (by omega) hl
        repeat' (first | ((with_reducible show AWp _ _ _ _ _); (first | refine awp_seq ?_ | refine awp_block ?_ | refine awp_skip ?_ | refine awp_exit ?_ | refine awp_scope ?_ | refine awp_label ?_ | refine awp_run ty_ok rfl sd ?_ | refine awp_ret ⟨_, _, rfl, rfl, ?_⟩ | refine awp_ret ⟨_, rfl, ?_⟩ | ((refine awp_cond (ty := ty) rfl (fun hc => ?_) (fun hc => ?_)) <;> (try simp only [nms, reduceCtorEq] at hc) <;> (try (exfalso; omega))) | refine awp_anyL 2 mixed rfl (by kernel_rfl) ?_)) | ((with_reducible show AOps _ _ _ _ _ _); (first | refine aops_nil ?_ | refine aops_go ty_ok rfl rfl sd ?_ | refine aops_gate ty_ok rfl rfl rfl sd ?_ | refine aops_callE (ty := ty) rfl rfl rfl rfl rfl rfl rfl (hc1) rfl ?_ | refine aops_callE (ty := ty) rfl rfl rfl rfl rfl rfl rfl (c_is_at _ e cls num true hi) rfl ?_ | refine aops_callE (ty := ty) rfl rfl rfl rfl rfl rfl rfl (hc2) rfl ?_ | refine aops_litE ty_ok rfl rfl rfl rfl rfl rfl rfl rfl rfl rfl rfl rfl ?_ | refine aops_litA ty_ok rfl rfl rfl rfl rfl rfl rfl rfl rfl rfl rfl rfl rfl rfl rfl rfl ?_ | refine aops_buildArr ty_ok rfl rfl rfl rfl rfl rfl rfl rfl rfl rfl ?_ | refine aops_indexArr ty_ok rfl rfl rfl rfl rfl rfl rfl rfl rfl rfl sd ?_ | refine aops_cutE ty_ok rfl rfl rfl rfl rfl rfl rfl rfl rfl sd rfl ?_ | ((fail_if_success (refine aops_known rfl ?_)); (refine aops_split ty_ok rfl rfl rfl rfl rfl rfl (fun hc => ⟨?_, ?_⟩) (fun hc => ⟨?_, ?_⟩)) <;> (try simp only [nms, reduceCtorEq] at hc) <;> (try (exfalso; omega)) <;> (try exact sd)))) | ((with_reducible show HeadT _ _ _ _ _ _ _ _ _ _); (first | refine head_end ?_ | refine head_goP ty_ok rfl rfl sd ?_ | refine head_gate ty_ok rfl rfl rfl sd ?_ | refine head_callE (ty := ty) rfl rfl rfl rfl rfl rfl rfl (hc1) rfl ?_ | refine head_callE (ty := ty) rfl rfl rfl rfl rfl rfl rfl (c_is_at _ e cls num true hi) rfl ?_ | refine head_callE (ty := ty) rfl rfl rfl rfl rfl rfl rfl (hc2) rfl ?_ | ((fail_if_success (refine head_known rfl ?_)); (refine head_split ty_ok rfl rfl rfl rfl (fun hc => ⟨?_, ?_⟩) (fun hc => ⟨?_, ?_⟩)) <;> (try simp only [nms, reduceCtorEq] at hc) <;> (try (exfalso; omega)) <;> (try exact sd)))) | ((fail_if_success (with_reducible show AWp _ _ _ _ _)); (fail_if_success (with_reducible show AOps _ _ _ _ _ _)); (fail_if_success (with_reducible show HeadT _ _ _ _ _ _ _ _ _ _)); (first | (show AWp _ _ _ _ _) | (show AOps _ _ _ _ _ _))))
        rfl
      | ok l =>
        have hc2 := c_elist_at (Γ.at 0) b e.bd e.en hb h6 (by omega) hl
        repeat' (first | ((with_reducible show AWp _ _ _ _ _); (first | refine awp_seq ?_ | refine awp_block ?_ | refine awp_skip ?_ | refine awp_exit ?_ | refine awp_scope ?_ | refine awp_label ?_ | refine awp_run ty_ok rfl sd ?_ | refine awp_ret ⟨_, _, rfl, rfl, ?_⟩ | refine awp_ret ⟨_, rfl, ?_⟩ | ((refine awp_cond (ty := ty) rfl (fun hc => ?_) (fun hc => ?_)) <;> (try simp only [nms, reduceCtorEq] at hc) <;> (try (exfalso; omega))) | refine awp_anyL 2 mixed rfl (by kernel_rfl) ?_)) | ((with_reducible show AOps _ _ _ _ _ _); (first | refine aops_nil ?_ | refine aops_go ty_ok rfl rfl sd ?_ | refine aops_gate ty_ok rfl rfl rfl sd ?_ | refine aops_callE (ty := ty) rfl rfl rfl rfl rfl rfl rfl (hc1) rfl ?_ | refine aops_callE (ty := ty) rfl rfl rfl rfl rfl rfl rfl (c_is_at _ e cls num true hi) rfl ?_ | refine aops_callE (ty := ty) rfl rfl rfl rfl rfl rfl rfl (hc2) rfl ?_ | refine aops_litE ty_ok rfl rfl rfl rfl rfl rfl rfl rfl rfl rfl rfl rfl ?_ | refine aops_litA ty_ok rfl rfl rfl rfl rfl rfl rfl rfl rfl rfl rfl rfl rfl rfl rfl rfl ?_ | refine aops_buildArr ty_ok rfl rfl rfl rfl rfl rfl rfl rfl rfl rfl ?_ | refine aops_indexArr ty_ok rfl rfl rfl rfl rfl rfl rfl rfl rfl rfl sd ?_ | refine aops_cutE ty_ok rfl rfl rfl rfl rfl rfl rfl rfl rfl sd rfl ?_ | ((fail_if_success (refine aops_known rfl ?_)); (refine aops_split ty_ok rfl rfl rfl rfl rfl rfl (fun hc => ⟨?_, ?_⟩) (fun hc => ⟨?_, ?_⟩)) <;> (try simp only [nms, reduceCtorEq] at hc) <;> (try (exfalso; omega)) <;> (try exact sd)))) | ((with_reducible show HeadT _ _ _ _ _ _ _ _ _ _); (first | refine head_end ?_ | refine head_goP ty_ok rfl rfl sd ?_ | refine head_gate ty_ok rfl rfl rfl sd ?_ | refine head_callE (ty := ty) rfl rfl rfl rfl rfl rfl rfl (hc1) rfl ?_ | refine head_callE (ty := ty) rfl rfl rfl rfl rfl rfl rfl (c_is_at _ e cls num true hi) rfl ?_ | refine head_callE (ty := ty) rfl rfl rfl rfl rfl rfl rfl (hc2) rfl ?_ | ((fail_if_success (refine head_known rfl ?_)); (refine head_split ty_ok rfl rfl rfl rfl (fun hc => ⟨?_, ?_⟩) (fun hc => ⟨?_, ?_⟩)) <;> (try simp only [nms, reduceCtorEq] at hc) <;> (try (exfalso; omega)) <;> (try exact sd)))) | ((fail_if_success (with_reducible show AWp _ _ _ _ _)); (fail_if_success (with_reducible show AOps _ _ _ _ _ _)); (fail_if_success (with_reducible show HeadT _ _ _ _ _ _ _ _ _ _)); (first | (show AWp _ _ _ _ _) | (show AOps _ _ _ _ _ _))))
        rfl
theorem c_parts_at (Γ : Env) (b : List UInt8) (cls num : Nat) (hb : b.length ≤ 1099511627) {v : Ex (List El)} (h : ptF b cls num = v) : ACalls Tryd.prog Γ 41 [.sl none (bys b), .int .i64 cls, .int .i64 num] (fun r => r = elsR v) := by
  subst h
  exact c_parts Γ b cls num hb
end Go.Proofs.YtmciaonjkkelnaaDoor

/- Decode of package oid, walked by the abstract machine. -/
namespace Go.Proofs.YtmciaonjkkelnaaDoor
open Go.Am
open Go.Lib (decDigits)
set_option linter.unusedSimpArgs false
set_option linter.unusedVariables false

theorem u8_and127 (x : UInt8) : bits .and .u8 (x.toNat : Int) 127 = ((x.toNat % 128 : Nat) : Int) := by
  have hx : x.toNat < 256 := x.toNat_lt
  have h1 := (bits_nat .u8 8 (by decide) (fun n h0 h1 => by rw [IntKind.wrap_u8]; omega) x.toNat 127 (by omega) (by omega)).1
  have h2 : x.toNat &&& 127 = x.toNat % 128 := Nat.and_two_pow_sub_one_eq_mod _ 7
  rw [h2] at h1
  exact h1
theorem u8_and128 (x : UInt8) : (bits .and .u8 (x.toNat : Int) 128 != 0) = decide (128 ≤ x.toNat) := by
  have hx : x.toNat < 256 := x.toNat_lt
  have h1 := (bits_nat .u8 8 (by decide) (fun n h0 h1 => by rw [IntKind.wrap_u8]; omega) x.toNat 128 (by omega) (by omega)).1
  have h2 : ∀ d : Fin 256, (((d.1 &&& 128 : Nat) : Int) != 0) = decide (128 ≤ d.1) := by decide +kernel
  have h3 := h2 ⟨x.toNat, hx⟩
  simp only at h3
  rw [← h3]
  exact congrArg (fun z : Int => z != 0) h1
theorem u64_step (n d : Nat) (hn : n ≤ 4294967295) (hd : d < 128) : bits .or .u64 (shft .shl .u64 (n : Int) 7) (d : Int) = ((n * 128 + d : Nat) : Int) := by
  have h0 : shft .shl .u64 (n : Int) 7 = ((n * 128 : Nat) : Int) := by
    show IntKind.u64.wrap ((n : Int) * 2 ^ (min (7 : Int).toNat 64)) = _
    rw [show (2 : Int) ^ (min (7 : Int).toNat 64) = 128 by decide, IntKind.wrap_u64]
    omega
  rw [h0]
  have h1 := (bits_nat .u64 64 (by decide) (fun n h0 h1 => by rw [IntKind.wrap_u64]; omega) (n * 128) d (by omega) (by omega)).2
  have h2 : (n * 128) ||| d = n * 128 + d := by
    have := Nat.two_pow_add_eq_or_of_lt (i := 7) (b := d) hd n
    rw [Nat.mul_comm] at this
    exact this.symm
  rw [h2] at h1
  exact h1
theorem u64s_app (x y : List Nat) : u64s (x ++ y) = u64s x ++ u64s y := by simp [u64s]
theorem u64_at {a : List Nat} {k : Nat} (h : k < a.length) : ((u64s a).getD (k : Int).toNat default).num = (a[k] : Int) := by
  rw [num_u64s, Int.toNat_natCast, List.getD_eq_getElem?_getD, List.getElem?_eq_getElem h]
  rfl
theorem by_at {c : List UInt8} {k : Nat} (h : k < c.length) : ((bys c).getD (k : Int).toNat default).num = (c[k].toNat : Int) := by
  rw [num_bys, Int.toNat_natCast, List.getD_eq_getElem?_getD, List.getElem?_eq_getElem h]
  rfl
theorem map_app_cons (o : Option (List Nat)) (ns : List Nat) (m : Nat) : (o.map fun l => m :: l).map (fun l => ns ++ l) = o.map (fun l => (ns ++ [m]) ++ l) := by
  cases o <;> simp

theorem isODecode : IsFn Tryd.prog 43 Tryd.f43 := ⟨Tryd.func43, by decide, rfl⟩
set_option maxHeartbeats 4000000 in
theorem c_odec (c : List UInt8) (hl : c.length ≤ 10000000) : ACalls Tryd.prog envL 43 [.sl none (bys c)] (fun r => r = .d (decOD c)) := by
  refine acalls_of ty_ok isODecode rfl rfl ?_
  repeat' (first | ((with_reducible show AWp _ _ _ _ _); (first | refine awp_seq ?_ | refine awp_block ?_ | refine awp_skip ?_ | refine awp_exit ?_ | refine awp_scope ?_ | refine awp_label ?_ | refine awp_run ty_ok rfl sd ?_ | refine awp_ret ⟨_, _, rfl, rfl, ?_⟩ | refine awp_ret ⟨_, rfl, ?_⟩ | ((refine awp_cond (ty := ty) rfl (fun hc => ?_) (fun hc => ?_)) <;> (try simp only [nms, reduceCtorEq] at hc) <;> (try (exfalso; omega))))) | ((with_reducible show AOps _ _ _ _ _ _); (first | refine aops_nil ?_ | refine aops_go ty_ok rfl rfl sd ?_ | refine aops_gate ty_ok rfl rfl rfl sd ?_ | refine aops_litE ty_ok rfl rfl rfl rfl rfl rfl rfl rfl rfl rfl rfl rfl ?_ | refine aops_cutE ty_ok rfl rfl rfl rfl rfl rfl rfl rfl rfl sd rfl ?_ | ((fail_if_success (refine aops_known rfl ?_)); (refine aops_split ty_ok rfl rfl rfl rfl rfl rfl (fun hc => ⟨?_, ?_⟩) (fun hc => ⟨?_, ?_⟩)) <;> (try simp only [nms, reduceCtorEq] at hc) <;> (try (exfalso; omega)) <;> (try exact sd)))) | ((fail_if_success (with_reducible show AWp _ _ _ _ _)); (fail_if_success (with_reducible show AOps _ _ _ _ _ _)); (first | (show AWp _ _ _ _ _) | (show AOps _ _ _ _ _ _))))
  refine awp_nilrow 4 89 rfl ?_
  refine awp_loopR (G := { p : Nat × Bool × Nat × List Nat // p.1 ≤ c.length ∧ dec7 false 0 c = (dec7 p.2.1 p.2.2.1 (c.drop p.1)).map (fun l => p.2.2.2 ++ l) ∧ p.2.2.1 ≤ 4294967295 ∧ p.2.2.2.length ≤ p.1 ∧ (∀ n ∈ p.2.2.2, n ≤ 4294967295) ∧ (p.2.1 = false → p.2.2.1 = 0) })
    (fun p => ⟨Tryd.f43.ntmps, [(4, .ref 0), (5, .d (.bool p.1.2.1)), (6, .d (.int .u64 p.1.2.2.1)), (15, .d (.sl none (bys c))), (16, .d (.int .i64 c.length)), (17, .d (.int .i64 p.1.1))], [(0, .row none 89 (u64s p.1.2.2.2))], 1⟩) (fun p => c.length - p.1.1) ⟨(0, false, 0, []), Nat.zero_le _, by simp, by simp, Nat.le_refl _, by simp, fun _ => rfl⟩ [(0, 0)]
    (SubR.mk' rfl rfl ⟨⟨_, rfl, rfl⟩, ⟨_, rfl, rfl⟩, ⟨_, rfl, rfl⟩, ⟨_, rfl, rfl⟩, ⟨_, rfl, congrArg (fun z : Nat => AV.d (Dat.int IntKind.i64 z)) (bys_len _)⟩, ⟨_, rfl, rfl⟩, trivial⟩ ⟨⟨_, _, rfl, rfl, rfl⟩, trivial⟩) ?_
  rintro ⟨⟨k, b, n, ns⟩, hk, hd, hn, hnl, hns, hb0⟩
  simp only at hk hd hn hnl hns hb0
  dsimp only
  rcases Nat.lt_or_ge k c.length with hkl | hkl
  · have hx := by_at hkl
    rw [List.drop_eq_getElem_cons hkl] at hd
    generalize hcc : c[k] = x at hx hd
    have hx256 : x.toNat < 256 := x.toNat_lt
    have e1 := u8_and127 x
    have e2 := u8_and128 x
    have e3 := u64_step n (x.toNat % 128) hn (by omega)
    rw [← hx] at e1 e2
    have hw : IntKind.u64.wrap ((x.toNat % 128 : Nat) : Int) = ((x.toNat % 128 : Nat) : Int) := by rw [IntKind.wrap_u64]; omega
    have hnv : bits .or .u64 (shft .shl .u64 (n : Int) 7) (IntKind.u64.wrap (bits .and .u8 ((bys c).getD (k : Int).toNat default).num 127)) = ((n * 128 + x.toNat % 128 : Nat) : Int) := by rw [e1, hw, e3]
    have bad : (¬ ((!b && decide (x = 128)) = false ∧ n * 128 + x.toNat % 128 ≤ 4294967295)) → decOD c = .tup [sD [], .int .i64 6] := by
      intro h
      have : dec7 false 0 c = none := by
        rw [hd, dec7]
        split
        · rename_i h1 h2 h3
          exact absurd ⟨h1, of_decide_eq_true h2⟩ h
        · rename_i h1 h2 h3
          exact absurd ⟨h1, of_decide_eq_true h2⟩ h
        · rfl
      simp only [decOD, decS, this]
    have hx128 : (x = 128) ↔ ((bys c).getD (k : Int).toNat default).num = 128 := by
      rw [hx]
      constructor
      · rintro rfl; rfl
      · intro h
        exact u8_of (by have : (128 : UInt8).toNat = 128 := rfl; omega)
    by_cases hA : (!b && decide (x = 128)) = false ∧ n * 128 + x.toNat % 128 ≤ 4294967295
    · obtain ⟨hA1, hA2⟩ := hA
      have hA1' : b = false → ¬ ((bys c).getD (k : Int).toNat default).num = 128 := by
        rintro rfl h
        rw [hx128.2 h] at hA1
        cases hA1
      have hd2 : decide (n * 128 + x.toNat % 128 ≤ 4294967295) = true := decide_eq_true hA2
      by_cases h128 : 128 ≤ x.toNat
      · have hd3 : decide (128 ≤ x.toNat) = true := decide_eq_true h128
        rw [hd3] at e2
        have e2' : ¬ bits .and .u8 ((bys c).getD (k : Int).toNat default).num 128 = 0 := by simpa using e2
        rw [dec7, hA1, hd2, hd3] at hd
        cases b with
        | true =>
          repeat' (first | ((with_reducible show AWp _ _ _ _ _); (first | refine awp_seq ?_ | refine awp_block ?_ | refine awp_skip ?_ | refine awp_exit ?_ | refine awp_scope ?_ | refine awp_label ?_ | refine awp_run ty_ok rfl sd ?_ | refine awp_ret ⟨_, _, rfl, rfl, ?_⟩ | refine awp_ret ⟨_, rfl, ?_⟩ | ((refine awp_cond (ty := ty) rfl (fun hc => ?_) (fun hc => ?_)) <;> (try simp only [nms, reduceCtorEq] at hc) <;> (try (exfalso; omega))))) | ((with_reducible show AOps _ _ _ _ _ _); (first | refine aops_nil ?_ | refine aops_go ty_ok rfl rfl sd ?_ | refine aops_gate ty_ok rfl rfl rfl sd ?_ | refine aops_litE ty_ok rfl rfl rfl rfl rfl rfl rfl rfl rfl rfl rfl rfl ?_ | refine aops_cutE ty_ok rfl rfl rfl rfl rfl rfl rfl rfl rfl sd rfl ?_ | ((fail_if_success (refine aops_known rfl ?_)); (refine aops_split ty_ok rfl rfl rfl rfl rfl rfl (fun hc => ⟨?_, ?_⟩) (fun hc => ⟨?_, ?_⟩)) <;> (try simp only [nms, reduceCtorEq] at hc) <;> (try (exfalso; omega)) <;> (try exact sd)))) | ((fail_if_success (with_reducible show AWp _ _ _ _ _)); (fail_if_success (with_reducible show AOps _ _ _ _ _ _)); (first | (show AWp _ _ _ _ _) | (show AOps _ _ _ _ _ _))))
          refine ⟨⟨(k + 1, true, n * 128 + x.toNat % 128, ns), hkl, hd, hA2, by simp only; omega, hns, fun h => by cases h⟩, [(0, 0)], SubR.mk' rfl rfl ⟨⟨_, rfl, rfl⟩, ⟨_, rfl, congrArg (fun z : Bool => AV.d (Dat.bool z)) e2⟩, ⟨_, rfl, congrArg (fun z : Int => AV.d (Dat.int IntKind.u64 z)) hnv⟩, ⟨_, rfl, rfl⟩, ⟨_, rfl, rfl⟩, ⟨_, rfl, rfl⟩, trivial⟩ ⟨⟨_, _, rfl, rfl, rfl⟩, trivial⟩, by simp only; omega⟩
        | false =>
          have hne := hA1' rfl
          repeat' (first | ((with_reducible show AWp _ _ _ _ _); (first | refine awp_seq ?_ | refine awp_block ?_ | refine awp_skip ?_ | refine awp_exit ?_ | refine awp_scope ?_ | refine awp_label ?_ | refine awp_run ty_ok rfl sd ?_ | refine awp_ret ⟨_, _, rfl, rfl, ?_⟩ | refine awp_ret ⟨_, rfl, ?_⟩ | ((refine awp_cond (ty := ty) rfl (fun hc => ?_) (fun hc => ?_)) <;> (try simp only [nms, reduceCtorEq] at hc) <;> (try (exfalso; omega))))) | ((with_reducible show AOps _ _ _ _ _ _); (first | refine aops_nil ?_ | refine aops_go ty_ok rfl rfl sd ?_ | refine aops_gate ty_ok rfl rfl rfl sd ?_ | refine aops_litE ty_ok rfl rfl rfl rfl rfl rfl rfl rfl rfl rfl rfl rfl ?_ | refine aops_cutE ty_ok rfl rfl rfl rfl rfl rfl rfl rfl rfl sd rfl ?_ | ((fail_if_success (refine aops_known rfl ?_)); (refine aops_split ty_ok rfl rfl rfl rfl rfl rfl (fun hc => ⟨?_, ?_⟩) (fun hc => ⟨?_, ?_⟩)) <;> (try simp only [nms, reduceCtorEq] at hc) <;> (try (exfalso; omega)) <;> (try exact sd)))) | ((fail_if_success (with_reducible show AWp _ _ _ _ _)); (fail_if_success (with_reducible show AOps _ _ _ _ _ _)); (first | (show AWp _ _ _ _ _) | (show AOps _ _ _ _ _ _))))
          refine ⟨⟨(k + 1, true, n * 128 + x.toNat % 128, ns), hkl, hd, hA2, by simp only; omega, hns, fun h => by cases h⟩, [(0, 0)], SubR.mk' rfl rfl ⟨⟨_, rfl, rfl⟩, ⟨_, rfl, congrArg (fun z : Bool => AV.d (Dat.bool z)) e2⟩, ⟨_, rfl, congrArg (fun z : Int => AV.d (Dat.int IntKind.u64 z)) hnv⟩, ⟨_, rfl, rfl⟩, ⟨_, rfl, rfl⟩, ⟨_, rfl, rfl⟩, trivial⟩ ⟨⟨_, _, rfl, rfl, rfl⟩, trivial⟩, by simp only; omega⟩
      · have hd3 : decide (128 ≤ x.toNat) = false := decide_eq_false h128
        rw [hd3] at e2
        have e2' : bits .and .u8 ((bys c).getD (k : Int).toNat default).num 128 = 0 := by simpa using e2
        rw [dec7, hA1, hd2, hd3] at hd
        simp only at hd
        rw [map_app_cons] at hd
        have hns' : ∀ m ∈ ns ++ [n * 128 + x.toNat % 128], m ≤ 4294967295 := by
          intro m hm
          rcases List.mem_append.1 hm with hm | hm
          · exact hns m hm
          · simp only [List.mem_singleton] at hm
            omega
        have hrow : u64s ns ++ [Dat.int .u64 (bits .or .u64 (shft .shl .u64 (n : Int) 7) (IntKind.u64.wrap (bits .and .u8 ((bys c).getD (k : Int).toNat default).num 127)))] = u64s (ns ++ [n * 128 + x.toNat % 128]) := by
          rw [hnv, u64s_app]
          rfl
        cases b with
        | true =>
          repeat' (first | ((with_reducible show AWp _ _ _ _ _); (first | refine awp_seq ?_ | refine awp_block ?_ | refine awp_skip ?_ | refine awp_exit ?_ | refine awp_scope ?_ | refine awp_label ?_ | refine awp_run ty_ok rfl sd ?_ | refine awp_ret ⟨_, _, rfl, rfl, ?_⟩ | refine awp_ret ⟨_, rfl, ?_⟩ | ((refine awp_cond (ty := ty) rfl (fun hc => ?_) (fun hc => ?_)) <;> (try simp only [nms, reduceCtorEq] at hc) <;> (try (exfalso; omega))))) | ((with_reducible show AOps _ _ _ _ _ _); (first | refine aops_nil ?_ | refine aops_go ty_ok rfl rfl sd ?_ | refine aops_gate ty_ok rfl rfl rfl sd ?_ | refine aops_litE ty_ok rfl rfl rfl rfl rfl rfl rfl rfl rfl rfl rfl rfl ?_ | refine aops_cutE ty_ok rfl rfl rfl rfl rfl rfl rfl rfl rfl sd rfl ?_ | ((fail_if_success (refine aops_known rfl ?_)); (refine aops_split ty_ok rfl rfl rfl rfl rfl rfl (fun hc => ⟨?_, ?_⟩) (fun hc => ⟨?_, ?_⟩)) <;> (try simp only [nms, reduceCtorEq] at hc) <;> (try (exfalso; omega)) <;> (try exact sd)))) | ((fail_if_success (with_reducible show AWp _ _ _ _ _)); (fail_if_success (with_reducible show AOps _ _ _ _ _ _)); (first | (show AWp _ _ _ _ _) | (show AOps _ _ _ _ _ _))))
          refine ⟨⟨(k + 1, false, 0, ns ++ [n * 128 + x.toNat % 128]), hkl, hd, by simp, by simp; omega, hns', fun _ => rfl⟩, [(2, 0)], SubR.mk' rfl rfl ⟨⟨_, rfl, rfl⟩, ⟨_, rfl, congrArg (fun z : Bool => AV.d (Dat.bool z)) e2⟩, ⟨_, rfl, rfl⟩, ⟨_, rfl, rfl⟩, ⟨_, rfl, rfl⟩, ⟨_, rfl, rfl⟩, trivial⟩ ⟨⟨_, _, rfl, rfl, congrArg (AO.row none 89) hrow⟩, trivial⟩, by simp only; omega⟩
        | false =>
          have hne := hA1' rfl
          repeat' (first | ((with_reducible show AWp _ _ _ _ _); (first | refine awp_seq ?_ | refine awp_block ?_ | refine awp_skip ?_ | refine awp_exit ?_ | refine awp_scope ?_ | refine awp_label ?_ | refine awp_run ty_ok rfl sd ?_ | refine awp_ret ⟨_, _, rfl, rfl, ?_⟩ | refine awp_ret ⟨_, rfl, ?_⟩ | ((refine awp_cond (ty := ty) rfl (fun hc => ?_) (fun hc => ?_)) <;> (try simp only [nms, reduceCtorEq] at hc) <;> (try (exfalso; omega))))) | ((with_reducible show AOps _ _ _ _ _ _); (first | refine aops_nil ?_ | refine aops_go ty_ok rfl rfl sd ?_ | refine aops_gate ty_ok rfl rfl rfl sd ?_ | refine aops_litE ty_ok rfl rfl rfl rfl rfl rfl rfl rfl rfl rfl rfl rfl ?_ | refine aops_cutE ty_ok rfl rfl rfl rfl rfl rfl rfl rfl rfl sd rfl ?_ | ((fail_if_success (refine aops_known rfl ?_)); (refine aops_split ty_ok rfl rfl rfl rfl rfl rfl (fun hc => ⟨?_, ?_⟩) (fun hc => ⟨?_, ?_⟩)) <;> (try simp only [nms, reduceCtorEq] at hc) <;> (try (exfalso; omega)) <;> (try exact sd)))) | ((fail_if_success (with_reducible show AWp _ _ _ _ _)); (fail_if_success (with_reducible show AOps _ _ _ _ _ _)); (first | (show AWp _ _ _ _ _) | (show AOps _ _ _ _ _ _))))
          refine ⟨⟨(k + 1, false, 0, ns ++ [n * 128 + x.toNat % 128]), hkl, hd, by simp, by simp; omega, hns', fun _ => rfl⟩, [(2, 0)], SubR.mk' rfl rfl ⟨⟨_, rfl, rfl⟩, ⟨_, rfl, congrArg (fun z : Bool => AV.d (Dat.bool z)) e2⟩, ⟨_, rfl, rfl⟩, ⟨_, rfl, rfl⟩, ⟨_, rfl, rfl⟩, ⟨_, rfl, rfl⟩, trivial⟩ ⟨⟨_, _, rfl, rfl, congrArg (AO.row none 89) hrow⟩, trivial⟩, by simp only; omega⟩
    · have hbad := bad hA
      cases b with
      | true =>
        have hbig : ¬ n * 128 + x.toNat % 128 ≤ 4294967295 := fun h => hA ⟨rfl, h⟩
        repeat' (first | ((with_reducible show AWp _ _ _ _ _); (first | refine awp_seq ?_ | refine awp_block ?_ | refine awp_skip ?_ | refine awp_exit ?_ | refine awp_scope ?_ | refine awp_label ?_ | refine awp_run ty_ok rfl sd ?_ | refine awp_ret ⟨_, _, rfl, rfl, ?_⟩ | refine awp_ret ⟨_, rfl, ?_⟩ | ((refine awp_cond (ty := ty) rfl (fun hc => ?_) (fun hc => ?_)) <;> (try simp only [nms, reduceCtorEq] at hc) <;> (try (exfalso; omega))))) | ((with_reducible show AOps _ _ _ _ _ _); (first | refine aops_nil ?_ | refine aops_go ty_ok rfl rfl sd ?_ | refine aops_gate ty_ok rfl rfl rfl sd ?_ | refine aops_litE ty_ok rfl rfl rfl rfl rfl rfl rfl rfl rfl rfl rfl rfl ?_ | refine aops_cutE ty_ok rfl rfl rfl rfl rfl rfl rfl rfl rfl sd rfl ?_ | ((fail_if_success (refine aops_known rfl ?_)); (refine aops_split ty_ok rfl rfl rfl rfl rfl rfl (fun hc => ⟨?_, ?_⟩) (fun hc => ⟨?_, ?_⟩)) <;> (try simp only [nms, reduceCtorEq] at hc) <;> (try (exfalso; omega)) <;> (try exact sd)))) | ((fail_if_success (with_reducible show AWp _ _ _ _ _)); (fail_if_success (with_reducible show AOps _ _ _ _ _ _)); (first | (show AWp _ _ _ _ _) | (show AOps _ _ _ _ _ _))))
        rw [hbad]
        rfl
      | false =>
        by_cases h8 : ((bys c).getD (k : Int).toNat default).num = 128
        · repeat' (first | ((with_reducible show AWp _ _ _ _ _); (first | refine awp_seq ?_ | refine awp_block ?_ | refine awp_skip ?_ | refine awp_exit ?_ | refine awp_scope ?_ | refine awp_label ?_ | refine awp_run ty_ok rfl sd ?_ | refine awp_ret ⟨_, _, rfl, rfl, ?_⟩ | refine awp_ret ⟨_, rfl, ?_⟩ | ((refine awp_cond (ty := ty) rfl (fun hc => ?_) (fun hc => ?_)) <;> (try simp only [nms, reduceCtorEq] at hc) <;> (try (exfalso; omega))))) | ((with_reducible show AOps _ _ _ _ _ _); (first | refine aops_nil ?_ | refine aops_go ty_ok rfl rfl sd ?_ | refine aops_gate ty_ok rfl rfl rfl sd ?_ | refine aops_litE ty_ok rfl rfl rfl rfl rfl rfl rfl rfl rfl rfl rfl rfl ?_ | refine aops_cutE ty_ok rfl rfl rfl rfl rfl rfl rfl rfl rfl sd rfl ?_ | ((fail_if_success (refine aops_known rfl ?_)); (refine aops_split ty_ok rfl rfl rfl rfl rfl rfl (fun hc => ⟨?_, ?_⟩) (fun hc => ⟨?_, ?_⟩)) <;> (try simp only [nms, reduceCtorEq] at hc) <;> (try (exfalso; omega)) <;> (try exact sd)))) | ((fail_if_success (with_reducible show AWp _ _ _ _ _)); (fail_if_success (with_reducible show AOps _ _ _ _ _ _)); (first | (show AWp _ _ _ _ _) | (show AOps _ _ _ _ _ _))))
          rw [hbad]
          rfl
        · have hbig : ¬ n * 128 + x.toNat % 128 ≤ 4294967295 := fun h => hA ⟨by
            have : ¬ x = 128 := fun e => h8 (hx128.1 e)
            simp [this], h⟩
          repeat' (first | ((with_reducible show AWp _ _ _ _ _); (first | refine awp_seq ?_ | refine awp_block ?_ | refine awp_skip ?_ | refine awp_exit ?_ | refine awp_scope ?_ | refine awp_label ?_ | refine awp_run ty_ok rfl sd ?_ | refine awp_ret ⟨_, _, rfl, rfl, ?_⟩ | refine awp_ret ⟨_, rfl, ?_⟩ | ((refine awp_cond (ty := ty) rfl (fun hc => ?_) (fun hc => ?_)) <;> (try simp only [nms, reduceCtorEq] at hc) <;> (try (exfalso; omega))))) | ((with_reducible show AOps _ _ _ _ _ _); (first | refine aops_nil ?_ | refine aops_go ty_ok rfl rfl sd ?_ | refine aops_gate ty_ok rfl rfl rfl sd ?_ | refine aops_litE ty_ok rfl rfl rfl rfl rfl rfl rfl rfl rfl rfl rfl rfl ?_ | refine aops_cutE ty_ok rfl rfl rfl rfl rfl rfl rfl rfl rfl sd rfl ?_ | ((fail_if_success (refine aops_known rfl ?_)); (refine aops_split ty_ok rfl rfl rfl rfl rfl rfl (fun hc => ⟨?_, ?_⟩) (fun hc => ⟨?_, ?_⟩)) <;> (try simp only [nms, reduceCtorEq] at hc) <;> (try (exfalso; omega)) <;> (try exact sd)))) | ((fail_if_success (with_reducible show AWp _ _ _ _ _)); (fail_if_success (with_reducible show AOps _ _ _ _ _ _)); (first | (show AWp _ _ _ _ _) | (show AOps _ _ _ _ _ _))))
          rw [hbad]
          rfl
  · have hke : k = c.length := by omega
    subst hke
    rw [List.drop_length] at hd
    cases b with
    | true =>
      have : decOD c = .tup [sD [], .int .i64 6] := by
        have : dec7 false 0 c = none := hd
        simp only [decOD, decS, this]
      repeat' (first | ((with_reducible show AWp _ _ _ _ _); (first | refine awp_seq ?_ | refine awp_block ?_ | refine awp_skip ?_ | refine awp_exit ?_ | refine awp_scope ?_ | refine awp_label ?_ | refine awp_run ty_ok rfl sd ?_ | refine awp_ret ⟨_, _, rfl, rfl, ?_⟩ | refine awp_ret ⟨_, rfl, ?_⟩ | ((refine awp_cond (ty := ty) rfl (fun hc => ?_) (fun hc => ?_)) <;> (try simp only [nms, reduceCtorEq] at hc) <;> (try (exfalso; omega))))) | ((with_reducible show AOps _ _ _ _ _ _); (first | refine aops_nil ?_ | refine aops_go ty_ok rfl rfl sd ?_ | refine aops_gate ty_ok rfl rfl rfl sd ?_ | refine aops_litE ty_ok rfl rfl rfl rfl rfl rfl rfl rfl rfl rfl rfl rfl ?_ | refine aops_cutE ty_ok rfl rfl rfl rfl rfl rfl rfl rfl rfl sd rfl ?_ | ((fail_if_success (refine aops_known rfl ?_)); (refine aops_split ty_ok rfl rfl rfl rfl rfl rfl (fun hc => ⟨?_, ?_⟩) (fun hc => ⟨?_, ?_⟩)) <;> (try simp only [nms, reduceCtorEq] at hc) <;> (try (exfalso; omega)) <;> (try exact sd)))) | ((fail_if_success (with_reducible show AWp _ _ _ _ _)); (fail_if_success (with_reducible show AOps _ _ _ _ _ _)); (first | (show AWp _ _ _ _ _) | (show AOps _ _ _ _ _ _))))
      rw [this]
      rfl
    | false =>
      have hd1 : dec7 false 0 c = some ns := by rw [hd]; simp [dec7]
      match ns, hd1, hns, hnl with
      | [], hd1, hns, hnl =>
        have : decOD c = .tup [sD [], .int .i64 6] := by simp only [decOD, decS, hd1]
        repeat' (first | ((with_reducible show AWp _ _ _ _ _); (first | refine awp_seq ?_ | refine awp_block ?_ | refine awp_skip ?_ | refine awp_exit ?_ | refine awp_scope ?_ | refine awp_label ?_ | refine awp_run ty_ok rfl sd ?_ | refine awp_ret ⟨_, _, rfl, rfl, ?_⟩ | refine awp_ret ⟨_, rfl, ?_⟩ | ((refine awp_cond (ty := ty) rfl (fun hc => ?_) (fun hc => ?_)) <;> (try simp only [nms, reduceCtorEq] at hc) <;> (try (exfalso; omega))))) | ((with_reducible show AOps _ _ _ _ _ _); (first | refine aops_nil ?_ | refine aops_go ty_ok rfl rfl sd ?_ | refine aops_gate ty_ok rfl rfl rfl sd ?_ | refine aops_litE ty_ok rfl rfl rfl rfl rfl rfl rfl rfl rfl rfl rfl rfl ?_ | refine aops_cutE ty_ok rfl rfl rfl rfl rfl rfl rfl rfl rfl sd rfl ?_ | ((fail_if_success (refine aops_known rfl ?_)); (refine aops_split ty_ok rfl rfl rfl rfl rfl rfl (fun hc => ⟨?_, ?_⟩) (fun hc => ⟨?_, ?_⟩)) <;> (try simp only [nms, reduceCtorEq] at hc) <;> (try (exfalso; omega)) <;> (try exact sd)))) | ((fail_if_success (with_reducible show AWp _ _ _ _ _)); (fail_if_success (with_reducible show AOps _ _ _ _ _ _)); (first | (show AWp _ _ _ _ _) | (show AOps _ _ _ _ _ _))))
        rw [this]
        rfl
      | m :: r, hd1, hns, hnl =>
        have hm := hns m (List.mem_cons_self ..)
        have hul : (u64s (m :: r)).length = r.length + 1 := by simp [u64s]
        have hx0 : ((u64s (m :: r)).getD (Int.toNat 0) default).num = m := rfl
        simp only [List.length_cons] at hnl
        have hq : IntKind.u64.wrap (((u64s (m :: r)).getD (Int.toNat 0) default).num.tdiv 40) = ((m / 40 : Nat) : Int) := by
          rw [hx0, Int.tdiv_eq_ediv_of_nonneg (by omega), IntKind.wrap_u64]
          omega
        have hroot : minI (IntKind.u64.wrap (((u64s (m :: r)).getD (Int.toNat 0) default).num.tdiv 40)) 2 = ((min (m / 40) 2 : Nat) : Int) := by
          rw [hq]
          unfold minI
          split <;> omega
        have hcut : cutL (u64s (m :: r)) (Int.toNat 1) (u64s (m :: r)).length = u64s r := by
          unfold cutL
          rw [List.take_length]
          rfl
        have hle := arcsOf_le m r hns
        have hri := arcsOf_right m r hm
        have htx := c_text (arcsOf m r) (by simp [arcsOf]; omega) hle
        rw [textD, hri] at htx
        have hres : decOD c = .tup [sD (textF (arcsOf m r)), .int .i64 0] := by simp only [decOD, decS, hd1]
        repeat' (first | ((with_reducible show AWp _ _ _ _ _); (first | refine awp_seq ?_ | refine awp_block ?_ | refine awp_skip ?_ | refine awp_exit ?_ | refine awp_scope ?_ | refine awp_label ?_ | refine awp_run ty_ok rfl sd ?_ | refine awp_ret ⟨_, _, rfl, rfl, ?_⟩ | refine awp_ret ⟨_, rfl, ?_⟩ | ((refine awp_cond (ty := ty) rfl (fun hc => ?_) (fun hc => ?_)) <;> (try simp only [nms, reduceCtorEq] at hc) <;> (try (exfalso; omega))))) | ((with_reducible show AOps _ _ _ _ _ _); (first | refine aops_nil ?_ | refine aops_go ty_ok rfl rfl sd ?_ | refine aops_gate ty_ok rfl rfl rfl sd ?_ | refine aops_litE ty_ok rfl rfl rfl rfl rfl rfl rfl rfl rfl rfl rfl rfl ?_ | refine aops_cutE ty_ok rfl rfl rfl rfl rfl rfl rfl rfl rfl sd rfl ?_ | ((fail_if_success (refine aops_known rfl ?_)); (refine aops_split ty_ok rfl rfl rfl rfl rfl rfl (fun hc => ⟨?_, ?_⟩) (fun hc => ⟨?_, ?_⟩)) <;> (try simp only [nms, reduceCtorEq] at hc) <;> (try (exfalso; omega)) <;> (try exact sd)))) | ((fail_if_success (with_reducible show AWp _ _ _ _ _)); (fail_if_success (with_reducible show AOps _ _ _ _ _ _)); (first | (show AWp _ _ _ _ _) | (show AOps _ _ _ _ _ _))))
        refine aops_freezeE [.ref 0] rfl ?_
        refine aops_asDat 66 rfl rfl rfl ?_
        repeat' (first | ((with_reducible show AWp _ _ _ _ _); (first | refine awp_seq ?_ | refine awp_block ?_ | refine awp_skip ?_ | refine awp_exit ?_ | refine awp_scope ?_ | refine awp_label ?_ | refine awp_run ty_ok rfl sd ?_ | refine awp_ret ⟨_, _, rfl, rfl, ?_⟩ | refine awp_ret ⟨_, rfl, ?_⟩ | ((refine awp_cond (ty := ty) rfl (fun hc => ?_) (fun hc => ?_)) <;> (try simp only [nms, reduceCtorEq] at hc) <;> (try (exfalso; omega))))) | ((with_reducible show AOps _ _ _ _ _ _); (first | refine aops_nil ?_ | refine aops_go ty_ok rfl rfl sd ?_ | refine aops_gate ty_ok rfl rfl rfl sd ?_ | refine aops_litE ty_ok rfl rfl rfl rfl rfl rfl rfl rfl rfl rfl rfl rfl ?_ | refine aops_cutE ty_ok rfl rfl rfl rfl rfl rfl rfl rfl rfl sd rfl ?_ | ((fail_if_success (refine aops_known rfl ?_)); (refine aops_split ty_ok rfl rfl rfl rfl rfl rfl (fun hc => ⟨?_, ?_⟩) (fun hc => ⟨?_, ?_⟩)) <;> (try simp only [nms, reduceCtorEq] at hc) <;> (try (exfalso; omega)) <;> (try exact sd)))) | ((fail_if_success (with_reducible show AWp _ _ _ _ _)); (fail_if_success (with_reducible show AOps _ _ _ _ _ _)); (first | (show AWp _ _ _ _ _) | (show AOps _ _ _ _ _ _))))
        refine awp_loopR (G := { j : Nat // j ≤ r.length }) (fun j => ⟨Tryd.f43.ntmps, [(10, .ref 0), (67, .d (.sl none (u64s r))), (68, .d (.int .i64 r.length)), (69, .d (.int .i64 j.1))], [(0, .row none 80 (u32s (arcsOf m (r.take j.1))))], 1⟩) (fun j => r.length - j.1) ⟨0, Nat.zero_le _⟩ [(1, 0)]
          (SubR.mk' rfl rfl ⟨⟨_, rfl, rfl⟩, ⟨_, rfl, congrArg (fun z => AV.d (Dat.sl none z)) hcut⟩, ⟨_, rfl, congrArg (fun z : Nat => AV.d (Dat.int IntKind.i64 z)) (by rw [hcut, u64s_len])⟩, ⟨_, rfl, rfl⟩, trivial⟩ ⟨⟨_, _, rfl, rfl, congrArg (AO.row none 80) (by
            rw [hroot, hx0]
            simp only [arcsOf, List.take_zero, u32s, List.map_cons, List.map_nil]
            rw [IntKind.wrap_u32, IntKind.wrap_u32, IntKind.wrap_u64, IntKind.wrap_u64]
            congr 2
            · omega
            · congr 2
              omega)⟩, trivial⟩) ?_
        rintro ⟨j, hj⟩
        dsimp only
        have hrl : (r.take j).length ≤ r.length := by rw [List.length_take]; omega
        have hal : (arcsOf m (r.take j)).length = (r.take j).length + 2 := rfl
        rcases Nat.lt_or_ge j r.length with hjl | hjl
        · have hnum := u64_at hjl
          have hrj := hns r[j] (by simp)
          repeat' (first | ((with_reducible show AWp _ _ _ _ _); (first | refine awp_seq ?_ | refine awp_block ?_ | refine awp_skip ?_ | refine awp_exit ?_ | refine awp_scope ?_ | refine awp_label ?_ | refine awp_run ty_ok rfl sd ?_ | refine awp_ret ⟨_, _, rfl, rfl, ?_⟩ | refine awp_ret ⟨_, rfl, ?_⟩ | ((refine awp_cond (ty := ty) rfl (fun hc => ?_) (fun hc => ?_)) <;> (try simp only [nms, reduceCtorEq] at hc) <;> (try (exfalso; omega))))) | ((with_reducible show AOps _ _ _ _ _ _); (first | refine aops_nil ?_ | refine aops_go ty_ok rfl rfl sd ?_ | refine aops_gate ty_ok rfl rfl rfl sd ?_ | refine aops_litE ty_ok rfl rfl rfl rfl rfl rfl rfl rfl rfl rfl rfl rfl ?_ | refine aops_cutE ty_ok rfl rfl rfl rfl rfl rfl rfl rfl rfl sd rfl ?_ | ((fail_if_success (refine aops_known rfl ?_)); (refine aops_split ty_ok rfl rfl rfl rfl rfl rfl (fun hc => ⟨?_, ?_⟩) (fun hc => ⟨?_, ?_⟩)) <;> (try simp only [nms, reduceCtorEq] at hc) <;> (try (exfalso; omega)) <;> (try exact sd)))) | ((fail_if_success (with_reducible show AWp _ _ _ _ _)); (fail_if_success (with_reducible show AOps _ _ _ _ _ _)); (first | (show AWp _ _ _ _ _) | (show AOps _ _ _ _ _ _))))
          refine ⟨⟨j + 1, hjl⟩, [(2, 0)], SubR.mk' rfl rfl ⟨⟨_, rfl, rfl⟩, ⟨_, rfl, rfl⟩, ⟨_, rfl, rfl⟩, ⟨_, rfl, rfl⟩, trivial⟩ ⟨⟨_, _, rfl, rfl, congrArg (AO.row none 80) ?_⟩, trivial⟩, by simp only; omega⟩
          rw [List.take_succ_eq_append_getElem hjl, hnum, wrap_u32 _ hrj, show arcsOf m (r.take j ++ [r[j]]) = arcsOf m (r.take j) ++ [r[j]] from rfl, u32s_app]
          rfl
        · have hje : j = r.length := by omega
          subst hje
          rw [List.take_length]
          repeat' (first | ((with_reducible show AWp _ _ _ _ _); (first | refine awp_seq ?_ | refine awp_block ?_ | refine awp_skip ?_ | refine awp_exit ?_ | refine awp_scope ?_ | refine awp_label ?_ | refine awp_run ty_ok rfl sd ?_ | refine awp_ret ⟨_, _, rfl, rfl, ?_⟩ | refine awp_ret ⟨_, rfl, ?_⟩ | ((refine awp_cond (ty := ty) rfl (fun hc => ?_) (fun hc => ?_)) <;> (try simp only [nms, reduceCtorEq] at hc) <;> (try (exfalso; omega))))) | ((with_reducible show AOps _ _ _ _ _ _); (first | refine aops_nil ?_ | refine aops_go ty_ok rfl rfl sd ?_ | refine aops_gate ty_ok rfl rfl rfl sd ?_ | refine aops_callE (ty := ty) rfl rfl rfl rfl rfl rfl rfl (htx) rfl ?_ | refine aops_litE ty_ok rfl rfl rfl rfl rfl rfl rfl rfl rfl rfl rfl rfl ?_ | refine aops_cutE ty_ok rfl rfl rfl rfl rfl rfl rfl rfl rfl sd rfl ?_ | ((fail_if_success (refine aops_known rfl ?_)); (refine aops_split ty_ok rfl rfl rfl rfl rfl rfl (fun hc => ⟨?_, ?_⟩) (fun hc => ⟨?_, ?_⟩)) <;> (try simp only [nms, reduceCtorEq] at hc) <;> (try (exfalso; omega)) <;> (try exact sd)))) | ((fail_if_success (with_reducible show AWp _ _ _ _ _)); (fail_if_success (with_reducible show AOps _ _ _ _ _ _)); (first | (show AWp _ _ _ _ _) | (show AOps _ _ _ _ _ _))))
          all_goals rw [hres]
end Go.Proofs.YtmciaonjkkelnaaDoor

/- Lists of purposes: Parse. Walked by the abstract machine. -/
namespace Go.Proofs.YtmciaonjkkelnaaDoor
open Go.Am
set_option linter.unusedSimpArgs false
set_option linter.unusedVariables false
-- withAmZ

/-- One purpose. -/
def usE (b : List UInt8) (e : El) : Ex (List UInt8) := match isB e.x 0 false 6 with
  | false => .bad 3 e.st
  | true => match decide ((decS (cut b e.bd e.en)).2 = 0) with
    | true => .ok (decS (cut b e.bd e.en)).1
    | false => .bad 6 e.bd
def usP (b : List UInt8) : Ex (List (List UInt8)) := match ptF b 0 16 with
  | .bad c o => .bad c o
  | .ok l => match mapX (usE b) l with
    | .bad c o => .bad c o
    | .ok [] => .bad 1 b.length
    | .ok (p :: r) => .ok (p :: r)
def usD : Ex (List (List UInt8)) → Res
  | .bad c o => .d (.tup [.sl none [], errD c o])
  | .ok l => .ownT none 9 (strs l) [errD 0 0]
theorem el_at {l : List El} {k : Nat} (h : k < l.length) : (els l).getD (k : Int).toNat default = elD l[k] := by
  rw [Int.toNat_natCast, List.getD_eq_getElem?_getD, els, List.getElem?_map, List.getElem?_eq_getElem h]
  rfl
theorem el_can {X : Dat} {e : El} (h : X = elD e) : X = .agg [.int .i64 (X.cell 0).num, .int .i64 (X.cell 1).num, .bool (X.cell 2).tru, .int .i64 (X.cell 3).num, .int .i64 (X.cell 4).num, .int .i64 (X.cell 5).num] := by
  rw [h]
  rfl
theorem c_odec_ok (b : List UInt8) {i j : Nat} (hj : j ≤ b.length) (hij : i ≤ j) (hl : b.length ≤ 10000000) (h : (decS (cut b i j)).2 = 0) : ACalls Tryd.prog envL 43 [.sl none (cutL (bys b) (i : Int).toNat (j : Int).toNat)] (fun r => r = .d (.tup [sD (decS (cut b i j)).1, .int .i64 0])) := by
  have h1 := c_odec (cut b i j) (by rw [cut_len _ _ _ hj]; omega)
  rw [decOD, h] at h1
  rw [cutL_bys]
  exact h1
theorem c_odec_bad (b : List UInt8) {i j : Nat} (hj : j ≤ b.length) (hij : i ≤ j) (hl : b.length ≤ 10000000) (h : ¬ (decS (cut b i j)).2 = 0) : ACalls Tryd.prog envL 43 [.sl none (cutL (bys b) (i : Int).toNat (j : Int).toNat)] (fun r => r = .d (.tup [sD [], .int .i64 6])) := by
  have h1 := c_odec (cut b i j) (by rw [cut_len _ _ _ hj]; omega)
  rcases decS_cases (cut b i j) with hd | ⟨s, _, _, hd, _⟩
  · rw [decOD, hd] at h1
    rw [cutL_bys]
    exact h1
  · rw [hd] at h
    exact absurd rfl h
theorem usE_ok {b : List UInt8} {e : El} {s : List UInt8} (h : usE b e = .ok s) : e.x = 6 ∧ oidV s = true ∧ encO s = cut b e.bd e.en := by
  unfold usE at h
  cases hi : isB e.x 0 false 6 with
  | false => rw [hi] at h; cases h
  | true =>
    rw [hi] at h
    simp only at h
    rcases decS_cases (cut b e.bd e.en) with hd | ⟨s', h1, h2, hd, _⟩
    · rw [hd] at h; cases h
    · rw [hd] at h
      cases h
      exact ⟨isB_oid.1 hi, h1, h2⟩
theorem usE_bad {b : List UInt8} {e : El} {c o : Nat} (h : usE b e = .bad c o) : 0 < c ∧ (o = e.st ∨ o = e.bd) := by
  unfold usE at h
  split at h
  · cases h; exact ⟨by omega, .inl rfl⟩
  · split at h
    · cases h
    · cases h; exact ⟨by omega, .inr rfl⟩
theorem mapX_bad {α β : Type} {f : α → Ex β} : ∀ {l : List α} {c o : Nat}, mapX f l = .bad c o → ∃ a ∈ l, f a = .bad c o
  | [], _, _, h => by cases h
  | a :: r, c, o, h => by
    rw [mapX] at h
    cases ha : f a with
    | bad c' o' =>
      rw [ha] at h
      cases h
      exact ⟨a, List.mem_cons_self .., ha⟩
    | ok x =>
      rw [ha] at h
      simp only at h
      cases hr : mapX f r with
      | bad c' o' =>
        rw [hr] at h
        cases h
        obtain ⟨y, hy, hf⟩ := mapX_bad hr
        exact ⟨y, List.mem_cons_of_mem _ hy, hf⟩
      | ok q => rw [hr] at h; cases h
theorem us_raw {b : List UInt8} {l : List (List UInt8)} (h : usP b = .ok l) : ∃ els, ptF b 0 16 = .ok els ∧ mapX (usE b) els = .ok l ∧ l ≠ [] := by
  unfold usP at h
  cases hp : ptF b 0 16 with
  | bad c o => rw [hp] at h; cases h
  | ok es =>
    rw [hp] at h
    simp only at h
    cases hm : mapX (usE b) es with
    | bad c o => rw [hm] at h; cases h
    | ok L =>
      rw [hm] at h
      match L, hm, h with
      | p :: r, hm, h =>
        cases h
        exact ⟨es, rfl, hm, by simp⟩
/-- What is parsed is valid, and its encoding are these bytes. -/
theorem us_ok3 {b : List UInt8} {l : List (List UInt8)} (h : usP b = .ok l) : usV l = true ∧ b = usF l ∧ (l.map objF).flatten.length ≤ 2147483647 := by
  obtain ⟨es, hp, hm, hne⟩ := us_raw h
  obtain ⟨x, ts, hx1, hx2, hx3, hg, hbe, hle⟩ := pt_ok hp
  have hx := isB_seq.1 hx1
  subst hx
  obtain ⟨hlen, hk⟩ := mapX_ok hm
  have hts : es.length = ts.length := by rw [hle, elsF_len]
  have key : ∀ k (h1 : k < l.length) (h2 : k < ts.length), ts[k] = ((6 : UInt8), encO l[k]) ∧ oidV l[k] = true := by
    intro k h1 h2
    have h3 : k < es.length := by omega
    obtain ⟨e, e1, e2, _, _, _, e3, _⟩ := pt_at (x := 48) (ts := ts) k h2
    have e4 : es[k] = e := by
      have h5 : es[k]? = some es[k] := List.getElem?_eq_getElem h3
      have h6 : es[k]? = some e := by rw [hle]; exact e1
      rw [h6] at h5
      simp only [Option.some.injEq] at h5
      exact h5.symm
    have h7 := hk k h3 h1
    rw [e4] at h7
    obtain ⟨a1, a2, a3⟩ := usE_ok h7
    rw [hbe, e3] at a3
    rw [e2] at a1
    exact ⟨Prod.ext a1 a3.symm, a2⟩
  have h1 : ts = l.map fun s => ((6 : UInt8), encO s) := by
    refine List.ext_getElem (by simp; omega) (fun k h1 h2 => ?_)
    rw [List.getElem_map]
    exact (key k (by omega) h1).1
  refine ⟨?_, ?_, by rw [objs_cat, ← h1]; exact hx3⟩
  · unfold usV
    rw [Bool.and_eq_true]
    refine ⟨by cases l with
      | nil => exact absurd rfl hne
      | cons p r => rfl, List.all_eq_true.2 fun s hs => ?_⟩
    obtain ⟨k, hk, rfl⟩ := List.getElem_of_mem hs
    exact (key k hk (by omega)).2
  · rw [usF, objs_cat, ← h1]
    exact hbe
theorem us_ok {b : List UInt8} {l : List (List UInt8)} (h : usP b = .ok l) : usV l = true ∧ b = usF l := ⟨(us_ok3 h).1, (us_ok3 h).2.1⟩
/-- An encoding is parsed as what it encodes. -/
theorem us_of {l : List (List UInt8)} (hv : usV l = true) (hl : (l.map objF).flatten.length ≤ 2147483647) : usP (usF l) = .ok l := by
  have hp := pt_of (b := usF l) (cls := 0) (num := 16) (x := 48) (ts := l.map fun s => ((6 : UInt8), encO s)) (by decide) (by decide) (by rw [← objs_cat]; exact hl) (goodO l hl) (by rw [usF, objs_cat])
  have hm : mapX (usE (usF l)) (elsF (hsz (catF (l.map fun s => ((6 : UInt8), encO s)))) (l.map fun s => ((6 : UInt8), encO s))) = .ok l := by
    refine mapX_of (by rw [elsF_len, List.length_map]) (fun k h h' => ?_)
    obtain ⟨e, e1, e2, _, _, _, e3, _⟩ := pt_at (x := 48) (ts := l.map fun s => ((6 : UInt8), encO s)) k (by simpa using h')
    have e4 := List.getElem?_eq_getElem h
    rw [e1] at e4
    simp only [Option.some.injEq] at e4
    rw [← e4]
    rw [List.getElem_map] at e2 e3
    rw [← objs_cat] at e3
    have e5 : cut (usF l) e.bd e.en = encO l[k] := e3
    have e6 := decS_encO (usV_all hv l[k] (List.getElem_mem h'))
    unfold usE
    rw [e2, e5, e6]
    simp only [show isB 6 0 false 6 = true from by decide, decide_true]
  unfold usP
  rw [hp]
  simp only
  rw [hm]
  cases l with
  | nil => cases hv
  | cons p r => rfl
theorem us_bad {b : List UInt8} {c o : Nat} (h : usP b = .bad c o) : 0 < c ∧ o ≤ b.length := by
  unfold usP at h
  cases hp : ptF b 0 16 with
  | bad c' o' =>
    rw [hp] at h
    cases h
    exact pt_bad hp
  | ok es =>
    rw [hp] at h
    simp only at h
    cases hm : mapX (usE b) es with
    | bad c' o' =>
      rw [hm] at h
      cases h
      obtain ⟨e, he, hf⟩ := mapX_bad hm
      have h2 := usE_bad hf
      obtain ⟨x, ts, _, _, _, _, hbe, hle⟩ := pt_ok hp
      obtain ⟨k, hk, rfl⟩ := List.getElem_of_mem he
      have hk2 : k < ts.length := by rwa [hle, elsF_len] at hk
      obtain ⟨e', e1, _, a1, a2, a3, _, _⟩ := pt_at (x := x) (ts := ts) k hk2
      have h5 : es[k]? = some es[k] := List.getElem?_eq_getElem hk
      have h6 : es[k]? = some e' := by rw [hle]; exact e1
      rw [h6] at h5
      simp only [Option.some.injEq] at h5
      rw [← hbe, h5] at a3
      rw [h5] at a1 a2
      omega
    | ok L =>
      rw [hm] at h
      match L, h with
      | [], h =>
        cases h
        exact ⟨by omega, by omega⟩
end Go.Proofs.YtmciaonjkkelnaaDoor

/- Lists of extensions: what is parsed, what is marshalled, and how the two fit: plain. -/
namespace Go.Proofs.YtmciaonjkkelnaaDoor
open Go.Am
set_option linter.unusedSimpArgs false
set_option linter.unusedVariables false

def xlV (l : List Ext) : Bool := !l.isEmpty && l.all exV && decide ((l.map (·.o)).Nodup)
def xlF (l : List Ext) : List UInt8 := putF 48 (l.map exF).flatten
def xlE (b : List UInt8) (e : El) : Ex Ext := match exP (cut b e.st e.en) with
  | .bad c o => .bad c (e.st + o)
  | .ok x => .ok x
def xlP (b : List UInt8) : Ex (List Ext) := match ptF b 0 16 with
  | .bad c o => .bad c o
  | .ok es => match mapX (xlE b) es with
    | .bad c o => .bad c o
    | .ok l => match xlV l with
      | true => .ok l
      | false => .bad 6 0
theorem catF_map (ts : List (UInt8 × List UInt8)) : catF ts = (ts.map fun t => putF t.1 t.2).flatten := by
  induction ts with
  | nil => rfl
  | cons t r ih => simp [catF, ih]
def exT (x : Ext) : UInt8 × List UInt8 := (48, catF (exB x))
theorem exs_cat (l : List Ext) : (l.map exF).flatten = catF (l.map exT) := by
  rw [catF_map, List.map_map]
  rfl
theorem xlV_all {l : List Ext} (h : xlV l = true) : ∀ x ∈ l, exV x = true := by
  unfold xlV at h
  rw [Bool.and_eq_true, Bool.and_eq_true] at h
  exact List.all_eq_true.1 h.1.2
theorem ex_in {l : List Ext} {x : Ext} (hx : x ∈ l) : (exF x).length ≤ (l.map exF).flatten.length := (List.sublist_flatten_of_mem (List.mem_map.2 ⟨x, hx, rfl⟩)).length_le
theorem exF_len (x : Ext) : (exF x).length = hsz (catF (exB x)) + (catF (exB x)).length := putF_len 48 (catF (exB x))
/-- What is parsed is valid, and its encoding are these bytes. -/
theorem xl_ok {b : List UInt8} {l : List Ext} (h : xlP b = .ok l) : xlV l = true ∧ b = xlF l ∧ (l.map exF).flatten.length ≤ 2147483647 := by
  unfold xlP at h
  cases hp : ptF b 0 16 with
  | bad c o => rw [hp] at h; cases h
  | ok es =>
    rw [hp] at h
    simp only at h
    cases hm : mapX (xlE b) es with
    | bad c o => rw [hm] at h; cases h
    | ok L =>
      rw [hm] at h
      simp only at h
      cases hv : xlV L with
      | false => rw [hv] at h; cases h
      | true =>
        rw [hv] at h
        cases h
        obtain ⟨ts, hb, E⟩ := seq_ok hp
        obtain ⟨hlen, hk⟩ := mapX_ok hm
        have hts := E.len
        have key : (l.map exF) = ts.map fun t => putF t.1 t.2 := by
          refine List.ext_getElem (by simp; omega) (fun k h1 h2 => ?_)
          rw [List.length_map] at h1 h2
          rw [List.getElem_map, List.getElem_map]
          have h3 := hk k (by omega) h1
          unfold xlE at h3
          cases hx : exP (cut b es[k].st es[k].en) with
          | bad c o => rw [hx] at h3; cases h3
          | ok x =>
            rw [hx] at h3
            simp only [Ex.ok.injEq] at h3
            rw [← h3, ← (ex_ok hx).2.1]
            exact E.whole k (by omega) h2
        have hf : (l.map exF).flatten = catF ts := by rw [key, ← catF_map]
        exact ⟨hv, by rw [xlF, hf]; exact hb, by rw [hf]; exact E.size⟩
/-- An encoding is parsed as what it encodes. -/
theorem xl_of {l : List Ext} (hv : xlV l = true) (hl : (l.map exF).flatten.length ≤ 2147483647) : xlP (xlF l) = .ok l := by
  have hg : ∀ t ∈ l.map exT, goodT t := by
    intro t ht
    obtain ⟨x, hx, rfl⟩ := List.mem_map.1 ht
    have h1 := ex_in hx
    have h2 := exF_len x
    refine ⟨by show (48 : UInt8).toNat % 32 ≠ 31; decide, ?_⟩
    show (catF (exB x)).length ≤ 2147483647
    omega
  obtain ⟨es, hp, E⟩ := seq_of (by rw [← exs_cat]; exact hl) hg
  have hb : xlF l = putF 48 (catF (l.map exT)) := by rw [xlF, exs_cat]
  rw [← hb] at hp E
  have hlen := E.len
  rw [List.length_map] at hlen
  have hm : mapX (xlE (xlF l)) es = .ok l := by
    refine mapX_of hlen.symm (fun k h h' => ?_)
    have h1 := E.whole k h (by simpa using h')
    rw [List.getElem_map] at h1
    have h2 : cut (xlF l) es[k].st es[k].en = exF l[k] := h1
    have hm := List.getElem_mem h'
    have h3 := ex_in hm
    have h4 := exF_len l[k]
    unfold xlE
    rw [h2, ex_of (xlV_all hv _ hm) (by omega)]
  unfold xlP
  rw [hp]
  simp only
  rw [hm]
  simp only
  rw [hv]
theorem xlE_bad {b : List UInt8} {e : El} (h1 : e.st ≤ e.bd ∧ e.bd ≤ e.en ∧ e.en ≤ b.length) {c o : Nat} (h : xlE b e = .bad c o) : 0 < c ∧ o ≤ b.length := by
  unfold xlE at h
  cases hx : exP (cut b e.st e.en) with
  | ok x => rw [hx] at h; cases h
  | bad c' o' =>
    rw [hx] at h
    cases h
    have := ex_bad hx
    rw [cut_len _ _ _ h1.2.2] at this
    omega
theorem xl_bad {b : List UInt8} {c o : Nat} (h : xlP b = .bad c o) : 0 < c ∧ o ≤ b.length := by
  unfold xlP at h
  cases hp : ptF b 0 16 with
  | bad c' o' =>
    rw [hp] at h
    cases h
    exact pt_bad hp
  | ok es =>
    rw [hp] at h
    simp only at h
    obtain ⟨ts, hb, E⟩ := seq_ok hp
    cases hm : mapX (xlE b) es with
    | bad c' o' =>
      rw [hm] at h
      cases h
      obtain ⟨e, he, hf⟩ := mapX_bad hm
      obtain ⟨k, hk, rfl⟩ := List.getElem_of_mem he
      exact xlE_bad (E.le k hk) hf
    | ok L =>
      rw [hm] at h
      simp only at h
      cases hv : xlV L with
      | true => rw [hv] at h; cases h
      | false =>
        rw [hv] at h
        cases h
        exact ⟨by omega, by omega⟩
theorem xl_inj {l m : List Ext} (hl : xlV l = true) (hm : xlV m = true) (hb : (xlF l).length ≤ 2147483647) (h : xlF l = xlF m) : l = m := by
  have h1 : (l.map exF).flatten.length ≤ 2147483647 := by rw [xlF, putF_len] at hb; omega
  have h2 : (m.map exF).flatten.length ≤ 2147483647 := by rw [h, xlF, putF_len] at hb; omega
  have h3 := xl_of hl h1
  rw [h, xl_of hm h2] at h3
  cases h3
  rfl
end Go.Proofs.YtmciaonjkkelnaaDoor

/- Extensions: data, sizes, lists found, changed and shortened: plain. -/
namespace Go.Proofs.YtmciaonjkkelnaaDoor
open Go.Am
set_option linter.unusedSimpArgs false
set_option linter.unusedVariables false

def xD (x : Ext) : Dat := .agg [sD x.o, .bool x.c, .sl none (bys x.v)]
def xsD (l : List Ext) : List Dat := l.map xD
def x0 : Ext := ⟨[], false, []⟩
theorem xs_len (l : List Ext) : (xsD l).length = l.length := by simp [xsD]
theorem xs_app (a b : List Ext) : xsD (a ++ b) = xsD a ++ xsD b := by simp [xsD]
theorem xs_at {l : List Ext} {k : Nat} (h : k < l.length) : (xsD l).getD (k : Int).toNat default = xD l[k] := by
  rw [Int.toNat_natCast, List.getD_eq_getElem?_getD, xsD, List.getElem?_map, List.getElem?_eq_getElem h]
  rfl
theorem x_can {X : Dat} {x : Ext} (h : X = xD x) : X = .agg [.str (X.cell 0).txt, .bool (X.cell 1).tru, .sl none (X.cell 2).els] := by
  rw [h]
  rfl
theorem exF_le (x : Ext) : (exF x).length ≤ 5 * x.o.length + x.v.length + 60 := by
  have h1 := encO_len x.o
  have h2 := exF_len x
  have h3 := hsz_le (catF (exB x))
  have h4 := putF_len 6 (encO x.o)
  have h5 := putF_len 4 x.v
  have h6 := hsz_le (encO x.o)
  have h7 := hsz_le x.v
  have h8 : (putF 1 [255]).length = 3 := by decide
  have h9 : (catF (exB x)).length ≤ (putF 6 (encO x.o)).length + 3 + (putF 4 x.v).length := by
    unfold exB
    cases x.c <;> simp [catF, h8] <;> omega
  omega
theorem exF_pos (x : Ext) : 0 < (exF x).length := by
  have h2 := exF_len x
  have h3 := hsz_ge (catF (exB x))
  omega
def fewX (x : Ext) : Bool := decide (x.o.length ≤ 200) && decide (x.v.length ≤ 1500)
theorem fewX_len {x : Ext} (h : fewX x = true) : x.o.length ≤ 200 ∧ x.v.length ≤ 1500 := by
  unfold fewX at h
  simpa using h
/-- The size of an extension whose encoding is short. -/
theorem ex_len {x : Ext} (hv : exV x = true) (hl : (exF x).length ≤ 16000) : x.o.length ≤ 200000 ∧ x.v.length ≤ 200000 := by
  have h2 := exF_len x
  have h4 := putF_len 6 (encO x.o)
  have h5 := putF_len 4 x.v
  have h9 : (putF 6 (encO x.o)).length + (putF 4 x.v).length ≤ (catF (exB x)).length := by
    unfold exB
    cases x.c <;> simp [catF] <;> omega
  have h10 : (encO x.o).length ≤ 16000 := by omega
  refine ⟨?_, by omega⟩
  have := decS_len (encO x.o)
  have h11 := decS_encO hv
  rw [h11] at this
  simp only at this
  omega
theorem ex_cat (x : Ext) (B : Nat) (h : 5 * x.o.length + x.v.length + 60 ≤ B) : (catF (exB x)).length ≤ B := by
  have h1 := exF_le x
  have h2 := exF_len x
  omega
/-- A list of extensions is small. -/
def sumX : List Ext → Nat
  | [] => 0
  | x :: r => x.o.length + x.v.length + sumX r
theorem sumX_app (a b : List Ext) : sumX (a ++ b) = sumX a + sumX b := by
  induction a with
  | nil => simp [sumX]
  | cons x r ih => simp [sumX, ih]; omega
def fewXs (l : List Ext) : Bool := decide (l.length ≤ 12) && decide (sumX (l.take 20) ≤ 3000)
theorem fewXs_len {l : List Ext} (h : fewXs l = true) : l.length ≤ 12 ∧ sumX l ≤ 3000 ∧ ∀ x ∈ l, x.o.length ≤ 3000 ∧ x.v.length ≤ 3000 := by
  unfold fewXs at h
  rw [Bool.and_eq_true, decide_eq_true_eq, decide_eq_true_eq] at h
  rw [List.take_of_length_le (by omega)] at h
  refine ⟨h.1, h.2, ?_⟩
  have key : ∀ l : List Ext, ∀ x ∈ l, x.o.length + x.v.length ≤ sumX l := by
    intro l
    induction l with
    | nil => intro x hx; cases hx
    | cons y r ih =>
      intro x hx
      rcases List.mem_cons.1 hx with rfl | hx
      · simp only [sumX]; omega
      · have := ih x hx
        simp only [sumX]; omega
  intro x hx
  have := key l x hx
  omega
theorem exs_le (l : List Ext) : (l.map exF).flatten.length ≤ 5 * sumX l + 60 * l.length := by
  induction l with
  | nil => simp [sumX]
  | cons x r ih =>
    have := exF_le x
    simp only [List.map_cons, List.flatten_cons, List.length_append, sumX, List.length_cons]
    omega
end Go.Proofs.YtmciaonjkkelnaaDoor

/- A result that is a row of its own lies in new blocks only. No program. -/
namespace Go.Am
open Go.RowKit
set_option linter.unusedSimpArgs false
set_option linter.unusedVariables false

theorem flat_strs (l : List (List UInt8)) : FlatL (strs l) := by
  intro x hx y hy
  obtain ⟨b, _, rfl⟩ := List.mem_map.1 hx
  simp only [sD, Dat.cells, List.mem_singleton] at hy
  subst hy
  exact flat_str _
theorem own_out {w0 w : World} {pr : Nat → Bool} {ek : Option Nat} {e : TypeId} {xs : List Dat} {v : Value} (h : OwnRep w0 w pr ek e xs v) (hx : FlatL xs) : RepD w (fun b => decide (w0.heap.size ≤ b)) (.sl ek xs) v := by
  obtain ⟨vals, hown, hcr⟩ := h
  rcases hown.2 with ⟨hn, h0⟩ | ⟨g, cap, cur, hv, hb, hg, hnc, hcm, hcs, htake⟩
  · have : xs = [] := List.eq_nil_of_length_eq_zero h0
    subst this
    rw [hn]
    exact .nil ek
  · rw [hv]
    refine RepD.sl_mk rfl hnc hcm (fun _ => rfl) (fun x hx => ?_) (fun k x hk j y hj => ?_)
    · obtain ⟨k, hk⟩ := List.mem_iff_getElem?.1 hx
      exact (hcr k x hk).1
    · obtain ⟨hf, h2⟩ := hcr k x hk
      obtain ⟨u, hu, hr⟩ := h2 j y hj
      refine ⟨by simpa using hb, hf.one y (List.mem_of_getElem? hj), u, ?_, hx x (List.mem_of_getElem? hk) y (List.mem_of_getElem? hj) _ _ _ _ _ hr⟩
      have := hown.cells (g := g) (by rw [hv]; rfl) _ u hu
      rw [Addr.add_lit] at this
      simpa using this
theorem AFresh.of_ownT {P : Program} {Γ : Env} {f : FuncId} {args : List Dat} {ek : Option Nat} {e : TypeId} {xs rest : List Dat} (h : ACalls P Γ f args (fun r => r = .ownT ek e xs rest)) (hx : FlatL xs) (hr : ∀ x ∈ rest, FlatD x) : AFresh P Γ f args (fun y => y = .tup (.sl ek xs :: rest)) :=
  ⟨h.1, fun w pr vs h1 h2 h3 => (h.2 w pr vs h1 h2 h3).mono fun e w' ⟨v, r, a, b, c, d⟩ => by
    subst d
    obtain ⟨us, rfl, hs, ho, hq⟩ := c
    refine ⟨_, _, a, b, RepD.tup _ us (by simpa using hs) (fun j y hj => ?_), rfl⟩
    cases j with
    | zero =>
      simp only [List.getElem?_cons_zero, Option.some.injEq] at hj
      subst hj
      exact own_out ho hx
    | succ j =>
      simp only [List.getElem?_cons_succ] at hj
      exact hr y (List.mem_of_getElem? hj) _ _ _ _ _ (hq j y hj)⟩
section
variable {P : Program} {Γ : Env} {Q : Exit → St → Prop} {σ : St}
/-- A slot that names a frozen row holds a datum. -/
theorem aops_seen (t : Nat) {ops rest : List Oper} {i : Nat} {ek : Option Nat} {xs : List Dat} {sz nx : Nat} {tm : List (Nat × AV)} {ob : List (Nat × AO)} (h1 : σ.get t = some (.ref i)) (h2 : σ.obj i = some (.frz ek xs)) (hr : put' σ (some t) (.d (.sl ek xs)) = ⟨sz, tm, ob, nx⟩) (k : AOps P Γ ops Q rest ⟨sz, tm, ob, nx⟩) : AOps P Γ ops Q rest σ := fun C0 a C b e m => by
  rw [put'_eq] at hr
  refine k C0 a C b e ?_
  rw [← hr]
  refine ⟨m.defers, m.sz, m.nx, fun s x hs => ?_, m.ob, m.apart⟩
  simp only [St.get, St.put, look_cons] at hs
  split at hs
  · rename_i hst
    cases hs
    subst hst
    obtain ⟨ht, hrep⟩ := m.tm _ _ h1
    refine ⟨ht, ?_⟩
    have ho := m.ob _ _ h2
    cases hrep with
    | ref i hi v hv h1 =>
      rw [hv]
      exact .d ho.2
  · exact m.tm _ _ hs
theorem awp_seen (t : Nat) {c : Code} {i : Nat} {ek : Option Nat} {xs : List Dat} {sz nx : Nat} {tm : List (Nat × AV)} {ob : List (Nat × AO)} (h1 : σ.get t = some (.ref i)) (h2 : σ.obj i = some (.frz ek xs)) (hr : put' σ (some t) (.d (.sl ek xs)) = ⟨sz, tm, ob, nx⟩) (k : AWp P Γ c Q ⟨sz, tm, ob, nx⟩) : AWp P Γ c Q σ := fun C0 a C b e m => by
  rw [put'_eq] at hr
  refine k C0 a C b e ?_
  rw [← hr]
  refine ⟨m.defers, m.sz, m.nx, fun s x hs => ?_, m.ob, m.apart⟩
  simp only [St.get, St.put, look_cons] at hs
  split at hs
  · rename_i hst
    cases hs
    subst hst
    obtain ⟨ht, hrep⟩ := m.tm _ _ h1
    refine ⟨ht, ?_⟩
    have ho := m.ob _ _ h2
    cases hrep with
    | ref i hi v hv h1 =>
      rw [hv]
      exact .d ho.2
  · exact m.tm _ _ hs
end
end Go.Am

/- The abstract machine: maps that the walk itself has made: made, looked into, a new key put in. No program. -/
namespace Go.Am
open Go.RowKit
set_option linter.unusedSimpArgs false
set_option linter.unusedVariables false

def keyB : Dat → Dat → Option Bool
  | .int k a, .int k' b => match kindB k k' with
    | true => some (decide (a = b))
    | false => none
  | .str a, .str b => some (decide (a = b))
  | _, _ => none
def findM (k : Dat) : List (Dat × AV) → Option (Option AV)
  | [] => some none
  | (k', x) :: r => match keyB k k' with
    | some true => some (some x)
    | some false => findM k r
    | none => none
def keyT : TypeDesc → Dat → Bool
  | .string, .str _ => true
  | .int q, .int k _ => kindB k q
  | _, _ => false

theorem same_of {w : World} {pr : Nat → Bool} {d : TypeDesc} {k k' : Dat} {key key' : Value} {b : Bool} (hk : RepD w pr k key) (hk' : RepD w pr k' key') (ht : keyT d k = true) (h : keyB k k' = some b) : Instr.sameNow d key key' = some b := by
  unfold keyB at h
  split at h
  · split at h
    · rename_i hkk
      have := kindB_eq hkk
      subst this
      cases hk; cases hk'
      cases h
      unfold keyT at ht
      split at ht
      · rename_i he; cases he
      · simp only [Instr.sameNow, if_true]
        refine congrArg some ?_
        rw [Bool.eq_iff_iff, beq_iff_eq, decide_eq_true_eq]
      · cases ht
    · cases h
  · cases hk; cases hk'
    cases h
    unfold keyT at ht
    split at ht
    · simp only [Instr.sameNow]
      refine congrArg some ?_
      rw [Bool.eq_iff_iff, MapKept.bytes_beq, decide_eq_true_eq]
    · rename_i he; cases he
    · cases ht
  · cases h
theorem isKey_of {w : World} {pr : Nat → Bool} {d : TypeDesc} {k : Dat} {key : Value} (hk : RepD w pr k key) (ht : keyT d k = true) : MapKept.IsKey d key := by
  unfold keyT at ht
  split at ht
  · cases hk; exact True.intro
  · cases hk; exact kindB_eq ht
  · cases ht
theorem findM_sound {C : Ct} {d : TypeDesc} {k : Dat} {key : Value} (hk : RepD C.w C.pr k key) (ht : keyT d k = true) : ∀ {es : List (Dat × AV)} {en : List MapEntry} {i : Nat} {r : Option AV}, EntRep C es en → findM k es = some r →
    (r = none ∧ Instr.findNow d key en i = some none) ∨ ∃ x p v, r = some x ∧ Instr.findNow d key en i = some (some (p, v)) ∧ Rep C x v
  | [], en, i, r, hE, h => by
    have : en = [] := List.eq_nil_of_length_eq_zero hE.1
    subst this
    cases h
    exact .inl ⟨rfl, rfl⟩
  | (k', x) :: es, en, i, r, hE, h => by
    obtain ⟨e, he, hke, hxe⟩ := hE.2 0 k' x rfl
    match en, hE, he with
    | e' :: en, hE, he =>
      simp only [List.getElem?_cons_zero, Option.some.injEq] at he
      subst he
      unfold findM at h
      split at h
      · rename_i hb
        cases h
        exact .inr ⟨x, i, e'.val, rfl, by simp only [Instr.findNow, same_of hk hke ht hb], hxe⟩
      · rename_i hb
        have hE' : EntRep C es en := ⟨by have := hE.1; simpa using this, fun j k y hj => by simpa using hE.2 (j + 1) k y (by simpa using hj)⟩
        rcases findM_sound hk ht (i := i + 1) hE' h with ⟨h1, h2⟩ | ⟨y, p, v, h1, h2, h3⟩
        · exact .inl ⟨h1, by simp only [Instr.findNow, same_of hk hke ht hb]; exact h2⟩
        · exact .inr ⟨y, p, v, h1, by simp only [Instr.findNow, same_of hk hke ht hb]; exact h2, h3⟩
      · cases h

section
variable {P : Program} {Γ : Env} {Q : Exit → St → Prop} {σ : St} {ty : TypeId → Option TI}

/-- A new map. -/
theorem aops_mkmap {ops rest : List Oper} {o : Oper} {t : TypeId} {sz nx : Nat} {tm : List (Nat × AV)} {ob : List (Nat × AO)} (hw : wantedA ops σ o = some true) (hd : dstOk σ o.dst = true) (ho : o.op = .makeMap t none) (hr : addPut σ none (.map []) o.dst .ref = ⟨sz, tm, ob, nx⟩)
    (k : AOps P Γ ops Q rest ⟨sz, tm, ob, nx⟩) : AOps P Γ ops Q (o :: rest) σ :=
  aops_step hw fun C0 a C K R b e m hk => by
    rw [addPut_eq] at hr
    have hB := (b.evo e).B
    have hrun : (execOp a.eval o).run P C.w = .ok (.value (.map (some C.w.heap.size))) (C.w.alloc (.map #[] 0)) := by
      unfold execOp
      simp only [ho]
      exact run_value rfl
    have m' := m.new hB (.map #[] 0) (.map (some C.w.heap.size)) rfl (.map []) ⟨by simp [Ct.new], C.w.heap.size, #[], by simp [Ct.new], by simp [Ct.new], hB, heap_alloc_new C.w _, rfl, by simp⟩
    refine upon_value hrun (hk _ (C.new _ _ _) _ (m'.put (v := .map (some C.w.heap.size)) ?_ (dstOk_spec hd)) (e.trans (Ct.new_evo m.fresh hB _ _)) (by rw [hr]; exact k))
    exact .ref _ (by simp [Ct.new]) _ (by simp [Ct.new]) rfl

/-- What a look-up yields. -/
def lookR (zx : AV) : Bool → Option AV → AV
  | true, some x => .tup [x, .d (.bool true)]
  | true, none => .tup [zx, .d (.bool false)]
  | false, some x => x
  | false, none => zx
theorem rep_tup2 {C : Ct} {x y : AV} {v u : Value} (h : Rep C x v) (h' : Rep C y u) : Rep C (.tup [x, y]) (.tuple #[v, u]) :=
  .tup _ _ rfl fun j z hj => by
    match j, hj with
    | 0, hj => cases hj; exact h
    | 1, hj => cases hj; exact h'
theorem run_zero {t : TypeId} {j : TypeInfo} {z : Value} (hj : P.info? t = some j) (hz : j.zero = some z) (w : World) : (zeroValue t).run P w = .ok z w := by
  simp [zeroValue, typeInfo, hj, hz]
/-- A look-up in a map of the walk's own. -/
theorem aops_look (hT : TyOk P ty) {ops rest : List Oper} {o : Oper} {t kt et : TypeId} {x ix : Operand} {ok : Bool} {d : TypeDesc} {ei : TI} {zx : AV} {i : Nat} {es : List (Dat × AV)} {kd : Dat} {r : Option AV} {sz nx : Nat} {tm : List (Nat × AV)} {ob : List (Nat × AO)}
    (hw : wantedA ops σ o = some true) (hd : dstOk σ o.dst = true) (ho : o.op = .lookup t x ix ok) (ht : P.underlying t = some (.map kt et)) (hkt : P.underlying kt = some d) (he : ty et = some ei) (hzr : ∀ C, Rep C zx ei.zero)
    (hx : σ.ev ty t x = some (.ref i)) (hob : σ.obj i = some (.map es)) (hix : σ.ev ty kt ix = some (.d kd)) (hkd : keyT d kd = true) (hf : findM kd es = some r) (hr : put' σ o.dst (lookR zx ok r) = ⟨sz, tm, ob, nx⟩)
    (k : AOps P Γ ops Q rest ⟨sz, tm, ob, nx⟩) : AOps P Γ ops Q (o :: rest) σ :=
  aops_step hw fun C0 a C K R b e m hk => by
    rw [put'_eq] at hr
    obtain ⟨_, g, en, hρ, hp, hB, hg, hE⟩ := m.ob i _ hob
    have hm : a.eval x = .map (some g) := by
      have h := ev_sound m hx
      generalize a.eval x = v at h
      cases h with
      | ref i hi v hv h1 => rw [hv, hρ]
    have hkey := ev_sound m hix
    obtain ⟨key, hke⟩ : ∃ key, a.eval ix = key := ⟨_, rfl⟩
    rw [hke] at hkey
    have hkr : RepD C.w C.pr kd key := by cases hkey with | d h => exact h
    have hik := isKey_of hkr hkd
    obtain ⟨j, hj, _, _, hjz⟩ := hT.info _ _ he
    have hchk := fun e n => MapKept.run_checkKey (P := P) (w := C.w) hkt hik e n
    have fin : ∀ v, (Instr.lookup t (.map (some g)) key ok).run P C.w = .ok v C.w → Rep C (lookR zx ok r) v → o.wp P a C.w K R := by
      intro v hv hrep
      have hrun : (execOp a.eval o).run P C.w = .ok (.value v) C.w := by
        unfold execOp
        simp only [ho, hm, hke]
        exact run_value hv
      refine upon_value hrun (hk _ C _ (m.put hrep (dstOk_spec hd)) e (by rw [hr]; exact k))
    rcases findM_sound hkr hkd (i := 0) hE hf with ⟨h1, h2⟩ | ⟨y, p, v, h1, h2, h3⟩
    · subst h1
      have hfk := MapKept.run_findKey (P := P) (w := C.w) hkt h2
      refine fin (if ok then .tuple #[ei.zero, .bool false] else ei.zero) (by simp [Instr.lookup, run_underlying ht, MapKept.run_getObj_map hg, hchk, hfk, run_zero hj hjz, Result.andThen]) ?_
      cases ok with
      | true => exact rep_tup2 (hzr C) (.d (.bool false))
      | false => exact hzr C
    · subst h1
      have hfk := MapKept.run_findKey (P := P) (w := C.w) hkt h2
      refine fin (if ok then .tuple #[v, .bool true] else v) (by simp [Instr.lookup, run_underlying ht, MapKept.run_getObj_map hg, hchk, hfk, Result.andThen]) ?_
      cases ok with
      | true => exact rep_tup2 h3 (.d (.bool true))
      | false => exact h3

/-- One block of the walk's own has turned. -/
theorem turnW_evo {C : Ct} {g : Nat} {w' : World} (hp : C.pr g = false) (hB : C.B ≤ g) (h1 : w'.os = C.w.os) (h2 : w'.tape = C.w.tape) (h3 : w'.output = C.w.output) (h4 : w'.heap.size = C.w.heap.size) (h5 : ∀ b, b ≠ g → w'.heap[b]? = C.w.heap[b]?) : Evo C (C.turn w') :=
  ⟨h1, h2, h3, by simp [Ct.turn, h4], fun b _ hb => ⟨h5 b (fun h => by subst h; rw [hp] at hb; cases hb), hb⟩, fun _ h => h, fun _ _ => rfl, rfl, fun b hb => h5 b (by omega), fun _ _ => rfl⟩
theorem Models.turnW {a : Act} {C : Ct} (m : Models σ a C) {i g : Nat} {o o' : AO} {w' : World} (ho : σ.obj i = some o) (he : o.excl = true) (hg : blk (C.ρ i) = some g) (he' : o'.excl = true)
    (ev : Evo C (C.turn w')) (h5 : ∀ b, b ≠ g → w'.heap[b]? = C.w.heap[b]?) (hn : ORep (C.turn w') i o') : Models (σ.setO i o') a (C.turn w') := by
  refine ⟨m.defers, m.sz, m.nx, fun t x ht => ⟨(m.tm t x ht).1, (m.tm t x ht).2.mono ev⟩, fun j oj hj => ?_, fun j k oj ok g' hj hk hej hek hgj hgk => ?_⟩
  · rw [St.obj, St.setO, look_cons] at hj
    split at hj
    · rename_i e
      subst e
      cases hj
      exact hn
    · rename_i hne
      refine (m.ob j oj hj).mono ev (fun hej g' hg' => ⟨h5 g' (fun h => ?_), ((m.ob j oj hj).excl hej hg').2.1⟩)
      subst h
      exact hne (m.apart i j o oj g' ho hj he hej hg hg')
  · rw [St.obj, St.setO, look_cons] at hj hk
    have e1 : ∀ t, (C.turn w').ρ t = C.ρ t := fun _ => rfl
    rw [e1] at hgj hgk
    split at hj
    · rename_i e
      subst e
      split at hk
      · rename_i e; exact e
      · exact m.apart i k o ok g' ho hk he hek hgj hgk
    · split at hk
      · rename_i e
        subst e
        exact m.apart j i oj o g' hj ho hej he hgj hgk
      · exact m.apart j k oj ok g' hj hk hej hek hgj hgk

/-- A new key is put in. -/
theorem aops_mput {ops rest : List Oper} {o : Oper} {t kt et : TypeId} {x ix vx : Operand} {d : TypeDesc} {i : Nat} {es : List (Dat × AV)} {kd : Dat} {y : AV} {sz nx : Nat} {tm : List (Nat × AV)} {ob : List (Nat × AO)}
    (hw : wantedA ops σ o = some true) (hd : o.dst = none) (ho : o.op = .mapUpdate t x ix vx) (ht : P.underlying t = some (.map kt et)) (hkt : P.underlying kt = some d)
    (hx : σ.ev ty t x = some (.ref i)) (hob : σ.obj i = some (.map es)) (hix : σ.ev ty kt ix = some (.d kd)) (hkd : keyT d kd = true) (hf : findM kd es = some none) (hv : σ.ev ty et vx = some y) (hr : setO' σ i (.map (es ++ [(kd, y)])) = ⟨sz, tm, ob, nx⟩)
    (k : AOps P Γ ops Q rest ⟨sz, tm, ob, nx⟩) : AOps P Γ ops Q (o :: rest) σ :=
  aops_step hw fun C0 a C K R b e m hk => by
    rw [setO'_eq] at hr
    obtain ⟨hi, g, en, hρ, hp, hB, hg, hE⟩ := m.ob i _ hob
    have hm : a.eval x = .map (some g) := by
      have h := ev_sound m hx
      generalize a.eval x = v at h
      cases h with
      | ref i hi v hv h1 => rw [hv, hρ]
    have hkey := ev_sound m hix
    have hval := ev_sound m hv
    obtain ⟨key, hke⟩ : ∃ key, a.eval ix = key := ⟨_, rfl⟩
    rw [hke] at hkey
    have hkr : RepD C.w C.pr kd key := by cases hkey with | d h => exact h
    have hik := isKey_of hkr hkd
    have hchk := fun e n => MapKept.run_checkKey (P := P) (w := C.w) hkt hik e n
    rcases findM_sound hkr hkd (i := 0) hE hf with ⟨_, h2⟩ | ⟨y, p, v, h1, _, _⟩
    · have hfk := MapKept.run_findKey (P := P) (w := C.w) hkt h2
      let w' : World := { C.w with heap := C.w.heap.setIfInBounds g (.map (en.push ⟨key, a.eval vx, en.size⟩) (en.size + 1)) }
      have hrun : (execOp a.eval o).run P C.w = .ok .skip w' := by
        unfold execOp
        simp only [ho, hm, hke]
        simp [Instr.mapUpdate, run_underlying ht, MapKept.run_getObj_map hg, hchk, hfk, MapKept.run_setObj_map _ hg, Result.andThen, w']
      obtain ⟨s1, s2⟩ := MapKept.heap_set (o' := .map (en.push ⟨key, a.eval vx, en.size⟩) (en.size + 1)) hg
      have ev : Evo C (C.turn w') := turnW_evo hp hB rfl rfl rfl (by simp [w']) s2
      have hbl : blk (C.ρ i) = some g := by rw [hρ]; rfl
      have m' := m.turnW (o' := .map (es ++ [(kd, y)])) hob rfl hbl rfl ev s2 (by
        refine ⟨hi, g, en.push ⟨key, a.eval vx, en.size⟩, hρ, hp, hB, by rw [Array.size_push]; exact s1, ?_⟩
        refine ⟨by simp [hE.1], fun j k' x' hj => ?_⟩
        rw [List.getElem?_append] at hj
        split at hj
        · obtain ⟨q, q1, q2, q3⟩ := hE.2 j k' x' hj
          refine ⟨q, ?_, q2.mono ev.kept, q3.mono ev⟩
          rw [Array.toList_push, List.getElem?_append_left (List.getElem?_eq_some_iff.1 q1).1]
          exact q1
        · rename_i hge
          have hlt := (List.getElem?_eq_some_iff.1 hj).1
          have hz : j - es.length = 0 := by simpa using hlt
          rw [hz] at hj
          cases hj
          have hjl : j = en.toList.length := by rw [hE.1]; omega
          refine ⟨⟨key, a.eval vx, en.size⟩, by rw [Array.toList_push, hjl]; simp, hkr.mono ev.kept, hval.mono ev⟩)
      refine upon_skip hrun ?_
      rw [hd]
      exact hk a (C.turn w') _ m' (e.trans ev) (by rw [hr]; exact k)
    · cases h1
/-- A literal without elements. -/
theorem run_lit0 {t e : TypeId} {j : TypeInfo} (hu : P.underlying t = some (.slice e)) (hie : P.info? e = some j) (w : World) :
    (Instr.buildSlice t 0 #[]).run P w = .ok (.slice (some ⟨w.heap.size, 0, none⟩) 0 0) (w.alloc (.cells #[] e)) := by
  have e0 : (Array.range 0).map (fun _ : Nat => (default : Value)) = #[] := Array.eq_empty_of_size_eq_zero (by simp)
  simp [Instr.buildSlice, run_underlying hu, sizeOf, typeInfo, hie, newRow, Instr.fill]
  exact congrArg (fun z => w.alloc (Obj.cells z e)) e0
theorem aops_lit0 (hT : TyOk P ty) {ops rest : List Oper} {o : Oper} {t e : TypeId} {ti ei : TI} {sz nx : Nat} {tm : List (Nat × AV)} {ob : List (Nat × AO)} (hw : wantedA ops σ o = some true) (hd : dstOk σ o.dst = true) (ho : o.op = .buildSlice t 0 #[]) (ht : ty t = some ti) (hde : ti.desc = .slice e) (he : ty e = some ei)
    (hr : addPut σ none (.row ei.ek e []) o.dst .ref = ⟨sz, tm, ob, nx⟩) (k : AOps P Γ ops Q rest ⟨sz, tm, ob, nx⟩) : AOps P Γ ops Q (o :: rest) σ :=
  aops_step hw fun C0 a C K R b ev m hk => by
    rw [addPut_eq] at hr
    have hB := (b.evo ev).B
    obtain ⟨j, hj, hjs, _, hjz⟩ := hT.info _ _ he
    have hu := hT.und _ _ ht
    rw [hde] at hu
    have hrun : (execOp a.eval o).run P C.w = .ok (.value (.slice (some ⟨C.w.heap.size, 0, none⟩) 0 0)) (C.w.alloc (.cells #[] e)) := by
      unfold execOp
      simp only [ho]
      exact run_value (by rw [show (#[] : Array (Nat × Operand)).map (fun x => (x.1, a.eval x.2)) = #[] from Array.eq_empty_of_size_eq_zero (by simp)]; exact run_lit0 hu hj C.w)
    have m' := m.new hB (.cells #[] e) (.slice (some ⟨C.w.heap.size, 0, none⟩) 0 0) rfl (.row ei.ek e []) (by
      have := new_row (C := C) m.fresh hB (ek := ei.ek) (e := e) (xs := []) (vs := #[]) 0 (by simp) (by simp [maxLen]) (by simp) (by
        intro k d hk
        simp at hk)
      exact this)
    refine upon_value hrun (hk _ (C.new _ _ _) _ (m'.put (v := .slice (some ⟨C.w.heap.size, 0, none⟩) 0 0) ?_ (dstOk_spec hd)) (ev.trans (Ct.new_evo m.fresh hB _ _)) (by rw [hr]; exact k))
    exact .ref _ (by simp [Ct.new]) _ (by simp [Ct.new]) rfl
/-- A field of a struct that lies in a slot. -/
def fieldVal (fi : TI) (off : Nat) : AV → Option AV
  | .d (.agg cs) => match fi.agg with
    | false => match cs[off]? with
      | some y => some (.d y)
      | none => none
    | true => match Nat.ble (off + fi.size) cs.length with
      | true => some (.d (.agg ((cs.drop off).take fi.size)))
      | false => none
  | .agg cs => match fi.agg with
    | false => cs[off]?
    | true => match Nat.ble (off + fi.size) cs.length with
      | true => some (.agg ((cs.drop off).take fi.size))
      | false => none
  | _ => none
theorem cut_cells {α : Type} {cs : List α} {vs : Array Value} {off n j : Nat} {y : α} (hl : vs.size = cs.length) (hle : off + n ≤ cs.length) (hj : ((cs.drop off).take n)[j]? = some y) : cs[off + j]? = some y ∧ (vs.extract off (off + n)).getD j undef = vs.getD (off + j) undef := by
  have hlt := (List.getElem?_eq_some_iff.1 hj).1
  rw [List.length_take, List.length_drop] at hlt
  have hjn : j < n := by omega
  rw [List.getElem?_take, if_pos hjn, List.getElem?_drop] at hj
  refine ⟨hj, ?_⟩
  have h2 : off + j < vs.size := by omega
  simp [h2, show j < min (off + n) vs.size - off by omega]
theorem fieldVal_sound (hT : TyOk P ty) {t : TypeId} {fi : TI} (ht : ty t = some fi) {off : Nat} {y z : AV} (h : fieldVal fi off y = some z) {C : Ct} {v : Value} (hv : Rep C y v) : ∃ vs u, v = .agg vs ∧ (part t vs off).run P C.w = .ok u C.w ∧ Rep C z u := by
  have hagg := hT.run_agg ht C.w
  have hsize := hT.run_size ht C.w
  unfold fieldVal at h
  split at h
  · cases hv with
    | d h' =>
      cases h' with
      | agg cs vs hl h1 hr =>
        split at h
        · rename_i ha
          split at h
          · rename_i y hy
            cases h
            have hlt : off < vs.size := by rw [hl]; exact (List.getElem?_eq_some_iff.1 hy).1
            refine ⟨vs, vs.getD off undef, rfl, ?_, .d (hr off _ hy)⟩
            unfold part
            simp only [Sem.run_bind, hagg, ha, Result.andThen_ok]
            simp [hlt]
          · cases h
        · rename_i ha
          split at h
          · rename_i hb
            cases h
            have hle := Nat.le_of_ble_eq_true hb
            refine ⟨vs, .agg (vs.extract off (off + fi.size)), rfl, ?_, .d (.agg _ _ (by simp; omega) (fun y hy => h1 y (List.mem_of_mem_drop (List.mem_of_mem_take hy))) (fun j y hj => ?_))⟩
            · unfold part
              simp only [Sem.run_bind, hagg, ha, Result.andThen_ok, if_true, hsize, Sem.run_pure]
            · obtain ⟨e1, e2⟩ := cut_cells hl hle hj
              rw [e2]
              exact hr _ _ e1
          · cases h
  · cases hv with
    | agg cs vs hl h1 hr =>
      split at h
      · rename_i ha
        have hlt : off < vs.size := by rw [hl]; exact (List.getElem?_eq_some_iff.1 h).1
        refine ⟨vs, vs.getD off undef, rfl, ?_, hr off _ h⟩
        unfold part
        simp only [Sem.run_bind, hagg, ha, Result.andThen_ok]
        simp [hlt]
      · rename_i ha
        split at h
        · rename_i hb
          cases h
          have hle := Nat.le_of_ble_eq_true hb
          refine ⟨vs, .agg (vs.extract off (off + fi.size)), rfl, ?_, .agg _ _ (by simp; omega) (fun y hy => h1 y (List.mem_of_mem_drop (List.mem_of_mem_take hy))) (fun j y hj => ?_)⟩
          · unfold part
            simp only [Sem.run_bind, hagg, ha, Result.andThen_ok, if_true, hsize, Sem.run_pure]
          · obtain ⟨e1, e2⟩ := cut_cells hl hle hj
            rw [e2]
            exact hr _ _ e1
        · cases h
  · cases h
theorem aops_field (hT : TyOk P ty) {ops rest : List Oper} {o : Oper} {xt : TypeId} {x : Operand} {f : Nat} {si fi : TI} {fields : Array Field} {fd : Field} {y z : AV} {sz nx : Nat} {tm : List (Nat × AV)} {ob : List (Nat × AO)} (hw : wantedA ops σ o = some true) (hd : dstOk σ o.dst = true) (ho : o.op = .field xt x f)
    (hs : ty xt = some si) (hsd : si.desc = .struct fields) (hf : fields[f]? = some fd) (hfi : ty fd.type = some fi) (hx : σ.ev ty xt x = some y) (hv : fieldVal fi fd.offset y = some z) (hr : put' σ o.dst z = ⟨sz, tm, ob, nx⟩) (k : AOps P Γ ops Q rest ⟨sz, tm, ob, nx⟩) : AOps P Γ ops Q (o :: rest) σ :=
  aops_step hw fun C0 a C K R b e m hk => by
    rw [put'_eq] at hr
    obtain ⟨vs, u, hav, hpart, hrep⟩ := fieldVal_sound hT hfi hv (ev_sound m hx)
    have hu := hT.und _ _ hs
    rw [hsd] at hu
    have hrun : (execOp a.eval o).run P C.w = .ok (.value u) C.w := by
      unfold execOp
      simp only [ho]
      refine run_value ?_
      unfold Instr.field
      simp only [Sem.run_bind, run_underlying hu, Result.andThen_ok, hf, hav, asAgg, Sem.run_pure, hpart]
    exact upon_value hrun (hk _ C _ (m.put hrep (dstOk_spec hd)) e (by rw [hr]; exact k))
/-- A side proof; a fact of the context may be the same up to computing. -/
theorem sdm {q : Prop} (h : q := by first | (simp only [and_true, true_and]; done) | (simp only [and_true, true_and, szs, cns]; omega) | omega | ((repeat' (first | exact True.intro | apply And.intro)) <;> first | omega | (simp only [List.getElem_toArray, List.getElem_cons_zero, List.getElem_cons_succ, szs, cns]; omega) | assumption | (simp only [szs, cns]; omega))) : q := h
/-- A row that is handed over may be looked at as a datum. -/
theorem own_datum {w0 w : World} {pr : Nat → Bool} {ek : Option Nat} {e : TypeId} {xs : List Dat} {v : Value} (h : OwnRep w0 w pr ek e xs v) : RepD w (fun b => pr b || decide (w0.heap.size ≤ b)) (.sl ek xs) v := by
  obtain ⟨vals, hown, hcr⟩ := h
  rcases hown.2 with ⟨hn, h0⟩ | ⟨g, cap, cur, hv, hb, hg, hnc, hcm, hcs, htake⟩
  · have : xs = [] := List.eq_nil_of_length_eq_zero h0
    subst this
    rw [hn]
    exact .nil ek
  · rw [hv]
    refine RepD.sl_mk rfl hnc hcm (fun _ => rfl) (fun x hx => ?_) (fun k x hk j y hj => ?_)
    · obtain ⟨k, hk⟩ := List.mem_iff_getElem?.1 hx
      exact (hcr k x hk).1
    · obtain ⟨hf, h2⟩ := hcr k x hk
      obtain ⟨u, hu, hr⟩ := h2 j y hj
      refine ⟨by simp only [Bool.or_eq_true, decide_eq_true_eq]; exact .inr hb, hf.one y (List.mem_of_getElem? hj), u, ?_, hr.mono fun b _ hb => ⟨rfl, by simp only [Bool.and_eq_true] at hb; exact hb.1⟩⟩
      have := hown.cells (g := g) (by rw [hv]; rfl) _ u hu
      rw [Addr.add_lit] at this
      simpa using this
theorem ACalls.own_d {f : FuncId} {args : List Dat} {ek : Option Nat} {e : TypeId} {xs : List Dat} (h : ACalls P Γ f args (fun r => r = .own ek e xs)) : ACalls P Γ f args (fun r => r = .d (.sl ek xs)) :=
  ⟨h.1, fun w pr vs h1 h2 h3 => (h.2 w pr vs h1 h2 h3).mono fun e w' ⟨v, r, a, b, c, d⟩ => by
    subst d
    exact ⟨v, .d (.sl ek xs), a, b, own_datum c, rfl⟩⟩
theorem ACalls.ownT_d {f : FuncId} {args : List Dat} {ek : Option Nat} {e : TypeId} {xs rest : List Dat} (h : ACalls P Γ f args (fun r => r = .ownT ek e xs rest)) : ACalls P Γ f args (fun r => r = .d (.tup (.sl ek xs :: rest))) :=
  ⟨h.1, fun w pr vs h1 h2 h3 => (h.2 w pr vs h1 h2 h3).mono fun e w' ⟨v, r, a, b, c, d⟩ => by
    subst d
    obtain ⟨us, rfl, hs, ho, hq⟩ := c
    refine ⟨_, .d (.tup (.sl ek xs :: rest)), a, b, RepD.tup _ us (by simpa using hs) (fun j y hj => ?_), rfl⟩
    cases j with
    | zero =>
      simp only [List.getElem?_cons_zero, Option.some.injEq] at hj
      subst hj
      exact own_datum ho
    | succ j =>
      simp only [List.getElem?_cons_succ] at hj
      exact (hq j y hj).mono fun b _ hb => ⟨rfl, by simp only [Bool.and_eq_true] at hb; exact hb.1⟩⟩
/-- A callee that is walked in place falls off its end. -/
theorem back_nil {fn : Func} {K : List (Nat × AO) → Nat → AV → Prop} {ys : List AV} (h : resultA ty σ fn.results.toList = some ys) (k : K σ.ob σ.nx (packA ys)) : BackOk ty fn K .normal σ := ⟨ys, h, k⟩
end
end Go.Am

/- Extensions: booleans, Valid, Marshal and Parse. Walked by the abstract machine. -/
namespace Go.Proofs.YtmciaonjkkelnaaDoor
open Go.Am
set_option linter.unusedSimpArgs false
set_option linter.unusedVariables false
-- withAmZ withAmMp

def booF (c : List UInt8) : Bool × Int := if c = [255] then (true, 0) else if c = [0] then (false, 0) else (false, 6)
theorem isBoolean : IsFn Tryd.prog 44 Tryd.f44 := ⟨Tryd.func44, by decide, rfl⟩
theorem c_boolean (Γ : Env) (c : List UInt8) : ACalls Tryd.prog Γ 44 [.sl none (bys c)] (fun r => r = .d (.tup [.bool (booF c).1, .int .i64 (booF c).2])) := by
  refine acalls_of ty_ok isBoolean rfl rfl ?_
  match c with
  | [] =>
    repeat' (first | ((with_reducible show AWp _ _ _ _ _); (first | refine awp_seq ?_ | refine awp_block ?_ | refine awp_skip ?_ | refine awp_exit ?_ | refine awp_scope ?_ | refine awp_label ?_ | refine awp_run ty_ok rfl sdm ?_ | refine awp_ret ⟨_, _, rfl, rfl, ?_⟩ | refine awp_ret ⟨_, rfl, ?_⟩ | ((refine awp_cond (ty := ty) rfl (fun hc => ?_) (fun hc => ?_)) <;> (try simp only [nms, reduceCtorEq] at hc) <;> (try (exfalso; omega))))) | ((with_reducible show AOps _ _ _ _ _ _); (first | refine aops_nil ?_ | refine aops_go ty_ok rfl rfl sdm ?_ | refine aops_gate ty_ok rfl rfl rfl sdm ?_ | refine aops_litE ty_ok rfl rfl rfl rfl rfl rfl rfl rfl rfl rfl rfl rfl ?_ | refine aops_litA ty_ok rfl rfl rfl rfl rfl rfl rfl rfl rfl rfl rfl rfl rfl rfl rfl rfl ?_ | refine aops_buildArr ty_ok rfl rfl rfl rfl rfl rfl rfl rfl rfl rfl ?_ | refine aops_indexArr ty_ok rfl rfl rfl rfl rfl rfl rfl rfl rfl rfl sdm ?_ | refine aops_lit0 ty_ok rfl rfl rfl rfl rfl rfl rfl ?_ | refine aops_field ty_ok rfl rfl rfl rfl rfl rfl rfl rfl rfl rfl ?_ | refine aops_cutE ty_ok rfl rfl rfl rfl rfl rfl rfl rfl rfl sdm rfl ?_ | ((fail_if_success (refine aops_known rfl ?_)); (refine aops_split ty_ok rfl rfl rfl rfl rfl rfl (fun hc => ⟨?_, ?_⟩) (fun hc => ⟨?_, ?_⟩)) <;> (try simp only [nms, reduceCtorEq] at hc) <;> (try (exfalso; omega)) <;> (try exact sdm)))) | ((fail_if_success (with_reducible show AWp _ _ _ _ _)); (fail_if_success (with_reducible show AOps _ _ _ _ _ _)); (first | (show AWp _ _ _ _ _) | (show AOps _ _ _ _ _ _))))
    rfl
  | [x] =>
    have h0 : ((bys [x]).getD (Int.toNat 0) default).num = (x.toNat : Int) := rfl
    have hx := u8_lt x
    by_cases h1 : x = 255
    · have h2 : x.toNat = 255 := by rw [h1]; rfl
      repeat' (first | ((with_reducible show AWp _ _ _ _ _); (first | refine awp_seq ?_ | refine awp_block ?_ | refine awp_skip ?_ | refine awp_exit ?_ | refine awp_scope ?_ | refine awp_label ?_ | refine awp_run ty_ok rfl sdm ?_ | refine awp_ret ⟨_, _, rfl, rfl, ?_⟩ | refine awp_ret ⟨_, rfl, ?_⟩ | ((refine awp_cond (ty := ty) rfl (fun hc => ?_) (fun hc => ?_)) <;> (try simp only [nms, reduceCtorEq] at hc) <;> (try (exfalso; omega))))) | ((with_reducible show AOps _ _ _ _ _ _); (first | refine aops_nil ?_ | refine aops_go ty_ok rfl rfl sdm ?_ | refine aops_gate ty_ok rfl rfl rfl sdm ?_ | refine aops_litE ty_ok rfl rfl rfl rfl rfl rfl rfl rfl rfl rfl rfl rfl ?_ | refine aops_litA ty_ok rfl rfl rfl rfl rfl rfl rfl rfl rfl rfl rfl rfl rfl rfl rfl rfl ?_ | refine aops_buildArr ty_ok rfl rfl rfl rfl rfl rfl rfl rfl rfl rfl ?_ | refine aops_indexArr ty_ok rfl rfl rfl rfl rfl rfl rfl rfl rfl rfl sdm ?_ | refine aops_lit0 ty_ok rfl rfl rfl rfl rfl rfl rfl ?_ | refine aops_field ty_ok rfl rfl rfl rfl rfl rfl rfl rfl rfl rfl ?_ | refine aops_cutE ty_ok rfl rfl rfl rfl rfl rfl rfl rfl rfl sdm rfl ?_ | ((fail_if_success (refine aops_known rfl ?_)); (refine aops_split ty_ok rfl rfl rfl rfl rfl rfl (fun hc => ⟨?_, ?_⟩) (fun hc => ⟨?_, ?_⟩)) <;> (try simp only [nms, reduceCtorEq] at hc) <;> (try (exfalso; omega)) <;> (try exact sdm)))) | ((fail_if_success (with_reducible show AWp _ _ _ _ _)); (fail_if_success (with_reducible show AOps _ _ _ _ _ _)); (first | (show AWp _ _ _ _ _) | (show AOps _ _ _ _ _ _))))
      rw [h0, h1]
      rfl
    · have h2 : x.toNat ≠ 255 := fun e => h1 (u8_ext e)
      by_cases h3 : x = 0
      · have h4 : x.toNat = 0 := by rw [h3]; rfl
        repeat' (first | ((with_reducible show AWp _ _ _ _ _); (first | refine awp_seq ?_ | refine awp_block ?_ | refine awp_skip ?_ | refine awp_exit ?_ | refine awp_scope ?_ | refine awp_label ?_ | refine awp_run ty_ok rfl sdm ?_ | refine awp_ret ⟨_, _, rfl, rfl, ?_⟩ | refine awp_ret ⟨_, rfl, ?_⟩ | ((refine awp_cond (ty := ty) rfl (fun hc => ?_) (fun hc => ?_)) <;> (try simp only [nms, reduceCtorEq] at hc) <;> (try (exfalso; omega))))) | ((with_reducible show AOps _ _ _ _ _ _); (first | refine aops_nil ?_ | refine aops_go ty_ok rfl rfl sdm ?_ | refine aops_gate ty_ok rfl rfl rfl sdm ?_ | refine aops_litE ty_ok rfl rfl rfl rfl rfl rfl rfl rfl rfl rfl rfl rfl ?_ | refine aops_litA ty_ok rfl rfl rfl rfl rfl rfl rfl rfl rfl rfl rfl rfl rfl rfl rfl rfl ?_ | refine aops_buildArr ty_ok rfl rfl rfl rfl rfl rfl rfl rfl rfl rfl ?_ | refine aops_indexArr ty_ok rfl rfl rfl rfl rfl rfl rfl rfl rfl rfl sdm ?_ | refine aops_lit0 ty_ok rfl rfl rfl rfl rfl rfl rfl ?_ | refine aops_field ty_ok rfl rfl rfl rfl rfl rfl rfl rfl rfl rfl ?_ | refine aops_cutE ty_ok rfl rfl rfl rfl rfl rfl rfl rfl rfl sdm rfl ?_ | ((fail_if_success (refine aops_known rfl ?_)); (refine aops_split ty_ok rfl rfl rfl rfl rfl rfl (fun hc => ⟨?_, ?_⟩) (fun hc => ⟨?_, ?_⟩)) <;> (try simp only [nms, reduceCtorEq] at hc) <;> (try (exfalso; omega)) <;> (try exact sdm)))) | ((fail_if_success (with_reducible show AWp _ _ _ _ _)); (fail_if_success (with_reducible show AOps _ _ _ _ _ _)); (first | (show AWp _ _ _ _ _) | (show AOps _ _ _ _ _ _))))
        rw [h0, h3]
        rfl
      · have h4 : x.toNat ≠ 0 := fun e => h3 (u8_ext e)
        repeat' (first | ((with_reducible show AWp _ _ _ _ _); (first | refine awp_seq ?_ | refine awp_block ?_ | refine awp_skip ?_ | refine awp_exit ?_ | refine awp_scope ?_ | refine awp_label ?_ | refine awp_run ty_ok rfl sdm ?_ | refine awp_ret ⟨_, _, rfl, rfl, ?_⟩ | refine awp_ret ⟨_, rfl, ?_⟩ | ((refine awp_cond (ty := ty) rfl (fun hc => ?_) (fun hc => ?_)) <;> (try simp only [nms, reduceCtorEq] at hc) <;> (try (exfalso; omega))))) | ((with_reducible show AOps _ _ _ _ _ _); (first | refine aops_nil ?_ | refine aops_go ty_ok rfl rfl sdm ?_ | refine aops_gate ty_ok rfl rfl rfl sdm ?_ | refine aops_litE ty_ok rfl rfl rfl rfl rfl rfl rfl rfl rfl rfl rfl rfl ?_ | refine aops_litA ty_ok rfl rfl rfl rfl rfl rfl rfl rfl rfl rfl rfl rfl rfl rfl rfl rfl ?_ | refine aops_buildArr ty_ok rfl rfl rfl rfl rfl rfl rfl rfl rfl rfl ?_ | refine aops_indexArr ty_ok rfl rfl rfl rfl rfl rfl rfl rfl rfl rfl sdm ?_ | refine aops_lit0 ty_ok rfl rfl rfl rfl rfl rfl rfl ?_ | refine aops_field ty_ok rfl rfl rfl rfl rfl rfl rfl rfl rfl rfl ?_ | refine aops_cutE ty_ok rfl rfl rfl rfl rfl rfl rfl rfl rfl sdm rfl ?_ | ((fail_if_success (refine aops_known rfl ?_)); (refine aops_split ty_ok rfl rfl rfl rfl rfl rfl (fun hc => ⟨?_, ?_⟩) (fun hc => ⟨?_, ?_⟩)) <;> (try simp only [nms, reduceCtorEq] at hc) <;> (try (exfalso; omega)) <;> (try exact sdm)))) | ((fail_if_success (with_reducible show AWp _ _ _ _ _)); (fail_if_success (with_reducible show AOps _ _ _ _ _ _)); (first | (show AWp _ _ _ _ _) | (show AOps _ _ _ _ _ _))))
        rw [booF, if_neg (by simp [h1]), if_neg (by simp [h3])]
  | x :: y :: r =>
    have hl : (bys (x :: y :: r)).length = r.length + 2 := by simp [bys_len]
    repeat' (first | ((with_reducible show AWp _ _ _ _ _); (first | refine awp_seq ?_ | refine awp_block ?_ | refine awp_skip ?_ | refine awp_exit ?_ | refine awp_scope ?_ | refine awp_label ?_ | refine awp_run ty_ok rfl sdm ?_ | refine awp_ret ⟨_, _, rfl, rfl, ?_⟩ | refine awp_ret ⟨_, rfl, ?_⟩ | ((refine awp_cond (ty := ty) rfl (fun hc => ?_) (fun hc => ?_)) <;> (try simp only [nms, reduceCtorEq] at hc) <;> (try (exfalso; omega))))) | ((with_reducible show AOps _ _ _ _ _ _); (first | refine aops_nil ?_ | refine aops_go ty_ok rfl rfl sdm ?_ | refine aops_gate ty_ok rfl rfl rfl sdm ?_ | refine aops_litE ty_ok rfl rfl rfl rfl rfl rfl rfl rfl rfl rfl rfl rfl ?_ | refine aops_litA ty_ok rfl rfl rfl rfl rfl rfl rfl rfl rfl rfl rfl rfl rfl rfl rfl rfl ?_ | refine aops_buildArr ty_ok rfl rfl rfl rfl rfl rfl rfl rfl rfl rfl ?_ | refine aops_indexArr ty_ok rfl rfl rfl rfl rfl rfl rfl rfl rfl rfl sdm ?_ | refine aops_lit0 ty_ok rfl rfl rfl rfl rfl rfl rfl ?_ | refine aops_field ty_ok rfl rfl rfl rfl rfl rfl rfl rfl rfl rfl ?_ | refine aops_cutE ty_ok rfl rfl rfl rfl rfl rfl rfl rfl rfl sdm rfl ?_ | ((fail_if_success (refine aops_known rfl ?_)); (refine aops_split ty_ok rfl rfl rfl rfl rfl rfl (fun hc => ⟨?_, ?_⟩) (fun hc => ⟨?_, ?_⟩)) <;> (try simp only [nms, reduceCtorEq] at hc) <;> (try (exfalso; omega)) <;> (try exact sdm)))) | ((fail_if_success (with_reducible show AWp _ _ _ _ _)); (fail_if_success (with_reducible show AOps _ _ _ _ _ _)); (first | (show AWp _ _ _ _ _) | (show AOps _ _ _ _ _ _))))
    rw [booF, if_neg (by simp), if_neg (by simp)]
theorem isFromBoolean : IsFn Tryd.prog 39 Tryd.f39 := ⟨Tryd.func39, by decide, rfl⟩
theorem c_frombool (Γ : Env) : ACalls Tryd.prog Γ 39 [.bool true] (fun r => r = .own none 5 (bys [255])) := by
  refine acalls_of ty_ok isFromBoolean rfl rfl ?_
  repeat' (first | ((with_reducible show AWp _ _ _ _ _); (first | refine awp_seq ?_ | refine awp_block ?_ | refine awp_skip ?_ | refine awp_exit ?_ | refine awp_scope ?_ | refine awp_label ?_ | refine awp_run ty_ok rfl sdm ?_ | refine awp_ret ⟨_, _, rfl, rfl, ?_⟩ | refine awp_ret ⟨_, rfl, ?_⟩ | ((refine awp_cond (ty := ty) rfl (fun hc => ?_) (fun hc => ?_)) <;> (try simp only [nms, reduceCtorEq] at hc) <;> (try (exfalso; omega))))) | ((with_reducible show AOps _ _ _ _ _ _); (first | refine aops_nil ?_ | refine aops_go ty_ok rfl rfl sdm ?_ | refine aops_gate ty_ok rfl rfl rfl sdm ?_ | refine aops_litE ty_ok rfl rfl rfl rfl rfl rfl rfl rfl rfl rfl rfl rfl ?_ | refine aops_litA ty_ok rfl rfl rfl rfl rfl rfl rfl rfl rfl rfl rfl rfl rfl rfl rfl rfl ?_ | refine aops_buildArr ty_ok rfl rfl rfl rfl rfl rfl rfl rfl rfl rfl ?_ | refine aops_indexArr ty_ok rfl rfl rfl rfl rfl rfl rfl rfl rfl rfl sdm ?_ | refine aops_lit0 ty_ok rfl rfl rfl rfl rfl rfl rfl ?_ | refine aops_field ty_ok rfl rfl rfl rfl rfl rfl rfl rfl rfl rfl ?_ | refine aops_cutE ty_ok rfl rfl rfl rfl rfl rfl rfl rfl rfl sdm rfl ?_ | ((fail_if_success (refine aops_known rfl ?_)); (refine aops_split ty_ok rfl rfl rfl rfl rfl rfl (fun hc => ⟨?_, ?_⟩) (fun hc => ⟨?_, ?_⟩)) <;> (try simp only [nms, reduceCtorEq] at hc) <;> (try (exfalso; omega)) <;> (try exact sdm)))) | ((fail_if_success (with_reducible show AWp _ _ _ _ _)); (fail_if_success (with_reducible show AOps _ _ _ _ _ _)); (first | (show AWp _ _ _ _ _) | (show AOps _ _ _ _ _ _))))
  rfl
theorem isXValid : IsFn Tryd.prog 49 Tryd.f49 := ⟨Tryd.func49, by decide, rfl⟩
theorem c_xvalid (x : Ext) (ho : x.o.length ≤ 100000000) : ACalls Tryd.prog envL 49 [xD x] (fun r => r = .d (.bool (exV x))) := by
  refine acalls_of ty_ok isXValid rfl rfl ?_
  have hc1 := c_ovalid x.o ho
  unfold sD at hc1
  unfold xD sD exV
  repeat' (first | ((with_reducible show AWp _ _ _ _ _); (first | refine awp_seq ?_ | refine awp_block ?_ | refine awp_skip ?_ | refine awp_exit ?_ | refine awp_scope ?_ | refine awp_label ?_ | refine awp_run ty_ok rfl sdm ?_ | refine awp_ret ⟨_, _, rfl, rfl, ?_⟩ | refine awp_ret ⟨_, rfl, ?_⟩ | ((refine awp_cond (ty := ty) rfl (fun hc => ?_) (fun hc => ?_)) <;> (try simp only [nms, reduceCtorEq] at hc) <;> (try (exfalso; omega))))) | ((with_reducible show AOps _ _ _ _ _ _); (first | refine aops_nil ?_ | refine aops_go ty_ok rfl rfl sdm ?_ | refine aops_gate ty_ok rfl rfl rfl sdm ?_ | refine aops_callE (ty := ty) rfl rfl rfl rfl rfl rfl rfl (hc1) rfl ?_ | refine aops_litE ty_ok rfl rfl rfl rfl rfl rfl rfl rfl rfl rfl rfl rfl ?_ | refine aops_litA ty_ok rfl rfl rfl rfl rfl rfl rfl rfl rfl rfl rfl rfl rfl rfl rfl rfl ?_ | refine aops_buildArr ty_ok rfl rfl rfl rfl rfl rfl rfl rfl rfl rfl ?_ | refine aops_indexArr ty_ok rfl rfl rfl rfl rfl rfl rfl rfl rfl rfl sdm ?_ | refine aops_lit0 ty_ok rfl rfl rfl rfl rfl rfl rfl ?_ | refine aops_field ty_ok rfl rfl rfl rfl rfl rfl rfl rfl rfl rfl ?_ | refine aops_cutE ty_ok rfl rfl rfl rfl rfl rfl rfl rfl rfl sdm rfl ?_ | ((fail_if_success (refine aops_known rfl ?_)); (refine aops_split ty_ok rfl rfl rfl rfl rfl rfl (fun hc => ⟨?_, ?_⟩) (fun hc => ⟨?_, ?_⟩)) <;> (try simp only [nms, reduceCtorEq] at hc) <;> (try (exfalso; omega)) <;> (try exact sdm)))) | ((fail_if_success (with_reducible show AWp _ _ _ _ _)); (fail_if_success (with_reducible show AOps _ _ _ _ _ _)); (first | (show AWp _ _ _ _ _) | (show AOps _ _ _ _ _ _))))
  rfl
theorem c_xvalid_at (x : Ext) (ho : x.o.length ≤ 100000000) {v : Bool} (h : exV x = v) : ACalls Tryd.prog envL 49 [xD x] (fun r => r = .d (.bool v)) := by
  subst h
  exact c_xvalid x ho
def exR (x : Ext) : Res := match exV x with
  | true => .ownT none 5 (bys (exF x)) [.int .i64 0]
  | false => .d (.tup [.sl none [], .int .i64 8])
theorem okF_of_bad {s : List UInt8} (h : oidV s = false) : okF s = none := by
  unfold oidV at h
  cases ho : okF s with
  | none => rfl
  | some a => rw [ho] at h; cases h
theorem isXMarshal : IsFn Tryd.prog 23 Tryd.f23 := ⟨Tryd.func23, by decide, rfl⟩
theorem isXWrap : IsFn Tryd.prog 37 Tryd.f37 := ⟨Tryd.func37, by decide, rfl⟩
set_option maxHeartbeats 2000000 in
theorem c_xmarshal (x : Ext) (ho : x.o.length ≤ 1000000) (hvl : x.v.length ≤ 1000000) : ACalls Tryd.prog envL 23 [xD x] (fun r => r = exR x) := by
  refine acalls_of ty_ok isXMarshal rfl rfl ?_
  have he := encO_len x.o
  have hcat := ex_cat x 6000060 (by omega)
  unfold exR
  cases hv : exV x with
  | false =>
    have hc1 := c_oenc_bad x.o (by omega) (okF_of_bad hv)
    unfold sD at hc1
    unfold xD sD
    repeat' (first | ((with_reducible show AWp _ _ _ _ _); (first | refine awp_seq ?_ | refine awp_block ?_ | refine awp_skip ?_ | refine awp_exit ?_ | refine awp_scope ?_ | refine awp_label ?_ | refine awp_run ty_ok rfl sdm ?_ | refine awp_ret ⟨_, _, rfl, rfl, ?_⟩ | refine awp_ret ⟨_, rfl, ?_⟩ | ((refine awp_cond (ty := ty) rfl (fun hc => ?_) (fun hc => ?_)) <;> (try simp only [nms, reduceCtorEq] at hc) <;> (try (exfalso; omega))))) | ((with_reducible show AOps _ _ _ _ _ _); (first | refine aops_nil ?_ | refine aops_go ty_ok rfl rfl sdm ?_ | refine aops_gate ty_ok rfl rfl rfl sdm ?_ | refine aops_callE (ty := ty) rfl rfl rfl rfl rfl rfl rfl (hc1) rfl ?_ | refine aops_litE ty_ok rfl rfl rfl rfl rfl rfl rfl rfl rfl rfl rfl rfl ?_ | refine aops_litA ty_ok rfl rfl rfl rfl rfl rfl rfl rfl rfl rfl rfl rfl rfl rfl rfl rfl ?_ | refine aops_buildArr ty_ok rfl rfl rfl rfl rfl rfl rfl rfl rfl rfl ?_ | refine aops_indexArr ty_ok rfl rfl rfl rfl rfl rfl rfl rfl rfl rfl sdm ?_ | refine aops_lit0 ty_ok rfl rfl rfl rfl rfl rfl rfl ?_ | refine aops_field ty_ok rfl rfl rfl rfl rfl rfl rfl rfl rfl rfl ?_ | refine aops_cutE ty_ok rfl rfl rfl rfl rfl rfl rfl rfl rfl sdm rfl ?_ | ((fail_if_success (refine aops_known rfl ?_)); (refine aops_split ty_ok rfl rfl rfl rfl rfl rfl (fun hc => ⟨?_, ?_⟩) (fun hc => ⟨?_, ?_⟩)) <;> (try simp only [nms, reduceCtorEq] at hc) <;> (try (exfalso; omega)) <;> (try exact sdm)))) | ((fail_if_success (with_reducible show AWp _ _ _ _ _)); (fail_if_success (with_reducible show AOps _ _ _ _ _ _)); (first | (show AWp _ _ _ _ _) | (show AOps _ _ _ _ _ _))))
    rfl
  | true =>
    have hc1 := c_oenc_okO x.o (by omega) hv
    have m3 : maxI (maxI (maxI 0 0) 0) 0 = 0 := rfl
    have m2 : maxI (maxI 0 0) 0 = 0 := rfl
    have hw1 := fun Γ => c_wrap Γ 0 6 false [encO x.o] (by omega) (by omega) (by simp) (by simp; omega)
    have hw2 := fun Γ => c_wrap Γ 0 1 false [[255]] (by omega) (by omega) (by simp) (by simp)
    have hw3 := fun Γ => c_wrap Γ 0 4 false [x.v] (by omega) (by omega) (by simp) (by simp; omega)
    unfold sD at hc1
    obtain ⟨o, c, v⟩ := x
    simp only at he hvl ho hc1 hw1 hw3
    unfold xD sD
    simp only
    cases c with
    | true =>
      have hs := c_sequence (envL.at 0) [putF (idB 0 false 6) [encO o].flatten, putF (idB 0 false 1) [[255]].flatten, putF (idB 0 false 4) [v].flatten] (by simp) (by simpa [exB, catF, idB] using Nat.le_trans hcat (by omega))
      repeat' (first | ((with_reducible show AWp _ _ _ _ _); (first | refine awp_seq ?_ | refine awp_block ?_ | refine awp_skip ?_ | refine awp_exit ?_ | refine awp_scope ?_ | refine awp_label ?_ | refine awp_run ty_ok rfl sdm ?_ | refine awp_ret ⟨_, _, rfl, rfl, ?_⟩ | refine awp_ret ⟨_, rfl, ?_⟩ | ((refine awp_cond (ty := ty) rfl (fun hc => ?_) (fun hc => ?_)) <;> (try simp only [nms, reduceCtorEq] at hc) <;> (try (exfalso; omega))))) | ((with_reducible show AOps _ _ _ _ _ _); (first | refine aops_nil ?_ | refine aops_go ty_ok rfl rfl sdm ?_ | refine aops_gate ty_ok rfl rfl rfl sdm ?_ | refine aops_callE (ty := ty) rfl rfl rfl rfl rfl rfl rfl (hc1) rfl ?_ | refine aops_callE (ty := ty) rfl rfl rfl rfl rfl rfl rfl (hw1 _) rfl ?_ | refine aops_callE (ty := ty) rfl rfl rfl rfl rfl rfl rfl (hw2 _) rfl ?_ | refine aops_callE (ty := ty) rfl rfl rfl rfl rfl rfl rfl (hw3 _) rfl ?_ | refine aops_callE (ty := ty) rfl rfl rfl rfl rfl rfl rfl (c_frombool _) rfl ?_ | refine aops_callE (ty := ty) rfl rfl rfl rfl rfl rfl rfl (hs) rfl ?_ | refine aops_inline ty_ok rfl rfl rfl rfl rfl rfl isXWrap rfl rfl ?_ | refine aops_litE ty_ok rfl rfl rfl rfl rfl rfl rfl rfl rfl rfl rfl rfl ?_ | refine aops_litA ty_ok rfl rfl rfl rfl rfl rfl rfl rfl rfl rfl rfl rfl rfl rfl rfl rfl ?_ | refine aops_buildArr ty_ok rfl rfl rfl rfl rfl rfl rfl rfl rfl rfl ?_ | refine aops_indexArr ty_ok rfl rfl rfl rfl rfl rfl rfl rfl rfl rfl sdm ?_ | refine aops_lit0 ty_ok rfl rfl rfl rfl rfl rfl rfl ?_ | refine aops_field ty_ok rfl rfl rfl rfl rfl rfl rfl rfl rfl rfl ?_ | refine aops_cutE ty_ok rfl rfl rfl rfl rfl rfl rfl rfl rfl sdm rfl ?_ | ((fail_if_success (refine aops_known rfl ?_)); (refine aops_split ty_ok rfl rfl rfl rfl rfl rfl (fun hc => ⟨?_, ?_⟩) (fun hc => ⟨?_, ?_⟩)) <;> (try simp only [nms, reduceCtorEq] at hc) <;> (try (exfalso; omega)) <;> (try exact sdm)))) | ((fail_if_success (with_reducible show AWp _ _ _ _ _)); (fail_if_success (with_reducible show AOps _ _ _ _ _ _)); (first | (show AWp _ _ _ _ _) | (show AOps _ _ _ _ _ _) | ((with_reducible show BackOk _ _ _ _ _); refine back_nil rfl ?_))))
      all_goals simp [exF, exB, catF, idB]
    | false =>
      have hs := c_sequence (envL.at 0) [putF (idB 0 false 6) [encO o].flatten, putF (idB 0 false 4) [v].flatten] (by simp) (by simpa [exB, catF, idB] using Nat.le_trans hcat (by omega))
      repeat' (first | ((with_reducible show AWp _ _ _ _ _); (first | refine awp_seq ?_ | refine awp_block ?_ | refine awp_skip ?_ | refine awp_exit ?_ | refine awp_scope ?_ | refine awp_label ?_ | refine awp_run ty_ok rfl sdm ?_ | refine awp_ret ⟨_, _, rfl, rfl, ?_⟩ | refine awp_ret ⟨_, rfl, ?_⟩ | ((refine awp_cond (ty := ty) rfl (fun hc => ?_) (fun hc => ?_)) <;> (try simp only [nms, reduceCtorEq] at hc) <;> (try (exfalso; omega))))) | ((with_reducible show AOps _ _ _ _ _ _); (first | refine aops_nil ?_ | refine aops_go ty_ok rfl rfl sdm ?_ | refine aops_gate ty_ok rfl rfl rfl sdm ?_ | refine aops_callE (ty := ty) rfl rfl rfl rfl rfl rfl rfl (hc1) rfl ?_ | refine aops_callE (ty := ty) rfl rfl rfl rfl rfl rfl rfl (hw1 _) rfl ?_ | refine aops_callE (ty := ty) rfl rfl rfl rfl rfl rfl rfl (hw3 _) rfl ?_ | refine aops_callE (ty := ty) rfl rfl rfl rfl rfl rfl rfl (hs) rfl ?_ | refine aops_inline ty_ok rfl rfl rfl rfl rfl rfl isXWrap rfl rfl ?_ | refine aops_litE ty_ok rfl rfl rfl rfl rfl rfl rfl rfl rfl rfl rfl rfl ?_ | refine aops_litA ty_ok rfl rfl rfl rfl rfl rfl rfl rfl rfl rfl rfl rfl rfl rfl rfl rfl ?_ | refine aops_buildArr ty_ok rfl rfl rfl rfl rfl rfl rfl rfl rfl rfl ?_ | refine aops_indexArr ty_ok rfl rfl rfl rfl rfl rfl rfl rfl rfl rfl sdm ?_ | refine aops_lit0 ty_ok rfl rfl rfl rfl rfl rfl rfl ?_ | refine aops_field ty_ok rfl rfl rfl rfl rfl rfl rfl rfl rfl rfl ?_ | refine aops_cutE ty_ok rfl rfl rfl rfl rfl rfl rfl rfl rfl sdm rfl ?_ | ((fail_if_success (refine aops_known rfl ?_)); (refine aops_split ty_ok rfl rfl rfl rfl rfl rfl (fun hc => ⟨?_, ?_⟩) (fun hc => ⟨?_, ?_⟩)) <;> (try simp only [nms, reduceCtorEq] at hc) <;> (try (exfalso; omega)) <;> (try exact sdm)))) | ((fail_if_success (with_reducible show AWp _ _ _ _ _)); (fail_if_success (with_reducible show AOps _ _ _ _ _ _)); (first | (show AWp _ _ _ _ _) | (show AOps _ _ _ _ _ _) | ((with_reducible show BackOk _ _ _ _ _); refine back_nil rfl ?_))))
      all_goals simp [exF, exB, catF, idB]
theorem c_xmarshal_ok (x : Ext) (ho : x.o.length ≤ 1000000) (hvl : x.v.length ≤ 1000000) (h : exV x = true) : ACalls Tryd.prog envL 23 [xD x] (fun r => r = .ownT none 5 (bys (exF x)) [.int .i64 0]) := by
  have := c_xmarshal x ho hvl
  rwa [exR, h] at this
theorem c_xmarshal_bad (x : Ext) (ho : x.o.length ≤ 1000000) (hvl : x.v.length ≤ 1000000) (h : exV x = false) : ACalls Tryd.prog envL 23 [xD x] (fun r => r = .d (.tup [.sl none [], .int .i64 8])) := by
  have := c_xmarshal x ho hvl
  rwa [exR, h] at this
def xpR : Ex Ext → Res
  | .bad c o => .d (.tup [xD x0, errD c o])
  | .ok x => .d (.tup [xD x, errD 0 0])
/-- What is known of an element in a list. -/
theorem el_facts {X : Dat} {e : El} (h : X = elD e) : X = .agg [.int .i64 (X.cell 0).num, .int .i64 (X.cell 1).num, .bool (X.cell 2).tru, .int .i64 (X.cell 3).num, .int .i64 (X.cell 4).num, .int .i64 (X.cell 5).num] ∧
    X.cell 3 = .int .i64 (X.cell 3).num ∧ X.cell 4 = .int .i64 (X.cell 4).num ∧ X.cell 5 = .int .i64 (X.cell 5).num ∧ (X.cell 3).num = e.st ∧ (X.cell 4).num = e.bd ∧ (X.cell 5).num = e.en := by
  subst h
  exact ⟨rfl, rfl, rfl, rfl, rfl, rfl, rfl⟩
theorem c_boo_at (Γ : Env) (b : List UInt8) {i j : Nat} {v : Bool} {n : Int} (h : booF (cut b i j) = (v, n)) : ACalls Tryd.prog Γ 44 [.sl none (cutL (bys b) (i : Int).toNat (j : Int).toNat)] (fun r => r = .d (.tup [.bool v, .int .i64 n])) := by
  have h1 := c_boolean Γ (cut b i j)
  rw [h] at h1
  rw [cutL_bys]
  exact h1
theorem c_clone_at (Γ : Env) (b : List UInt8) {i j : Nat} (hj : j ≤ b.length) (hb : b.length ≤ 1000000) : ACalls Tryd.prog Γ 45 [.sl none (cutL (bys b) (i : Int).toNat (j : Int).toNat)] (fun r => r = .own none 5 (bys (cut b i j))) := by
  rw [cutL_bys]
  exact c_clone Γ (cut b i j) (by rw [cut_len _ _ _ hj]; omega)
theorem cut_side (b : List UInt8) {i j : Nat} (h1 : i ≤ j) (h2 : j ≤ b.length) : (0 : Int) ≤ (i : Int) ∧ (i : Int) ≤ (j : Int) ∧ (j : Int) ≤ ((bys b).length : Int) := by
  rw [bys_len]
  omega
end Go.Proofs.YtmciaonjkkelnaaDoor

/- Extensions: Parse. Walked by the abstract machine. -/
namespace Go.Proofs.YtmciaonjkkelnaaDoor
open Go.Am
set_option linter.unusedSimpArgs false
set_option linter.unusedVariables false
-- withAmZ withAmMp

theorem isXParse : IsFn Tryd.prog 24 Tryd.f24 := ⟨Tryd.func24, by decide, rfl⟩
set_option maxHeartbeats 4000000 in
set_option maxRecDepth 100000 in
theorem c_xparse (b : List UInt8) (hb : b.length ≤ 1000000) : ACalls Tryd.prog envL 24 [.sl none (bys b)] (fun r => r = xpR (exP b)) := by
  refine acalls_of ty_ok isXParse rfl rfl ?_
  rw [exP]
  cases hp : ptF b 0 16 with
  | bad c o =>
    have hc1 := c_parts_at (envL.at 0) b 0 16 (by omega) hp
    have := pt_bad hp
    repeat' (first | ((with_reducible show AWp _ _ _ _ _); (first | refine awp_seq ?_ | refine awp_block ?_ | refine awp_skip ?_ | refine awp_exit ?_ | refine awp_scope ?_ | refine awp_label ?_ | refine awp_run ty_ok rfl sdm ?_ | refine awp_ret ⟨_, _, rfl, rfl, ?_⟩ | refine awp_ret ⟨_, rfl, ?_⟩ | ((refine awp_cond (ty := ty) rfl (fun hc => ?_) (fun hc => ?_)) <;> (try simp only [nms, reduceCtorEq] at hc) <;> (try (exfalso; omega))) | refine awp_anyS 3 2 ty_ok mixed rfl rfl rfl rfl rfl rfl rfl rfl rfl (by kernel_rfl) ?_)) | ((with_reducible show AOps _ _ _ _ _ _); (first | refine aops_nil ?_ | refine aops_go ty_ok rfl rfl sdm ?_ | refine aops_gate ty_ok rfl rfl rfl sdm ?_ | refine aops_callE (ty := ty) rfl rfl rfl rfl rfl rfl rfl (hc1) rfl ?_ | refine aops_litE ty_ok rfl rfl rfl rfl rfl rfl rfl rfl rfl rfl rfl rfl ?_ | refine aops_litA ty_ok rfl rfl rfl rfl rfl rfl rfl rfl rfl rfl rfl rfl rfl rfl rfl rfl ?_ | refine aops_buildArr ty_ok rfl rfl rfl rfl rfl rfl rfl rfl rfl rfl ?_ | refine aops_indexArr ty_ok rfl rfl rfl rfl rfl rfl rfl rfl rfl rfl sdm ?_ | refine aops_lit0 ty_ok rfl rfl rfl rfl rfl rfl rfl ?_ | refine aops_field ty_ok rfl rfl rfl rfl rfl rfl rfl rfl rfl rfl ?_ | refine aops_cutE ty_ok rfl rfl rfl rfl rfl rfl rfl rfl rfl sdm rfl ?_ | ((fail_if_success (refine aops_known rfl ?_)); (refine aops_split ty_ok rfl rfl rfl rfl rfl rfl (fun hc => ⟨?_, ?_⟩) (fun hc => ⟨?_, ?_⟩)) <;> (try simp only [nms, reduceCtorEq] at hc) <;> (try (exfalso; omega)) <;> (try exact sdm)))) | ((with_reducible show HeadT _ _ _ _ _ _ _ _ _ _); (first | refine head_end ?_ | refine head_goP ty_ok rfl rfl sdm ?_ | refine head_gate ty_ok rfl rfl rfl sdm ?_ | refine head_callE (ty := ty) rfl rfl rfl rfl rfl rfl rfl (hc1) rfl ?_ | ((fail_if_success (refine head_known rfl ?_)); (refine head_split ty_ok rfl rfl rfl rfl (fun hc => ⟨?_, ?_⟩) (fun hc => ⟨?_, ?_⟩)) <;> (try simp only [nms, reduceCtorEq] at hc) <;> (try (exfalso; omega)) <;> (try exact sdm)))) | ((fail_if_success (with_reducible show AWp _ _ _ _ _)); (fail_if_success (with_reducible show AOps _ _ _ _ _ _)); (fail_if_success (with_reducible show HeadT _ _ _ _ _ _ _ _ _ _)); (first | (show AWp _ _ _ _ _) | (show AOps _ _ _ _ _ _) | refine st_go rfl rfl rfl rfl rfl rfl rfl ?_)))
    rfl
  | ok l =>
    have hc1 := (c_parts_at (envL.at 0) b 0 16 (by omega) hp).ownT_d
    obtain ⟨ts, hbe, E⟩ := seq_ok hp
    match l, E, hp, hc1 with
    | [], E, hp, hc1 =>
      repeat' (first | ((with_reducible show AWp _ _ _ _ _); (first | refine awp_seq ?_ | refine awp_block ?_ | refine awp_skip ?_ | refine awp_exit ?_ | refine awp_scope ?_ | refine awp_label ?_ | refine awp_run ty_ok rfl sdm ?_ | refine awp_ret ⟨_, _, rfl, rfl, ?_⟩ | refine awp_ret ⟨_, rfl, ?_⟩ | ((refine awp_cond (ty := ty) rfl (fun hc => ?_) (fun hc => ?_)) <;> (try simp only [nms, reduceCtorEq] at hc) <;> (try (exfalso; omega))))) | ((with_reducible show AOps _ _ _ _ _ _); (first | refine aops_nil ?_ | refine aops_go ty_ok rfl rfl sdm ?_ | refine aops_gate ty_ok rfl rfl rfl sdm ?_ | refine aops_callE (ty := ty) rfl rfl rfl rfl rfl rfl rfl (hc1) rfl ?_ | refine aops_litE ty_ok rfl rfl rfl rfl rfl rfl rfl rfl rfl rfl rfl rfl ?_ | refine aops_litA ty_ok rfl rfl rfl rfl rfl rfl rfl rfl rfl rfl rfl rfl rfl rfl rfl rfl ?_ | refine aops_buildArr ty_ok rfl rfl rfl rfl rfl rfl rfl rfl rfl rfl ?_ | refine aops_indexArr ty_ok rfl rfl rfl rfl rfl rfl rfl rfl rfl rfl sdm ?_ | refine aops_lit0 ty_ok rfl rfl rfl rfl rfl rfl rfl ?_ | refine aops_field ty_ok rfl rfl rfl rfl rfl rfl rfl rfl rfl rfl ?_ | refine aops_cutE ty_ok rfl rfl rfl rfl rfl rfl rfl rfl rfl sdm rfl ?_ | ((fail_if_success (refine aops_known rfl ?_)); (refine aops_split ty_ok rfl rfl rfl rfl rfl rfl (fun hc => ⟨?_, ?_⟩) (fun hc => ⟨?_, ?_⟩)) <;> (try simp only [nms, reduceCtorEq] at hc) <;> (try (exfalso; omega)) <;> (try exact sdm)))) | ((fail_if_success (with_reducible show AWp _ _ _ _ _)); (fail_if_success (with_reducible show AOps _ _ _ _ _ _)); (first | (show AWp _ _ _ _ _) | (show AOps _ _ _ _ _ _))))
      rfl
    | [e], E, hp, hc1 =>
      repeat' (first | ((with_reducible show AWp _ _ _ _ _); (first | refine awp_seq ?_ | refine awp_block ?_ | refine awp_skip ?_ | refine awp_exit ?_ | refine awp_scope ?_ | refine awp_label ?_ | refine awp_run ty_ok rfl sdm ?_ | refine awp_ret ⟨_, _, rfl, rfl, ?_⟩ | refine awp_ret ⟨_, rfl, ?_⟩ | ((refine awp_cond (ty := ty) rfl (fun hc => ?_) (fun hc => ?_)) <;> (try simp only [nms, reduceCtorEq] at hc) <;> (try (exfalso; omega))))) | ((with_reducible show AOps _ _ _ _ _ _); (first | refine aops_nil ?_ | refine aops_go ty_ok rfl rfl sdm ?_ | refine aops_gate ty_ok rfl rfl rfl sdm ?_ | refine aops_callE (ty := ty) rfl rfl rfl rfl rfl rfl rfl (hc1) rfl ?_ | refine aops_litE ty_ok rfl rfl rfl rfl rfl rfl rfl rfl rfl rfl rfl rfl ?_ | refine aops_litA ty_ok rfl rfl rfl rfl rfl rfl rfl rfl rfl rfl rfl rfl rfl rfl rfl rfl ?_ | refine aops_buildArr ty_ok rfl rfl rfl rfl rfl rfl rfl rfl rfl rfl ?_ | refine aops_indexArr ty_ok rfl rfl rfl rfl rfl rfl rfl rfl rfl rfl sdm ?_ | refine aops_lit0 ty_ok rfl rfl rfl rfl rfl rfl rfl ?_ | refine aops_field ty_ok rfl rfl rfl rfl rfl rfl rfl rfl rfl rfl ?_ | refine aops_cutE ty_ok rfl rfl rfl rfl rfl rfl rfl rfl rfl sdm rfl ?_ | ((fail_if_success (refine aops_known rfl ?_)); (refine aops_split ty_ok rfl rfl rfl rfl rfl rfl (fun hc => ⟨?_, ?_⟩) (fun hc => ⟨?_, ?_⟩)) <;> (try simp only [nms, reduceCtorEq] at hc) <;> (try (exfalso; omega)) <;> (try exact sdm)))) | ((fail_if_success (with_reducible show AWp _ _ _ _ _)); (fail_if_success (with_reducible show AOps _ _ _ _ _ _)); (first | (show AWp _ _ _ _ _) | (show AOps _ _ _ _ _ _))))
      rfl
    | e :: f :: g :: h :: r, E, hp, hc1 =>
      have hl : (els (e :: f :: g :: h :: r)).length = r.length + 4 := by simp [els_len]
      repeat' (first | ((with_reducible show AWp _ _ _ _ _); (first | refine awp_seq ?_ | refine awp_block ?_ | refine awp_skip ?_ | refine awp_exit ?_ | refine awp_scope ?_ | refine awp_label ?_ | refine awp_run ty_ok rfl sdm ?_ | refine awp_ret ⟨_, _, rfl, rfl, ?_⟩ | refine awp_ret ⟨_, rfl, ?_⟩ | ((refine awp_cond (ty := ty) rfl (fun hc => ?_) (fun hc => ?_)) <;> (try simp only [nms, reduceCtorEq] at hc) <;> (try (exfalso; omega))))) | ((with_reducible show AOps _ _ _ _ _ _); (first | refine aops_nil ?_ | refine aops_go ty_ok rfl rfl sdm ?_ | refine aops_gate ty_ok rfl rfl rfl sdm ?_ | refine aops_callE (ty := ty) rfl rfl rfl rfl rfl rfl rfl (hc1) rfl ?_ | refine aops_litE ty_ok rfl rfl rfl rfl rfl rfl rfl rfl rfl rfl rfl rfl ?_ | refine aops_litA ty_ok rfl rfl rfl rfl rfl rfl rfl rfl rfl rfl rfl rfl rfl rfl rfl rfl ?_ | refine aops_buildArr ty_ok rfl rfl rfl rfl rfl rfl rfl rfl rfl rfl ?_ | refine aops_indexArr ty_ok rfl rfl rfl rfl rfl rfl rfl rfl rfl rfl sdm ?_ | refine aops_lit0 ty_ok rfl rfl rfl rfl rfl rfl rfl ?_ | refine aops_field ty_ok rfl rfl rfl rfl rfl rfl rfl rfl rfl rfl ?_ | refine aops_cutE ty_ok rfl rfl rfl rfl rfl rfl rfl rfl rfl sdm rfl ?_ | ((fail_if_success (refine aops_known rfl ?_)); (refine aops_split ty_ok rfl rfl rfl rfl rfl rfl (fun hc => ⟨?_, ?_⟩) (fun hc => ⟨?_, ?_⟩)) <;> (try simp only [nms, reduceCtorEq] at hc) <;> (try (exfalso; omega)) <;> (try exact sdm)))) | ((fail_if_success (with_reducible show AWp _ _ _ _ _)); (fail_if_success (with_reducible show AOps _ _ _ _ _ _)); (first | (show AWp _ _ _ _ _) | (show AOps _ _ _ _ _ _))))
      rfl
    | [e, f], E, hp, hc1 =>
      simp only
      obtain ⟨h1, h2, h3⟩ := E.le 0 (by simp)
      obtain ⟨h4, h5, h6⟩ := E.le 1 (by simp)
      simp only [List.getElem_cons_zero, List.getElem_cons_succ] at h1 h2 h3 h4 h5 h6
      obtain ⟨q1, q2, q3, q4, q5, q6, q7⟩ := el_facts (X := (els [e, f]).getD (Int.toNat 0) default) (e := e) rfl
      obtain ⟨p1, p2, p3, p4, p5, p6, p7⟩ := el_facts (X := (els [e, f]).getD (Int.toNat (((els [e, f]).length : Int) - 1)) default) (e := f) rfl
      have hl : (els [e, f]).length = 2 := rfl
      obtain ⟨k1, k2, k3⟩ := cut_side b h2 h3
      obtain ⟨k4, k5, k6⟩ := cut_side b h5 h6
      cases hi : isB e.x 0 false 6 with
      | false =>
        have hc2 := c_is_at (envL.at 0) e 0 6 false hi
        rw [exI, hi]
        repeat' (first | ((with_reducible show AWp _ _ _ _ _); (first | refine awp_seq ?_ | refine awp_block ?_ | refine awp_skip ?_ | refine awp_exit ?_ | refine awp_scope ?_ | refine awp_label ?_ | refine awp_run ty_ok rfl sdm ?_ | refine awp_ret ⟨_, _, rfl, rfl, ?_⟩ | refine awp_ret ⟨_, rfl, ?_⟩ | ((refine awp_cond (ty := ty) rfl (fun hc => ?_) (fun hc => ?_)) <;> (try simp only [nms, reduceCtorEq] at hc) <;> (try (exfalso; omega))))) | ((with_reducible show AOps _ _ _ _ _ _); (first | refine aops_nil ?_ | refine aops_go ty_ok rfl rfl sdm ?_ | refine aops_gate ty_ok rfl rfl rfl sdm ?_ | refine aops_callE (ty := ty) rfl rfl rfl rfl rfl rfl rfl (hc1) rfl ?_ | refine aops_callE (ty := ty) rfl rfl rfl rfl rfl rfl rfl (hc2) rfl ?_ | refine aops_litE ty_ok rfl rfl rfl rfl rfl rfl rfl rfl rfl rfl rfl rfl ?_ | refine aops_litA ty_ok rfl rfl rfl rfl rfl rfl rfl rfl rfl rfl rfl rfl rfl rfl rfl rfl ?_ | refine aops_buildArr ty_ok rfl rfl rfl rfl rfl rfl rfl rfl rfl rfl ?_ | refine aops_indexArr ty_ok rfl rfl rfl rfl rfl rfl rfl rfl rfl rfl sdm ?_ | refine aops_lit0 ty_ok rfl rfl rfl rfl rfl rfl rfl ?_ | refine aops_field ty_ok rfl rfl rfl rfl rfl rfl rfl rfl rfl rfl ?_ | refine aops_cutE ty_ok rfl rfl rfl rfl rfl rfl rfl rfl rfl sdm rfl ?_ | ((fail_if_success (refine aops_known rfl ?_)); (refine aops_split ty_ok rfl rfl rfl rfl rfl rfl (fun hc => ⟨?_, ?_⟩) (fun hc => ⟨?_, ?_⟩)) <;> (try simp only [nms, reduceCtorEq] at hc) <;> (try (exfalso; omega)) <;> (try exact sdm)))) | ((fail_if_success (with_reducible show AWp _ _ _ _ _)); (fail_if_success (with_reducible show AOps _ _ _ _ _ _)); (first | (show AWp _ _ _ _ _) | (show AOps _ _ _ _ _ _))))
        rfl
      | true =>
        have hc2 := c_is_at (envL.at 0) e 0 6 false hi
        rw [exI, hi]
        by_cases hd : (decS (cut b e.bd e.en)).2 = 0
        · have hc3 := c_odec_ok b h3 h2 (by omega) hd
          rw [decide_eq_true hd]
          simp only
          rw [exL]
          cases hk : isB f.x 0 false 4 with
          | false =>
            have hc4 := c_is_at (envL.at 0) f 0 4 false hk
            repeat' (first | ((with_reducible show AWp _ _ _ _ _); (first | refine awp_seq ?_ | refine awp_block ?_ | refine awp_skip ?_ | refine awp_exit ?_ | refine awp_scope ?_ | refine awp_label ?_ | refine awp_run ty_ok rfl sdm ?_ | refine awp_ret ⟨_, _, rfl, rfl, ?_⟩ | refine awp_ret ⟨_, rfl, ?_⟩ | ((refine awp_cond (ty := ty) rfl (fun hc => ?_) (fun hc => ?_)) <;> (try simp only [nms, reduceCtorEq] at hc) <;> (try (exfalso; omega))) | refine awp_anyL 15 mixed rfl (by kernel_rfl) ?_ | refine awp_anyS 5 4 ty_ok mixed rfl rfl rfl rfl rfl rfl rfl rfl rfl (by kernel_rfl) ?_)) | ((with_reducible show AOps _ _ _ _ _ _); (first | refine aops_nil ?_ | refine aops_go ty_ok rfl rfl sdm ?_ | refine aops_gate ty_ok rfl rfl rfl sdm ?_ | refine aops_callE (ty := ty) rfl rfl rfl rfl rfl rfl rfl (hc1) rfl ?_ | refine aops_callE (ty := ty) rfl rfl rfl rfl rfl rfl rfl (hc2) rfl ?_ | refine aops_callE (ty := ty) rfl rfl rfl rfl rfl rfl rfl (hc3) rfl ?_ | refine aops_callE (ty := ty) rfl rfl rfl rfl rfl rfl rfl (hc4) rfl ?_ | refine aops_litE ty_ok rfl rfl rfl rfl rfl rfl rfl rfl rfl rfl rfl rfl ?_ | refine aops_litA ty_ok rfl rfl rfl rfl rfl rfl rfl rfl rfl rfl rfl rfl rfl rfl rfl rfl ?_ | refine aops_buildArr ty_ok rfl rfl rfl rfl rfl rfl rfl rfl rfl rfl ?_ | refine aops_indexArr ty_ok rfl rfl rfl rfl rfl rfl rfl rfl rfl rfl sdm ?_ | refine aops_lit0 ty_ok rfl rfl rfl rfl rfl rfl rfl ?_ | refine aops_field ty_ok rfl rfl rfl rfl rfl rfl rfl rfl rfl rfl ?_ | refine aops_cutE ty_ok rfl rfl rfl rfl rfl rfl rfl rfl rfl sdm rfl ?_ | ((fail_if_success (refine aops_known rfl ?_)); (refine aops_split ty_ok rfl rfl rfl rfl rfl rfl (fun hc => ⟨?_, ?_⟩) (fun hc => ⟨?_, ?_⟩)) <;> (try simp only [nms, reduceCtorEq] at hc) <;> (try (exfalso; omega)) <;> (try exact sdm)))) | ((with_reducible show HeadT _ _ _ _ _ _ _ _ _ _); (first | refine head_end ?_ | refine head_goP ty_ok rfl rfl sdm ?_ | refine head_gate ty_ok rfl rfl rfl sdm ?_ | refine head_callE (ty := ty) rfl rfl rfl rfl rfl rfl rfl (hc1) rfl ?_ | refine head_callE (ty := ty) rfl rfl rfl rfl rfl rfl rfl (hc2) rfl ?_ | refine head_callE (ty := ty) rfl rfl rfl rfl rfl rfl rfl (hc3) rfl ?_ | refine head_callE (ty := ty) rfl rfl rfl rfl rfl rfl rfl (hc4) rfl ?_ | ((fail_if_success (refine head_known rfl ?_)); (refine head_split ty_ok rfl rfl rfl rfl (fun hc => ⟨?_, ?_⟩) (fun hc => ⟨?_, ?_⟩)) <;> (try simp only [nms, reduceCtorEq] at hc) <;> (try (exfalso; omega)) <;> (try exact sdm)))) | ((fail_if_success (with_reducible show AWp _ _ _ _ _)); (fail_if_success (with_reducible show AOps _ _ _ _ _ _)); (fail_if_success (with_reducible show HeadT _ _ _ _ _ _ _ _ _ _)); (first | (show AWp _ _ _ _ _) | (show AOps _ _ _ _ _ _) | refine st_go rfl rfl rfl rfl rfl rfl rfl ?_)))
            rfl
          | true =>
            have hc4 := c_is_at (envL.at 0) f 0 4 false hk
            repeat' (first | ((with_reducible show AWp _ _ _ _ _); (first | refine awp_seq ?_ | refine awp_block ?_ | refine awp_skip ?_ | refine awp_exit ?_ | refine awp_scope ?_ | refine awp_label ?_ | refine awp_run ty_ok rfl sdm ?_ | refine awp_ret ⟨_, _, rfl, rfl, ?_⟩ | refine awp_ret ⟨_, rfl, ?_⟩ | ((refine awp_cond (ty := ty) rfl (fun hc => ?_) (fun hc => ?_)) <;> (try simp only [nms, reduceCtorEq] at hc) <;> (try (exfalso; omega))) | refine awp_anyL 15 mixed rfl (by kernel_rfl) ?_)) | ((with_reducible show AOps _ _ _ _ _ _); (first | refine aops_nil ?_ | refine aops_go ty_ok rfl rfl sdm ?_ | refine aops_gate ty_ok rfl rfl rfl sdm ?_ | refine aops_callE (ty := ty) rfl rfl rfl rfl rfl rfl rfl (hc1) rfl ?_ | refine aops_callE (ty := ty) rfl rfl rfl rfl rfl rfl rfl (hc2) rfl ?_ | refine aops_callE (ty := ty) rfl rfl rfl rfl rfl rfl rfl (hc3) rfl ?_ | refine aops_callE (ty := ty) rfl rfl rfl rfl rfl rfl rfl (hc4) rfl ?_ | refine aops_callE (ty := ty) rfl rfl rfl rfl rfl rfl rfl (c_clone_at _ b h6 hb) rfl ?_ | refine aops_litE ty_ok rfl rfl rfl rfl rfl rfl rfl rfl rfl rfl rfl rfl ?_ | refine aops_litA ty_ok rfl rfl rfl rfl rfl rfl rfl rfl rfl rfl rfl rfl rfl rfl rfl rfl ?_ | refine aops_buildArr ty_ok rfl rfl rfl rfl rfl rfl rfl rfl rfl rfl ?_ | refine aops_indexArr ty_ok rfl rfl rfl rfl rfl rfl rfl rfl rfl rfl sdm ?_ | refine aops_lit0 ty_ok rfl rfl rfl rfl rfl rfl rfl ?_ | refine aops_field ty_ok rfl rfl rfl rfl rfl rfl rfl rfl rfl rfl ?_ | refine aops_cutE ty_ok rfl rfl rfl rfl rfl rfl rfl rfl rfl sdm rfl ?_ | ((fail_if_success (refine aops_known rfl ?_)); (refine aops_split ty_ok rfl rfl rfl rfl rfl rfl (fun hc => ⟨?_, ?_⟩) (fun hc => ⟨?_, ?_⟩)) <;> (try simp only [nms, reduceCtorEq] at hc) <;> (try (exfalso; omega)) <;> (try exact sdm)))) | ((with_reducible show HeadT _ _ _ _ _ _ _ _ _ _); (first | refine head_end ?_ | refine head_goP ty_ok rfl rfl sdm ?_ | refine head_gate ty_ok rfl rfl rfl sdm ?_ | refine head_callE (ty := ty) rfl rfl rfl rfl rfl rfl rfl (hc1) rfl ?_ | refine head_callE (ty := ty) rfl rfl rfl rfl rfl rfl rfl (hc2) rfl ?_ | refine head_callE (ty := ty) rfl rfl rfl rfl rfl rfl rfl (hc3) rfl ?_ | refine head_callE (ty := ty) rfl rfl rfl rfl rfl rfl rfl (hc4) rfl ?_ | refine head_callE (ty := ty) rfl rfl rfl rfl rfl rfl rfl (c_clone_at _ b h6 hb) rfl ?_ | ((fail_if_success (refine head_known rfl ?_)); (refine head_split ty_ok rfl rfl rfl rfl (fun hc => ⟨?_, ?_⟩) (fun hc => ⟨?_, ?_⟩)) <;> (try simp only [nms, reduceCtorEq] at hc) <;> (try (exfalso; omega)) <;> (try exact sdm)))) | ((fail_if_success (with_reducible show AWp _ _ _ _ _)); (fail_if_success (with_reducible show AOps _ _ _ _ _ _)); (fail_if_success (with_reducible show HeadT _ _ _ _ _ _ _ _ _ _)); (first | (show AWp _ _ _ _ _) | (show AOps _ _ _ _ _ _))))
            rfl
        · have hc3 := c_odec_bad b h3 h2 (by omega) hd
          rw [decide_eq_false hd]
          repeat' (first | ((with_reducible show AWp _ _ _ _ _); (first | refine awp_seq ?_ | refine awp_block ?_ | refine awp_skip ?_ | refine awp_exit ?_ | refine awp_scope ?_ | refine awp_label ?_ | refine awp_run ty_ok rfl sdm ?_ | refine awp_ret ⟨_, _, rfl, rfl, ?_⟩ | refine awp_ret ⟨_, rfl, ?_⟩ | ((refine awp_cond (ty := ty) rfl (fun hc => ?_) (fun hc => ?_)) <;> (try simp only [nms, reduceCtorEq] at hc) <;> (try (exfalso; omega))) | refine awp_anyL 15 mixed rfl (by kernel_rfl) ?_ | refine awp_anyS 8 7 ty_ok mixed rfl rfl rfl rfl rfl rfl rfl rfl rfl (by kernel_rfl) ?_)) | ((with_reducible show AOps _ _ _ _ _ _); (first | refine aops_nil ?_ | refine aops_go ty_ok rfl rfl sdm ?_ | refine aops_gate ty_ok rfl rfl rfl sdm ?_ | refine aops_callE (ty := ty) rfl rfl rfl rfl rfl rfl rfl (hc1) rfl ?_ | refine aops_callE (ty := ty) rfl rfl rfl rfl rfl rfl rfl (hc2) rfl ?_ | refine aops_callE (ty := ty) rfl rfl rfl rfl rfl rfl rfl (hc3) rfl ?_ | refine aops_litE ty_ok rfl rfl rfl rfl rfl rfl rfl rfl rfl rfl rfl rfl ?_ | refine aops_litA ty_ok rfl rfl rfl rfl rfl rfl rfl rfl rfl rfl rfl rfl rfl rfl rfl rfl ?_ | refine aops_buildArr ty_ok rfl rfl rfl rfl rfl rfl rfl rfl rfl rfl ?_ | refine aops_indexArr ty_ok rfl rfl rfl rfl rfl rfl rfl rfl rfl rfl sdm ?_ | refine aops_lit0 ty_ok rfl rfl rfl rfl rfl rfl rfl ?_ | refine aops_field ty_ok rfl rfl rfl rfl rfl rfl rfl rfl rfl rfl ?_ | refine aops_cutE ty_ok rfl rfl rfl rfl rfl rfl rfl rfl rfl sdm rfl ?_ | ((fail_if_success (refine aops_known rfl ?_)); (refine aops_split ty_ok rfl rfl rfl rfl rfl rfl (fun hc => ⟨?_, ?_⟩) (fun hc => ⟨?_, ?_⟩)) <;> (try simp only [nms, reduceCtorEq] at hc) <;> (try (exfalso; omega)) <;> (try exact sdm)))) | ((with_reducible show HeadT _ _ _ _ _ _ _ _ _ _); (first | refine head_end ?_ | refine head_goP ty_ok rfl rfl sdm ?_ | refine head_gate ty_ok rfl rfl rfl sdm ?_ | refine head_callE (ty := ty) rfl rfl rfl rfl rfl rfl rfl (hc1) rfl ?_ | refine head_callE (ty := ty) rfl rfl rfl rfl rfl rfl rfl (hc2) rfl ?_ | refine head_callE (ty := ty) rfl rfl rfl rfl rfl rfl rfl (hc3) rfl ?_ | ((fail_if_success (refine head_known rfl ?_)); (refine head_split ty_ok rfl rfl rfl rfl (fun hc => ⟨?_, ?_⟩) (fun hc => ⟨?_, ?_⟩)) <;> (try simp only [nms, reduceCtorEq] at hc) <;> (try (exfalso; omega)) <;> (try exact sdm)))) | ((fail_if_success (with_reducible show AWp _ _ _ _ _)); (fail_if_success (with_reducible show AOps _ _ _ _ _ _)); (fail_if_success (with_reducible show HeadT _ _ _ _ _ _ _ _ _ _)); (first | (show AWp _ _ _ _ _) | (show AOps _ _ _ _ _ _) | refine st_go rfl rfl rfl rfl rfl rfl rfl ?_)))
          rfl
    | [e, f, g], E, hp, hc1 =>
      simp only
      obtain ⟨h1, h2, h3⟩ := E.le 0 (by simp)
      obtain ⟨h4, h5, h6⟩ := E.le 1 (by simp)
      obtain ⟨h7, h8, h9⟩ := E.le 2 (by simp)
      simp only [List.getElem_cons_zero, List.getElem_cons_succ] at h1 h2 h3 h4 h5 h6 h7 h8 h9
      obtain ⟨q1, q2, q3, q4, q5, q6, q7⟩ := el_facts (X := (els [e, f, g]).getD (Int.toNat 0) default) (e := e) rfl
      obtain ⟨s1, s2, s3, s4, s5, s6, s7⟩ := el_facts (X := (els [e, f, g]).getD (Int.toNat 1) default) (e := f) rfl
      obtain ⟨p1, p2, p3, p4, p5, p6, p7⟩ := el_facts (X := (els [e, f, g]).getD (Int.toNat (((els [e, f, g]).length : Int) - 1)) default) (e := g) rfl
      have hl : (els [e, f, g]).length = 3 := rfl
      obtain ⟨k1, k2, k3⟩ := cut_side b h2 h3
      obtain ⟨k4, k5, k6⟩ := cut_side b h5 h6
      obtain ⟨k7, k8, k9⟩ := cut_side b h8 h9
      cases hi : isB e.x 0 false 6 with
      | false =>
        have hc2 := c_is_at (envL.at 0) e 0 6 false hi
        rw [exI, hi]
        repeat' (first | ((with_reducible show AWp _ _ _ _ _); (first | refine awp_seq ?_ | refine awp_block ?_ | refine awp_skip ?_ | refine awp_exit ?_ | refine awp_scope ?_ | refine awp_label ?_ | refine awp_run ty_ok rfl sdm ?_ | refine awp_ret ⟨_, _, rfl, rfl, ?_⟩ | refine awp_ret ⟨_, rfl, ?_⟩ | ((refine awp_cond (ty := ty) rfl (fun hc => ?_) (fun hc => ?_)) <;> (try simp only [nms, reduceCtorEq] at hc) <;> (try (exfalso; omega))))) | ((with_reducible show AOps _ _ _ _ _ _); (first | refine aops_nil ?_ | refine aops_go ty_ok rfl rfl sdm ?_ | refine aops_gate ty_ok rfl rfl rfl sdm ?_ | refine aops_callE (ty := ty) rfl rfl rfl rfl rfl rfl rfl (hc1) rfl ?_ | refine aops_callE (ty := ty) rfl rfl rfl rfl rfl rfl rfl (hc2) rfl ?_ | refine aops_litE ty_ok rfl rfl rfl rfl rfl rfl rfl rfl rfl rfl rfl rfl ?_ | refine aops_litA ty_ok rfl rfl rfl rfl rfl rfl rfl rfl rfl rfl rfl rfl rfl rfl rfl rfl ?_ | refine aops_buildArr ty_ok rfl rfl rfl rfl rfl rfl rfl rfl rfl rfl ?_ | refine aops_indexArr ty_ok rfl rfl rfl rfl rfl rfl rfl rfl rfl rfl sdm ?_ | refine aops_lit0 ty_ok rfl rfl rfl rfl rfl rfl rfl ?_ | refine aops_field ty_ok rfl rfl rfl rfl rfl rfl rfl rfl rfl rfl ?_ | refine aops_cutE ty_ok rfl rfl rfl rfl rfl rfl rfl rfl rfl sdm rfl ?_ | ((fail_if_success (refine aops_known rfl ?_)); (refine aops_split ty_ok rfl rfl rfl rfl rfl rfl (fun hc => ⟨?_, ?_⟩) (fun hc => ⟨?_, ?_⟩)) <;> (try simp only [nms, reduceCtorEq] at hc) <;> (try (exfalso; omega)) <;> (try exact sdm)))) | ((fail_if_success (with_reducible show AWp _ _ _ _ _)); (fail_if_success (with_reducible show AOps _ _ _ _ _ _)); (first | (show AWp _ _ _ _ _) | (show AOps _ _ _ _ _ _))))
        rfl
      | true =>
        have hc2 := c_is_at (envL.at 0) e 0 6 false hi
        rw [exI, hi]
        by_cases hd : (decS (cut b e.bd e.en)).2 = 0
        · have hc3 := c_odec_ok b h3 h2 (by omega) hd
          rw [decide_eq_true hd]
          simp only
          by_cases hv : cut b f.bd f.en = [255]
          · have hc5 := c_boo_at (envL.at 0) b (i := f.bd) (j := f.en) (v := true) (n := 0) (by rw [booF, if_pos hv])
            cases hif : isB f.x 0 false 1 with
            | false =>
              have hc6 := c_is_at (envL.at 0) f 0 1 false hif
              rw [exC, hif, Bool.false_and]
              repeat' (first | ((with_reducible show AWp _ _ _ _ _); (first | refine awp_seq ?_ | refine awp_block ?_ | refine awp_skip ?_ | refine awp_exit ?_ | refine awp_scope ?_ | refine awp_label ?_ | refine awp_run ty_ok rfl sdm ?_ | refine awp_ret ⟨_, _, rfl, rfl, ?_⟩ | refine awp_ret ⟨_, rfl, ?_⟩ | ((refine awp_cond (ty := ty) rfl (fun hc => ?_) (fun hc => ?_)) <;> (try simp only [nms, reduceCtorEq] at hc) <;> (try (exfalso; omega))) | refine awp_anyL 15 mixed rfl (by kernel_rfl) ?_ | refine awp_anyS 7 6 ty_ok mixed rfl rfl rfl rfl rfl rfl rfl rfl rfl (by kernel_rfl) ?_)) | ((with_reducible show AOps _ _ _ _ _ _); (first | refine aops_nil ?_ | refine aops_go ty_ok rfl rfl sdm ?_ | refine aops_gate ty_ok rfl rfl rfl sdm ?_ | refine aops_callE (ty := ty) rfl rfl rfl rfl rfl rfl rfl (hc1) rfl ?_ | refine aops_callE (ty := ty) rfl rfl rfl rfl rfl rfl rfl (hc2) rfl ?_ | refine aops_callE (ty := ty) rfl rfl rfl rfl rfl rfl rfl (hc3) rfl ?_ | refine aops_callE (ty := ty) rfl rfl rfl rfl rfl rfl rfl (hc5) rfl ?_ | refine aops_callE (ty := ty) rfl rfl rfl rfl rfl rfl rfl (hc6) rfl ?_ | refine aops_litE ty_ok rfl rfl rfl rfl rfl rfl rfl rfl rfl rfl rfl rfl ?_ | refine aops_litA ty_ok rfl rfl rfl rfl rfl rfl rfl rfl rfl rfl rfl rfl rfl rfl rfl rfl ?_ | refine aops_buildArr ty_ok rfl rfl rfl rfl rfl rfl rfl rfl rfl rfl ?_ | refine aops_indexArr ty_ok rfl rfl rfl rfl rfl rfl rfl rfl rfl rfl sdm ?_ | refine aops_lit0 ty_ok rfl rfl rfl rfl rfl rfl rfl ?_ | refine aops_field ty_ok rfl rfl rfl rfl rfl rfl rfl rfl rfl rfl ?_ | refine aops_cutE ty_ok rfl rfl rfl rfl rfl rfl rfl rfl rfl sdm rfl ?_ | ((fail_if_success (refine aops_known rfl ?_)); (refine aops_split ty_ok rfl rfl rfl rfl rfl rfl (fun hc => ⟨?_, ?_⟩) (fun hc => ⟨?_, ?_⟩)) <;> (try simp only [nms, reduceCtorEq] at hc) <;> (try (exfalso; omega)) <;> (try exact sdm)))) | ((with_reducible show HeadT _ _ _ _ _ _ _ _ _ _); (first | refine head_end ?_ | refine head_goP ty_ok rfl rfl sdm ?_ | refine head_gate ty_ok rfl rfl rfl sdm ?_ | refine head_callE (ty := ty) rfl rfl rfl rfl rfl rfl rfl (hc1) rfl ?_ | refine head_callE (ty := ty) rfl rfl rfl rfl rfl rfl rfl (hc2) rfl ?_ | refine head_callE (ty := ty) rfl rfl rfl rfl rfl rfl rfl (hc3) rfl ?_ | refine head_callE (ty := ty) rfl rfl rfl rfl rfl rfl rfl (hc5) rfl ?_ | refine head_callE (ty := ty) rfl rfl rfl rfl rfl rfl rfl (hc6) rfl ?_ | ((fail_if_success (refine head_known rfl ?_)); (refine head_split ty_ok rfl rfl rfl rfl (fun hc => ⟨?_, ?_⟩) (fun hc => ⟨?_, ?_⟩)) <;> (try simp only [nms, reduceCtorEq] at hc) <;> (try (exfalso; omega)) <;> (try exact sdm)))) | ((fail_if_success (with_reducible show AWp _ _ _ _ _)); (fail_if_success (with_reducible show AOps _ _ _ _ _ _)); (fail_if_success (with_reducible show HeadT _ _ _ _ _ _ _ _ _ _)); (first | (show AWp _ _ _ _ _) | (show AOps _ _ _ _ _ _) | refine st_go rfl rfl rfl rfl rfl rfl rfl ?_)))
              rfl
            | true =>
              have hc6 := c_is_at (envL.at 0) f 0 1 false hif
              rw [exC, hif, decide_eq_true hv, Bool.true_and]
              simp only
              rw [exL]
              cases hk : isB g.x 0 false 4 with
              | false =>
                have hc4 := c_is_at (envL.at 0) g 0 4 false hk
                repeat' (first | ((with_reducible show AWp _ _ _ _ _); (first | refine awp_seq ?_ | refine awp_block ?_ | refine awp_skip ?_ | refine awp_exit ?_ | refine awp_scope ?_ | refine awp_label ?_ | refine awp_run ty_ok rfl sdm ?_ | refine awp_ret ⟨_, _, rfl, rfl, ?_⟩ | refine awp_ret ⟨_, rfl, ?_⟩ | ((refine awp_cond (ty := ty) rfl (fun hc => ?_) (fun hc => ?_)) <;> (try simp only [nms, reduceCtorEq] at hc) <;> (try (exfalso; omega))) | refine awp_anyL 15 mixed rfl (by kernel_rfl) ?_ | refine awp_anyS 5 4 ty_ok mixed rfl rfl rfl rfl rfl rfl rfl rfl rfl (by kernel_rfl) ?_)) | ((with_reducible show AOps _ _ _ _ _ _); (first | refine aops_nil ?_ | refine aops_go ty_ok rfl rfl sdm ?_ | refine aops_gate ty_ok rfl rfl rfl sdm ?_ | refine aops_callE (ty := ty) rfl rfl rfl rfl rfl rfl rfl (hc1) rfl ?_ | refine aops_callE (ty := ty) rfl rfl rfl rfl rfl rfl rfl (hc2) rfl ?_ | refine aops_callE (ty := ty) rfl rfl rfl rfl rfl rfl rfl (hc3) rfl ?_ | refine aops_callE (ty := ty) rfl rfl rfl rfl rfl rfl rfl (hc5) rfl ?_ | refine aops_callE (ty := ty) rfl rfl rfl rfl rfl rfl rfl (hc6) rfl ?_ | refine aops_callE (ty := ty) rfl rfl rfl rfl rfl rfl rfl (hc4) rfl ?_ | refine aops_litE ty_ok rfl rfl rfl rfl rfl rfl rfl rfl rfl rfl rfl rfl ?_ | refine aops_litA ty_ok rfl rfl rfl rfl rfl rfl rfl rfl rfl rfl rfl rfl rfl rfl rfl rfl ?_ | refine aops_buildArr ty_ok rfl rfl rfl rfl rfl rfl rfl rfl rfl rfl ?_ | refine aops_indexArr ty_ok rfl rfl rfl rfl rfl rfl rfl rfl rfl rfl sdm ?_ | refine aops_lit0 ty_ok rfl rfl rfl rfl rfl rfl rfl ?_ | refine aops_field ty_ok rfl rfl rfl rfl rfl rfl rfl rfl rfl rfl ?_ | refine aops_cutE ty_ok rfl rfl rfl rfl rfl rfl rfl rfl rfl sdm rfl ?_ | ((fail_if_success (refine aops_known rfl ?_)); (refine aops_split ty_ok rfl rfl rfl rfl rfl rfl (fun hc => ⟨?_, ?_⟩) (fun hc => ⟨?_, ?_⟩)) <;> (try simp only [nms, reduceCtorEq] at hc) <;> (try (exfalso; omega)) <;> (try exact sdm)))) | ((with_reducible show HeadT _ _ _ _ _ _ _ _ _ _); (first | refine head_end ?_ | refine head_goP ty_ok rfl rfl sdm ?_ | refine head_gate ty_ok rfl rfl rfl sdm ?_ | refine head_callE (ty := ty) rfl rfl rfl rfl rfl rfl rfl (hc1) rfl ?_ | refine head_callE (ty := ty) rfl rfl rfl rfl rfl rfl rfl (hc2) rfl ?_ | refine head_callE (ty := ty) rfl rfl rfl rfl rfl rfl rfl (hc3) rfl ?_ | refine head_callE (ty := ty) rfl rfl rfl rfl rfl rfl rfl (hc5) rfl ?_ | refine head_callE (ty := ty) rfl rfl rfl rfl rfl rfl rfl (hc6) rfl ?_ | refine head_callE (ty := ty) rfl rfl rfl rfl rfl rfl rfl (hc4) rfl ?_ | ((fail_if_success (refine head_known rfl ?_)); (refine head_split ty_ok rfl rfl rfl rfl (fun hc => ⟨?_, ?_⟩) (fun hc => ⟨?_, ?_⟩)) <;> (try simp only [nms, reduceCtorEq] at hc) <;> (try (exfalso; omega)) <;> (try exact sdm)))) | ((fail_if_success (with_reducible show AWp _ _ _ _ _)); (fail_if_success (with_reducible show AOps _ _ _ _ _ _)); (fail_if_success (with_reducible show HeadT _ _ _ _ _ _ _ _ _ _)); (first | (show AWp _ _ _ _ _) | (show AOps _ _ _ _ _ _) | refine st_go rfl rfl rfl rfl rfl rfl rfl ?_)))
                rfl
              | true =>
                have hc4 := c_is_at (envL.at 0) g 0 4 false hk
                repeat' (first | ((with_reducible show AWp _ _ _ _ _); (first | refine awp_seq ?_ | refine awp_block ?_ | refine awp_skip ?_ | refine awp_exit ?_ | refine awp_scope ?_ | refine awp_label ?_ | refine awp_run ty_ok rfl sdm ?_ | refine awp_ret ⟨_, _, rfl, rfl, ?_⟩ | refine awp_ret ⟨_, rfl, ?_⟩ | ((refine awp_cond (ty := ty) rfl (fun hc => ?_) (fun hc => ?_)) <;> (try simp only [nms, reduceCtorEq] at hc) <;> (try (exfalso; omega))) | refine awp_anyL 15 mixed rfl (by kernel_rfl) ?_)) | ((with_reducible show AOps _ _ _ _ _ _); (first | refine aops_nil ?_ | refine aops_go ty_ok rfl rfl sdm ?_ | refine aops_gate ty_ok rfl rfl rfl sdm ?_ | refine aops_callE (ty := ty) rfl rfl rfl rfl rfl rfl rfl (hc1) rfl ?_ | refine aops_callE (ty := ty) rfl rfl rfl rfl rfl rfl rfl (hc2) rfl ?_ | refine aops_callE (ty := ty) rfl rfl rfl rfl rfl rfl rfl (hc3) rfl ?_ | refine aops_callE (ty := ty) rfl rfl rfl rfl rfl rfl rfl (hc5) rfl ?_ | refine aops_callE (ty := ty) rfl rfl rfl rfl rfl rfl rfl (hc6) rfl ?_ | refine aops_callE (ty := ty) rfl rfl rfl rfl rfl rfl rfl (hc4) rfl ?_ | refine aops_callE (ty := ty) rfl rfl rfl rfl rfl rfl rfl (c_clone_at _ b h9 hb) rfl ?_ | refine aops_litE ty_ok rfl rfl rfl rfl rfl rfl rfl rfl rfl rfl rfl rfl ?_ | refine aops_litA ty_ok rfl rfl rfl rfl rfl rfl rfl rfl rfl rfl rfl rfl rfl rfl rfl rfl ?_ | refine aops_buildArr ty_ok rfl rfl rfl rfl rfl rfl rfl rfl rfl rfl ?_ | refine aops_indexArr ty_ok rfl rfl rfl rfl rfl rfl rfl rfl rfl rfl sdm ?_ | refine aops_lit0 ty_ok rfl rfl rfl rfl rfl rfl rfl ?_ | refine aops_field ty_ok rfl rfl rfl rfl rfl rfl rfl rfl rfl rfl ?_ | refine aops_cutE ty_ok rfl rfl rfl rfl rfl rfl rfl rfl rfl sdm rfl ?_ | ((fail_if_success (refine aops_known rfl ?_)); (refine aops_split ty_ok rfl rfl rfl rfl rfl rfl (fun hc => ⟨?_, ?_⟩) (fun hc => ⟨?_, ?_⟩)) <;> (try simp only [nms, reduceCtorEq] at hc) <;> (try (exfalso; omega)) <;> (try exact sdm)))) | ((with_reducible show HeadT _ _ _ _ _ _ _ _ _ _); (first | refine head_end ?_ | refine head_goP ty_ok rfl rfl sdm ?_ | refine head_gate ty_ok rfl rfl rfl sdm ?_ | refine head_callE (ty := ty) rfl rfl rfl rfl rfl rfl rfl (hc1) rfl ?_ | refine head_callE (ty := ty) rfl rfl rfl rfl rfl rfl rfl (hc2) rfl ?_ | refine head_callE (ty := ty) rfl rfl rfl rfl rfl rfl rfl (hc3) rfl ?_ | refine head_callE (ty := ty) rfl rfl rfl rfl rfl rfl rfl (hc5) rfl ?_ | refine head_callE (ty := ty) rfl rfl rfl rfl rfl rfl rfl (hc6) rfl ?_ | refine head_callE (ty := ty) rfl rfl rfl rfl rfl rfl rfl (hc4) rfl ?_ | refine head_callE (ty := ty) rfl rfl rfl rfl rfl rfl rfl (c_clone_at _ b h9 hb) rfl ?_ | ((fail_if_success (refine head_known rfl ?_)); (refine head_split ty_ok rfl rfl rfl rfl (fun hc => ⟨?_, ?_⟩) (fun hc => ⟨?_, ?_⟩)) <;> (try simp only [nms, reduceCtorEq] at hc) <;> (try (exfalso; omega)) <;> (try exact sdm)))) | ((fail_if_success (with_reducible show AWp _ _ _ _ _)); (fail_if_success (with_reducible show AOps _ _ _ _ _ _)); (fail_if_success (with_reducible show HeadT _ _ _ _ _ _ _ _ _ _)); (first | (show AWp _ _ _ _ _) | (show AOps _ _ _ _ _ _))))
                rfl
          · rw [exC, decide_eq_false hv, Bool.and_false]
            simp only
            obtain ⟨n, hn⟩ : ∃ n, booF (cut b f.bd f.en) = (false, n) := by
              rw [booF, if_neg hv]
              split
              · exact ⟨0, rfl⟩
              · exact ⟨6, rfl⟩
            have hc5 := c_boo_at (envL.at 0) b (i := f.bd) (j := f.en) hn
            have hc6 := c_is (envL.at 0) f 0 1 false
            repeat' (first | ((with_reducible show AWp _ _ _ _ _); (first | refine awp_seq ?_ | refine awp_block ?_ | refine awp_skip ?_ | refine awp_exit ?_ | refine awp_scope ?_ | refine awp_label ?_ | refine awp_run ty_ok rfl sdm ?_ | refine awp_ret ⟨_, _, rfl, rfl, ?_⟩ | refine awp_ret ⟨_, rfl, ?_⟩ | ((refine awp_cond (ty := ty) rfl (fun hc => ?_) (fun hc => ?_)) <;> (try simp only [nms, reduceCtorEq] at hc) <;> (try (exfalso; omega))) | refine awp_anyL 15 mixed rfl (by kernel_rfl) ?_ | refine awp_anyS 7 6 ty_ok mixed rfl rfl rfl rfl rfl rfl rfl rfl rfl (by kernel_rfl) ?_)) | ((with_reducible show AOps _ _ _ _ _ _); (first | refine aops_nil ?_ | refine aops_go ty_ok rfl rfl sdm ?_ | refine aops_gate ty_ok rfl rfl rfl sdm ?_ | refine aops_callE (ty := ty) rfl rfl rfl rfl rfl rfl rfl (hc1) rfl ?_ | refine aops_callE (ty := ty) rfl rfl rfl rfl rfl rfl rfl (hc2) rfl ?_ | refine aops_callE (ty := ty) rfl rfl rfl rfl rfl rfl rfl (hc3) rfl ?_ | refine aops_callE (ty := ty) rfl rfl rfl rfl rfl rfl rfl (hc5) rfl ?_ | refine aops_callE (ty := ty) rfl rfl rfl rfl rfl rfl rfl (hc6) rfl ?_ | refine aops_litE ty_ok rfl rfl rfl rfl rfl rfl rfl rfl rfl rfl rfl rfl ?_ | refine aops_litA ty_ok rfl rfl rfl rfl rfl rfl rfl rfl rfl rfl rfl rfl rfl rfl rfl rfl ?_ | refine aops_buildArr ty_ok rfl rfl rfl rfl rfl rfl rfl rfl rfl rfl ?_ | refine aops_indexArr ty_ok rfl rfl rfl rfl rfl rfl rfl rfl rfl rfl sdm ?_ | refine aops_lit0 ty_ok rfl rfl rfl rfl rfl rfl rfl ?_ | refine aops_field ty_ok rfl rfl rfl rfl rfl rfl rfl rfl rfl rfl ?_ | refine aops_cutE ty_ok rfl rfl rfl rfl rfl rfl rfl rfl rfl sdm rfl ?_ | ((fail_if_success (refine aops_known rfl ?_)); (refine aops_split ty_ok rfl rfl rfl rfl rfl rfl (fun hc => ⟨?_, ?_⟩) (fun hc => ⟨?_, ?_⟩)) <;> (try simp only [nms, reduceCtorEq] at hc) <;> (try (exfalso; omega)) <;> (try exact sdm)))) | ((with_reducible show HeadT _ _ _ _ _ _ _ _ _ _); (first | refine head_end ?_ | refine head_goP ty_ok rfl rfl sdm ?_ | refine head_gate ty_ok rfl rfl rfl sdm ?_ | refine head_callE (ty := ty) rfl rfl rfl rfl rfl rfl rfl (hc1) rfl ?_ | refine head_callE (ty := ty) rfl rfl rfl rfl rfl rfl rfl (hc2) rfl ?_ | refine head_callE (ty := ty) rfl rfl rfl rfl rfl rfl rfl (hc3) rfl ?_ | refine head_callE (ty := ty) rfl rfl rfl rfl rfl rfl rfl (hc5) rfl ?_ | refine head_callE (ty := ty) rfl rfl rfl rfl rfl rfl rfl (hc6) rfl ?_ | ((fail_if_success (refine head_known rfl ?_)); (refine head_split ty_ok rfl rfl rfl rfl (fun hc => ⟨?_, ?_⟩) (fun hc => ⟨?_, ?_⟩)) <;> (try simp only [nms, reduceCtorEq] at hc) <;> (try (exfalso; omega)) <;> (try exact sdm)))) | ((fail_if_success (with_reducible show AWp _ _ _ _ _)); (fail_if_success (with_reducible show AOps _ _ _ _ _ _)); (fail_if_success (with_reducible show HeadT _ _ _ _ _ _ _ _ _ _)); (first | (show AWp _ _ _ _ _) | (show AOps _ _ _ _ _ _) | refine st_go rfl rfl rfl rfl rfl rfl rfl ?_)))
            all_goals rfl
        · have hc3 := c_odec_bad b h3 h2 (by omega) hd
          rw [decide_eq_false hd]
          repeat' (first | ((with_reducible show AWp _ _ _ _ _); (first | refine awp_seq ?_ | refine awp_block ?_ | refine awp_skip ?_ | refine awp_exit ?_ | refine awp_scope ?_ | refine awp_label ?_ | refine awp_run ty_ok rfl sdm ?_ | refine awp_ret ⟨_, _, rfl, rfl, ?_⟩ | refine awp_ret ⟨_, rfl, ?_⟩ | ((refine awp_cond (ty := ty) rfl (fun hc => ?_) (fun hc => ?_)) <;> (try simp only [nms, reduceCtorEq] at hc) <;> (try (exfalso; omega))) | refine awp_anyL 15 mixed rfl (by kernel_rfl) ?_ | refine awp_anyS 8 7 ty_ok mixed rfl rfl rfl rfl rfl rfl rfl rfl rfl (by kernel_rfl) ?_)) | ((with_reducible show AOps _ _ _ _ _ _); (first | refine aops_nil ?_ | refine aops_go ty_ok rfl rfl sdm ?_ | refine aops_gate ty_ok rfl rfl rfl sdm ?_ | refine aops_callE (ty := ty) rfl rfl rfl rfl rfl rfl rfl (hc1) rfl ?_ | refine aops_callE (ty := ty) rfl rfl rfl rfl rfl rfl rfl (hc2) rfl ?_ | refine aops_callE (ty := ty) rfl rfl rfl rfl rfl rfl rfl (hc3) rfl ?_ | refine aops_litE ty_ok rfl rfl rfl rfl rfl rfl rfl rfl rfl rfl rfl rfl ?_ | refine aops_litA ty_ok rfl rfl rfl rfl rfl rfl rfl rfl rfl rfl rfl rfl rfl rfl rfl rfl ?_ | refine aops_buildArr ty_ok rfl rfl rfl rfl rfl rfl rfl rfl rfl rfl ?_ | refine aops_indexArr ty_ok rfl rfl rfl rfl rfl rfl rfl rfl rfl rfl sdm ?_ | refine aops_lit0 ty_ok rfl rfl rfl rfl rfl rfl rfl ?_ | refine aops_field ty_ok rfl rfl rfl rfl rfl rfl rfl rfl rfl rfl ?_ | refine aops_cutE ty_ok rfl rfl rfl rfl rfl rfl rfl rfl rfl sdm rfl ?_ | ((fail_if_success (refine aops_known rfl ?_)); (refine aops_split ty_ok rfl rfl rfl rfl rfl rfl (fun hc => ⟨?_, ?_⟩) (fun hc => ⟨?_, ?_⟩)) <;> (try simp only [nms, reduceCtorEq] at hc) <;> (try (exfalso; omega)) <;> (try exact sdm)))) | ((with_reducible show HeadT _ _ _ _ _ _ _ _ _ _); (first | refine head_end ?_ | refine head_goP ty_ok rfl rfl sdm ?_ | refine head_gate ty_ok rfl rfl rfl sdm ?_ | refine head_callE (ty := ty) rfl rfl rfl rfl rfl rfl rfl (hc1) rfl ?_ | refine head_callE (ty := ty) rfl rfl rfl rfl rfl rfl rfl (hc2) rfl ?_ | refine head_callE (ty := ty) rfl rfl rfl rfl rfl rfl rfl (hc3) rfl ?_ | ((fail_if_success (refine head_known rfl ?_)); (refine head_split ty_ok rfl rfl rfl rfl (fun hc => ⟨?_, ?_⟩) (fun hc => ⟨?_, ?_⟩)) <;> (try simp only [nms, reduceCtorEq] at hc) <;> (try (exfalso; omega)) <;> (try exact sdm)))) | ((fail_if_success (with_reducible show AWp _ _ _ _ _)); (fail_if_success (with_reducible show AOps _ _ _ _ _ _)); (fail_if_success (with_reducible show HeadT _ _ _ _ _ _ _ _ _ _)); (first | (show AWp _ _ _ _ _) | (show AOps _ _ _ _ _ _) | refine st_go rfl rfl rfl rfl rfl rfl rfl ?_)))
          rfl
theorem c_xparse_at (b : List UInt8) (hb : b.length ≤ 1000000) {v : Ex Ext} (h : exP b = v) : ACalls Tryd.prog envL 24 [.sl none (bys b)] (fun r => r = xpR v) := by
  subst h
  exact c_xparse b hb
end Go.Proofs.YtmciaonjkkelnaaDoor

/- Identifier and length octets, read by the reference. Walked by the abstract machine. -/
namespace Go.Proofs.YtmciaonjkkelnaaDoor
open Go.Am
set_option linter.unusedSimpArgs false
set_option linter.unusedVariables false

theorem beF_zero (r : List UInt8) : beF ((0 : UInt8) :: r) = beF r := rfl
theorem u64_stepR (n x : Nat) (hn : n < 72057594037927936) (hx : x < 256) : IntKind.u64.wrap (IntKind.u64.wrap ((n : Int) * 256) + IntKind.u64.wrap (x : Int)) = ((n * 256 + x : Nat) : Int) := by
  rw [IntKind.wrap_u64, IntKind.wrap_u64, IntKind.wrap_u64]
  omega
def cmpB : List UInt8 → List UInt8 → Int
  | [], [] => 0
  | [], _ :: _ => -1
  | _ :: _, [] => 1
  | a :: x, b :: y => if a.toNat < b.toNat then -1 else if b.toNat < a.toNat then 1 else cmpB x y
theorem cmpB_zero : ∀ (x y : List UInt8), cmpB x y = 0 ↔ x = y
  | [], [] => by simp [cmpB]
  | [], _ :: _ => by simp [cmpB]
  | _ :: _, [] => by simp [cmpB]
  | a :: x, b :: y => by
    rw [cmpB]
    by_cases h1 : a.toNat < b.toNat
    · rw [if_pos h1]
      have : a ≠ b := fun e => by rw [e] at h1; omega
      simp [this]
    · rw [if_neg h1]
      by_cases h2 : b.toNat < a.toNat
      · rw [if_pos h2]
        have : a ≠ b := fun e => by rw [e] at h2; omega
        simp [this]
      · rw [if_neg h2, cmpB_zero x y, show a = b from u8_ext (by omega)]
        simp
theorem cmpB_drop {x y : List UInt8} {k : Nat} (hx : k < x.length) (hy : k < y.length) : cmpB (x.drop k) (y.drop k) = if x[k].toNat < y[k].toNat then -1 else if y[k].toNat < x[k].toNat then 1 else cmpB (x.drop (k + 1)) (y.drop (k + 1)) := by
  rw [List.drop_eq_getElem_cons hx, List.drop_eq_getElem_cons hy, cmpB]
theorem cmpB_end {x y : List UInt8} {k : Nat} (h : ¬ (k < x.length ∧ k < y.length)) (hx : k ≤ x.length) (hy : k ≤ y.length) : cmpB (x.drop k) (y.drop k) = if x.length < y.length then -1 else if y.length < x.length then 1 else 0 := by
  cases h1 : x.drop k with
  | nil =>
    have := List.drop_eq_nil_iff.1 h1
    cases h2 : y.drop k with
    | nil =>
      have := List.drop_eq_nil_iff.1 h2
      rw [if_neg (by omega), if_neg (by omega)]
      rfl
    | cons b r =>
      have : k < y.length := by
        apply Nat.lt_of_not_le
        intro hle
        rw [List.drop_eq_nil_iff.2 hle] at h2
        cases h2
      rw [if_pos (by omega)]
      rfl
  | cons a r =>
    have hkx : k < x.length := by
      apply Nat.lt_of_not_le
      intro hle
      rw [List.drop_eq_nil_iff.2 hle] at h1
      cases h1
    have h2 : y.drop k = [] := List.drop_eq_nil_iff.2 (by omega)
    rw [h2, if_neg (by omega), if_pos (by omega)]
    rfl
theorem tm32 (x : UInt8) : Int.tmod (IntKind.i64.wrap (x.toNat : Int)) 32 = ((x.toNat % 32 : Nat) : Int) := by
  rw [wrap_i64_nat _ (by have := u8_lt x; omega)]
  rfl
theorem td_nat (x : UInt8) (k : Nat) (hk : 0 < k) : IntKind.i64.wrap (Int.tdiv (IntKind.i64.wrap (x.toNat : Int)) (k : Int)) = ((x.toNat / k : Nat) : Int) := by
  have := u8_lt x
  have h2 : x.toNat / k ≤ x.toNat := Nat.div_le_self _ _
  rw [wrap_i64_nat _ (by omega), ← Int.ofNat_tdiv, wrap_i64_nat _ (by omega)]
/-- A length is minimal if it is written as it was read. -/
theorem rl_min {x : UInt8} {r : List UInt8} {k : Nat} (hx : x.toNat = k + 128) (hk : 1 ≤ k) (hk4 : k ≤ 4) (hr : k ≤ r.length) (hn : beF (r.take k) ≤ 2147483647) : lenB (beF (r.take k)) = (x :: r).take (1 + k) ↔ ¬ ((r.headD 0).toNat = 0 ∨ beF (r.take k) < 128 ∨ 2147483647 < beF (r.take k)) := by
  have hf : rlF (x :: r) = if (r.headD 0).toNat = 0 ∨ beF (r.take k) < 128 ∨ 2147483647 < beF (r.take k) then .bad 4 0 else .ok (beF (r.take k), 1 + k) := by
    rw [rlF, if_neg (by omega), if_neg (by omega), show x.toNat - 128 = k by omega, if_neg (by omega), show x.toNat - 127 = 1 + k by omega]
  constructor
  · intro h hc
    rw [if_pos hc] at hf
    have e : x :: r = lenB (beF (r.take k)) ++ (x :: r).drop (1 + k) := by rw [h, List.take_append_drop]
    rw [e, rl_put _ _ hn] at hf
    cases hf
  · intro hc
    rw [if_neg hc] at hf
    obtain ⟨h1, h2, h3⟩ := rl_inv hf
    have : (x :: r).take (1 + k) = (lenB (beF (r.take k)) ++ (x :: r).drop (1 + k)).take (1 + k) := by rw [← h3]
    rw [this, List.take_append_of_le_length (by omega)]
    exact (List.take_of_length_le (by omega)).symm

end Go.Proofs.YtmciaonjkkelnaaDoor

/- Trees of elements, read and written by the reference. Walked by the abstract machine. -/
namespace Go.Proofs.YtmciaonjkkelnaaDoor
open Go.Am
set_option linter.unusedSimpArgs false
set_option linter.unusedVariables false
-- withAmZ

/-- An element at the beginning, what is in it, what is behind it. -/
def ntD (b : List UInt8) : Ex (UInt8 × Nat × Nat) → Dat
  | .bad c o => .tup [hdr0, .sl none [], .sl none [], errD c o]
  | .ok (x, n, s) => if b.length - s < n then .tup [hdr0, .sl none [], .sl none [], errD 1 b.length] else .tup [hdrD x n s, .sl none (bys (cut b s (s + n))), .sl none (bys (b.drop (s + n))), errD 0 0]
/-! ### Trees -/
def node0 : Dat := .agg [.int .i64 0, .int .i64 0, .bool false, .sl none [], .sl (some 5) []]
def rdD : Ex (Dat × Nat) → Dat
  | .bad c o => .tup [node0, .int .i64 0, errD c o]
  | .ok (n, s) => .tup [n, .int .i64 s, errD 0 0]
def preK (acc : List Dat) : Ex (List Dat) → Ex (List Dat)
  | .bad c o => .bad c o
  | .ok l => .ok (acc ++ l)
theorem tr_node {d : Nat} {n : Dat} {b : List UInt8} (h : Tr d n b) : ∃ x c ks, n = nodeD x c ks := by
  cases h with
  | prim d x c => exact ⟨x, c, [], rfl⟩
  | cons d x ks bs => exact ⟨x, [], ks, rfl⟩
theorem kd_bad {rd : List UInt8 → Ex (Dat × Nat)} {hs : Nat} {c : List UInt8} (hrd : ∀ b e o, rd b = .bad e o → 0 < e ∧ o ≤ b.length) : ∀ (k i : Nat) {e o : Nat}, kdT rd hs c k i = .bad e o → 0 < e ∧ o ≤ hs + c.length
  | k + 1, i, e, o, h => by
    rw [kdT] at h
    split at h
    · rename_i hi
      cases hr : rd (c.drop i) with
      | bad e' o' =>
        rw [hr] at h
        cases h
        have := hrd _ _ _ hr
        rw [List.length_drop] at this
        omega
      | ok p =>
        obtain ⟨n, s⟩ := p
        rw [hr] at h
        simp only at h
        cases hk : kdT rd hs c k (i + s) with
        | bad e' o' =>
          rw [hk] at h
          cases h
          exact kd_bad hrd k (i + s) hk
        | ok l => rw [hk] at h; cases h
    · cases h
theorem rd_bad : ∀ (d : Nat) (b : List UInt8) (e o : Nat), rdF d b = .bad e o → 0 < e ∧ o ≤ b.length
  | 0, b, e, o, h => by cases h; exact ⟨by omega, by omega⟩
  | d + 1, b, e, o, h => by
    rw [rd_of_nx] at h
    cases hn : nxF b 0 b.length with
    | bad c' o' =>
      rw [hn] at h
      cases h
      have := nx_bad (Nat.zero_le _) (Nat.le_refl _) hn
      exact ⟨by omega, this.2⟩
    | ok el =>
      rw [hn] at h
      simp only at h
      obtain ⟨c, _, _, _, g4, g5, g6, _⟩ := nx_ok (Nat.zero_le _) (Nat.le_refl _) hn
      have hen : el.en = 0 + hsz c + c.length := by rw [g4]
      have hbd : el.bd = 0 + hsz c := by rw [g4]
      cases hc : conB el.x with
      | false => rw [hc] at h; cases h
      | true =>
        rw [hc] at h
        simp only at h
        cases hk : kdT (rdF d) el.bd (cut b el.bd el.en) (el.en - el.bd) 0 with
        | bad e' o' =>
          rw [hk] at h
          cases h
          have := kd_bad (rd_bad d) _ _ hk
          rw [g6] at this
          omega
        | ok ks => rw [hk] at h; cases h
def wiD : Ex Dat → Dat
  | .bad c o => .tup [node0, errD c o]
  | .ok n => .tup [n, errD 0 0]
def deD : Ex Dat → Dat
  | .bad _ _ => .tup [node0, .bool false]
  | .ok n => .tup [n, .bool true]
theorem wi_bad {d : Nat} {b : List UInt8} {e o : Nat} (h : wiF d b = .bad e o) : 0 < e := by
  unfold wiF at h
  cases hr : rdF d b with
  | bad e' o' =>
    rw [hr] at h
    cases h
    exact (rd_bad _ _ _ _ hr).1
  | ok p =>
    obtain ⟨n, s⟩ := p
    rw [hr] at h
    simp only at h
    split at h
    · cases h; omega
    · cases h
end Go.Proofs.YtmciaonjkkelnaaDoor

/- Decode of the reference of package oid, walked by the abstract machine. -/
namespace Go.Proofs.YtmciaonjkkelnaaDoor
open Go.Am
open Go.Lib (decDigits)
set_option linter.unusedSimpArgs false
set_option linter.unusedVariables false

theorem rdec_none {c : List UInt8} (h : dec7r 0 c = none) : decOD c = .tup [sD [], .int .i64 6] := by
  have : dec7 false 0 c = none := by
    cases hd : dec7 false 0 c with
    | none => rfl
    | some ns => rw [dec7_r _ _ _ _ hd] at h; cases h
  simp only [decOD, decS, this]
theorem rdec_ne {c : List UInt8} {ns : List Nat} (h : dec7r 0 c = some ns) (hf : flat7 ns ≠ c) : decOD c = .tup [sD [], .int .i64 6] := by
  have : dec7 false 0 c = none := by
    cases hd : dec7 false 0 c with
    | none => rfl
    | some ms =>
      have h1 := dec7_r _ _ _ _ hd
      rw [h] at h1
      cases h1
      exact absurd ((flat_dec7 c).1 ns hd) hf
  simp only [decOD, decS, this]
theorem rdec_eq {c : List UInt8} {ns : List Nat} (h : dec7r 0 c = some ns) (hf : flat7 ns = c) : dec7 false 0 c = some ns := by
  have := dec7_flat ns (dec7r_le c 0 ns h)
  rwa [hf] at this
theorem u8_mod128 (x : UInt8) : IntKind.u64.wrap ((x.toNat : Int).tmod 128) = ((x.toNat % 128 : Nat) : Int) := by
  have hx : x.toNat < 256 := x.toNat_lt
  rw [Int.tmod_eq_emod_of_nonneg (by omega), IntKind.wrap_u64]
  omega
end Go.Proofs.YtmciaonjkkelnaaDoor

/- Lists of purposes, by the reference. Walked by the abstract machine. -/
namespace Go.Proofs.YtmciaonjkkelnaaDoor
open Go.Am
set_option linter.unusedSimpArgs false
set_option linter.unusedVariables false
-- withAmZ

def fewF (l : List (List UInt8)) : Bool := (l.take 20).all (fun s => decide (s.length ≤ 200)) && decide (l.length ≤ 12)
theorem few_len {l : List (List UInt8)} (h : fewF l = true) : l.length ≤ 12 ∧ ∀ s ∈ l, s.length ≤ 200 := by
  unfold fewF at h
  rw [Bool.and_eq_true, decide_eq_true_eq] at h
  refine ⟨h.2, fun s hs => ?_⟩
  have h1 := h.1
  rw [List.take_of_length_le (by omega)] at h1
  exact of_decide_eq_true (List.all_eq_true.1 h1 s hs)
/-! ### Parse -/
def ndD (t : UInt8 × List UInt8 × List Dat) : Dat := nodeD t.1 t.2.1 t.2.2
def kidL (ts : List (UInt8 × List UInt8 × List Dat)) : List (List UInt8) := ts.map fun t => (decS t.2.1).1
theorem tr_kids {d : Nat} {n : Dat} {b : List UInt8} (h : Tr d n b) : ∃ (x : UInt8) (c : List UInt8) (ts : List (UInt8 × List UInt8 × List Dat)), n = nodeD x c (ts.map ndD) ∧ ts.length ≤ b.length ∧ ∀ t ∈ ts, t.2.1.length ≤ b.length := by
  cases h with
  | prim d x c hx hc hl => exact ⟨x, c, [], rfl, Nat.zero_le _, by simp⟩
  | cons d x ks bs hx hc hl hn hk =>
    refine ⟨x, [], ?_⟩
    have key : ∀ (ks : List Dat) (bs : List (List UInt8)), ks.length = bs.length → (∀ (i : Nat) (k : Dat) (b : List UInt8), ks[i]? = some k → bs[i]? = some b → Tr d k b) → ∃ ts : List (UInt8 × List UInt8 × List Dat), ks = ts.map ndD ∧ ts.length ≤ bs.flatten.length ∧ ∀ t ∈ ts, t.2.1.length ≤ bs.flatten.length := by
      clear hn hl hk
      intro ks
      induction ks with
      | nil => intro bs _ _; exact ⟨[], rfl, Nat.zero_le _, by simp⟩
      | cons k ks ih =>
        intro bs hn hk
        match bs, hn with
        | b :: bs, hn =>
          obtain ⟨ts, h1, h2, h3⟩ := ih bs (by simpa using hn) (fun i k b hi hb => hk (i + 1) k b (by simpa using hi) (by simpa using hb))
          have ht := hk 0 k b rfl rfl
          have hp := ht.pos
          have hc : ∃ x c ks, k = nodeD x c ks ∧ c.length ≤ b.length := by
            cases ht with
            | prim d x c _ _ _ => exact ⟨x, c, [], rfl, by rw [putF_len]; omega⟩
            | cons d x ks bs _ _ _ _ _ => exact ⟨x, [], ks, rfl, by simp⟩
          obtain ⟨x, c, ks', rfl, hl⟩ := hc
          refine ⟨(x, c, ks') :: ts, by rw [h1]; rfl, by rw [List.flatten_cons, List.length_append, List.length_cons]; omega, ?_⟩
          intro t hm
          rw [List.flatten_cons, List.length_append]
          rcases List.mem_cons.1 hm with rfl | hm
          · simp only; omega
          · have := h3 t hm; omega
    obtain ⟨ts, h1, h2, h3⟩ := key ks bs hn hk
    refine ⟨ts, by rw [h1], ?_, ?_⟩
    · rw [putF_len]; omega
    · intro t ht
      have := h3 t ht
      rw [putF_len]; omega
def rusD (b : List UInt8) (L : List (List UInt8)) : Res := if usV L = true ∧ usF L = b then .d (.tup [.sl none (strs L), .bool true]) else .d (.tup [.sl none [], .bool false])
theorem nd_at {ts : List (UInt8 × List UInt8 × List Dat)} {k : Nat} (h : k < ts.length) : (ts.map ndD).getD (k : Int).toNat default = ndD ts[k] := by
  rw [Int.toNat_natCast, List.getD_eq_getElem?_getD, List.getElem?_map, List.getElem?_eq_getElem h]
  rfl
end Go.Proofs.YtmciaonjkkelnaaDoor

/- Extensions by the reference: Few, Valid, Marshal, Read and Parse; comparisons. Walked by the abstract machine. -/
namespace Go.Proofs.YtmciaonjkkelnaaDoor
open Go.Am
set_option linter.unusedSimpArgs false
set_option linter.unusedVariables false
-- withAmZ withAmMp

theorem isRXFew : IsFn Tryd.prog 14 Tryd.f14 := ⟨Tryd.func14, by decide, rfl⟩
theorem c_rxfew (Γ : Env) (x : Ext) {v : Bool} (h : fewX x = v) : ACalls Tryd.prog Γ 14 [xD x] (fun r => r = .d (.bool v)) := by
  refine acalls_of ty_ok isRXFew rfl rfl ?_
  subst h
  unfold xD sD fewX
  have h1 : (bA x.o).size = x.o.length := bA_size _
  have h2 : (bys x.v).length = x.v.length := bys_len _
  repeat' (first | ((with_reducible show AWp _ _ _ _ _); (first | refine awp_seq ?_ | refine awp_block ?_ | refine awp_skip ?_ | refine awp_exit ?_ | refine awp_scope ?_ | refine awp_label ?_ | refine awp_run ty_ok rfl sdm ?_ | refine awp_ret ⟨_, _, rfl, rfl, ?_⟩ | refine awp_ret ⟨_, rfl, ?_⟩ | ((refine awp_cond (ty := ty) rfl (fun hc => ?_) (fun hc => ?_)) <;> (try simp only [nms, reduceCtorEq] at hc) <;> (try (exfalso; omega))))) | ((with_reducible show AOps _ _ _ _ _ _); (first | refine aops_nil ?_ | refine aops_go ty_ok rfl rfl sdm ?_ | refine aops_gate ty_ok rfl rfl rfl sdm ?_ | refine aops_litE ty_ok rfl rfl rfl rfl rfl rfl rfl rfl rfl rfl rfl rfl ?_ | refine aops_litA ty_ok rfl rfl rfl rfl rfl rfl rfl rfl rfl rfl rfl rfl rfl rfl rfl rfl ?_ | refine aops_buildArr ty_ok rfl rfl rfl rfl rfl rfl rfl rfl rfl rfl ?_ | refine aops_indexArr ty_ok rfl rfl rfl rfl rfl rfl rfl rfl rfl rfl sdm ?_ | refine aops_lit0 ty_ok rfl rfl rfl rfl rfl rfl rfl ?_ | refine aops_field ty_ok rfl rfl rfl rfl rfl rfl rfl rfl rfl rfl ?_ | refine aops_cutE ty_ok rfl rfl rfl rfl rfl rfl rfl rfl rfl sdm rfl ?_ | ((fail_if_success (refine aops_known rfl ?_)); (refine aops_split ty_ok rfl rfl rfl rfl rfl rfl (fun hc => ⟨?_, ?_⟩) (fun hc => ⟨?_, ?_⟩)) <;> (try simp only [nms, reduceCtorEq] at hc) <;> (try (exfalso; omega)) <;> (try exact sdm)))) | ((fail_if_success (with_reducible show AWp _ _ _ _ _)); (fail_if_success (with_reducible show AOps _ _ _ _ _ _)); (first | (show AWp _ _ _ _ _) | (show AOps _ _ _ _ _ _))))
  · rw [decide_eq_true (show x.o.length ≤ 200 by omega), Bool.true_and]
    refine congrArg (fun b => Res.d (Dat.bool b)) ?_
    rw [Bool.eq_iff_iff, decide_eq_true_eq, decide_eq_true_eq, h2]
    omega
  · rw [decide_eq_false (show ¬ x.o.length ≤ 200 by omega), Bool.false_and]
theorem isRXValid : IsFn Tryd.prog 21 Tryd.f21 := ⟨Tryd.func21, by decide, rfl⟩
theorem c_rxvalid (Γ : Env) (x : Ext) (ho : x.o.length ≤ 100000000) {v : Bool} (h : exV x = v) : ACalls Tryd.prog Γ 21 [xD x] (fun r => r = .d (.bool v)) := by
  refine acalls_of ty_ok isRXValid rfl rfl ?_
  have hc1 := c_rovalid (Γ.at 0) x.o ho
  unfold exV at h
  rw [h] at hc1
  unfold sD at hc1
  unfold xD sD
  repeat' (first | ((with_reducible show AWp _ _ _ _ _); (first | refine awp_seq ?_ | refine awp_block ?_ | refine awp_skip ?_ | refine awp_exit ?_ | refine awp_scope ?_ | refine awp_label ?_ | refine awp_run ty_ok rfl sdm ?_ | refine awp_ret ⟨_, _, rfl, rfl, ?_⟩ | refine awp_ret ⟨_, rfl, ?_⟩ | ((refine awp_cond (ty := ty) rfl (fun hc => ?_) (fun hc => ?_)) <;> (try simp only [nms, reduceCtorEq] at hc) <;> (try (exfalso; omega))))) | ((with_reducible show AOps _ _ _ _ _ _); (first | refine aops_nil ?_ | refine aops_go ty_ok rfl rfl sdm ?_ | refine aops_gate ty_ok rfl rfl rfl sdm ?_ | refine aops_callE (ty := ty) rfl rfl rfl rfl rfl rfl rfl (hc1) rfl ?_ | refine aops_litE ty_ok rfl rfl rfl rfl rfl rfl rfl rfl rfl rfl rfl rfl ?_ | refine aops_litA ty_ok rfl rfl rfl rfl rfl rfl rfl rfl rfl rfl rfl rfl rfl rfl rfl rfl ?_ | refine aops_buildArr ty_ok rfl rfl rfl rfl rfl rfl rfl rfl rfl rfl ?_ | refine aops_indexArr ty_ok rfl rfl rfl rfl rfl rfl rfl rfl rfl rfl sdm ?_ | refine aops_lit0 ty_ok rfl rfl rfl rfl rfl rfl rfl ?_ | refine aops_field ty_ok rfl rfl rfl rfl rfl rfl rfl rfl rfl rfl ?_ | refine aops_cutE ty_ok rfl rfl rfl rfl rfl rfl rfl rfl rfl sdm rfl ?_ | ((fail_if_success (refine aops_known rfl ?_)); (refine aops_split ty_ok rfl rfl rfl rfl rfl rfl (fun hc => ⟨?_, ?_⟩) (fun hc => ⟨?_, ?_⟩)) <;> (try simp only [nms, reduceCtorEq] at hc) <;> (try (exfalso; omega)) <;> (try exact sdm)))) | ((fail_if_success (with_reducible show AWp _ _ _ _ _)); (fail_if_success (with_reducible show AOps _ _ _ _ _ _)); (first | (show AWp _ _ _ _ _) | (show AOps _ _ _ _ _ _))))
  rfl
instance : DecidableEq Ext := fun x y => decidable_of_iff ((x.o = y.o ∧ x.c = y.c) ∧ x.v = y.v) ⟨fun h => Ext.ext' h.1.1 h.1.2 h.2, fun h => by subst h; exact ⟨⟨rfl, rfl⟩, rfl⟩⟩
theorem ext_eq (x y : Ext) : decide (x = y) = (decide (x.o = y.o) && decide (x.c = y.c) && decide (x.v = y.v)) := by
  rw [Bool.eq_iff_iff]
  simp only [decide_eq_true_eq, Bool.and_eq_true]
  exact ⟨fun h => by subst h; exact ⟨⟨rfl, rfl⟩, rfl⟩, fun h => Ext.ext' h.1.1 h.1.2 h.2⟩
theorem isBExt : IsFn Tryd.prog 13 Tryd.f13 := ⟨Tryd.func13, by decide, rfl⟩
theorem c_bext (Γ : Env) (x y : Ext) {v : Bool} (h : decide (x = y) = v) : ACalls Tryd.prog Γ 13 [xD x, xD y] (fun r => r = .d (.bool v)) := by
  refine acalls_of ty_ok isBExt rfl rfl ?_
  subst h
  rw [ext_eq]
  have hb := c_bytes (Γ.at 0) x.v y.v
  have ho := @bA_inj x.o y.o
  unfold xD sD
  repeat' (first | ((with_reducible show AWp _ _ _ _ _); (first | refine awp_seq ?_ | refine awp_block ?_ | refine awp_skip ?_ | refine awp_exit ?_ | refine awp_scope ?_ | refine awp_label ?_ | refine awp_run ty_ok rfl sdm ?_ | refine awp_ret ⟨_, _, rfl, rfl, ?_⟩ | refine awp_ret ⟨_, rfl, ?_⟩ | ((refine awp_cond (ty := ty) rfl (fun hc => ?_) (fun hc => ?_)) <;> (try simp only [nms, reduceCtorEq] at hc) <;> (try (exfalso; omega))))) | ((with_reducible show AOps _ _ _ _ _ _); (first | refine aops_nil ?_ | refine aops_go ty_ok rfl rfl sdm ?_ | refine aops_gate ty_ok rfl rfl rfl sdm ?_ | refine aops_callE (ty := ty) rfl rfl rfl rfl rfl rfl rfl (hb) rfl ?_ | refine aops_litE ty_ok rfl rfl rfl rfl rfl rfl rfl rfl rfl rfl rfl rfl ?_ | refine aops_litA ty_ok rfl rfl rfl rfl rfl rfl rfl rfl rfl rfl rfl rfl rfl rfl rfl rfl ?_ | refine aops_buildArr ty_ok rfl rfl rfl rfl rfl rfl rfl rfl rfl rfl ?_ | refine aops_indexArr ty_ok rfl rfl rfl rfl rfl rfl rfl rfl rfl rfl sdm ?_ | refine aops_lit0 ty_ok rfl rfl rfl rfl rfl rfl rfl ?_ | refine aops_field ty_ok rfl rfl rfl rfl rfl rfl rfl rfl rfl rfl ?_ | refine aops_cutE ty_ok rfl rfl rfl rfl rfl rfl rfl rfl rfl sdm rfl ?_ | ((fail_if_success (refine aops_known rfl ?_)); (refine aops_split ty_ok rfl rfl rfl rfl rfl rfl (fun hc => ⟨?_, ?_⟩) (fun hc => ⟨?_, ?_⟩)) <;> (try simp only [nms, reduceCtorEq] at hc) <;> (try (exfalso; omega)) <;> (try exact sdm)))) | ((fail_if_success (with_reducible show AWp _ _ _ _ _)); (fail_if_success (with_reducible show AOps _ _ _ _ _ _)); (first | (show AWp _ _ _ _ _) | (show AOps _ _ _ _ _ _))))
  · rw [ho] at *
    simp_all
  · rw [ho] at *
    simp_all
  · rw [ho] at *
    simp_all
def kidN (ts : List (UInt8 × List UInt8 × List Dat)) (i : Int) : UInt8 × List UInt8 × List Dat := if 0 ≤ i ∧ i < ts.length then ts.getD i.toNat (0, [], []) else (0, [], [])
theorem nd_facts {X : Dat} {t : UInt8 × List UInt8 × List Dat} (h : X = ndD t) : X = .agg [.int .i64 (X.cell 0).num, .int .i64 (X.cell 1).num, .bool (X.cell 2).tru, .sl none (X.cell 3).els, .sl (some 5) (X.cell 4).els] := by
  rw [h]
  rfl
def exRd (ts : List (UInt8 × List UInt8 × List Dat)) : Ext := ⟨(decS (kidN ts 0).2.1).1, decide (2 < ts.length), (kidN ts (ts.length - 1)).2.1⟩
theorem kidN_len {ts : List (UInt8 × List UInt8 × List Dat)} {B : Nat} (h : ∀ t ∈ ts, t.2.1.length ≤ B) (i : Int) : (kidN ts i).2.1.length ≤ B := by
  unfold kidN
  split
  · rename_i hi
    have h2 : i.toNat < ts.length := by omega
    rw [List.getD_eq_getElem?_getD, List.getElem?_eq_getElem h2]
    exact h _ (List.getElem_mem h2)
  · exact Nat.zero_le _
end Go.Proofs.YtmciaonjkkelnaaDoor

/- Extensions by the reference: Parse. Walked by the abstract machine. -/
namespace Go.Proofs.YtmciaonjkkelnaaDoor
open Go.Am
set_option linter.unusedSimpArgs false
set_option linter.unusedVariables false
-- withAmZ withAmMp

def rxD (b : List UInt8) (x : Ext) : Res := if exV x = true ∧ exF x = b then .d (.tup [xD x, .bool true]) else .d (.tup [xD x0, .bool false])
theorem exRd_len {ts : List (UInt8 × List UInt8 × List Dat)} {B : Nat} (h : ∀ t ∈ ts, t.2.1.length ≤ B) : (exRd ts).o.length ≤ (B + 2) * 11 ∧ (exRd ts).v.length ≤ B := by
  refine ⟨?_, kidN_len h _⟩
  have h1 := kidN_len h 0
  have h2 := decS_len (kidN ts 0).2.1
  show (decS (kidN ts 0).2.1).1.length ≤ _
  omega
def kd0 (t : UInt8 × List UInt8) : UInt8 × List UInt8 × List Dat := (t.1, t.2, [])
theorem exRd_of (x : Ext) (hv : exV x = true) : exRd ((exB x).map kd0) = x := by
  obtain ⟨o, c, v⟩ := x
  have h := decS_encO (show oidV o = true from hv)
  cases c with
  | true => exact Ext.ext' (show (decS (encO o)).1 = o by rw [h]) rfl rfl
  | false => exact Ext.ext' (show (decS (encO o)).1 = o by rw [h]) rfl rfl
theorem exB_prim (x : Ext) : ∀ t ∈ exB x, conB t.1 = false := by
  unfold exB
  cases x.c
  all_goals
    intro t ht
    simp only [List.mem_cons, List.not_mem_nil, or_false] at ht
  · rcases ht with rfl | rfl <;> first | exact (by decide : conB 6 = false) | exact (by decide : conB 4 = false) | exact (by decide : conB 1 = false)
  · rcases ht with rfl | rfl | rfl <;> first | exact (by decide : conB 6 = false) | exact (by decide : conB 4 = false) | exact (by decide : conB 1 = false)
theorem exB_in {x : Ext} {t : UInt8 × List UInt8} (h : t ∈ exB x) : t.2.length ≤ (catF (exB x)).length := by
  have key : ∀ ts : List (UInt8 × List UInt8), t ∈ ts → t.2.length ≤ (catF ts).length := by
    intro ts
    induction ts with
    | nil => intro h; cases h
    | cons u r ih =>
      intro h
      simp only [catF, List.length_append]
      rcases List.mem_cons.1 h with rfl | h
      · have := putF_len t.1 t.2
        omega
      · have := ih h
        omega
  exact key _ h
theorem exT_tr (d : Nat) (x : Ext) (hl : (catF (exB x)).length ≤ 2147483647) : Tr (d + 2) (nodeD 48 [] ((exB x).map primD)) (exF x) :=
  Tr.seq (x := 48) (by decide) (by decide) hl (exB_good hl) (exB_prim x)
/-! ### The contracts as the laws want them -/
def exBd (x : Ext) : List UInt8 := catF (exB x)
def xSm (x : Ext) : Prop := x.o.length ≤ 200000 ∧ x.v.length ≤ 200000
theorem xSm0 : xSm x0 := ⟨Nat.zero_le _, Nat.zero_le _⟩
theorem x_small {x : Ext} (h : fewX x = true) : xSm x ∧ (exBd x).length ≤ 2147483647 ∧ (exF x).length ≤ 10000 ∧ 0 < (exF x).length := by
  obtain ⟨h1, h2⟩ := fewX_len h
  have h3 := ex_cat x 2600 (by omega)
  have h4 := exF_le x
  exact ⟨⟨by omega, by omega⟩, by unfold exBd; omega, by omega, exF_pos x⟩
theorem x_len {x : Ext} (hv : exV x = true) (hl : (exF x).length ≤ 10000) : (exBd x).length ≤ 2147483647 ∧ xSm x := by
  have h2 := exF_len x
  have h3 := ex_len hv (by omega)
  exact ⟨by unfold exBd; omega, h3.1, h3.2⟩
theorem c_xmar_ok (x : Ext) (s : xSm x) (h : exV x = true) : ACalls Tryd.prog envL 23 [xD x] (fun r => r = .ownT none 5 (bys (exF x)) [.int .i64 0]) := c_xmarshal_ok x (by have := s.1; omega) (by have := s.2; omega) h
theorem c_xmar_bad (x : Ext) (s : xSm x) (h : exV x = false) : ACalls Tryd.prog envL 23 [xD x] (fun r => r = .d (.tup [.sl none [], .int .i64 8])) := c_xmarshal_bad x (by have := s.1; omega) (by have := s.2; omega) h
theorem c_xval_at (x : Ext) (s : xSm x) {v : Bool} (h : exV x = v) : ACalls Tryd.prog envL 49 [xD x] (fun r => r = .d (.bool v)) := c_xvalid_at x (by have := s.1; omega) h
theorem c_rxval_at (Γ : Env) (x : Ext) (s : xSm x) {v : Bool} (h : exV x = v) : ACalls Tryd.prog Γ 21 [xD x] (fun r => r = .d (.bool v)) := c_rxvalid Γ x (by have := s.1; omega) h
def basX : Ext := ⟨[50, 46, 53, 46, 50, 57, 46, 49, 57], true, [48, 0]⟩
theorem bas_v : exV basX = true := by decide +kernel
theorem bas_f : exF basX = [48, 12, 6, 3, 85, 29, 19, 1, 1, 255, 4, 2, 48, 0] := by decide +kernel
theorem isAwake22 : IsFn Tryd.prog 9 Tryd.f9 := ⟨Tryd.func9, by decide, rfl⟩
theorem c_awake22 : ACalls Tryd.prog envL 9 [] (fun r => r = .d (.bool true)) := by
  refine acalls_of ty_ok isAwake22 rfl rfl ?_
  have h1 := c_xmar_ok basX ⟨by decide, by decide⟩ bas_v
  rw [bas_f] at h1
  repeat' (first | ((with_reducible show AWp _ _ _ _ _); (first | refine awp_seq ?_ | refine awp_block ?_ | refine awp_skip ?_ | refine awp_exit ?_ | refine awp_scope ?_ | refine awp_label ?_ | refine awp_run ty_ok rfl sdm ?_ | refine awp_ret ⟨_, _, rfl, rfl, ?_⟩ | refine awp_ret ⟨_, rfl, ?_⟩ | ((refine awp_cond (ty := ty) rfl (fun hc => ?_) (fun hc => ?_)) <;> (try simp only [nms, reduceCtorEq] at hc) <;> (try (exfalso; omega))))) | ((with_reducible show AOps _ _ _ _ _ _); (first | refine aops_nil ?_ | refine aops_go ty_ok rfl rfl sdm ?_ | refine aops_gate ty_ok rfl rfl rfl sdm ?_ | refine aops_callE (ty := ty) rfl rfl rfl rfl rfl rfl rfl (h1) rfl ?_ | refine aops_callE (ty := ty) rfl rfl rfl rfl rfl rfl rfl (c_bytes_eq _ [48, 12, 6, 3, 85, 29, 19, 1, 1, 255, 4, 2, 48, 0] [48, 12, 6, 3, 85, 29, 19, 1, 1, 255, 4, 2, 48, 0] rfl) rfl ?_ | refine aops_litE ty_ok rfl rfl rfl rfl rfl rfl rfl rfl rfl rfl rfl rfl ?_ | refine aops_litA ty_ok rfl rfl rfl rfl rfl rfl rfl rfl rfl rfl rfl rfl rfl rfl rfl rfl ?_ | refine aops_buildArr ty_ok rfl rfl rfl rfl rfl rfl rfl rfl rfl rfl ?_ | refine aops_indexArr ty_ok rfl rfl rfl rfl rfl rfl rfl rfl rfl rfl sdm ?_ | refine aops_lit0 ty_ok rfl rfl rfl rfl rfl rfl rfl ?_ | refine aops_field ty_ok rfl rfl rfl rfl rfl rfl rfl rfl rfl rfl ?_ | refine aops_cutE ty_ok rfl rfl rfl rfl rfl rfl rfl rfl rfl sdm rfl ?_ | ((fail_if_success (refine aops_known rfl ?_)); (refine aops_split ty_ok rfl rfl rfl rfl rfl rfl (fun hc => ⟨?_, ?_⟩) (fun hc => ⟨?_, ?_⟩)) <;> (try simp only [nms, reduceCtorEq] at hc) <;> (try (exfalso; omega)) <;> (try exact sdm)))) | ((fail_if_success (with_reducible show AWp _ _ _ _ _)); (fail_if_success (with_reducible show AOps _ _ _ _ _ _)); (first | (show AWp _ _ _ _ _) | (show AOps _ _ _ _ _ _))))
  all_goals rfl
end Go.Proofs.YtmciaonjkkelnaaDoor

/- Lists of extensions: unique, ValidList, MarshalList and ParseList. Walked by the abstract machine. -/
namespace Go.Proofs.YtmciaonjkkelnaaDoor
open Go.Am
set_option linter.unusedSimpArgs false
set_option linter.unusedVariables false
-- withAmZ withAmMp

abbrev xlD (l : List Ext) : Dat := .sl (some 3) (xsD l)
def seenE (q : List Ext) : List (Dat × AV) := q.map fun x => (sD x.o, .d (.bool true))
theorem seen_find (o : List UInt8) : ∀ q : List Ext, findM (sD o) (seenE q) = some (if o ∈ q.map (·.o) then some (.d (.bool true)) else none)
  | [] => by simp [seenE, findM]
  | x :: r => by
    have ih := seen_find o r
    by_cases h : o = x.o
    · simp only [seenE, List.map_cons, findM, sD, keyB, h, decide_true, List.mem_cons, true_or, if_true]
    · have hb : decide (bA o = bA x.o) = false := decide_eq_false fun e => h (bA_inj.1 e)
      simp only [seenE, List.map_cons, findM, sD, keyB, hb]
      simp only [seenE, sD] at ih
      rw [ih]
      simp [h]
theorem seen_snoc (l : List Ext) (k : Nat) (h : k < l.length) : seenE (l.take k) ++ [(.str (bA l[k].o), .d (.bool true))] = seenE (l.take (k + 1)) := by
  rw [List.take_succ_eq_append_getElem h, seenE, seenE, List.map_append]
  rfl
theorem seen_ren (L : Nat) (m : List (Nat × Nat)) (q : List Ext) : renO L m (.map (seenE q)) = .map (seenE q) := by
  show AO.map ((seenE q).map fun p => (p.1, renA L m p.2)) = _
  rw [seenE, List.map_map]
  rfl
theorem isUnique : IsFn Tryd.prog 35 Tryd.f35 := ⟨Tryd.func35, by decide, rfl⟩
set_option maxHeartbeats 1000000 in
theorem c_unique (l : List Ext) (hn : l.length ≤ 1000000) (hl : ∀ x ∈ l, x.o.length ≤ 1000000) : ACalls Tryd.prog envL 35 [.sl (some 3) (xsD l)] (fun r => r = .d (.bool (xlV l))) := by
  refine acalls_of ty_ok isUnique rfl rfl ?_
  repeat' (first | ((with_reducible show AWp _ _ _ _ _); (first | refine awp_seq ?_ | refine awp_block ?_ | refine awp_skip ?_ | refine awp_exit ?_ | refine awp_scope ?_ | refine awp_label ?_ | refine awp_run ty_ok rfl sdm ?_ | refine awp_ret ⟨_, _, rfl, rfl, ?_⟩ | refine awp_ret ⟨_, rfl, ?_⟩ | ((refine awp_cond (ty := ty) rfl (fun hc => ?_) (fun hc => ?_)) <;> (try simp only [nms, reduceCtorEq] at hc) <;> (try (exfalso; omega))))) | ((with_reducible show AOps _ _ _ _ _ _); (first | refine aops_nil ?_ | refine aops_go ty_ok rfl rfl sdm ?_ | refine aops_gate ty_ok rfl rfl rfl sdm ?_ | refine aops_litE ty_ok rfl rfl rfl rfl rfl rfl rfl rfl rfl rfl rfl rfl ?_ | refine aops_litA ty_ok rfl rfl rfl rfl rfl rfl rfl rfl rfl rfl rfl rfl rfl rfl rfl rfl ?_ | refine aops_buildArr ty_ok rfl rfl rfl rfl rfl rfl rfl rfl rfl rfl ?_ | refine aops_indexArr ty_ok rfl rfl rfl rfl rfl rfl rfl rfl rfl rfl sdm ?_ | refine aops_lit0 ty_ok rfl rfl rfl rfl rfl rfl rfl ?_ | refine aops_field ty_ok rfl rfl rfl rfl rfl rfl rfl rfl rfl rfl ?_ | refine aops_cutE ty_ok rfl rfl rfl rfl rfl rfl rfl rfl rfl sdm rfl ?_ | ((fail_if_success (refine aops_known rfl ?_)); (refine aops_split ty_ok rfl rfl rfl rfl rfl rfl (fun hc => ⟨?_, ?_⟩) (fun hc => ⟨?_, ?_⟩)) <;> (try simp only [nms, reduceCtorEq] at hc) <;> (try (exfalso; omega)) <;> (try exact sdm)))) | ((fail_if_success (with_reducible show AWp _ _ _ _ _)); (fail_if_success (with_reducible show AOps _ _ _ _ _ _)); (first | (show AWp _ _ _ _ _) | (show AOps _ _ _ _ _ _))))
  refine aops_mkmap rfl rfl rfl rfl ?_
  repeat' (first | ((with_reducible show AWp _ _ _ _ _); (first | refine awp_seq ?_ | refine awp_block ?_ | refine awp_skip ?_ | refine awp_exit ?_ | refine awp_scope ?_ | refine awp_label ?_ | refine awp_run ty_ok rfl sdm ?_ | refine awp_ret ⟨_, _, rfl, rfl, ?_⟩ | refine awp_ret ⟨_, rfl, ?_⟩ | ((refine awp_cond (ty := ty) rfl (fun hc => ?_) (fun hc => ?_)) <;> (try simp only [nms, reduceCtorEq] at hc) <;> (try (exfalso; omega))))) | ((with_reducible show AOps _ _ _ _ _ _); (first | refine aops_nil ?_ | refine aops_go ty_ok rfl rfl sdm ?_ | refine aops_gate ty_ok rfl rfl rfl sdm ?_ | refine aops_litE ty_ok rfl rfl rfl rfl rfl rfl rfl rfl rfl rfl rfl rfl ?_ | refine aops_litA ty_ok rfl rfl rfl rfl rfl rfl rfl rfl rfl rfl rfl rfl rfl rfl rfl rfl ?_ | refine aops_buildArr ty_ok rfl rfl rfl rfl rfl rfl rfl rfl rfl rfl ?_ | refine aops_indexArr ty_ok rfl rfl rfl rfl rfl rfl rfl rfl rfl rfl sdm ?_ | refine aops_lit0 ty_ok rfl rfl rfl rfl rfl rfl rfl ?_ | refine aops_field ty_ok rfl rfl rfl rfl rfl rfl rfl rfl rfl rfl ?_ | refine aops_cutE ty_ok rfl rfl rfl rfl rfl rfl rfl rfl rfl sdm rfl ?_ | ((fail_if_success (refine aops_known rfl ?_)); (refine aops_split ty_ok rfl rfl rfl rfl rfl rfl (fun hc => ⟨?_, ?_⟩) (fun hc => ⟨?_, ?_⟩)) <;> (try simp only [nms, reduceCtorEq] at hc) <;> (try (exfalso; omega)) <;> (try exact sdm)))) | ((fail_if_success (with_reducible show AWp _ _ _ _ _)); (fail_if_success (with_reducible show AOps _ _ _ _ _ _)); (first | (show AWp _ _ _ _ _) | (show AOps _ _ _ _ _ _))))
  refine awp_loopR (G := { k : Nat // k ≤ l.length ∧ (l.take k).all exV = true ∧ ((l.take k).map (·.o)).Nodup }) (fun k => ⟨Tryd.f35.ntmps, [(0, .d (.sl (some 3) (xsD l))), (3, .ref 0), (7, .d (.sl (some 3) (xsD l))), (8, .d (.int .i64 l.length)), (9, .d (.int .i64 k.1))], [(0, .map (seenE (l.take k.1)))], 1⟩) (fun k => l.length - k.1) ⟨0, by simp⟩ [(0, 0)]
      (SubR.mk' rfl rfl ⟨⟨_, rfl, rfl⟩, ⟨_, rfl, rfl⟩, ⟨_, rfl, rfl⟩, ⟨_, rfl, congrArg (fun z : Nat => AV.d (Dat.int IntKind.i64 z)) (xs_len _)⟩, ⟨_, rfl, rfl⟩, trivial⟩ ⟨⟨_, _, rfl, rfl, rfl⟩, trivial⟩) ?_
  rintro ⟨k, hk, hv, hd⟩
  dsimp only
  rcases Nat.lt_or_ge k l.length with h | h
  · have hX := xs_at h
    have hcan := x_can hX
    have hxl := xs_len l
    have hf := seen_find l[k].o (l.take k)
    have ht : l.take (k + 1) = l.take k ++ [l[k]] := List.take_succ_eq_append_getElem h
    repeat' (first | ((with_reducible show AWp _ _ _ _ _); (first | refine awp_seq ?_ | refine awp_block ?_ | refine awp_skip ?_ | refine awp_exit ?_ | refine awp_scope ?_ | refine awp_label ?_ | refine awp_run ty_ok rfl sdm ?_ | refine awp_ret ⟨_, _, rfl, rfl, ?_⟩ | refine awp_ret ⟨_, rfl, ?_⟩ | ((refine awp_cond (ty := ty) rfl (fun hc => ?_) (fun hc => ?_)) <;> (try simp only [nms, reduceCtorEq] at hc) <;> (try (exfalso; omega))))) | ((with_reducible show AOps _ _ _ _ _ _); (first | refine aops_nil ?_ | refine aops_go ty_ok rfl rfl sdm ?_ | refine aops_gate ty_ok rfl rfl rfl sdm ?_ | refine aops_litE ty_ok rfl rfl rfl rfl rfl rfl rfl rfl rfl rfl rfl rfl ?_ | refine aops_litA ty_ok rfl rfl rfl rfl rfl rfl rfl rfl rfl rfl rfl rfl rfl rfl rfl rfl ?_ | refine aops_buildArr ty_ok rfl rfl rfl rfl rfl rfl rfl rfl rfl rfl ?_ | refine aops_indexArr ty_ok rfl rfl rfl rfl rfl rfl rfl rfl rfl rfl sdm ?_ | refine aops_lit0 ty_ok rfl rfl rfl rfl rfl rfl rfl ?_ | refine aops_field ty_ok rfl rfl rfl rfl rfl rfl rfl rfl rfl rfl ?_ | refine aops_cutE ty_ok rfl rfl rfl rfl rfl rfl rfl rfl rfl sdm rfl ?_ | ((fail_if_success (refine aops_known rfl ?_)); (refine aops_split ty_ok rfl rfl rfl rfl rfl rfl (fun hc => ⟨?_, ?_⟩) (fun hc => ⟨?_, ?_⟩)) <;> (try simp only [nms, reduceCtorEq] at hc) <;> (try (exfalso; omega)) <;> (try exact sdm)))) | ((fail_if_success (with_reducible show AWp _ _ _ _ _)); (fail_if_success (with_reducible show AOps _ _ _ _ _ _)); (first | (show AWp _ _ _ _ _) | (show AOps _ _ _ _ _ _))))
    simp only [hX, xD, Dat.cell, Dat.cells, List.getD_cons_zero, List.getD_cons_succ, Dat.txt, Dat.tru, Dat.els, sD]
    by_cases hm : l[k].o ∈ (l.take k).map (·.o)
    · rw [if_pos hm] at hf
      refine aops_look ty_ok rfl rfl rfl Tryd.underlying79 Tryd.underlying9 rfl (fun C => .d (.bool false)) rfl rfl rfl rfl hf rfl ?_
      have hbad : xlV l = false := by
        unfold xlV
        rw [Bool.and_eq_false_iff]
        right
        refine decide_eq_false fun hnd => ?_
        have h1 : ((l.take (k + 1)).map (·.o)).Nodup := hnd.sublist ((List.take_sublist _ _).map _)
        rw [ht, List.map_append, List.nodup_append] at h1
        exact h1.2.2 _ hm _ (by simp) rfl
      repeat' (first | ((with_reducible show AWp _ _ _ _ _); (first | refine awp_seq ?_ | refine awp_block ?_ | refine awp_skip ?_ | refine awp_exit ?_ | refine awp_scope ?_ | refine awp_label ?_ | refine awp_run ty_ok rfl sdm ?_ | refine awp_ret ⟨_, _, rfl, rfl, ?_⟩ | refine awp_ret ⟨_, rfl, ?_⟩ | ((refine awp_cond (ty := ty) rfl (fun hc => ?_) (fun hc => ?_)) <;> (try simp only [nms, reduceCtorEq] at hc) <;> (try (exfalso; omega))))) | ((with_reducible show AOps _ _ _ _ _ _); (first | refine aops_nil ?_ | refine aops_go ty_ok rfl rfl sdm ?_ | refine aops_gate ty_ok rfl rfl rfl sdm ?_ | refine aops_litE ty_ok rfl rfl rfl rfl rfl rfl rfl rfl rfl rfl rfl rfl ?_ | refine aops_litA ty_ok rfl rfl rfl rfl rfl rfl rfl rfl rfl rfl rfl rfl rfl rfl rfl rfl ?_ | refine aops_buildArr ty_ok rfl rfl rfl rfl rfl rfl rfl rfl rfl rfl ?_ | refine aops_indexArr ty_ok rfl rfl rfl rfl rfl rfl rfl rfl rfl rfl sdm ?_ | refine aops_lit0 ty_ok rfl rfl rfl rfl rfl rfl rfl ?_ | refine aops_field ty_ok rfl rfl rfl rfl rfl rfl rfl rfl rfl rfl ?_ | refine aops_cutE ty_ok rfl rfl rfl rfl rfl rfl rfl rfl rfl sdm rfl ?_ | ((fail_if_success (refine aops_known rfl ?_)); (refine aops_split ty_ok rfl rfl rfl rfl rfl rfl (fun hc => ⟨?_, ?_⟩) (fun hc => ⟨?_, ?_⟩)) <;> (try simp only [nms, reduceCtorEq] at hc) <;> (try (exfalso; omega)) <;> (try exact sdm)))) | ((fail_if_success (with_reducible show AWp _ _ _ _ _)); (fail_if_success (with_reducible show AOps _ _ _ _ _ _)); (first | (show AWp _ _ _ _ _) | (show AOps _ _ _ _ _ _))))
      rw [hbad]
    · rw [if_neg hm] at hf
      refine aops_look ty_ok rfl rfl rfl Tryd.underlying79 Tryd.underlying9 rfl (fun C => .d (.bool false)) rfl rfl rfl rfl hf rfl ?_
      cases hx : exV l[k] with
      | false =>
        have hc1 := c_xvalid_at l[k] (by have := hl _ (List.getElem_mem h); omega) hx
        have hbad : xlV l = false := by
          unfold xlV
          rw [Bool.and_eq_false_iff, Bool.and_eq_false_iff]
          left; right
          rw [List.all_eq_false]
          exact ⟨l[k], List.getElem_mem _, by simp [hx]⟩
        repeat' (first | ((with_reducible show AWp _ _ _ _ _); (first | refine awp_seq ?_ | refine awp_block ?_ | refine awp_skip ?_ | refine awp_exit ?_ | refine awp_scope ?_ | refine awp_label ?_ | refine awp_run ty_ok rfl sdm ?_ | refine awp_ret ⟨_, _, rfl, rfl, ?_⟩ | refine awp_ret ⟨_, rfl, ?_⟩ | ((refine awp_cond (ty := ty) rfl (fun hc => ?_) (fun hc => ?_)) <;> (try simp only [nms, reduceCtorEq] at hc) <;> (try (exfalso; omega))))) | ((with_reducible show AOps _ _ _ _ _ _); (first | refine aops_nil ?_ | refine aops_go ty_ok rfl rfl sdm ?_ | refine aops_gate ty_ok rfl rfl rfl sdm ?_ | refine aops_callE (ty := ty) rfl rfl rfl rfl rfl rfl rfl (hc1) rfl ?_ | refine aops_litE ty_ok rfl rfl rfl rfl rfl rfl rfl rfl rfl rfl rfl rfl ?_ | refine aops_litA ty_ok rfl rfl rfl rfl rfl rfl rfl rfl rfl rfl rfl rfl rfl rfl rfl rfl ?_ | refine aops_buildArr ty_ok rfl rfl rfl rfl rfl rfl rfl rfl rfl rfl ?_ | refine aops_indexArr ty_ok rfl rfl rfl rfl rfl rfl rfl rfl rfl rfl sdm ?_ | refine aops_lit0 ty_ok rfl rfl rfl rfl rfl rfl rfl ?_ | refine aops_field ty_ok rfl rfl rfl rfl rfl rfl rfl rfl rfl rfl ?_ | refine aops_cutE ty_ok rfl rfl rfl rfl rfl rfl rfl rfl rfl sdm rfl ?_ | ((fail_if_success (refine aops_known rfl ?_)); (refine aops_split ty_ok rfl rfl rfl rfl rfl rfl (fun hc => ⟨?_, ?_⟩) (fun hc => ⟨?_, ?_⟩)) <;> (try simp only [nms, reduceCtorEq] at hc) <;> (try (exfalso; omega)) <;> (try exact sdm)))) | ((fail_if_success (with_reducible show AWp _ _ _ _ _)); (fail_if_success (with_reducible show AOps _ _ _ _ _ _)); (first | (show AWp _ _ _ _ _) | (show AOps _ _ _ _ _ _))))
        rw [hbad]
      | true =>
        have hc1 := c_xvalid_at l[k] (by have := hl _ (List.getElem_mem h); omega) hx
        repeat' (first | ((with_reducible show AWp _ _ _ _ _); (first | refine awp_seq ?_ | refine awp_block ?_ | refine awp_skip ?_ | refine awp_exit ?_ | refine awp_scope ?_ | refine awp_label ?_ | refine awp_run ty_ok rfl sdm ?_ | refine awp_ret ⟨_, _, rfl, rfl, ?_⟩ | refine awp_ret ⟨_, rfl, ?_⟩ | ((refine awp_cond (ty := ty) rfl (fun hc => ?_) (fun hc => ?_)) <;> (try simp only [nms, reduceCtorEq] at hc) <;> (try (exfalso; omega))))) | ((with_reducible show AOps _ _ _ _ _ _); (first | refine aops_nil ?_ | refine aops_go ty_ok rfl rfl sdm ?_ | refine aops_gate ty_ok rfl rfl rfl sdm ?_ | refine aops_callE (ty := ty) rfl rfl rfl rfl rfl rfl rfl (hc1) rfl ?_ | refine aops_litE ty_ok rfl rfl rfl rfl rfl rfl rfl rfl rfl rfl rfl rfl ?_ | refine aops_litA ty_ok rfl rfl rfl rfl rfl rfl rfl rfl rfl rfl rfl rfl rfl rfl rfl rfl ?_ | refine aops_buildArr ty_ok rfl rfl rfl rfl rfl rfl rfl rfl rfl rfl ?_ | refine aops_indexArr ty_ok rfl rfl rfl rfl rfl rfl rfl rfl rfl rfl sdm ?_ | refine aops_lit0 ty_ok rfl rfl rfl rfl rfl rfl rfl ?_ | refine aops_field ty_ok rfl rfl rfl rfl rfl rfl rfl rfl rfl rfl ?_ | refine aops_cutE ty_ok rfl rfl rfl rfl rfl rfl rfl rfl rfl sdm rfl ?_ | ((fail_if_success (refine aops_known rfl ?_)); (refine aops_split ty_ok rfl rfl rfl rfl rfl rfl (fun hc => ⟨?_, ?_⟩) (fun hc => ⟨?_, ?_⟩)) <;> (try simp only [nms, reduceCtorEq] at hc) <;> (try (exfalso; omega)) <;> (try exact sdm)))) | ((fail_if_success (with_reducible show AWp _ _ _ _ _)); (fail_if_success (with_reducible show AOps _ _ _ _ _ _)); (first | (show AWp _ _ _ _ _) | (show AOps _ _ _ _ _ _))))
        refine aops_mput (ty := ty) rfl rfl rfl Tryd.underlying79 Tryd.underlying9 rfl rfl rfl rfl hf rfl rfl ?_
        repeat' (first | ((with_reducible show AWp _ _ _ _ _); (first | refine awp_seq ?_ | refine awp_block ?_ | refine awp_skip ?_ | refine awp_exit ?_ | refine awp_scope ?_ | refine awp_label ?_ | refine awp_run ty_ok rfl sdm ?_ | refine awp_ret ⟨_, _, rfl, rfl, ?_⟩ | refine awp_ret ⟨_, rfl, ?_⟩ | ((refine awp_cond (ty := ty) rfl (fun hc => ?_) (fun hc => ?_)) <;> (try simp only [nms, reduceCtorEq] at hc) <;> (try (exfalso; omega))))) | ((with_reducible show AOps _ _ _ _ _ _); (first | refine aops_nil ?_ | refine aops_go ty_ok rfl rfl sdm ?_ | refine aops_gate ty_ok rfl rfl rfl sdm ?_ | refine aops_litE ty_ok rfl rfl rfl rfl rfl rfl rfl rfl rfl rfl rfl rfl ?_ | refine aops_litA ty_ok rfl rfl rfl rfl rfl rfl rfl rfl rfl rfl rfl rfl rfl rfl rfl rfl ?_ | refine aops_buildArr ty_ok rfl rfl rfl rfl rfl rfl rfl rfl rfl rfl ?_ | refine aops_indexArr ty_ok rfl rfl rfl rfl rfl rfl rfl rfl rfl rfl sdm ?_ | refine aops_lit0 ty_ok rfl rfl rfl rfl rfl rfl rfl ?_ | refine aops_field ty_ok rfl rfl rfl rfl rfl rfl rfl rfl rfl rfl ?_ | refine aops_cutE ty_ok rfl rfl rfl rfl rfl rfl rfl rfl rfl sdm rfl ?_ | ((fail_if_success (refine aops_known rfl ?_)); (refine aops_split ty_ok rfl rfl rfl rfl rfl rfl (fun hc => ⟨?_, ?_⟩) (fun hc => ⟨?_, ?_⟩)) <;> (try simp only [nms, reduceCtorEq] at hc) <;> (try (exfalso; omega)) <;> (try exact sdm)))) | ((fail_if_success (with_reducible show AWp _ _ _ _ _)); (fail_if_success (with_reducible show AOps _ _ _ _ _ _)); (first | (show AWp _ _ _ _ _) | (show AOps _ _ _ _ _ _))))
        refine ⟨⟨k + 1, h, ?_, ?_⟩, [(0, 0)], SubR.mk' rfl rfl ⟨⟨_, rfl, rfl⟩, ⟨_, rfl, rfl⟩, ⟨_, rfl, rfl⟩, ⟨_, rfl, rfl⟩, ⟨_, rfl, rfl⟩, trivial⟩ ⟨⟨_, _, rfl, rfl, ?_⟩, trivial⟩, by simp only; omega⟩
        · rw [ht, List.all_append, hv]
          simp [hx]
        · rw [ht, List.map_append, List.nodup_append]
          refine ⟨hd, by simp, fun a ha b hb => ?_⟩
          simp only [List.map_cons, List.map_nil, List.mem_singleton] at hb
          subst hb
          intro e
          rw [e] at ha
          exact hm ha
        · rw [seen_snoc l k h]
          exact seen_ren _ _ _
  · have hke : k = l.length := by omega
    subst hke
    rw [List.take_length] at hv hd
    have hxl := xs_len l
    unfold xlV
    rw [hv, decide_eq_true hd, Bool.and_true, Bool.and_true]
    repeat' (first | ((with_reducible show AWp _ _ _ _ _); (first | refine awp_seq ?_ | refine awp_block ?_ | refine awp_skip ?_ | refine awp_exit ?_ | refine awp_scope ?_ | refine awp_label ?_ | refine awp_run ty_ok rfl sdm ?_ | refine awp_ret ⟨_, _, rfl, rfl, ?_⟩ | refine awp_ret ⟨_, rfl, ?_⟩ | ((refine awp_cond (ty := ty) rfl (fun hc => ?_) (fun hc => ?_)) <;> (try simp only [nms, reduceCtorEq] at hc) <;> (try (exfalso; omega))))) | ((with_reducible show AOps _ _ _ _ _ _); (first | refine aops_nil ?_ | refine aops_go ty_ok rfl rfl sdm ?_ | refine aops_gate ty_ok rfl rfl rfl sdm ?_ | refine aops_litE ty_ok rfl rfl rfl rfl rfl rfl rfl rfl rfl rfl rfl rfl ?_ | refine aops_litA ty_ok rfl rfl rfl rfl rfl rfl rfl rfl rfl rfl rfl rfl rfl rfl rfl rfl ?_ | refine aops_buildArr ty_ok rfl rfl rfl rfl rfl rfl rfl rfl rfl rfl ?_ | refine aops_indexArr ty_ok rfl rfl rfl rfl rfl rfl rfl rfl rfl rfl sdm ?_ | refine aops_lit0 ty_ok rfl rfl rfl rfl rfl rfl rfl ?_ | refine aops_field ty_ok rfl rfl rfl rfl rfl rfl rfl rfl rfl rfl ?_ | refine aops_cutE ty_ok rfl rfl rfl rfl rfl rfl rfl rfl rfl sdm rfl ?_ | ((fail_if_success (refine aops_known rfl ?_)); (refine aops_split ty_ok rfl rfl rfl rfl rfl rfl (fun hc => ⟨?_, ?_⟩) (fun hc => ⟨?_, ?_⟩)) <;> (try simp only [nms, reduceCtorEq] at hc) <;> (try (exfalso; omega)) <;> (try exact sdm)))) | ((fail_if_success (with_reducible show AWp _ _ _ _ _)); (fail_if_success (with_reducible show AOps _ _ _ _ _ _)); (first | (show AWp _ _ _ _ _) | (show AOps _ _ _ _ _ _))))
    rw [xs_len]
    refine congrArg (fun b => Res.d (Dat.bool b)) ?_
    cases l with
    | nil => rfl
    | cons p r => simp
theorem c_unique_at (l : List Ext) (hn : l.length ≤ 1000000) (hl : ∀ x ∈ l, x.o.length ≤ 1000000) {v : Bool} (h : xlV l = v) : ACalls Tryd.prog envL 35 [.sl (some 3) (xsD l)] (fun r => r = .d (.bool v)) := by
  subst h
  exact c_unique l hn hl
end Go.Proofs.YtmciaonjkkelnaaDoor

/- Lists of extensions: ValidList, MarshalList and ParseList. Walked by the abstract machine. -/
namespace Go.Proofs.YtmciaonjkkelnaaDoor
open Go.Am
set_option linter.unusedSimpArgs false
set_option linter.unusedVariables false
-- withAmZ withAmMp

theorem isXLValid : IsFn Tryd.prog 22 Tryd.f22 := ⟨Tryd.func22, by decide, rfl⟩
theorem c_xlvalid (l : List Ext) (hn : l.length ≤ 1000000) (hl : ∀ x ∈ l, x.o.length ≤ 1000000) {v : Bool} (h : xlV l = v) : ACalls Tryd.prog envL 22 [.sl (some 3) (xsD l)] (fun r => r = .d (.bool v)) := by
  refine acalls_of ty_ok isXLValid rfl rfl ?_
  have hc1 := c_unique_at l hn hl h
  repeat' (first | ((with_reducible show AWp _ _ _ _ _); (first | refine awp_seq ?_ | refine awp_block ?_ | refine awp_skip ?_ | refine awp_exit ?_ | refine awp_scope ?_ | refine awp_label ?_ | refine awp_run ty_ok rfl sdm ?_ | refine awp_ret ⟨_, _, rfl, rfl, ?_⟩ | refine awp_ret ⟨_, rfl, ?_⟩ | ((refine awp_cond (ty := ty) rfl (fun hc => ?_) (fun hc => ?_)) <;> (try simp only [nms, reduceCtorEq] at hc) <;> (try (exfalso; omega))))) | ((with_reducible show AOps _ _ _ _ _ _); (first | refine aops_nil ?_ | refine aops_go ty_ok rfl rfl sdm ?_ | refine aops_gate ty_ok rfl rfl rfl sdm ?_ | refine aops_callE (ty := ty) rfl rfl rfl rfl rfl rfl rfl (hc1) rfl ?_ | refine aops_litE ty_ok rfl rfl rfl rfl rfl rfl rfl rfl rfl rfl rfl rfl ?_ | refine aops_litA ty_ok rfl rfl rfl rfl rfl rfl rfl rfl rfl rfl rfl rfl rfl rfl rfl rfl ?_ | refine aops_buildArr ty_ok rfl rfl rfl rfl rfl rfl rfl rfl rfl rfl ?_ | refine aops_indexArr ty_ok rfl rfl rfl rfl rfl rfl rfl rfl rfl rfl sdm ?_ | refine aops_lit0 ty_ok rfl rfl rfl rfl rfl rfl rfl ?_ | refine aops_field ty_ok rfl rfl rfl rfl rfl rfl rfl rfl rfl rfl ?_ | refine aops_cutE ty_ok rfl rfl rfl rfl rfl rfl rfl rfl rfl sdm rfl ?_ | ((fail_if_success (refine aops_known rfl ?_)); (refine aops_split ty_ok rfl rfl rfl rfl rfl rfl (fun hc => ⟨?_, ?_⟩) (fun hc => ⟨?_, ?_⟩)) <;> (try simp only [nms, reduceCtorEq] at hc) <;> (try (exfalso; omega)) <;> (try exact sdm)))) | ((fail_if_success (with_reducible show AWp _ _ _ _ _)); (fail_if_success (with_reducible show AOps _ _ _ _ _ _)); (first | (show AWp _ _ _ _ _) | (show AOps _ _ _ _ _ _))))
  rfl
def xlR (l : List Ext) : Res := match xlV l with
  | true => .ownT none 5 (bys (xlF l)) [.int .i64 0]
  | false => .d (.tup [.sl none [], .int .i64 8])
theorem byss_x (l : List Ext) (k : Nat) (h : k < l.length) : byss ((l.take (k + 1)).map exF) = byss ((l.take k).map exF) ++ [.sl none (bys (exF l[k]))] := by
  rw [List.take_succ_eq_append_getElem h, List.map_append, byss, byss, List.map_append]
  rfl
theorem isXLMarshal : IsFn Tryd.prog 27 Tryd.f27 := ⟨Tryd.func27, by decide, rfl⟩
set_option maxHeartbeats 1000000 in
theorem c_xlmarshal (l : List Ext) (hn : l.length ≤ 10000) (hl : ∀ x ∈ l, xSm x) (hF : (l.map exF).flatten.length ≤ 2000000000) : ACalls Tryd.prog envL 27 [.sl (some 3) (xsD l)] (fun r => r = xlR l) := by
  refine acalls_of ty_ok isXLMarshal rfl rfl ?_
  have hc1 := c_unique l (by omega) (fun x hx => by have := (hl x hx).1; omega)
  have hxl := xs_len l
  unfold xlR
  cases hv : xlV l with
  | false =>
    rw [hv] at hc1
    repeat' (first | ((with_reducible show AWp _ _ _ _ _); (first | refine awp_seq ?_ | refine awp_block ?_ | refine awp_skip ?_ | refine awp_exit ?_ | refine awp_scope ?_ | refine awp_label ?_ | refine awp_run ty_ok rfl sdm ?_ | refine awp_ret ⟨_, _, rfl, rfl, ?_⟩ | refine awp_ret ⟨_, rfl, ?_⟩ | ((refine awp_cond (ty := ty) rfl (fun hc => ?_) (fun hc => ?_)) <;> (try simp only [nms, reduceCtorEq] at hc) <;> (try (exfalso; omega))))) | ((with_reducible show AOps _ _ _ _ _ _); (first | refine aops_nil ?_ | refine aops_go ty_ok rfl rfl sdm ?_ | refine aops_gate ty_ok rfl rfl rfl sdm ?_ | refine aops_callE (ty := ty) rfl rfl rfl rfl rfl rfl rfl (hc1) rfl ?_ | refine aops_litE ty_ok rfl rfl rfl rfl rfl rfl rfl rfl rfl rfl rfl rfl ?_ | refine aops_litA ty_ok rfl rfl rfl rfl rfl rfl rfl rfl rfl rfl rfl rfl rfl rfl rfl rfl ?_ | refine aops_buildArr ty_ok rfl rfl rfl rfl rfl rfl rfl rfl rfl rfl ?_ | refine aops_indexArr ty_ok rfl rfl rfl rfl rfl rfl rfl rfl rfl rfl sdm ?_ | refine aops_lit0 ty_ok rfl rfl rfl rfl rfl rfl rfl ?_ | refine aops_field ty_ok rfl rfl rfl rfl rfl rfl rfl rfl rfl rfl ?_ | refine aops_cutE ty_ok rfl rfl rfl rfl rfl rfl rfl rfl rfl sdm rfl ?_ | ((fail_if_success (refine aops_known rfl ?_)); (refine aops_split ty_ok rfl rfl rfl rfl rfl rfl (fun hc => ⟨?_, ?_⟩) (fun hc => ⟨?_, ?_⟩)) <;> (try simp only [nms, reduceCtorEq] at hc) <;> (try (exfalso; omega)) <;> (try exact sdm)))) | ((fail_if_success (with_reducible show AWp _ _ _ _ _)); (fail_if_success (with_reducible show AOps _ _ _ _ _ _)); (first | (show AWp _ _ _ _ _) | (show AOps _ _ _ _ _ _))))
    rfl
  | true =>
    rw [hv] at hc1
    have hall := xlV_all hv
    repeat' (first | ((with_reducible show AWp _ _ _ _ _); (first | refine awp_seq ?_ | refine awp_block ?_ | refine awp_skip ?_ | refine awp_exit ?_ | refine awp_scope ?_ | refine awp_label ?_ | refine awp_run ty_ok rfl sdm ?_ | refine awp_ret ⟨_, _, rfl, rfl, ?_⟩ | refine awp_ret ⟨_, rfl, ?_⟩ | ((refine awp_cond (ty := ty) rfl (fun hc => ?_) (fun hc => ?_)) <;> (try simp only [nms, reduceCtorEq] at hc) <;> (try (exfalso; omega))))) | ((with_reducible show AOps _ _ _ _ _ _); (first | refine aops_nil ?_ | refine aops_go ty_ok rfl rfl sdm ?_ | refine aops_gate ty_ok rfl rfl rfl sdm ?_ | refine aops_callE (ty := ty) rfl rfl rfl rfl rfl rfl rfl (hc1) rfl ?_ | refine aops_litE ty_ok rfl rfl rfl rfl rfl rfl rfl rfl rfl rfl rfl rfl ?_ | refine aops_litA ty_ok rfl rfl rfl rfl rfl rfl rfl rfl rfl rfl rfl rfl rfl rfl rfl rfl ?_ | refine aops_buildArr ty_ok rfl rfl rfl rfl rfl rfl rfl rfl rfl rfl ?_ | refine aops_indexArr ty_ok rfl rfl rfl rfl rfl rfl rfl rfl rfl rfl sdm ?_ | refine aops_lit0 ty_ok rfl rfl rfl rfl rfl rfl rfl ?_ | refine aops_field ty_ok rfl rfl rfl rfl rfl rfl rfl rfl rfl rfl ?_ | refine aops_cutE ty_ok rfl rfl rfl rfl rfl rfl rfl rfl rfl sdm rfl ?_ | ((fail_if_success (refine aops_known rfl ?_)); (refine aops_split ty_ok rfl rfl rfl rfl rfl rfl (fun hc => ⟨?_, ?_⟩) (fun hc => ⟨?_, ?_⟩)) <;> (try simp only [nms, reduceCtorEq] at hc) <;> (try (exfalso; omega)) <;> (try exact sdm)))) | ((fail_if_success (with_reducible show AWp _ _ _ _ _)); (fail_if_success (with_reducible show AOps _ _ _ _ _ _)); (first | (show AWp _ _ _ _ _) | (show AOps _ _ _ _ _ _))))
    refine awp_nilrow 4 25 rfl ?_
    refine awp_loopR (G := { k : Nat // k ≤ l.length }) (fun k => ⟨Tryd.f27.ntmps, [(4, .ref 0), (12, .d (.sl (some 3) (xsD l))), (13, .d (.int .i64 l.length)), (14, .d (.int .i64 k.1))], [(0, .row none 25 (byss ((l.take k.1).map exF)))], 1⟩) (fun k => l.length - k.1) ⟨0, Nat.zero_le _⟩ [(0, 0)]
      (SubR.mk' rfl rfl ⟨⟨_, rfl, rfl⟩, ⟨_, rfl, rfl⟩, ⟨_, rfl, congrArg (fun z : Nat => AV.d (Dat.int IntKind.i64 z)) (xs_len _)⟩, ⟨_, rfl, rfl⟩, trivial⟩ ⟨⟨_, _, rfl, rfl, rfl⟩, trivial⟩) ?_
    rintro ⟨k, hk⟩
    dsimp only
    rcases Nat.lt_or_ge k l.length with hkl | hkl
    · have hm : l[k] ∈ l := List.getElem_mem _
      have hX := xs_at hkl
      have hcan := x_can hX
      have hc2 := c_xmar_ok l[k] (hl _ hm) (hall _ hm)
      rw [← hX, hcan] at hc2
      repeat' (first | ((with_reducible show AWp _ _ _ _ _); (first | refine awp_seq ?_ | refine awp_block ?_ | refine awp_skip ?_ | refine awp_exit ?_ | refine awp_scope ?_ | refine awp_label ?_ | refine awp_run ty_ok rfl sdm ?_ | refine awp_ret ⟨_, _, rfl, rfl, ?_⟩ | refine awp_ret ⟨_, rfl, ?_⟩ | ((refine awp_cond (ty := ty) rfl (fun hc => ?_) (fun hc => ?_)) <;> (try simp only [nms, reduceCtorEq] at hc) <;> (try (exfalso; omega))))) | ((with_reducible show AOps _ _ _ _ _ _); (first | refine aops_nil ?_ | refine aops_go ty_ok rfl rfl sdm ?_ | refine aops_gate ty_ok rfl rfl rfl sdm ?_ | refine aops_callE (ty := ty) rfl rfl rfl rfl rfl rfl rfl (hc2) rfl ?_ | refine aops_litE ty_ok rfl rfl rfl rfl rfl rfl rfl rfl rfl rfl rfl rfl ?_ | refine aops_litA ty_ok rfl rfl rfl rfl rfl rfl rfl rfl rfl rfl rfl rfl rfl rfl rfl rfl ?_ | refine aops_buildArr ty_ok rfl rfl rfl rfl rfl rfl rfl rfl rfl rfl ?_ | refine aops_indexArr ty_ok rfl rfl rfl rfl rfl rfl rfl rfl rfl rfl sdm ?_ | refine aops_lit0 ty_ok rfl rfl rfl rfl rfl rfl rfl ?_ | refine aops_field ty_ok rfl rfl rfl rfl rfl rfl rfl rfl rfl rfl ?_ | refine aops_cutE ty_ok rfl rfl rfl rfl rfl rfl rfl rfl rfl sdm rfl ?_ | ((fail_if_success (refine aops_known rfl ?_)); (refine aops_split ty_ok rfl rfl rfl rfl rfl rfl (fun hc => ⟨?_, ?_⟩) (fun hc => ⟨?_, ?_⟩)) <;> (try simp only [nms, reduceCtorEq] at hc) <;> (try (exfalso; omega)) <;> (try exact sdm)))) | ((fail_if_success (with_reducible show AWp _ _ _ _ _)); (fail_if_success (with_reducible show AOps _ _ _ _ _ _)); (first | (show AWp _ _ _ _ _) | (show AOps _ _ _ _ _ _))))
      refine ⟨⟨k + 1, hkl⟩, [(4, 0)], SubR.mk' rfl rfl ⟨⟨_, rfl, rfl⟩, ⟨_, rfl, rfl⟩, ⟨_, rfl, rfl⟩, ⟨_, rfl, rfl⟩, trivial⟩ ⟨⟨_, _, rfl, rfl, congrArg (AO.row none 25) ?_⟩, trivial⟩, by simp only; omega⟩
      rw [byss_x l k hkl]
    · have hke : k = l.length := by omega
      subst hke
      rw [List.take_length]
      repeat' (first | ((with_reducible show AWp _ _ _ _ _); (first | refine awp_seq ?_ | refine awp_block ?_ | refine awp_skip ?_ | refine awp_exit ?_ | refine awp_scope ?_ | refine awp_label ?_ | refine awp_run ty_ok rfl sdm ?_ | refine awp_ret ⟨_, _, rfl, rfl, ?_⟩ | refine awp_ret ⟨_, rfl, ?_⟩ | ((refine awp_cond (ty := ty) rfl (fun hc => ?_) (fun hc => ?_)) <;> (try simp only [nms, reduceCtorEq] at hc) <;> (try (exfalso; omega))))) | ((with_reducible show AOps _ _ _ _ _ _); (first | refine aops_nil ?_ | refine aops_go ty_ok rfl rfl sdm ?_ | refine aops_gate ty_ok rfl rfl rfl sdm ?_ | refine aops_callE (ty := ty) rfl rfl rfl rfl rfl rfl rfl (c_sequence _ (l.map exF) (by simp; omega) (by omega)) rfl ?_ | refine aops_litE ty_ok rfl rfl rfl rfl rfl rfl rfl rfl rfl rfl rfl rfl ?_ | refine aops_litA ty_ok rfl rfl rfl rfl rfl rfl rfl rfl rfl rfl rfl rfl rfl rfl rfl rfl ?_ | refine aops_buildArr ty_ok rfl rfl rfl rfl rfl rfl rfl rfl rfl rfl ?_ | refine aops_indexArr ty_ok rfl rfl rfl rfl rfl rfl rfl rfl rfl rfl sdm ?_ | refine aops_lit0 ty_ok rfl rfl rfl rfl rfl rfl rfl ?_ | refine aops_field ty_ok rfl rfl rfl rfl rfl rfl rfl rfl rfl rfl ?_ | refine aops_cutE ty_ok rfl rfl rfl rfl rfl rfl rfl rfl rfl sdm rfl ?_ | ((fail_if_success (refine aops_known rfl ?_)); (refine aops_split ty_ok rfl rfl rfl rfl rfl rfl (fun hc => ⟨?_, ?_⟩) (fun hc => ⟨?_, ?_⟩)) <;> (try simp only [nms, reduceCtorEq] at hc) <;> (try (exfalso; omega)) <;> (try exact sdm)))) | ((fail_if_success (with_reducible show AWp _ _ _ _ _)); (fail_if_success (with_reducible show AOps _ _ _ _ _ _)); (first | (show AWp _ _ _ _ _) | (show AOps _ _ _ _ _ _))))
      rfl
def xlpR : Ex (List Ext) → Res
  | .bad c o => .d (.tup [.sl (some 3) [], errD c o])
  | .ok l => .d (.tup [.sl (some 3) (xsD l), errD 0 0])
theorem c_xparse_cut (b : List UInt8) {i j : Nat} (hj : j ≤ b.length) (hb : b.length ≤ 1000000) {v : Ex Ext} (h : exP (cut b i j) = v) : ACalls Tryd.prog envL 24 [.sl none (cutL (bys b) (i : Int).toNat (j : Int).toNat)] (fun r => r = xpR v) := by
  have h1 := c_xparse_at (cut b i j) (by rw [cut_len _ _ _ hj]; omega) h
  rw [cutL_bys]
  exact h1
theorem pt_short {b : List UInt8} {l : List El} (hp : ptF b 0 16 = .ok l) : l.length ≤ b.length ∧ ∀ e ∈ l, e.st ≤ e.bd ∧ e.bd ≤ e.en ∧ e.en ≤ b.length := by
  obtain ⟨ts, hb, E⟩ := seq_ok hp
  refine ⟨?_, fun e he => ?_⟩
  · rw [E.len, hb, putF_len]
    have h2 : ∀ q : List (UInt8 × List UInt8), q.length ≤ (catF q).length := by
      intro q
      induction q with
      | nil => simp
      | cons t r ih =>
        have h3 := putF_len t.1 t.2
        have h4 := hsz_ge t.2
        simp only [catF, List.length_append, List.length_cons]
        omega
    have := h2 ts
    omega
  · obtain ⟨k, hk, rfl⟩ := List.getElem_of_mem he
    exact E.le k hk
theorem mapX_ok_mem {α β : Type} {f : α → Ex β} {l : List α} {bs : List β} (h : mapX f l = .ok bs) {y : β} (hy : y ∈ bs) : ∃ a ∈ l, f a = .ok y := by
  obtain ⟨h1, h2⟩ := mapX_ok h
  obtain ⟨k, hk, rfl⟩ := List.getElem_of_mem hy
  exact ⟨l[k], List.getElem_mem (by omega), h2 k (by omega) hk⟩
/-- How long the object identifiers of parsed extensions are. -/
theorem exP_len {b : List UInt8} {x : Ext} (h : exP b = .ok x) (hb : b.length ≤ 80000) : x.o.length ≤ 1000000 := by
  obtain ⟨h1, h2, h3⟩ := ex_ok h
  have h4 := decS_len (encO x.o)
  rw [decS_encO h1] at h4
  simp only at h4
  have h5 := exF_len x
  have h6 := putF_len 6 (encO x.o)
  have h7 : (putF 6 (encO x.o)).length ≤ (catF (exB x)).length := by unfold exB; cases x.c <;> simp [catF]
  rw [← h2] at h5
  omega
theorem isXLParse : IsFn Tryd.prog 28 Tryd.f28 := ⟨Tryd.func28, by decide, rfl⟩
set_option maxHeartbeats 4000000 in
set_option maxRecDepth 100000 in
theorem c_xlparse (b : List UInt8) (hb : b.length ≤ 80000) : ACalls Tryd.prog envL 28 [.sl none (bys b)] (fun r => r = xlpR (xlP b)) := by
  refine acalls_of ty_ok isXLParse rfl rfl ?_
  rw [xlP]
  cases hp : ptF b 0 16 with
  | bad c o =>
    have hc1 := c_parts_at (envL.at 0) b 0 16 (by omega) hp
    have := pt_bad hp
    repeat' (first | ((with_reducible show AWp _ _ _ _ _); (first | refine awp_seq ?_ | refine awp_block ?_ | refine awp_skip ?_ | refine awp_exit ?_ | refine awp_scope ?_ | refine awp_label ?_ | refine awp_run ty_ok rfl sdm ?_ | refine awp_ret ⟨_, _, rfl, rfl, ?_⟩ | refine awp_ret ⟨_, rfl, ?_⟩ | ((refine awp_cond (ty := ty) rfl (fun hc => ?_) (fun hc => ?_)) <;> (try simp only [nms, reduceCtorEq] at hc) <;> (try (exfalso; omega))) | refine awp_anyL 2 mixed rfl (by kernel_rfl) ?_)) | ((with_reducible show AOps _ _ _ _ _ _); (first | refine aops_nil ?_ | refine aops_go ty_ok rfl rfl sdm ?_ | refine aops_gate ty_ok rfl rfl rfl sdm ?_ | refine aops_callE (ty := ty) rfl rfl rfl rfl rfl rfl rfl (hc1) rfl ?_ | refine aops_litE ty_ok rfl rfl rfl rfl rfl rfl rfl rfl rfl rfl rfl rfl ?_ | refine aops_litA ty_ok rfl rfl rfl rfl rfl rfl rfl rfl rfl rfl rfl rfl rfl rfl rfl rfl ?_ | refine aops_buildArr ty_ok rfl rfl rfl rfl rfl rfl rfl rfl rfl rfl ?_ | refine aops_indexArr ty_ok rfl rfl rfl rfl rfl rfl rfl rfl rfl rfl sdm ?_ | refine aops_lit0 ty_ok rfl rfl rfl rfl rfl rfl rfl ?_ | refine aops_field ty_ok rfl rfl rfl rfl rfl rfl rfl rfl rfl rfl ?_ | refine aops_cutE ty_ok rfl rfl rfl rfl rfl rfl rfl rfl rfl sdm rfl ?_ | ((fail_if_success (refine aops_known rfl ?_)); (refine aops_split ty_ok rfl rfl rfl rfl rfl rfl (fun hc => ⟨?_, ?_⟩) (fun hc => ⟨?_, ?_⟩)) <;> (try simp only [nms, reduceCtorEq] at hc) <;> (try (exfalso; omega)) <;> (try exact sdm)))) | ((with_reducible show HeadT _ _ _ _ _ _ _ _ _ _); (first | refine head_end ?_ | refine head_goP ty_ok rfl rfl sdm ?_ | refine head_gate ty_ok rfl rfl rfl sdm ?_ | refine head_callE (ty := ty) rfl rfl rfl rfl rfl rfl rfl (hc1) rfl ?_ | ((fail_if_success (refine head_known rfl ?_)); (refine head_split ty_ok rfl rfl rfl rfl (fun hc => ⟨?_, ?_⟩) (fun hc => ⟨?_, ?_⟩)) <;> (try simp only [nms, reduceCtorEq] at hc) <;> (try (exfalso; omega)) <;> (try exact sdm)))) | ((fail_if_success (with_reducible show AWp _ _ _ _ _)); (fail_if_success (with_reducible show AOps _ _ _ _ _ _)); (fail_if_success (with_reducible show HeadT _ _ _ _ _ _ _ _ _ _)); (first | (show AWp _ _ _ _ _) | (show AOps _ _ _ _ _ _))))
    rfl
  | ok l =>
    have hc1 := (c_parts_at (envL.at 0) b 0 16 (by omega) hp).ownT_d
    obtain ⟨hll, hel⟩ := pt_short hp
    have hen : (els l).length = l.length := els_len l
    simp only
    repeat' (first | ((with_reducible show AWp _ _ _ _ _); (first | refine awp_seq ?_ | refine awp_block ?_ | refine awp_skip ?_ | refine awp_exit ?_ | refine awp_scope ?_ | refine awp_label ?_ | refine awp_run ty_ok rfl sdm ?_ | refine awp_ret ⟨_, _, rfl, rfl, ?_⟩ | refine awp_ret ⟨_, rfl, ?_⟩ | ((refine awp_cond (ty := ty) rfl (fun hc => ?_) (fun hc => ?_)) <;> (try simp only [nms, reduceCtorEq] at hc) <;> (try (exfalso; omega))) | refine awp_anyL 2 mixed rfl (by kernel_rfl) ?_)) | ((with_reducible show AOps _ _ _ _ _ _); (first | refine aops_nil ?_ | refine aops_go ty_ok rfl rfl sdm ?_ | refine aops_gate ty_ok rfl rfl rfl sdm ?_ | refine aops_callE (ty := ty) rfl rfl rfl rfl rfl rfl rfl (hc1) rfl ?_ | refine aops_litE ty_ok rfl rfl rfl rfl rfl rfl rfl rfl rfl rfl rfl rfl ?_ | refine aops_litA ty_ok rfl rfl rfl rfl rfl rfl rfl rfl rfl rfl rfl rfl rfl rfl rfl rfl ?_ | refine aops_buildArr ty_ok rfl rfl rfl rfl rfl rfl rfl rfl rfl rfl ?_ | refine aops_indexArr ty_ok rfl rfl rfl rfl rfl rfl rfl rfl rfl rfl sdm ?_ | refine aops_lit0 ty_ok rfl rfl rfl rfl rfl rfl rfl ?_ | refine aops_field ty_ok rfl rfl rfl rfl rfl rfl rfl rfl rfl rfl ?_ | refine aops_cutE ty_ok rfl rfl rfl rfl rfl rfl rfl rfl rfl sdm rfl ?_ | ((fail_if_success (refine aops_known rfl ?_)); (refine aops_split ty_ok rfl rfl rfl rfl rfl rfl (fun hc => ⟨?_, ?_⟩) (fun hc => ⟨?_, ?_⟩)) <;> (try simp only [nms, reduceCtorEq] at hc) <;> (try (exfalso; omega)) <;> (try exact sdm)))) | ((with_reducible show HeadT _ _ _ _ _ _ _ _ _ _); (first | refine head_end ?_ | refine head_goP ty_ok rfl rfl sdm ?_ | refine head_gate ty_ok rfl rfl rfl sdm ?_ | refine head_callE (ty := ty) rfl rfl rfl rfl rfl rfl rfl (hc1) rfl ?_ | ((fail_if_success (refine head_known rfl ?_)); (refine head_split ty_ok rfl rfl rfl rfl (fun hc => ⟨?_, ?_⟩) (fun hc => ⟨?_, ?_⟩)) <;> (try simp only [nms, reduceCtorEq] at hc) <;> (try (exfalso; omega)) <;> (try exact sdm)))) | ((fail_if_success (with_reducible show AWp _ _ _ _ _)); (fail_if_success (with_reducible show AOps _ _ _ _ _ _)); (fail_if_success (with_reducible show HeadT _ _ _ _ _ _ _ _ _ _)); (first | (show AWp _ _ _ _ _) | (show AOps _ _ _ _ _ _))))
    refine awp_nilrow 6 27 rfl ?_
    refine awp_loopR (G := { p : List Ext × Nat // p.2 ≤ l.length ∧ p.1.length ≤ p.2 ∧ mapX (xlE b) (l.take p.2) = .ok p.1 }) (fun p => ⟨Tryd.f28.ntmps, [(0, .d (.sl none (bys b))), (3, .ptr 0 0), (6, .ref 1), (20, .d (.sl (some 6) (els l))), (21, .d (.int .i64 l.length)), (22, .d (.int .i64 p.1.2))], [(0, .box 42 [.d (.int .i64 0), .d (.int .i64 0)]), (1, .row (some 3) 27 (xsD p.1.1))], 2⟩) (fun p => l.length - p.1.2) ⟨([], 0), Nat.zero_le _, Nat.zero_le _, rfl⟩ [(0, 0), (2, 1)]
      (SubR.mk' rfl rfl ⟨⟨_, rfl, rfl⟩, ⟨_, rfl, rfl⟩, ⟨_, rfl, rfl⟩, ⟨_, rfl, rfl⟩, ⟨_, rfl, congrArg (fun z : Nat => AV.d (Dat.int IntKind.i64 z)) (els_len _)⟩, ⟨_, rfl, rfl⟩, trivial⟩ ⟨⟨_, _, rfl, rfl, rfl⟩, ⟨_, _, rfl, rfl, rfl⟩, trivial⟩) ?_
    rintro ⟨⟨acc, k⟩, hk, hacc, hm⟩
    dsimp only at hk hacc hm ⊢
    have hal : (xsD acc).length ≤ 1000000 := by rw [xs_len]; omega
    rcases Nat.lt_or_ge k l.length with h | h
    · have hX := el_at h
      have hcan := el_can hX
      obtain ⟨g1, g2, g3⟩ := hel l[k] (List.getElem_mem h)
      obtain ⟨k1, k2, k3⟩ := cut_side b (Nat.le_trans g1 g2) g3
      repeat' (first | ((with_reducible show AWp _ _ _ _ _); (first | refine awp_seq ?_ | refine awp_block ?_ | refine awp_skip ?_ | refine awp_exit ?_ | refine awp_scope ?_ | refine awp_label ?_ | refine awp_run ty_ok rfl sdm ?_ | refine awp_ret ⟨_, _, rfl, rfl, ?_⟩ | refine awp_ret ⟨_, rfl, ?_⟩ | ((refine awp_cond (ty := ty) rfl (fun hc => ?_) (fun hc => ?_)) <;> (try simp only [nms, reduceCtorEq] at hc) <;> (try (exfalso; omega))))) | ((with_reducible show AOps _ _ _ _ _ _); (first | refine aops_nil ?_ | refine aops_go ty_ok rfl rfl sdm ?_ | refine aops_gate ty_ok rfl rfl rfl sdm ?_ | refine aops_litE ty_ok rfl rfl rfl rfl rfl rfl rfl rfl rfl rfl rfl rfl ?_ | refine aops_litA ty_ok rfl rfl rfl rfl rfl rfl rfl rfl rfl rfl rfl rfl rfl rfl rfl rfl ?_ | refine aops_buildArr ty_ok rfl rfl rfl rfl rfl rfl rfl rfl rfl rfl ?_ | refine aops_indexArr ty_ok rfl rfl rfl rfl rfl rfl rfl rfl rfl rfl sdm ?_ | refine aops_lit0 ty_ok rfl rfl rfl rfl rfl rfl rfl ?_ | refine aops_field ty_ok rfl rfl rfl rfl rfl rfl rfl rfl rfl rfl ?_ | refine aops_cutE ty_ok rfl rfl rfl rfl rfl rfl rfl rfl rfl sdm rfl ?_ | ((fail_if_success (refine aops_known rfl ?_)); (refine aops_split ty_ok rfl rfl rfl rfl rfl rfl (fun hc => ⟨?_, ?_⟩) (fun hc => ⟨?_, ?_⟩)) <;> (try simp only [nms, reduceCtorEq] at hc) <;> (try (exfalso; omega)) <;> (try exact sdm)))) | ((fail_if_success (with_reducible show AWp _ _ _ _ _)); (fail_if_success (with_reducible show AOps _ _ _ _ _ _)); (first | (show AWp _ _ _ _ _) | (show AOps _ _ _ _ _ _))))
      simp only [hX, elD, Dat.cell, Dat.cells, List.getD_cons_zero, List.getD_cons_succ, Dat.num, Dat.tru, clsD, numD]
      cases hx : exP (cut b l[k].st l[k].en) with
      | bad c o =>
        have hc2 := c_xparse_cut b g3 (by omega) hx
        obtain ⟨u1, u2⟩ := ex_bad hx
        rw [cut_len _ _ _ g3] at u2
        have hb := mapX_take_bad (c := c) (o := l[k].st + o) h hm (by rw [xlE, hx])
        rw [hb]
        repeat' (first | ((with_reducible show AWp _ _ _ _ _); (first | refine awp_seq ?_ | refine awp_block ?_ | refine awp_skip ?_ | refine awp_exit ?_ | refine awp_scope ?_ | refine awp_label ?_ | refine awp_run ty_ok rfl sdm ?_ | refine awp_ret ⟨_, _, rfl, rfl, ?_⟩ | refine awp_ret ⟨_, rfl, ?_⟩ | ((refine awp_cond (ty := ty) rfl (fun hc => ?_) (fun hc => ?_)) <;> (try simp only [nms, reduceCtorEq] at hc) <;> (try (exfalso; omega))) | refine awp_anyL 9 mixed rfl (by kernel_rfl) ?_)) | ((with_reducible show AOps _ _ _ _ _ _); (first | refine aops_nil ?_ | refine aops_go ty_ok rfl rfl sdm ?_ | refine aops_gate ty_ok rfl rfl rfl sdm ?_ | refine aops_callE (ty := ty) rfl rfl rfl rfl rfl rfl rfl (hc2) rfl ?_ | refine aops_litE ty_ok rfl rfl rfl rfl rfl rfl rfl rfl rfl rfl rfl rfl ?_ | refine aops_litA ty_ok rfl rfl rfl rfl rfl rfl rfl rfl rfl rfl rfl rfl rfl rfl rfl rfl ?_ | refine aops_buildArr ty_ok rfl rfl rfl rfl rfl rfl rfl rfl rfl rfl ?_ | refine aops_indexArr ty_ok rfl rfl rfl rfl rfl rfl rfl rfl rfl rfl sdm ?_ | refine aops_lit0 ty_ok rfl rfl rfl rfl rfl rfl rfl ?_ | refine aops_field ty_ok rfl rfl rfl rfl rfl rfl rfl rfl rfl rfl ?_ | refine aops_cutE ty_ok rfl rfl rfl rfl rfl rfl rfl rfl rfl sdm rfl ?_ | ((fail_if_success (refine aops_known rfl ?_)); (refine aops_split ty_ok rfl rfl rfl rfl rfl rfl (fun hc => ⟨?_, ?_⟩) (fun hc => ⟨?_, ?_⟩)) <;> (try simp only [nms, reduceCtorEq] at hc) <;> (try (exfalso; omega)) <;> (try exact sdm)))) | ((with_reducible show HeadT _ _ _ _ _ _ _ _ _ _); (first | refine head_end ?_ | refine head_goP ty_ok rfl rfl sdm ?_ | refine head_gate ty_ok rfl rfl rfl sdm ?_ | refine head_callE (ty := ty) rfl rfl rfl rfl rfl rfl rfl (hc2) rfl ?_ | ((fail_if_success (refine head_known rfl ?_)); (refine head_split ty_ok rfl rfl rfl rfl (fun hc => ⟨?_, ?_⟩) (fun hc => ⟨?_, ?_⟩)) <;> (try simp only [nms, reduceCtorEq] at hc) <;> (try (exfalso; omega)) <;> (try exact sdm)))) | ((fail_if_success (with_reducible show AWp _ _ _ _ _)); (fail_if_success (with_reducible show AOps _ _ _ _ _ _)); (fail_if_success (with_reducible show HeadT _ _ _ _ _ _ _ _ _ _)); (first | (show AWp _ _ _ _ _) | (show AOps _ _ _ _ _ _))))
        rfl
      | ok x =>
        have hc2 := c_xparse_cut b g3 (by omega) hx
        have ho := mapX_take_ok (b := x) h hm (by rw [xlE, hx])
        repeat' (first | ((with_reducible show AWp _ _ _ _ _); (first | refine awp_seq ?_ | refine awp_block ?_ | refine awp_skip ?_ | refine awp_exit ?_ | refine awp_scope ?_ | refine awp_label ?_ | refine awp_run ty_ok rfl sdm ?_ | refine awp_ret ⟨_, _, rfl, rfl, ?_⟩ | refine awp_ret ⟨_, rfl, ?_⟩ | ((refine awp_cond (ty := ty) rfl (fun hc => ?_) (fun hc => ?_)) <;> (try simp only [nms, reduceCtorEq] at hc) <;> (try (exfalso; omega))))) | ((with_reducible show AOps _ _ _ _ _ _); (first | refine aops_nil ?_ | refine aops_go ty_ok rfl rfl sdm ?_ | refine aops_gate ty_ok rfl rfl rfl sdm ?_ | refine aops_callE (ty := ty) rfl rfl rfl rfl rfl rfl rfl (hc2) rfl ?_ | refine aops_litE ty_ok rfl rfl rfl rfl rfl rfl rfl rfl rfl rfl rfl rfl ?_ | refine aops_litA ty_ok rfl rfl rfl rfl rfl rfl rfl rfl rfl rfl rfl rfl rfl rfl rfl rfl ?_ | refine aops_buildArr ty_ok rfl rfl rfl rfl rfl rfl rfl rfl rfl rfl ?_ | refine aops_indexArr ty_ok rfl rfl rfl rfl rfl rfl rfl rfl rfl rfl sdm ?_ | refine aops_lit0 ty_ok rfl rfl rfl rfl rfl rfl rfl ?_ | refine aops_field ty_ok rfl rfl rfl rfl rfl rfl rfl rfl rfl rfl ?_ | refine aops_cutE ty_ok rfl rfl rfl rfl rfl rfl rfl rfl rfl sdm rfl ?_ | ((fail_if_success (refine aops_known rfl ?_)); (refine aops_split ty_ok rfl rfl rfl rfl rfl rfl (fun hc => ⟨?_, ?_⟩) (fun hc => ⟨?_, ?_⟩)) <;> (try simp only [nms, reduceCtorEq] at hc) <;> (try (exfalso; omega)) <;> (try exact sdm)))) | ((fail_if_success (with_reducible show AWp _ _ _ _ _)); (fail_if_success (with_reducible show AOps _ _ _ _ _ _)); (first | (show AWp _ _ _ _ _) | (show AOps _ _ _ _ _ _))))
        refine ⟨⟨(acc ++ [x], k + 1), h, by simp; omega, ho⟩, [(0, 0), (6, 1)], SubR.mk' rfl rfl ⟨⟨_, rfl, rfl⟩, ⟨_, rfl, rfl⟩, ⟨_, rfl, rfl⟩, ⟨_, rfl, rfl⟩, ⟨_, rfl, rfl⟩, ⟨_, rfl, rfl⟩, trivial⟩ ⟨⟨_, _, rfl, rfl, rfl⟩, ⟨_, _, rfl, rfl, congrArg (AO.row (some 3) 27) ?_⟩, trivial⟩, by simp only; omega⟩
        rw [xs_app]
        rfl
    · have hke : k = l.length := by omega
      subst hke
      rw [List.take_length] at hm
      rw [hm]
      have hu := c_unique acc (by omega) (fun x hx => by
        obtain ⟨e, he, hf⟩ := mapX_ok_mem hm hx
        unfold xlE at hf
        cases hq : exP (cut b e.st e.en) with
        | bad c o => rw [hq] at hf; cases hf
        | ok y =>
          rw [hq] at hf
          cases hf
          have h9 := (hel e he).2.2
          exact exP_len hq (by rw [cut_len _ _ _ h9]; omega))
      simp only
      cases hv : xlV acc with
      | false =>
        rw [hv] at hu
        repeat' (first | ((with_reducible show AWp _ _ _ _ _); (first | refine awp_seq ?_ | refine awp_block ?_ | refine awp_skip ?_ | refine awp_exit ?_ | refine awp_scope ?_ | refine awp_label ?_ | refine awp_run ty_ok rfl sdm ?_ | refine awp_ret ⟨_, _, rfl, rfl, ?_⟩ | refine awp_ret ⟨_, rfl, ?_⟩ | ((refine awp_cond (ty := ty) rfl (fun hc => ?_) (fun hc => ?_)) <;> (try simp only [nms, reduceCtorEq] at hc) <;> (try (exfalso; omega))))) | ((with_reducible show AOps _ _ _ _ _ _); (first | refine aops_nil ?_ | refine aops_go ty_ok rfl rfl sdm ?_ | refine aops_gate ty_ok rfl rfl rfl sdm ?_ | refine aops_callE (ty := ty) rfl rfl rfl rfl rfl rfl rfl (hu) rfl ?_ | refine aops_litE ty_ok rfl rfl rfl rfl rfl rfl rfl rfl rfl rfl rfl rfl ?_ | refine aops_litA ty_ok rfl rfl rfl rfl rfl rfl rfl rfl rfl rfl rfl rfl rfl rfl rfl rfl ?_ | refine aops_buildArr ty_ok rfl rfl rfl rfl rfl rfl rfl rfl rfl rfl ?_ | refine aops_indexArr ty_ok rfl rfl rfl rfl rfl rfl rfl rfl rfl rfl sdm ?_ | refine aops_lit0 ty_ok rfl rfl rfl rfl rfl rfl rfl ?_ | refine aops_field ty_ok rfl rfl rfl rfl rfl rfl rfl rfl rfl rfl ?_ | refine aops_cutE ty_ok rfl rfl rfl rfl rfl rfl rfl rfl rfl sdm rfl ?_ | ((fail_if_success (refine aops_known rfl ?_)); (refine aops_split ty_ok rfl rfl rfl rfl rfl rfl (fun hc => ⟨?_, ?_⟩) (fun hc => ⟨?_, ?_⟩)) <;> (try simp only [nms, reduceCtorEq] at hc) <;> (try (exfalso; omega)) <;> (try exact sdm)))) | ((fail_if_success (with_reducible show AWp _ _ _ _ _)); (fail_if_success (with_reducible show AOps _ _ _ _ _ _)); (first | (show AWp _ _ _ _ _) | (show AOps _ _ _ _ _ _))))
        rfl
      | true =>
        rw [hv] at hu
        repeat' (first | ((with_reducible show AWp _ _ _ _ _); (first | refine awp_seq ?_ | refine awp_block ?_ | refine awp_skip ?_ | refine awp_exit ?_ | refine awp_scope ?_ | refine awp_label ?_ | refine awp_run ty_ok rfl sdm ?_ | refine awp_ret ⟨_, _, rfl, rfl, ?_⟩ | refine awp_ret ⟨_, rfl, ?_⟩ | ((refine awp_cond (ty := ty) rfl (fun hc => ?_) (fun hc => ?_)) <;> (try simp only [nms, reduceCtorEq] at hc) <;> (try (exfalso; omega))))) | ((with_reducible show AOps _ _ _ _ _ _); (first | refine aops_nil ?_ | refine aops_go ty_ok rfl rfl sdm ?_ | refine aops_gate ty_ok rfl rfl rfl sdm ?_ | refine aops_callE (ty := ty) rfl rfl rfl rfl rfl rfl rfl (hu) rfl ?_ | refine aops_litE ty_ok rfl rfl rfl rfl rfl rfl rfl rfl rfl rfl rfl rfl ?_ | refine aops_litA ty_ok rfl rfl rfl rfl rfl rfl rfl rfl rfl rfl rfl rfl rfl rfl rfl rfl ?_ | refine aops_buildArr ty_ok rfl rfl rfl rfl rfl rfl rfl rfl rfl rfl ?_ | refine aops_indexArr ty_ok rfl rfl rfl rfl rfl rfl rfl rfl rfl rfl sdm ?_ | refine aops_lit0 ty_ok rfl rfl rfl rfl rfl rfl rfl ?_ | refine aops_field ty_ok rfl rfl rfl rfl rfl rfl rfl rfl rfl rfl ?_ | refine aops_cutE ty_ok rfl rfl rfl rfl rfl rfl rfl rfl rfl sdm rfl ?_ | ((fail_if_success (refine aops_known rfl ?_)); (refine aops_split ty_ok rfl rfl rfl rfl rfl rfl (fun hc => ⟨?_, ?_⟩) (fun hc => ⟨?_, ?_⟩)) <;> (try simp only [nms, reduceCtorEq] at hc) <;> (try (exfalso; omega)) <;> (try exact sdm)))) | ((fail_if_success (with_reducible show AWp _ _ _ _ _)); (fail_if_success (with_reducible show AOps _ _ _ _ _ _)); (first | (show AWp _ _ _ _ _) | (show AOps _ _ _ _ _ _))))
        rfl
theorem c_xlparse_at (b : List UInt8) (hb : b.length ≤ 80000) {v : Ex (List Ext)} (h : xlP b = v) : ACalls Tryd.prog envL 28 [.sl none (bys b)] (fun r => r = xlpR v) := by
  subst h
  exact c_xlparse b hb
end Go.Proofs.YtmciaonjkkelnaaDoor

/- Lists of extensions by the reference: sizes. Walked by the abstract machine. -/
namespace Go.Proofs.YtmciaonjkkelnaaDoor
open Go.Am
set_option linter.unusedSimpArgs false
set_option linter.unusedVariables false
-- withAmZ withAmMp

theorem sumX_snoc (l : List Ext) (k : Nat) (h : k < l.length) : sumX (l.take (k + 1)) = sumX (l.take k) + l[k].o.length + l[k].v.length := by
  rw [List.take_succ_eq_append_getElem h, sumX_app]
  simp [sumX]
  omega
theorem sumX_le (l : List Ext) (B : Nat) (h : ∀ x ∈ l, x.o.length ≤ B ∧ x.v.length ≤ B) : sumX l ≤ 2 * B * l.length := by
  induction l with
  | nil => simp [sumX]
  | cons x r ih =>
    have h1 := h x (List.mem_cons_self ..)
    have h2 := ih (fun y hy => h y (List.mem_cons_of_mem _ hy))
    simp only [sumX, List.length_cons, Nat.mul_add, Nat.mul_one]
    omega
def xlB (l : List Ext) : Prop := ∀ x ∈ l, x.o.length ≤ 140737488351232 ∧ x.v.length ≤ 140737488351232
theorem x_size {X : Dat} {x : Ext} (h : X = xD x) : (X.cell 0).txt.size = x.o.length ∧ (X.cell 2).els.length = x.v.length := by
  subst h
  exact ⟨bA_size _, bys_len _⟩
theorem x_fields {X : Dat} {x : Ext} (h : X = xD x) : X.cell 0 = .str (X.cell 0).txt ∧ X.cell 1 = .bool (X.cell 1).tru ∧ X.cell 2 = .sl none (X.cell 2).els := by
  subst h
  exact ⟨rfl, rfl, rfl⟩
theorem isRXLFew : IsFn Tryd.prog 10 Tryd.f10 := ⟨Tryd.func10, by decide, rfl⟩
set_option maxHeartbeats 1000000 in
theorem c_rxlfew (Γ : Env) (l : List Ext) (hB : xlB l) {v : Bool} (hv : fewXs l = v) : ACalls Tryd.prog Γ 10 [.sl (some 3) (xsD l)] (fun r => r = .d (.bool v)) := by
  refine acalls_of ty_ok isRXLFew rfl rfl ?_
  subst hv
  have hxl := xs_len l
  repeat' (first | ((with_reducible show AWp _ _ _ _ _); (first | refine awp_seq ?_ | refine awp_block ?_ | refine awp_skip ?_ | refine awp_exit ?_ | refine awp_scope ?_ | refine awp_label ?_ | refine awp_run ty_ok rfl sdm ?_ | refine awp_ret ⟨_, _, rfl, rfl, ?_⟩ | refine awp_ret ⟨_, rfl, ?_⟩ | ((refine awp_cond (ty := ty) rfl (fun hc => ?_) (fun hc => ?_)) <;> (try simp only [nms, reduceCtorEq] at hc) <;> (try (exfalso; omega))))) | ((with_reducible show AOps _ _ _ _ _ _); (first | refine aops_nil ?_ | refine aops_go ty_ok rfl rfl sdm ?_ | refine aops_gate ty_ok rfl rfl rfl sdm ?_ | refine aops_litE ty_ok rfl rfl rfl rfl rfl rfl rfl rfl rfl rfl rfl rfl ?_ | refine aops_litA ty_ok rfl rfl rfl rfl rfl rfl rfl rfl rfl rfl rfl rfl rfl rfl rfl rfl ?_ | refine aops_buildArr ty_ok rfl rfl rfl rfl rfl rfl rfl rfl rfl rfl ?_ | refine aops_indexArr ty_ok rfl rfl rfl rfl rfl rfl rfl rfl rfl rfl sdm ?_ | refine aops_lit0 ty_ok rfl rfl rfl rfl rfl rfl rfl ?_ | refine aops_field ty_ok rfl rfl rfl rfl rfl rfl rfl rfl rfl rfl ?_ | refine aops_cutE ty_ok rfl rfl rfl rfl rfl rfl rfl rfl rfl sdm rfl ?_ | ((fail_if_success (refine aops_known rfl ?_)); (refine aops_split ty_ok rfl rfl rfl rfl rfl rfl (fun hc => ⟨?_, ?_⟩) (fun hc => ⟨?_, ?_⟩)) <;> (try simp only [nms, reduceCtorEq] at hc) <;> (try (exfalso; omega)) <;> (try exact sdm)))) | ((fail_if_success (with_reducible show AWp _ _ _ _ _)); (fail_if_success (with_reducible show AOps _ _ _ _ _ _)); (first | (show AWp _ _ _ _ _) | (show AOps _ _ _ _ _ _))))
  refine awp_loopR (G := { k : Nat // k ≤ l.length ∧ k ≤ 20 }) (fun k => ⟨Tryd.f10.ntmps, [(0, .d (.sl (some 3) (xsD l))), (3, .d (.int .i64 (sumX (l.take k.1)))), (4, .d (.int .i64 k.1))], [], 0⟩) (fun k => l.length - k.1) ⟨0, by simp⟩ []
      (SubR.mk' rfl rfl ⟨⟨_, rfl, rfl⟩, ⟨_, rfl, rfl⟩, ⟨_, rfl, rfl⟩, trivial⟩ trivial) ?_
  rintro ⟨k, hk1, hk2⟩
  dsimp only
  have hs : sumX (l.take k) ≤ 2 * 140737488351232 * 20 := by
    have h1 := sumX_le (l.take k) 140737488351232 (fun x hx => hB x (List.mem_of_mem_take hx))
    have h2 : (l.take k).length ≤ 20 := by rw [List.length_take]; omega
    exact Nat.le_trans h1 (Nat.mul_le_mul_left _ h2)
  by_cases h : k < l.length ∧ k < 20
  · have hX := xs_at h.1
    obtain ⟨z1, z2⟩ := x_size hX
    obtain ⟨y1, y2, y3⟩ := x_fields hX
    obtain ⟨b1, b2⟩ := hB l[k] (List.getElem_mem h.1)
    have hsn := sumX_snoc l k h.1
    have a1 : (sumX (l.take k) : Int) + ((((xsD l).getD (k : Int).toNat default).cell 0).txt.size : Int) ≤ 9223372036854775807 := by omega
    have a2 : (sumX (l.take k) : Int) + ((((xsD l).getD (k : Int).toNat default).cell 0).txt.size : Int) + ((((xsD l).getD (k : Int).toNat default).cell 2).els.length : Int) ≤ 9223372036854775807 := by omega
    repeat' (first | ((with_reducible show AWp _ _ _ _ _); (first | refine awp_seq ?_ | refine awp_block ?_ | refine awp_skip ?_ | refine awp_exit ?_ | refine awp_scope ?_ | refine awp_label ?_ | refine awp_run ty_ok rfl sdm ?_ | refine awp_ret ⟨_, _, rfl, rfl, ?_⟩ | refine awp_ret ⟨_, rfl, ?_⟩ | ((refine awp_cond (ty := ty) rfl (fun hc => ?_) (fun hc => ?_)) <;> (try simp only [nms, reduceCtorEq] at hc) <;> (try (exfalso; omega))) | refine awp_anyL 15 mixed rfl (by kernel_rfl) ?_)) | ((with_reducible show AOps _ _ _ _ _ _); (first | refine aops_nil ?_ | refine aops_go ty_ok rfl rfl sdm ?_ | refine aops_gate ty_ok rfl rfl rfl sdm ?_ | refine aops_litE ty_ok rfl rfl rfl rfl rfl rfl rfl rfl rfl rfl rfl rfl ?_ | refine aops_litA ty_ok rfl rfl rfl rfl rfl rfl rfl rfl rfl rfl rfl rfl rfl rfl rfl rfl ?_ | refine aops_buildArr ty_ok rfl rfl rfl rfl rfl rfl rfl rfl rfl rfl ?_ | refine aops_indexArr ty_ok rfl rfl rfl rfl rfl rfl rfl rfl rfl rfl sdm ?_ | refine aops_lit0 ty_ok rfl rfl rfl rfl rfl rfl rfl ?_ | refine aops_field ty_ok rfl rfl rfl rfl rfl rfl rfl rfl rfl rfl ?_ | refine aops_cutE ty_ok rfl rfl rfl rfl rfl rfl rfl rfl rfl sdm rfl ?_ | ((fail_if_success (refine aops_known rfl ?_)); (refine aops_split ty_ok rfl rfl rfl rfl rfl rfl (fun hc => ⟨?_, ?_⟩) (fun hc => ⟨?_, ?_⟩)) <;> (try simp only [nms, reduceCtorEq] at hc) <;> (try (exfalso; omega)) <;> (try exact sdm)))) | ((with_reducible show HeadT _ _ _ _ _ _ _ _ _ _); (first | refine head_end ?_ | refine head_goP ty_ok rfl rfl sdm ?_ | refine head_gate ty_ok rfl rfl rfl sdm ?_ | ((fail_if_success (refine head_known rfl ?_)); (refine head_split ty_ok rfl rfl rfl rfl (fun hc => ⟨?_, ?_⟩) (fun hc => ⟨?_, ?_⟩)) <;> (try simp only [nms, reduceCtorEq] at hc) <;> (try (exfalso; omega)) <;> (try exact sdm)))) | ((fail_if_success (with_reducible show AWp _ _ _ _ _)); (fail_if_success (with_reducible show AOps _ _ _ _ _ _)); (fail_if_success (with_reducible show HeadT _ _ _ _ _ _ _ _ _ _)); (first | (show AWp _ _ _ _ _) | (show AOps _ _ _ _ _ _))))
    refine ⟨⟨k + 1, h.1, h.2⟩, [], SubR.mk' rfl rfl ⟨⟨_, rfl, rfl⟩, ⟨_, rfl, congrArg (fun z : Int => AV.d (Dat.int IntKind.i64 z)) ?_⟩, ⟨_, rfl, rfl⟩, trivial⟩ trivial, by simp only; omega⟩
    rw [hsn]
    have e1 : ((((xsD l).getD (k : Int).toNat default).cell 0).txt.size : Int) = l[k].o.length := by rw [z1]
    have e2 : ((((xsD l).getD (k : Int).toNat default).cell 2).els.length : Int) = l[k].v.length := by rw [z2]
    show (sumX (l.take k) : Int) + ((((xsD l).getD (k : Int).toNat default).cell 0).txt.size : Int) + ((((xsD l).getD (k : Int).toNat default).cell 2).els.length : Int) = _
    omega
  · have hf : l.take 20 = l.take k := by
      by_cases h2 : k < 20
      · rw [List.take_of_length_le (by omega), List.take_of_length_le (by omega)]
      · rw [show k = 20 by omega]
    unfold fewXs
    rw [hf]
    repeat' (first | ((with_reducible show AWp _ _ _ _ _); (first | refine awp_seq ?_ | refine awp_block ?_ | refine awp_skip ?_ | refine awp_exit ?_ | refine awp_scope ?_ | refine awp_label ?_ | refine awp_run ty_ok rfl sdm ?_ | refine awp_ret ⟨_, _, rfl, rfl, ?_⟩ | refine awp_ret ⟨_, rfl, ?_⟩ | ((refine awp_cond (ty := ty) rfl (fun hc => ?_) (fun hc => ?_)) <;> (try simp only [nms, reduceCtorEq] at hc) <;> (try (exfalso; omega))))) | ((with_reducible show AOps _ _ _ _ _ _); (first | refine aops_nil ?_ | refine aops_go ty_ok rfl rfl sdm ?_ | refine aops_gate ty_ok rfl rfl rfl sdm ?_ | refine aops_litE ty_ok rfl rfl rfl rfl rfl rfl rfl rfl rfl rfl rfl rfl ?_ | refine aops_litA ty_ok rfl rfl rfl rfl rfl rfl rfl rfl rfl rfl rfl rfl rfl rfl rfl rfl ?_ | refine aops_buildArr ty_ok rfl rfl rfl rfl rfl rfl rfl rfl rfl rfl ?_ | refine aops_indexArr ty_ok rfl rfl rfl rfl rfl rfl rfl rfl rfl rfl sdm ?_ | refine aops_lit0 ty_ok rfl rfl rfl rfl rfl rfl rfl ?_ | refine aops_field ty_ok rfl rfl rfl rfl rfl rfl rfl rfl rfl rfl ?_ | refine aops_cutE ty_ok rfl rfl rfl rfl rfl rfl rfl rfl rfl sdm rfl ?_ | ((fail_if_success (refine aops_known rfl ?_)); (refine aops_split ty_ok rfl rfl rfl rfl rfl rfl (fun hc => ⟨?_, ?_⟩) (fun hc => ⟨?_, ?_⟩)) <;> (try simp only [nms, reduceCtorEq] at hc) <;> (try (exfalso; omega)) <;> (try exact sdm)))) | ((fail_if_success (with_reducible show AWp _ _ _ _ _)); (fail_if_success (with_reducible show AOps _ _ _ _ _ _)); (first | (show AWp _ _ _ _ _) | (show AOps _ _ _ _ _ _))))
    all_goals first | (exfalso; omega) | skip
    all_goals refine congrArg (fun b => Res.d (Dat.bool b)) ?_
    all_goals rw [Bool.eq_iff_iff]
    all_goals simp only [Bool.and_eq_true, decide_eq_true_eq, Bool.false_eq_true, false_iff, iff_false]
    all_goals omega
end Go.Proofs.YtmciaonjkkelnaaDoor

/- Lists of extensions by the reference; comparisons of lists. Walked by the abstract machine. -/
namespace Go.Proofs.YtmciaonjkkelnaaDoor
open Go.Am
set_option linter.unusedSimpArgs false
set_option linter.unusedVariables false
-- withAmZ withAmMp

theorem isRXLValid : IsFn Tryd.prog 20 Tryd.f20 := ⟨Tryd.func20, by decide, rfl⟩
set_option maxHeartbeats 2000000 in
theorem c_rxlvalid (Γ : Env) (l : List Ext) (hn : l.length ≤ 1000000) (hl : ∀ x ∈ l, x.o.length ≤ 1000000) {v : Bool} (hv : xlV l = v) : ACalls Tryd.prog Γ 20 [.sl (some 3) (xsD l)] (fun r => r = .d (.bool v)) := by
  refine acalls_of ty_ok isRXLValid rfl rfl ?_
  subst hv
  have hxl := xs_len l
  repeat' (first | ((with_reducible show AWp _ _ _ _ _); (first | refine awp_seq ?_ | refine awp_block ?_ | refine awp_skip ?_ | refine awp_exit ?_ | refine awp_scope ?_ | refine awp_label ?_ | refine awp_run ty_ok rfl sdm ?_ | refine awp_ret ⟨_, _, rfl, rfl, ?_⟩ | refine awp_ret ⟨_, rfl, ?_⟩ | ((refine awp_cond (ty := ty) rfl (fun hc => ?_) (fun hc => ?_)) <;> (try simp only [nms, reduceCtorEq] at hc) <;> (try (exfalso; omega))))) | ((with_reducible show AOps _ _ _ _ _ _); (first | refine aops_nil ?_ | refine aops_go ty_ok rfl rfl sdm ?_ | refine aops_gate ty_ok rfl rfl rfl sdm ?_ | refine aops_litE ty_ok rfl rfl rfl rfl rfl rfl rfl rfl rfl rfl rfl rfl ?_ | refine aops_litA ty_ok rfl rfl rfl rfl rfl rfl rfl rfl rfl rfl rfl rfl rfl rfl rfl rfl ?_ | refine aops_buildArr ty_ok rfl rfl rfl rfl rfl rfl rfl rfl rfl rfl ?_ | refine aops_indexArr ty_ok rfl rfl rfl rfl rfl rfl rfl rfl rfl rfl sdm ?_ | refine aops_lit0 ty_ok rfl rfl rfl rfl rfl rfl rfl ?_ | refine aops_field ty_ok rfl rfl rfl rfl rfl rfl rfl rfl rfl rfl ?_ | refine aops_cutE ty_ok rfl rfl rfl rfl rfl rfl rfl rfl rfl sdm rfl ?_ | ((fail_if_success (refine aops_known rfl ?_)); (refine aops_split ty_ok rfl rfl rfl rfl rfl rfl (fun hc => ⟨?_, ?_⟩) (fun hc => ⟨?_, ?_⟩)) <;> (try simp only [nms, reduceCtorEq] at hc) <;> (try (exfalso; omega)) <;> (try exact sdm)))) | ((fail_if_success (with_reducible show AWp _ _ _ _ _)); (fail_if_success (with_reducible show AOps _ _ _ _ _ _)); (first | (show AWp _ _ _ _ _) | (show AOps _ _ _ _ _ _))))
  refine awp_loopR (G := { k : Nat // k ≤ l.length ∧ (l.take k).all exV = true ∧ ((l.take k).map (·.o)).Nodup }) (fun k => ⟨Tryd.f20.ntmps, [(0, .d (.sl (some 3) (xsD l))), (3, .d (.int .i64 k.1))], [], 0⟩) (fun k => l.length - k.1) ⟨0, by simp⟩ []
      (SubR.mk' rfl rfl ⟨⟨_, rfl, rfl⟩, ⟨_, rfl, rfl⟩, trivial⟩ trivial) ?_
  rintro ⟨k, hk, hv, hd⟩
  dsimp only
  rcases Nat.lt_or_ge k l.length with h | h
  · have hX := xs_at h
    have hcan := x_can hX
    obtain ⟨y1, y2, y3⟩ := x_fields hX
    have ht : l.take (k + 1) = l.take k ++ [l[k]] := List.take_succ_eq_append_getElem h
    cases hx : exV l[k] with
    | false =>
      have hc1 := c_rxvalid (Γ.at 0) l[k] (by have := hl _ (List.getElem_mem h); omega) hx
      rw [← hX, hcan] at hc1
      have hbad : xlV l = false := by
        unfold xlV
        rw [Bool.and_eq_false_iff, Bool.and_eq_false_iff]
        left; right
        rw [List.all_eq_false]
        exact ⟨l[k], List.getElem_mem _, by simp [hx]⟩
      repeat' (first | ((with_reducible show AWp _ _ _ _ _); (first | refine awp_seq ?_ | refine awp_block ?_ | refine awp_skip ?_ | refine awp_exit ?_ | refine awp_scope ?_ | refine awp_label ?_ | refine awp_run ty_ok rfl sdm ?_ | refine awp_ret ⟨_, _, rfl, rfl, ?_⟩ | refine awp_ret ⟨_, rfl, ?_⟩ | ((refine awp_cond (ty := ty) rfl (fun hc => ?_) (fun hc => ?_)) <;> (try simp only [nms, reduceCtorEq] at hc) <;> (try (exfalso; omega))))) | ((with_reducible show AOps _ _ _ _ _ _); (first | refine aops_nil ?_ | refine aops_go ty_ok rfl rfl sdm ?_ | refine aops_gate ty_ok rfl rfl rfl sdm ?_ | refine aops_callE (ty := ty) rfl rfl rfl rfl rfl rfl rfl (hc1) rfl ?_ | refine aops_litE ty_ok rfl rfl rfl rfl rfl rfl rfl rfl rfl rfl rfl rfl ?_ | refine aops_litA ty_ok rfl rfl rfl rfl rfl rfl rfl rfl rfl rfl rfl rfl rfl rfl rfl rfl ?_ | refine aops_buildArr ty_ok rfl rfl rfl rfl rfl rfl rfl rfl rfl rfl ?_ | refine aops_indexArr ty_ok rfl rfl rfl rfl rfl rfl rfl rfl rfl rfl sdm ?_ | refine aops_lit0 ty_ok rfl rfl rfl rfl rfl rfl rfl ?_ | refine aops_field ty_ok rfl rfl rfl rfl rfl rfl rfl rfl rfl rfl ?_ | refine aops_cutE ty_ok rfl rfl rfl rfl rfl rfl rfl rfl rfl sdm rfl ?_ | ((fail_if_success (refine aops_known rfl ?_)); (refine aops_split ty_ok rfl rfl rfl rfl rfl rfl (fun hc => ⟨?_, ?_⟩) (fun hc => ⟨?_, ?_⟩)) <;> (try simp only [nms, reduceCtorEq] at hc) <;> (try (exfalso; omega)) <;> (try exact sdm)))) | ((fail_if_success (with_reducible show AWp _ _ _ _ _)); (fail_if_success (with_reducible show AOps _ _ _ _ _ _)); (first | (show AWp _ _ _ _ _) | (show AOps _ _ _ _ _ _))))
      rw [hbad]
    | true =>
      have hc1 := c_rxvalid (Γ.at 0) l[k] (by have := hl _ (List.getElem_mem h); omega) hx
      rw [← hX, hcan] at hc1
      repeat' (first | ((with_reducible show AWp _ _ _ _ _); (first | refine awp_seq ?_ | refine awp_block ?_ | refine awp_skip ?_ | refine awp_exit ?_ | refine awp_scope ?_ | refine awp_label ?_ | refine awp_run ty_ok rfl sdm ?_ | refine awp_ret ⟨_, _, rfl, rfl, ?_⟩ | refine awp_ret ⟨_, rfl, ?_⟩ | ((refine awp_cond (ty := ty) rfl (fun hc => ?_) (fun hc => ?_)) <;> (try simp only [nms, reduceCtorEq] at hc) <;> (try (exfalso; omega))))) | ((with_reducible show AOps _ _ _ _ _ _); (first | refine aops_nil ?_ | refine aops_go ty_ok rfl rfl sdm ?_ | refine aops_gate ty_ok rfl rfl rfl sdm ?_ | refine aops_callE (ty := ty) rfl rfl rfl rfl rfl rfl rfl (hc1) rfl ?_ | refine aops_litE ty_ok rfl rfl rfl rfl rfl rfl rfl rfl rfl rfl rfl rfl ?_ | refine aops_litA ty_ok rfl rfl rfl rfl rfl rfl rfl rfl rfl rfl rfl rfl rfl rfl rfl rfl ?_ | refine aops_buildArr ty_ok rfl rfl rfl rfl rfl rfl rfl rfl rfl rfl ?_ | refine aops_indexArr ty_ok rfl rfl rfl rfl rfl rfl rfl rfl rfl rfl sdm ?_ | refine aops_lit0 ty_ok rfl rfl rfl rfl rfl rfl rfl ?_ | refine aops_field ty_ok rfl rfl rfl rfl rfl rfl rfl rfl rfl rfl ?_ | refine aops_cutE ty_ok rfl rfl rfl rfl rfl rfl rfl rfl rfl sdm rfl ?_ | ((fail_if_success (refine aops_known rfl ?_)); (refine aops_split ty_ok rfl rfl rfl rfl rfl rfl (fun hc => ⟨?_, ?_⟩) (fun hc => ⟨?_, ?_⟩)) <;> (try simp only [nms, reduceCtorEq] at hc) <;> (try (exfalso; omega)) <;> (try exact sdm)))) | ((fail_if_success (with_reducible show AWp _ _ _ _ _)); (fail_if_success (with_reducible show AOps _ _ _ _ _ _)); (first | (show AWp _ _ _ _ _) | (show AOps _ _ _ _ _ _))))
      refine awp_loopR (G := { j : Nat // j ≤ k ∧ l[k].o ∉ (l.take j).map (·.o) }) (fun j => ⟨Tryd.f20.ntmps, [(0, .d (.sl (some 3) (xsD l))), (3, .d (.int .i64 k)), (4, .d (.int .i64 j.1))], [], 0⟩) (fun j => k - j.1) ⟨0, by simp⟩ []
        (SubR.mk' rfl rfl ⟨⟨_, rfl, rfl⟩, ⟨_, rfl, rfl⟩, ⟨_, rfl, rfl⟩, trivial⟩ trivial) ?_
      rintro ⟨j, hj, hm⟩
      dsimp only
      rcases Nat.lt_or_ge j k with hjk | hjk
      · have hjl : j < l.length := by omega
        have hY := xs_at hjl
        obtain ⟨w1, w2, w3⟩ := x_fields hY
        have t1 : (((xsD l).getD (k : Int).toNat default).cell 0).txt = bA l[k].o := by rw [hX]; rfl
        have t2 : (((xsD l).getD (j : Int).toNat default).cell 0).txt = bA l[j].o := by rw [hY]; rfl
        have htj : l.take (j + 1) = l.take j ++ [l[j]] := List.take_succ_eq_append_getElem hjl
        repeat' (first | ((with_reducible show AWp _ _ _ _ _); (first | refine awp_seq ?_ | refine awp_block ?_ | refine awp_skip ?_ | refine awp_exit ?_ | refine awp_scope ?_ | refine awp_label ?_ | refine awp_run ty_ok rfl sdm ?_ | refine awp_ret ⟨_, _, rfl, rfl, ?_⟩ | refine awp_ret ⟨_, rfl, ?_⟩ | ((refine awp_cond (ty := ty) rfl (fun hc => ?_) (fun hc => ?_)) <;> (try simp only [nms, reduceCtorEq] at hc) <;> (try (exfalso; omega))) | refine awp_anyL 10 mixed rfl (by kernel_rfl) ?_)) | ((with_reducible show AOps _ _ _ _ _ _); (first | refine aops_nil ?_ | refine aops_go ty_ok rfl rfl sdm ?_ | refine aops_gate ty_ok rfl rfl rfl sdm ?_ | refine aops_litE ty_ok rfl rfl rfl rfl rfl rfl rfl rfl rfl rfl rfl rfl ?_ | refine aops_litA ty_ok rfl rfl rfl rfl rfl rfl rfl rfl rfl rfl rfl rfl rfl rfl rfl rfl ?_ | refine aops_buildArr ty_ok rfl rfl rfl rfl rfl rfl rfl rfl rfl rfl ?_ | refine aops_indexArr ty_ok rfl rfl rfl rfl rfl rfl rfl rfl rfl rfl sdm ?_ | refine aops_lit0 ty_ok rfl rfl rfl rfl rfl rfl rfl ?_ | refine aops_field ty_ok rfl rfl rfl rfl rfl rfl rfl rfl rfl rfl ?_ | refine aops_cutE ty_ok rfl rfl rfl rfl rfl rfl rfl rfl rfl sdm rfl ?_ | ((fail_if_success (refine aops_known rfl ?_)); (refine aops_split ty_ok rfl rfl rfl rfl rfl rfl (fun hc => ⟨?_, ?_⟩) (fun hc => ⟨?_, ?_⟩)) <;> (try simp only [nms, reduceCtorEq] at hc) <;> (try (exfalso; omega)) <;> (try exact sdm)))) | ((with_reducible show HeadT _ _ _ _ _ _ _ _ _ _); (first | refine head_end ?_ | refine head_goP ty_ok rfl rfl sdm ?_ | refine head_gate ty_ok rfl rfl rfl sdm ?_ | ((fail_if_success (refine head_known rfl ?_)); (refine head_split ty_ok rfl rfl rfl rfl (fun hc => ⟨?_, ?_⟩) (fun hc => ⟨?_, ?_⟩)) <;> (try simp only [nms, reduceCtorEq] at hc) <;> (try (exfalso; omega)) <;> (try exact sdm)))) | ((fail_if_success (with_reducible show AWp _ _ _ _ _)); (fail_if_success (with_reducible show AOps _ _ _ _ _ _)); (fail_if_success (with_reducible show HeadT _ _ _ _ _ _ _ _ _ _)); (first | (show AWp _ _ _ _ _) | (show AOps _ _ _ _ _ _))))
        · have e : l[j].o = l[k].o := by
            rw [← bA_inj, ← t1, ← t2]
            exact hc
          have hbad : xlV l = false := by
            unfold xlV
            rw [Bool.and_eq_false_iff]
            right
            refine decide_eq_false fun hnd => ?_
            have h1 : ((l.take (k + 1)).map (·.o)).Nodup := hnd.sublist ((List.take_sublist _ _).map _)
            rw [ht, List.map_append, List.nodup_append] at h1
            refine h1.2.2 l[k].o ?_ l[k].o (by simp) rfl
            rw [← e]
            refine List.mem_map.2 ⟨l[j], ?_, rfl⟩
            exact List.mem_of_getElem? (i := j) (by rw [List.getElem?_take_of_lt hjk, List.getElem?_eq_getElem hjl])
          rw [hbad]
        · have e : l[j].o ≠ l[k].o := fun e => hc (by
            show (((xsD l).getD (j : Int).toNat default).cell 0).txt = (((xsD l).getD (k : Int).toNat default).cell 0).txt
            rw [t1, t2, e])
          refine ⟨⟨j + 1, hjk, ?_⟩, [], SubR.mk' rfl rfl ⟨⟨_, rfl, rfl⟩, ⟨_, rfl, rfl⟩, ⟨_, rfl, rfl⟩, trivial⟩ trivial, by simp only; omega⟩
          rw [htj, List.map_append, List.mem_append]
          rintro (h1 | h1)
          · exact hm h1
          · simp only [List.map_cons, List.map_nil, List.mem_singleton] at h1
            exact e h1.symm
      · have hje : j = k := by omega
        subst hje
        repeat' (first | ((with_reducible show AWp _ _ _ _ _); (first | refine awp_seq ?_ | refine awp_block ?_ | refine awp_skip ?_ | refine awp_exit ?_ | refine awp_scope ?_ | refine awp_label ?_ | refine awp_run ty_ok rfl sdm ?_ | refine awp_ret ⟨_, _, rfl, rfl, ?_⟩ | refine awp_ret ⟨_, rfl, ?_⟩ | ((refine awp_cond (ty := ty) rfl (fun hc => ?_) (fun hc => ?_)) <;> (try simp only [nms, reduceCtorEq] at hc) <;> (try (exfalso; omega))))) | ((with_reducible show AOps _ _ _ _ _ _); (first | refine aops_nil ?_ | refine aops_go ty_ok rfl rfl sdm ?_ | refine aops_gate ty_ok rfl rfl rfl sdm ?_ | refine aops_litE ty_ok rfl rfl rfl rfl rfl rfl rfl rfl rfl rfl rfl rfl ?_ | refine aops_litA ty_ok rfl rfl rfl rfl rfl rfl rfl rfl rfl rfl rfl rfl rfl rfl rfl rfl ?_ | refine aops_buildArr ty_ok rfl rfl rfl rfl rfl rfl rfl rfl rfl rfl ?_ | refine aops_indexArr ty_ok rfl rfl rfl rfl rfl rfl rfl rfl rfl rfl sdm ?_ | refine aops_lit0 ty_ok rfl rfl rfl rfl rfl rfl rfl ?_ | refine aops_field ty_ok rfl rfl rfl rfl rfl rfl rfl rfl rfl rfl ?_ | refine aops_cutE ty_ok rfl rfl rfl rfl rfl rfl rfl rfl rfl sdm rfl ?_ | ((fail_if_success (refine aops_known rfl ?_)); (refine aops_split ty_ok rfl rfl rfl rfl rfl rfl (fun hc => ⟨?_, ?_⟩) (fun hc => ⟨?_, ?_⟩)) <;> (try simp only [nms, reduceCtorEq] at hc) <;> (try (exfalso; omega)) <;> (try exact sdm)))) | ((fail_if_success (with_reducible show AWp _ _ _ _ _)); (fail_if_success (with_reducible show AOps _ _ _ _ _ _)); (first | (show AWp _ _ _ _ _) | (show AOps _ _ _ _ _ _))))
        refine ⟨⟨j + 1, h, ?_, ?_⟩, [], SubR.mk' rfl rfl ⟨⟨_, rfl, rfl⟩, ⟨_, rfl, rfl⟩, trivial⟩ trivial, by simp only; omega⟩
        · rw [ht, List.all_append, hv]
          simp [hx]
        · rw [ht, List.map_append, List.nodup_append]
          refine ⟨hd, by simp, fun a ha b hb => ?_⟩
          simp only [List.map_cons, List.map_nil, List.mem_singleton] at hb
          subst hb
          intro e
          rw [e] at ha
          exact hm ha
  · have hke : k = l.length := by omega
    subst hke
    rw [List.take_length] at hv hd
    unfold xlV
    rw [hv, decide_eq_true hd, Bool.and_true, Bool.and_true]
    repeat' (first | ((with_reducible show AWp _ _ _ _ _); (first | refine awp_seq ?_ | refine awp_block ?_ | refine awp_skip ?_ | refine awp_exit ?_ | refine awp_scope ?_ | refine awp_label ?_ | refine awp_run ty_ok rfl sdm ?_ | refine awp_ret ⟨_, _, rfl, rfl, ?_⟩ | refine awp_ret ⟨_, rfl, ?_⟩ | ((refine awp_cond (ty := ty) rfl (fun hc => ?_) (fun hc => ?_)) <;> (try simp only [nms, reduceCtorEq] at hc) <;> (try (exfalso; omega))))) | ((with_reducible show AOps _ _ _ _ _ _); (first | refine aops_nil ?_ | refine aops_go ty_ok rfl rfl sdm ?_ | refine aops_gate ty_ok rfl rfl rfl sdm ?_ | refine aops_litE ty_ok rfl rfl rfl rfl rfl rfl rfl rfl rfl rfl rfl rfl ?_ | refine aops_litA ty_ok rfl rfl rfl rfl rfl rfl rfl rfl rfl rfl rfl rfl rfl rfl rfl rfl ?_ | refine aops_buildArr ty_ok rfl rfl rfl rfl rfl rfl rfl rfl rfl rfl ?_ | refine aops_indexArr ty_ok rfl rfl rfl rfl rfl rfl rfl rfl rfl rfl sdm ?_ | refine aops_lit0 ty_ok rfl rfl rfl rfl rfl rfl rfl ?_ | refine aops_field ty_ok rfl rfl rfl rfl rfl rfl rfl rfl rfl rfl ?_ | refine aops_cutE ty_ok rfl rfl rfl rfl rfl rfl rfl rfl rfl sdm rfl ?_ | ((fail_if_success (refine aops_known rfl ?_)); (refine aops_split ty_ok rfl rfl rfl rfl rfl rfl (fun hc => ⟨?_, ?_⟩) (fun hc => ⟨?_, ?_⟩)) <;> (try simp only [nms, reduceCtorEq] at hc) <;> (try (exfalso; omega)) <;> (try exact sdm)))) | ((fail_if_success (with_reducible show AWp _ _ _ _ _)); (fail_if_success (with_reducible show AOps _ _ _ _ _ _)); (first | (show AWp _ _ _ _ _) | (show AOps _ _ _ _ _ _))))
    rw [xs_len]
    refine congrArg (fun b => Res.d (Dat.bool b)) ?_
    cases l with
    | nil => rfl
    | cons p r => simp
theorem isBExts : IsFn Tryd.prog 16 Tryd.f16 := ⟨Tryd.func16, by decide, rfl⟩
set_option maxHeartbeats 1000000 in
theorem c_bexts0 (Γ : Env) (x y : List Ext) (hx : x.length ≤ 1000000) {v : Bool} (hv : decide (x = y) = v) : ACalls Tryd.prog Γ 16 [.sl (some 3) (xsD x), .sl (some 3) (xsD y)] (fun r => r = .d (.bool v)) := by
  refine acalls_of ty_ok isBExts rfl rfl ?_
  subst hv
  have hxl := xs_len x
  have hyl := xs_len y
  repeat' (first | ((with_reducible show AWp _ _ _ _ _); (first | refine awp_seq ?_ | refine awp_block ?_ | refine awp_skip ?_ | refine awp_exit ?_ | refine awp_scope ?_ | refine awp_label ?_ | refine awp_run ty_ok rfl sdm ?_ | refine awp_ret ⟨_, _, rfl, rfl, ?_⟩ | refine awp_ret ⟨_, rfl, ?_⟩ | ((refine awp_cond (ty := ty) rfl (fun hc => ?_) (fun hc => ?_)) <;> (try simp only [nms, reduceCtorEq] at hc) <;> (try (exfalso; omega))))) | ((with_reducible show AOps _ _ _ _ _ _); (first | refine aops_nil ?_ | refine aops_go ty_ok rfl rfl sdm ?_ | refine aops_gate ty_ok rfl rfl rfl sdm ?_ | refine aops_litE ty_ok rfl rfl rfl rfl rfl rfl rfl rfl rfl rfl rfl rfl ?_ | refine aops_litA ty_ok rfl rfl rfl rfl rfl rfl rfl rfl rfl rfl rfl rfl rfl rfl rfl rfl ?_ | refine aops_buildArr ty_ok rfl rfl rfl rfl rfl rfl rfl rfl rfl rfl ?_ | refine aops_indexArr ty_ok rfl rfl rfl rfl rfl rfl rfl rfl rfl rfl sdm ?_ | refine aops_lit0 ty_ok rfl rfl rfl rfl rfl rfl rfl ?_ | refine aops_field ty_ok rfl rfl rfl rfl rfl rfl rfl rfl rfl rfl ?_ | refine aops_cutE ty_ok rfl rfl rfl rfl rfl rfl rfl rfl rfl sdm rfl ?_ | ((fail_if_success (refine aops_known rfl ?_)); (refine aops_split ty_ok rfl rfl rfl rfl rfl rfl (fun hc => ⟨?_, ?_⟩) (fun hc => ⟨?_, ?_⟩)) <;> (try simp only [nms, reduceCtorEq] at hc) <;> (try (exfalso; omega)) <;> (try exact sdm)))) | ((fail_if_success (with_reducible show AWp _ _ _ _ _)); (fail_if_success (with_reducible show AOps _ _ _ _ _ _)); (first | (show AWp _ _ _ _ _) | (show AOps _ _ _ _ _ _))))
  refine awp_loopR (G := { k : Nat // k ≤ x.length ∧ k ≤ y.length ∧ x.take k = y.take k }) (fun k => ⟨Tryd.f16.ntmps, [(0, .d (.sl (some 3) (xsD x))), (1, .d (.sl (some 3) (xsD y))), (5, .d (.int .i64 k.1))], [], 0⟩) (fun k => x.length - k.1) ⟨0, by simp⟩ []
      (SubR.mk' rfl rfl ⟨⟨_, rfl, rfl⟩, ⟨_, rfl, rfl⟩, ⟨_, rfl, rfl⟩, trivial⟩ trivial) ?_
  rintro ⟨k, hk1, hk2, hk3⟩
  dsimp only
  by_cases h : k < x.length ∧ k < y.length
  · have hX := xs_at h.1
    have hY := xs_at h.2
    have hc1 := x_can hX
    have hc2 := x_can hY
    by_cases he : x[k] = y[k]
    · have hb := c_bext (Γ.at 0) x[k] y[k] (decide_eq_true he)
      rw [← hX, ← hY, hc1, hc2] at hb
      repeat' (first | ((with_reducible show AWp _ _ _ _ _); (first | refine awp_seq ?_ | refine awp_block ?_ | refine awp_skip ?_ | refine awp_exit ?_ | refine awp_scope ?_ | refine awp_label ?_ | refine awp_run ty_ok rfl sdm ?_ | refine awp_ret ⟨_, _, rfl, rfl, ?_⟩ | refine awp_ret ⟨_, rfl, ?_⟩ | ((refine awp_cond (ty := ty) rfl (fun hc => ?_) (fun hc => ?_)) <;> (try simp only [nms, reduceCtorEq] at hc) <;> (try (exfalso; omega))) | refine awp_anyL 9 mixed rfl (by kernel_rfl) ?_)) | ((with_reducible show AOps _ _ _ _ _ _); (first | refine aops_nil ?_ | refine aops_go ty_ok rfl rfl sdm ?_ | refine aops_gate ty_ok rfl rfl rfl sdm ?_ | refine aops_callE (ty := ty) rfl rfl rfl rfl rfl rfl rfl (hb) rfl ?_ | refine aops_litE ty_ok rfl rfl rfl rfl rfl rfl rfl rfl rfl rfl rfl rfl ?_ | refine aops_litA ty_ok rfl rfl rfl rfl rfl rfl rfl rfl rfl rfl rfl rfl rfl rfl rfl rfl ?_ | refine aops_buildArr ty_ok rfl rfl rfl rfl rfl rfl rfl rfl rfl rfl ?_ | refine aops_indexArr ty_ok rfl rfl rfl rfl rfl rfl rfl rfl rfl rfl sdm ?_ | refine aops_lit0 ty_ok rfl rfl rfl rfl rfl rfl rfl ?_ | refine aops_field ty_ok rfl rfl rfl rfl rfl rfl rfl rfl rfl rfl ?_ | refine aops_cutE ty_ok rfl rfl rfl rfl rfl rfl rfl rfl rfl sdm rfl ?_ | ((fail_if_success (refine aops_known rfl ?_)); (refine aops_split ty_ok rfl rfl rfl rfl rfl rfl (fun hc => ⟨?_, ?_⟩) (fun hc => ⟨?_, ?_⟩)) <;> (try simp only [nms, reduceCtorEq] at hc) <;> (try (exfalso; omega)) <;> (try exact sdm)))) | ((with_reducible show HeadT _ _ _ _ _ _ _ _ _ _); (first | refine head_end ?_ | refine head_goP ty_ok rfl rfl sdm ?_ | refine head_gate ty_ok rfl rfl rfl sdm ?_ | refine head_callE (ty := ty) rfl rfl rfl rfl rfl rfl rfl (hb) rfl ?_ | ((fail_if_success (refine head_known rfl ?_)); (refine head_split ty_ok rfl rfl rfl rfl (fun hc => ⟨?_, ?_⟩) (fun hc => ⟨?_, ?_⟩)) <;> (try simp only [nms, reduceCtorEq] at hc) <;> (try (exfalso; omega)) <;> (try exact sdm)))) | ((fail_if_success (with_reducible show AWp _ _ _ _ _)); (fail_if_success (with_reducible show AOps _ _ _ _ _ _)); (fail_if_success (with_reducible show HeadT _ _ _ _ _ _ _ _ _ _)); (first | (show AWp _ _ _ _ _) | (show AOps _ _ _ _ _ _))))
      refine ⟨⟨k + 1, h.1, h.2, ?_⟩, [], SubR.mk' rfl rfl ⟨⟨_, rfl, rfl⟩, ⟨_, rfl, rfl⟩, ⟨_, rfl, rfl⟩, trivial⟩ trivial, by simp only; omega⟩
      rw [List.take_succ_eq_append_getElem h.1, List.take_succ_eq_append_getElem h.2, hk3, he]
    · have hb := c_bext (Γ.at 0) x[k] y[k] (decide_eq_false he)
      rw [← hX, ← hY, hc1, hc2] at hb
      have hne : decide (x = y) = false := decide_eq_false fun e => he (by subst e; rfl)
      repeat' (first | ((with_reducible show AWp _ _ _ _ _); (first | refine awp_seq ?_ | refine awp_block ?_ | refine awp_skip ?_ | refine awp_exit ?_ | refine awp_scope ?_ | refine awp_label ?_ | refine awp_run ty_ok rfl sdm ?_ | refine awp_ret ⟨_, _, rfl, rfl, ?_⟩ | refine awp_ret ⟨_, rfl, ?_⟩ | ((refine awp_cond (ty := ty) rfl (fun hc => ?_) (fun hc => ?_)) <;> (try simp only [nms, reduceCtorEq] at hc) <;> (try (exfalso; omega))) | refine awp_anyL 9 mixed rfl (by kernel_rfl) ?_)) | ((with_reducible show AOps _ _ _ _ _ _); (first | refine aops_nil ?_ | refine aops_go ty_ok rfl rfl sdm ?_ | refine aops_gate ty_ok rfl rfl rfl sdm ?_ | refine aops_callE (ty := ty) rfl rfl rfl rfl rfl rfl rfl (hb) rfl ?_ | refine aops_litE ty_ok rfl rfl rfl rfl rfl rfl rfl rfl rfl rfl rfl rfl ?_ | refine aops_litA ty_ok rfl rfl rfl rfl rfl rfl rfl rfl rfl rfl rfl rfl rfl rfl rfl rfl ?_ | refine aops_buildArr ty_ok rfl rfl rfl rfl rfl rfl rfl rfl rfl rfl ?_ | refine aops_indexArr ty_ok rfl rfl rfl rfl rfl rfl rfl rfl rfl rfl sdm ?_ | refine aops_lit0 ty_ok rfl rfl rfl rfl rfl rfl rfl ?_ | refine aops_field ty_ok rfl rfl rfl rfl rfl rfl rfl rfl rfl rfl ?_ | refine aops_cutE ty_ok rfl rfl rfl rfl rfl rfl rfl rfl rfl sdm rfl ?_ | ((fail_if_success (refine aops_known rfl ?_)); (refine aops_split ty_ok rfl rfl rfl rfl rfl rfl (fun hc => ⟨?_, ?_⟩) (fun hc => ⟨?_, ?_⟩)) <;> (try simp only [nms, reduceCtorEq] at hc) <;> (try (exfalso; omega)) <;> (try exact sdm)))) | ((with_reducible show HeadT _ _ _ _ _ _ _ _ _ _); (first | refine head_end ?_ | refine head_goP ty_ok rfl rfl sdm ?_ | refine head_gate ty_ok rfl rfl rfl sdm ?_ | refine head_callE (ty := ty) rfl rfl rfl rfl rfl rfl rfl (hb) rfl ?_ | ((fail_if_success (refine head_known rfl ?_)); (refine head_split ty_ok rfl rfl rfl rfl (fun hc => ⟨?_, ?_⟩) (fun hc => ⟨?_, ?_⟩)) <;> (try simp only [nms, reduceCtorEq] at hc) <;> (try (exfalso; omega)) <;> (try exact sdm)))) | ((fail_if_success (with_reducible show AWp _ _ _ _ _)); (fail_if_success (with_reducible show AOps _ _ _ _ _ _)); (fail_if_success (with_reducible show HeadT _ _ _ _ _ _ _ _ _ _)); (first | (show AWp _ _ _ _ _) | (show AOps _ _ _ _ _ _))))
      rw [hne]
  · have hfin : decide (x = y) = decide (x.length = y.length) := by
      rw [Bool.eq_iff_iff, decide_eq_true_eq, decide_eq_true_eq]
      refine ⟨fun e => by rw [e], fun e => ?_⟩
      rw [← List.take_length (l := x), ← List.take_length (l := y), ← e]
      have : k = x.length := by omega
      rw [← this]
      exact hk3
    rw [hfin]
    repeat' (first | ((with_reducible show AWp _ _ _ _ _); (first | refine awp_seq ?_ | refine awp_block ?_ | refine awp_skip ?_ | refine awp_exit ?_ | refine awp_scope ?_ | refine awp_label ?_ | refine awp_run ty_ok rfl sdm ?_ | refine awp_ret ⟨_, _, rfl, rfl, ?_⟩ | refine awp_ret ⟨_, rfl, ?_⟩ | ((refine awp_cond (ty := ty) rfl (fun hc => ?_) (fun hc => ?_)) <;> (try simp only [nms, reduceCtorEq] at hc) <;> (try (exfalso; omega))))) | ((with_reducible show AOps _ _ _ _ _ _); (first | refine aops_nil ?_ | refine aops_go ty_ok rfl rfl sdm ?_ | refine aops_gate ty_ok rfl rfl rfl sdm ?_ | refine aops_litE ty_ok rfl rfl rfl rfl rfl rfl rfl rfl rfl rfl rfl rfl ?_ | refine aops_litA ty_ok rfl rfl rfl rfl rfl rfl rfl rfl rfl rfl rfl rfl rfl rfl rfl rfl ?_ | refine aops_buildArr ty_ok rfl rfl rfl rfl rfl rfl rfl rfl rfl rfl ?_ | refine aops_indexArr ty_ok rfl rfl rfl rfl rfl rfl rfl rfl rfl rfl sdm ?_ | refine aops_lit0 ty_ok rfl rfl rfl rfl rfl rfl rfl ?_ | refine aops_field ty_ok rfl rfl rfl rfl rfl rfl rfl rfl rfl rfl ?_ | refine aops_cutE ty_ok rfl rfl rfl rfl rfl rfl rfl rfl rfl sdm rfl ?_ | ((fail_if_success (refine aops_known rfl ?_)); (refine aops_split ty_ok rfl rfl rfl rfl rfl rfl (fun hc => ⟨?_, ?_⟩) (fun hc => ⟨?_, ?_⟩)) <;> (try simp only [nms, reduceCtorEq] at hc) <;> (try (exfalso; omega)) <;> (try exact sdm)))) | ((fail_if_success (with_reducible show AWp _ _ _ _ _)); (fail_if_success (with_reducible show AOps _ _ _ _ _ _)); (first | (show AWp _ _ _ _ _) | (show AOps _ _ _ _ _ _))))
    all_goals first | (exfalso; omega) | skip
    all_goals refine congrArg (fun b => Res.d (Dat.bool b)) ?_
    all_goals rw [xs_len, xs_len, Bool.eq_iff_iff, beq_iff_eq, decide_eq_true_eq]
    all_goals omega
end Go.Proofs.YtmciaonjkkelnaaDoor

/- Lists of extensions by the reference: ReadList and ParseList. Walked by the abstract machine. -/
namespace Go.Proofs.YtmciaonjkkelnaaDoor
open Go.Am
set_option linter.unusedSimpArgs false
set_option linter.unusedVariables false
-- withAmZ withAmMp

abbrev Kid1 := UInt8 × List UInt8 × List Dat
abbrev Kid2 := UInt8 × List UInt8 × List Kid1
def nd2 (u : Kid2) : Dat := nodeD u.1 u.2.1 (u.2.2.map ndD)
def exRds (us : List Kid2) : List Ext := us.map fun u => exRd u.2.2
theorem nd2_at {us : List Kid2} {k : Nat} (h : k < us.length) : (us.map nd2).getD (k : Int).toNat default = nd2 us[k] := by
  rw [Int.toNat_natCast, List.getD_eq_getElem?_getD, List.getElem?_map, List.getElem?_eq_getElem h]
  rfl
theorem nd2_facts {X : Dat} {u : Kid2} (h : X = nd2 u) : X = .agg [.int .i64 (X.cell 0).num, .int .i64 (X.cell 1).num, .bool (X.cell 2).tru, .sl none (X.cell 3).els, .sl (some 5) (X.cell 4).els] := by
  rw [h]
  rfl
def us2 (us : List Kid2) (B : Nat) : Prop := ∀ u ∈ us, u.2.2.length ≤ B ∧ ∀ t ∈ u.2.2, t.2.1.length ≤ B
theorem tr_kids2 {d : Nat} {n : Dat} {b : List UInt8} (h : Tr d n b) : ∃ (x : UInt8) (c : List UInt8) (us : List Kid2), n = nodeD x c (us.map nd2) ∧ us.length ≤ b.length ∧ us2 us b.length := by
  cases h with
  | prim d x c hx hc hl => exact ⟨x, c, [], rfl, Nat.zero_le _, fun u hu => by cases hu⟩
  | cons d x ks bs hx hc hl hn hk =>
    have key : ∀ (ks : List Dat) (bs : List (List UInt8)), ks.length = bs.length → (∀ (i : Nat) (k : Dat) (b : List UInt8), ks[i]? = some k → bs[i]? = some b → Tr d k b) → ∃ us : List Kid2, ks = us.map nd2 ∧ us.length ≤ bs.flatten.length ∧ us2 us bs.flatten.length := by
      clear hn hl hk
      intro ks
      induction ks with
      | nil => intro bs _ _; exact ⟨[], rfl, Nat.zero_le _, fun u hu => by cases hu⟩
      | cons k ks ih =>
        intro bs hn hk
        match bs, hn with
        | b :: bs, hn =>
          obtain ⟨us, h1, h2, h3⟩ := ih bs (by simpa using hn) (fun i k b hi hb => hk (i + 1) k b (by simpa using hi) (by simpa using hb))
          have ht := hk 0 k b rfl rfl
          have hp := ht.pos
          obtain ⟨x', c', ts, rfl, g1, g2⟩ := tr_kids ht
          refine ⟨(x', c', ts) :: us, by rw [h1]; rfl, by rw [List.flatten_cons, List.length_append, List.length_cons]; omega, ?_⟩
          intro u hu
          rw [List.flatten_cons, List.length_append]
          rcases List.mem_cons.1 hu with rfl | hu
          · exact ⟨by show ts.length ≤ _; omega, fun t ht => by have := g2 t ht; omega⟩
          · obtain ⟨a1, a2⟩ := h3 u hu
            exact ⟨by omega, fun t ht => by have := a2 t ht; omega⟩
    obtain ⟨us, h1, h2, h3⟩ := key ks bs hn hk
    have hp := putF_len x bs.flatten
    refine ⟨x, [], us, by rw [h1], by omega, fun u hu => ?_⟩
    obtain ⟨a1, a2⟩ := h3 u hu
    exact ⟨by omega, fun t ht => by have := a2 t ht; omega⟩
def rxlD (b : List UInt8) (l : List Ext) : Res := if xlV l = true ∧ xlF l = b then .d (.tup [.sl (some 3) (xsD l), .bool true]) else .d (.tup [.sl (some 3) [], .bool false])
theorem exRds_sm {us : List Kid2} {B : Nat} (hB : B ≤ 3000) (h : us2 us B) : (∀ x ∈ exRds us, xSm x ∧ x.o.length ≤ 33022 ∧ x.v.length ≤ 33022) := by
  intro x hx
  obtain ⟨u, hu, rfl⟩ := List.mem_map.1 hx
  obtain ⟨h1, h2⟩ := exRd_len (h u hu).2
  have h3 : (B + 2) * 11 ≤ 33022 := by omega
  exact ⟨⟨by omega, by omega⟩, by omega, by omega⟩
def kid2X (x : Ext) : Kid2 := (48, [], (exB x).map kd0)
theorem exRds_of (l : List Ext) (h : ∀ x ∈ l, exV x = true) : exRds (l.map kid2X) = l := by
  unfold exRds
  rw [List.map_map]
  conv => rhs; rw [← List.map_id l]
  exact List.map_congr_left fun x hx => exRd_of x (h x hx)
/-! ### The contracts as the laws want them -/
def xlBd (l : List Ext) : List UInt8 := (l.map exF).flatten
def xlSm (l : List Ext) : Prop := l.length ≤ 10000 ∧ (∀ x ∈ l, xSm x) ∧ (l.map exF).flatten.length ≤ 2000000000
theorem xlSm0 : xlSm [] := ⟨Nat.zero_le _, fun x hx => by (cases hx), Nat.zero_le _⟩
theorem xl_small {l : List Ext} (h : fewXs l = true) : xlSm l ∧ (xlBd l).length ≤ 2147483647 ∧ (xlF l).length ≤ 16000 ∧ 0 < (xlF l).length := by
  obtain ⟨h1, h2, h3⟩ := fewXs_len h
  have h4 := exs_le l
  have h5 : (xlF l).length = _ := putF_len 48 (l.map exF).flatten
  have h6 := hsz_le (l.map exF).flatten
  have h7 := hsz_ge (l.map exF).flatten
  exact ⟨⟨by omega, fun x hx => ⟨by have := (h3 x hx).1; omega, by have := (h3 x hx).2; omega⟩, by omega⟩, by unfold xlBd; omega, by omega, by omega⟩
theorem xl_len {l : List Ext} (hv : xlV l = true) (hl : (xlF l).length ≤ 16000) : (xlBd l).length ≤ 2147483647 ∧ xlSm l := by
  have h5 : (xlF l).length = _ := putF_len 48 (l.map exF).flatten
  have hall := xlV_all hv
  have hp : ∀ q : List Ext, 2 * q.length ≤ (q.map exF).flatten.length := by
    intro q
    induction q with
    | nil => simp
    | cons x r ih =>
      have h2 := exF_len x
      have h4 := hsz_ge (catF (exB x))
      simp only [List.map_cons, List.flatten_cons, List.length_append, List.length_cons]
      omega
  have h6 := hp l
  refine ⟨by unfold xlBd; omega, by omega, fun x hx => ?_, by omega⟩
  have h7 := ex_in hx
  exact ex_len (hall x hx) (by omega)
theorem c_xlmar_ok (l : List Ext) (s : xlSm l) (h : xlV l = true) : ACalls Tryd.prog envL 27 [xlD l] (fun r => r = .ownT none 5 (bys (xlF l)) [.int .i64 0]) := by
  have := c_xlmarshal l s.1 s.2.1 s.2.2
  rwa [xlR, h] at this
theorem c_xlmar_bad (l : List Ext) (s : xlSm l) (h : xlV l = false) : ACalls Tryd.prog envL 27 [xlD l] (fun r => r = .d (.tup [.sl none [], .int .i64 8])) := by
  have := c_xlmarshal l s.1 s.2.1 s.2.2
  rwa [xlR, h] at this
theorem c_xlval_at (l : List Ext) (s : xlSm l) {v : Bool} (h : xlV l = v) : ACalls Tryd.prog envL 22 [xlD l] (fun r => r = .d (.bool v)) := c_xlvalid l (by have := s.1; omega) (fun x hx => by have := (s.2.1 x hx).1; omega) h
theorem c_rxlval_at (Γ : Env) (l : List Ext) (s : xlSm l) {v : Bool} (h : xlV l = v) : ACalls Tryd.prog Γ 20 [xlD l] (fun r => r = .d (.bool v)) := c_rxlvalid Γ l (by have := s.1; omega) (fun x hx => by have := (s.2.1 x hx).1; omega) h
theorem c_bexts (Γ : Env) (x y : List Ext) (s : xlSm x) {v : Bool} (h : decide (x = y) = v) : ACalls Tryd.prog Γ 16 [xlD x, xlD y] (fun r => r = .d (.bool v)) := c_bexts0 Γ x y (by have := s.1; omega) h
end Go.Proofs.YtmciaonjkkelnaaDoor

/- One octet replaced: plain facts for the laws. No program. -/
namespace Go.Am
open Go.RowKit
set_option linter.unusedSimpArgs false
set_option linter.unusedVariables false
theorem mod_at (p : Int) (L : List UInt8) (h0 : 0 ≤ p) (h1 : p ≤ 65535) (hL : 0 < L.length) : ∃ m, m < L.length ∧ (IntKind.i64.wrap p).tmod ((bys L).length : Int) = (m : Int) := by
  refine ⟨p.toNat % L.length, Nat.mod_lt _ hL, ?_⟩
  have hw : IntKind.i64.wrap p = ((p.toNat : Nat) : Int) := by rw [IntKind.wrap_i64]; omega
  rw [hw, bys_len, ← Int.ofNat_tmod]
theorem set_at (L : List UInt8) (m : Nat) (x : UInt8) : (bys L).set (m : Int).toNat (.int .u8 x.toNat) = bys (L.set m x) := by
  rw [Int.toNat_natCast]
  simp only [bys, List.map_set, by1]
theorem old_at (L : List UInt8) (m : Nat) (h : m < L.length) : ((bys L).getD (m : Int).toNat default).num = (L[m].toNat : Int) := by
  rw [num_bys, Int.toNat_natCast, List.getD_eq_getElem?_getD, List.getElem?_eq_getElem h]
  rfl
theorem set_same (L : List UInt8) (m : Nat) (x : UInt8) (h : m < L.length) : L.set m x = L ↔ x = L[m] := by
  constructor
  · intro e
    have h2 : m < (L.set m x).length := by simpa using h
    have : (L.set m x)[m] = L[m] := by simp only [e]
    rw [← this]
    simp
  · rintro rfl
    exact List.set_getElem_self h
theorem byte_ne (x y : UInt8) : ((x.toNat : Int) != (y.toNat : Int)) = !decide (x = y) := by
  by_cases h : x = y
  · subst h; simp
  · have : ¬ x.toNat = y.toNat := fun e => h (UInt8.toNat.inj e)
    simp [h]
    omega
theorem byte_eq (x y : UInt8) : ((x.toNat : Int) == (y.toNat : Int)) = decide (x = y) := by
  by_cases h : x = y
  · subst h; simp
  · have : ¬ x.toNat = y.toNat := fun e => h (UInt8.toNat.inj e)
    simp [h]
    omega
end Go.Am
