/- Part 5 of the texts of this proof: an abstract machine for walks, the walks of the functions, plain laws. Each part says in its own first lines what is proved there. -/
import Derived.Test.YtmciaonjkkelnaaDoorK4
import Derived.Lay
import Derived.Stop.Joined
import Derived.SizedLaws

/- The laws Marshals, Parses, Changes and Ends of lists of extensions, walked by the abstract machine. -/
namespace Go.Proofs.YtmciaonjkkelnaaDoor
open Go.Am
set_option linter.unusedSimpArgs false
set_option linter.unusedVariables false
-- withAmZ withAmMp

/-- A proper beginning is not parsed. -/
theorem xl_pre {v : List Ext} (hl : (xlBd v).length ≤ 2147483647) {m : Nat} (hm : m < (xlF v).length) : ∃ c o, xlP ((xlF v).take m) = .bad c o ∧ 0 < c := by
  cases hp : xlP ((xlF v).take m) with
  | bad c o => exact ⟨c, o, rfl, (xl_bad hp).1⟩
  | ok w =>
    exfalso
    obtain ⟨_, g2, g3⟩ := xl_ok hp
    have g3' : (xlBd w).length ≤ 2147483647 := g3
    have e : putF 48 (xlBd w) ++ (xlF v).drop m = putF 48 (xlBd v) ++ [] := by
      show xlF w ++ (xlF v).drop m = xlF v ++ []
      rw [List.append_nil, ← g2, List.take_append_drop]
    have g6 := put_inj (by decide) g3' (by decide) hl e
    have g7 := congrArg List.length g6.2.2
    rw [List.length_drop] at g7
    simp only [List.length_nil] at g7
    omega
theorem xl_more {v : List Ext} (hl : (xlBd v).length ≤ 2147483647) {q : List UInt8} (hq : q ≠ []) : ∃ c o, xlP (xlF v ++ q) = .bad c o ∧ 0 < c := by
  cases hp : xlP (xlF v ++ q) with
  | bad c o => exact ⟨c, o, rfl, (xl_bad hp).1⟩
  | ok w =>
    exfalso
    obtain ⟨_, g2, g3⟩ := xl_ok hp
    have g3' : (xlBd w).length ≤ 2147483647 := g3
    have g2' : putF 48 (xlBd v) ++ q = putF 48 (xlBd w) ++ [] := by rw [List.append_nil]; exact g2
    exact hq (put_inj (by decide) hl (by decide) g3' g2').2.2
theorem isLChangesxl : IsFn Tryd.prog 8 Tryd.f8 := ⟨Tryd.func8, by decide, rfl⟩
set_option maxHeartbeats 2000000 in
theorem l_xlchanges (v : List Ext) (hB : xlB v) (p : Int) (x : UInt8) (h0 : 0 ≤ p) (h1 : p ≤ 65535) : ACalls Tryd.prog envL 8 [xlD v, .int .u16 p, .int .u8 x.toNat] (fun r => r = .d (.bool true)) := by
  refine acalls_of ty_ok isLChangesxl rfl rfl ?_
  cases hf : fewXs v with
  | false =>
    have hcf := c_rxlfew (envL.at 0) v hB hf
    repeat' (first | ((with_reducible show AWp _ _ _ _ _); (first | refine awp_seq ?_ | refine awp_block ?_ | refine awp_skip ?_ | refine awp_exit ?_ | refine awp_scope ?_ | refine awp_label ?_ | refine awp_run ty_ok rfl sdm ?_ | refine awp_ret ⟨_, _, rfl, rfl, ?_⟩ | refine awp_ret ⟨_, rfl, ?_⟩ | ((refine awp_cond (ty := ty) rfl (fun hc => ?_) (fun hc => ?_)) <;> (try simp only [nms, reduceCtorEq] at hc) <;> (try (exfalso; omega))))) | ((with_reducible show AOps _ _ _ _ _ _); (first | refine aops_nil ?_ | refine aops_go ty_ok rfl rfl sdm ?_ | refine aops_gate ty_ok rfl rfl rfl sdm ?_ | refine aops_callE (ty := ty) rfl rfl rfl rfl rfl rfl rfl (c_awake22) rfl ?_ | refine aops_callE (ty := ty) rfl rfl rfl rfl rfl rfl rfl (hcf) rfl ?_ | refine aops_litE ty_ok rfl rfl rfl rfl rfl rfl rfl rfl rfl rfl rfl rfl ?_ | refine aops_litA ty_ok rfl rfl rfl rfl rfl rfl rfl rfl rfl rfl rfl rfl rfl rfl rfl rfl ?_ | refine aops_buildArr ty_ok rfl rfl rfl rfl rfl rfl rfl rfl rfl rfl ?_ | refine aops_indexArr ty_ok rfl rfl rfl rfl rfl rfl rfl rfl rfl rfl sdm ?_ | refine aops_lit0 ty_ok rfl rfl rfl rfl rfl rfl rfl ?_ | refine aops_field ty_ok rfl rfl rfl rfl rfl rfl rfl rfl rfl rfl ?_ | refine aops_cutE ty_ok rfl rfl rfl rfl rfl rfl rfl rfl rfl sdm rfl ?_ | ((fail_if_success (refine aops_known rfl ?_)); (refine aops_split ty_ok rfl rfl rfl rfl rfl rfl (fun hc => ⟨?_, ?_⟩) (fun hc => ⟨?_, ?_⟩)) <;> (try simp only [nms, reduceCtorEq] at hc) <;> (try (exfalso; omega)) <;> (try exact sdm)))) | ((fail_if_success (with_reducible show AWp _ _ _ _ _)); (fail_if_success (with_reducible show AOps _ _ _ _ _ _)); (first | (show AWp _ _ _ _ _) | (show AOps _ _ _ _ _ _))))
    all_goals rfl
  | true =>
    obtain ⟨s, e1, e2, e3⟩ := xl_small hf
    have hcf := c_rxlfew (envL.at 0) v hB hf
    cases hv : xlV v with
    | false =>
      have hm := c_xlmar_bad v s hv
      repeat' (first | ((with_reducible show AWp _ _ _ _ _); (first | refine awp_seq ?_ | refine awp_block ?_ | refine awp_skip ?_ | refine awp_exit ?_ | refine awp_scope ?_ | refine awp_label ?_ | refine awp_run ty_ok rfl sdm ?_ | refine awp_ret ⟨_, _, rfl, rfl, ?_⟩ | refine awp_ret ⟨_, rfl, ?_⟩ | ((refine awp_cond (ty := ty) rfl (fun hc => ?_) (fun hc => ?_)) <;> (try simp only [nms, reduceCtorEq] at hc) <;> (try (exfalso; omega))))) | ((with_reducible show AOps _ _ _ _ _ _); (first | refine aops_nil ?_ | refine aops_go ty_ok rfl rfl sdm ?_ | refine aops_gate ty_ok rfl rfl rfl sdm ?_ | refine aops_callE (ty := ty) rfl rfl rfl rfl rfl rfl rfl (c_awake22) rfl ?_ | refine aops_callE (ty := ty) rfl rfl rfl rfl rfl rfl rfl (hcf) rfl ?_ | refine aops_callE (ty := ty) rfl rfl rfl rfl rfl rfl rfl (hm) rfl ?_ | refine aops_litE ty_ok rfl rfl rfl rfl rfl rfl rfl rfl rfl rfl rfl rfl ?_ | refine aops_litA ty_ok rfl rfl rfl rfl rfl rfl rfl rfl rfl rfl rfl rfl rfl rfl rfl rfl ?_ | refine aops_buildArr ty_ok rfl rfl rfl rfl rfl rfl rfl rfl rfl rfl ?_ | refine aops_indexArr ty_ok rfl rfl rfl rfl rfl rfl rfl rfl rfl rfl sdm ?_ | refine aops_lit0 ty_ok rfl rfl rfl rfl rfl rfl rfl ?_ | refine aops_field ty_ok rfl rfl rfl rfl rfl rfl rfl rfl rfl rfl ?_ | refine aops_cutE ty_ok rfl rfl rfl rfl rfl rfl rfl rfl rfl sdm rfl ?_ | ((fail_if_success (refine aops_known rfl ?_)); (refine aops_split ty_ok rfl rfl rfl rfl rfl rfl (fun hc => ⟨?_, ?_⟩) (fun hc => ⟨?_, ?_⟩)) <;> (try simp only [nms, reduceCtorEq] at hc) <;> (try (exfalso; omega)) <;> (try exact sdm)))) | ((fail_if_success (with_reducible show AWp _ _ _ _ _)); (fail_if_success (with_reducible show AOps _ _ _ _ _ _)); (first | (show AWp _ _ _ _ _) | (show AOps _ _ _ _ _ _))))
      all_goals rfl
    | true =>
      obtain ⟨L, hL⟩ : ∃ L, xlF v = L := ⟨_, rfl⟩
      have hm := c_xlmar_ok v s hv
      rw [hL] at e2 e3 hm
      obtain ⟨m, hm1, hm2⟩ := mod_at p L h0 h1 e3
      have hset := set_same L m x hm1
      have hold := old_at L m hm1
      have hsl : (L.set m x).length = L.length := List.length_set
      cases hp : xlP (L.set m x) with
      | bad c o =>
        obtain ⟨g1, g2⟩ := xl_bad hp
        have hw := c_within_bad (envL.at 0) c o _ g1 g2
        rw [← bys_len] at hw
        have hne : x ≠ L[m] := fun e => by
          rw [hset.2 e, ← hL, xl_of hv e1] at hp
          cases hp
        have h5 := c_xlparse_at _ (by omega) hp
        have h7 := c_bexts (envL.at 0) [] [] xlSm0 (decide_eq_true rfl)
        repeat' (first | ((with_reducible show AWp _ _ _ _ _); (first | refine awp_seq ?_ | refine awp_block ?_ | refine awp_skip ?_ | refine awp_exit ?_ | refine awp_scope ?_ | refine awp_label ?_ | refine awp_run ty_ok rfl sdm ?_ | refine awp_ret ⟨_, _, rfl, rfl, ?_⟩ | refine awp_ret ⟨_, rfl, ?_⟩ | ((refine awp_cond (ty := ty) rfl (fun hc => ?_) (fun hc => ?_)) <;> (try simp only [nms, reduceCtorEq] at hc) <;> (try (exfalso; omega))))) | ((with_reducible show AOps _ _ _ _ _ _); (first | refine aops_nil ?_ | refine aops_go ty_ok rfl rfl sdm ?_ | refine aops_gate ty_ok rfl rfl rfl sdm ?_ | refine aops_callE (ty := ty) rfl rfl rfl rfl rfl rfl rfl (c_awake22) rfl ?_ | refine aops_callE (ty := ty) rfl rfl rfl rfl rfl rfl rfl (hcf) rfl ?_ | refine aops_callE (ty := ty) rfl rfl rfl rfl rfl rfl rfl (hm) rfl ?_ | refine aops_litE ty_ok rfl rfl rfl rfl rfl rfl rfl rfl rfl rfl rfl rfl ?_ | refine aops_litA ty_ok rfl rfl rfl rfl rfl rfl rfl rfl rfl rfl rfl rfl rfl rfl rfl rfl ?_ | refine aops_buildArr ty_ok rfl rfl rfl rfl rfl rfl rfl rfl rfl rfl ?_ | refine aops_indexArr ty_ok rfl rfl rfl rfl rfl rfl rfl rfl rfl rfl sdm ?_ | refine aops_lit0 ty_ok rfl rfl rfl rfl rfl rfl rfl ?_ | refine aops_field ty_ok rfl rfl rfl rfl rfl rfl rfl rfl rfl rfl ?_ | refine aops_cutE ty_ok rfl rfl rfl rfl rfl rfl rfl rfl rfl sdm rfl ?_ | ((fail_if_success (refine aops_known rfl ?_)); (refine aops_split ty_ok rfl rfl rfl rfl rfl rfl (fun hc => ⟨?_, ?_⟩) (fun hc => ⟨?_, ?_⟩)) <;> (try simp only [nms, reduceCtorEq] at hc) <;> (try (exfalso; omega)) <;> (try exact sdm)))) | ((fail_if_success (with_reducible show AWp _ _ _ _ _)); (fail_if_success (with_reducible show AOps _ _ _ _ _ _)); (first | (show AWp _ _ _ _ _) | (show AOps _ _ _ _ _ _))))
        rw [hm2]
        repeat' (first | ((with_reducible show AWp _ _ _ _ _); (first | refine awp_seq ?_ | refine awp_block ?_ | refine awp_skip ?_ | refine awp_exit ?_ | refine awp_scope ?_ | refine awp_label ?_ | refine awp_run ty_ok rfl sdm ?_ | refine awp_ret ⟨_, _, rfl, rfl, ?_⟩ | refine awp_ret ⟨_, rfl, ?_⟩ | ((refine awp_cond (ty := ty) rfl (fun hc => ?_) (fun hc => ?_)) <;> (try simp only [nms, reduceCtorEq] at hc) <;> (try (exfalso; omega))))) | ((with_reducible show AOps _ _ _ _ _ _); (first | refine aops_nil ?_ | refine aops_go ty_ok rfl rfl sdm ?_ | refine aops_gate ty_ok rfl rfl rfl sdm ?_ | refine aops_litE ty_ok rfl rfl rfl rfl rfl rfl rfl rfl rfl rfl rfl rfl ?_ | refine aops_litA ty_ok rfl rfl rfl rfl rfl rfl rfl rfl rfl rfl rfl rfl rfl rfl rfl rfl ?_ | refine aops_buildArr ty_ok rfl rfl rfl rfl rfl rfl rfl rfl rfl rfl ?_ | refine aops_indexArr ty_ok rfl rfl rfl rfl rfl rfl rfl rfl rfl rfl sdm ?_ | refine aops_lit0 ty_ok rfl rfl rfl rfl rfl rfl rfl ?_ | refine aops_field ty_ok rfl rfl rfl rfl rfl rfl rfl rfl rfl rfl ?_ | refine aops_cutE ty_ok rfl rfl rfl rfl rfl rfl rfl rfl rfl sdm rfl ?_ | ((fail_if_success (refine aops_known rfl ?_)); (refine aops_split ty_ok rfl rfl rfl rfl rfl rfl (fun hc => ⟨?_, ?_⟩) (fun hc => ⟨?_, ?_⟩)) <;> (try simp only [nms, reduceCtorEq] at hc) <;> (try (exfalso; omega)) <;> (try exact sdm)))) | ((fail_if_success (with_reducible show AWp _ _ _ _ _)); (fail_if_success (with_reducible show AOps _ _ _ _ _ _)); (first | (show AWp _ _ _ _ _) | (show AOps _ _ _ _ _ _))))
        rw [set_at]
        repeat' (first | ((with_reducible show AWp _ _ _ _ _); (first | refine awp_seq ?_ | refine awp_block ?_ | refine awp_skip ?_ | refine awp_exit ?_ | refine awp_scope ?_ | refine awp_label ?_ | refine awp_run ty_ok rfl sdm ?_ | refine awp_ret ⟨_, _, rfl, rfl, ?_⟩ | refine awp_ret ⟨_, rfl, ?_⟩ | ((refine awp_cond (ty := ty) rfl (fun hc => ?_) (fun hc => ?_)) <;> (try simp only [nms, reduceCtorEq] at hc) <;> (try (exfalso; omega))))) | ((with_reducible show AOps _ _ _ _ _ _); (first | refine aops_nil ?_ | refine aops_go ty_ok rfl rfl sdm ?_ | refine aops_gate ty_ok rfl rfl rfl sdm ?_ | refine aops_callE (ty := ty) rfl rfl rfl rfl rfl rfl rfl (h5) rfl ?_ | refine aops_callE (ty := ty) rfl rfl rfl rfl rfl rfl rfl (h7) rfl ?_ | refine aops_callE (ty := ty) rfl rfl rfl rfl rfl rfl rfl (hw) rfl ?_ | refine aops_litE ty_ok rfl rfl rfl rfl rfl rfl rfl rfl rfl rfl rfl rfl ?_ | refine aops_litA ty_ok rfl rfl rfl rfl rfl rfl rfl rfl rfl rfl rfl rfl rfl rfl rfl rfl ?_ | refine aops_buildArr ty_ok rfl rfl rfl rfl rfl rfl rfl rfl rfl rfl ?_ | refine aops_indexArr ty_ok rfl rfl rfl rfl rfl rfl rfl rfl rfl rfl sdm ?_ | refine aops_lit0 ty_ok rfl rfl rfl rfl rfl rfl rfl ?_ | refine aops_field ty_ok rfl rfl rfl rfl rfl rfl rfl rfl rfl rfl ?_ | refine aops_cutE ty_ok rfl rfl rfl rfl rfl rfl rfl rfl rfl sdm rfl ?_ | ((fail_if_success (refine aops_known rfl ?_)); (refine aops_split ty_ok rfl rfl rfl rfl rfl rfl (fun hc => ⟨?_, ?_⟩) (fun hc => ⟨?_, ?_⟩)) <;> (try simp only [nms, reduceCtorEq] at hc) <;> (try (exfalso; omega)) <;> (try exact sdm)))) | ((fail_if_success (with_reducible show AWp _ _ _ _ _)); (fail_if_success (with_reducible show AOps _ _ _ _ _ _)); (first | (show AWp _ _ _ _ _) | (show AOps _ _ _ _ _ _))))
        · rfl
        · rw [hold] at hc
          exact absurd (u8_ext (by omega)) hne
      | ok w =>
        obtain ⟨g1, g2, g3⟩ := xl_ok hp
        obtain ⟨_, sw⟩ := xl_len g1 (by rw [← g2]; omega)
        have h5 := c_xlparse_at _ (by omega) hp
        have h6 := c_xlmar_ok w sw g1
        have h7 := c_bexts (envL.at 0) w v sw rfl
        repeat' (first | ((with_reducible show AWp _ _ _ _ _); (first | refine awp_seq ?_ | refine awp_block ?_ | refine awp_skip ?_ | refine awp_exit ?_ | refine awp_scope ?_ | refine awp_label ?_ | refine awp_run ty_ok rfl sdm ?_ | refine awp_ret ⟨_, _, rfl, rfl, ?_⟩ | refine awp_ret ⟨_, rfl, ?_⟩ | ((refine awp_cond (ty := ty) rfl (fun hc => ?_) (fun hc => ?_)) <;> (try simp only [nms, reduceCtorEq] at hc) <;> (try (exfalso; omega))))) | ((with_reducible show AOps _ _ _ _ _ _); (first | refine aops_nil ?_ | refine aops_go ty_ok rfl rfl sdm ?_ | refine aops_gate ty_ok rfl rfl rfl sdm ?_ | refine aops_callE (ty := ty) rfl rfl rfl rfl rfl rfl rfl (c_awake22) rfl ?_ | refine aops_callE (ty := ty) rfl rfl rfl rfl rfl rfl rfl (hcf) rfl ?_ | refine aops_callE (ty := ty) rfl rfl rfl rfl rfl rfl rfl (hm) rfl ?_ | refine aops_litE ty_ok rfl rfl rfl rfl rfl rfl rfl rfl rfl rfl rfl rfl ?_ | refine aops_litA ty_ok rfl rfl rfl rfl rfl rfl rfl rfl rfl rfl rfl rfl rfl rfl rfl rfl ?_ | refine aops_buildArr ty_ok rfl rfl rfl rfl rfl rfl rfl rfl rfl rfl ?_ | refine aops_indexArr ty_ok rfl rfl rfl rfl rfl rfl rfl rfl rfl rfl sdm ?_ | refine aops_lit0 ty_ok rfl rfl rfl rfl rfl rfl rfl ?_ | refine aops_field ty_ok rfl rfl rfl rfl rfl rfl rfl rfl rfl rfl ?_ | refine aops_cutE ty_ok rfl rfl rfl rfl rfl rfl rfl rfl rfl sdm rfl ?_ | ((fail_if_success (refine aops_known rfl ?_)); (refine aops_split ty_ok rfl rfl rfl rfl rfl rfl (fun hc => ⟨?_, ?_⟩) (fun hc => ⟨?_, ?_⟩)) <;> (try simp only [nms, reduceCtorEq] at hc) <;> (try (exfalso; omega)) <;> (try exact sdm)))) | ((fail_if_success (with_reducible show AWp _ _ _ _ _)); (fail_if_success (with_reducible show AOps _ _ _ _ _ _)); (first | (show AWp _ _ _ _ _) | (show AOps _ _ _ _ _ _))))
        rw [hm2]
        repeat' (first | ((with_reducible show AWp _ _ _ _ _); (first | refine awp_seq ?_ | refine awp_block ?_ | refine awp_skip ?_ | refine awp_exit ?_ | refine awp_scope ?_ | refine awp_label ?_ | refine awp_run ty_ok rfl sdm ?_ | refine awp_ret ⟨_, _, rfl, rfl, ?_⟩ | refine awp_ret ⟨_, rfl, ?_⟩ | ((refine awp_cond (ty := ty) rfl (fun hc => ?_) (fun hc => ?_)) <;> (try simp only [nms, reduceCtorEq] at hc) <;> (try (exfalso; omega))))) | ((with_reducible show AOps _ _ _ _ _ _); (first | refine aops_nil ?_ | refine aops_go ty_ok rfl rfl sdm ?_ | refine aops_gate ty_ok rfl rfl rfl sdm ?_ | refine aops_litE ty_ok rfl rfl rfl rfl rfl rfl rfl rfl rfl rfl rfl rfl ?_ | refine aops_litA ty_ok rfl rfl rfl rfl rfl rfl rfl rfl rfl rfl rfl rfl rfl rfl rfl rfl ?_ | refine aops_buildArr ty_ok rfl rfl rfl rfl rfl rfl rfl rfl rfl rfl ?_ | refine aops_indexArr ty_ok rfl rfl rfl rfl rfl rfl rfl rfl rfl rfl sdm ?_ | refine aops_lit0 ty_ok rfl rfl rfl rfl rfl rfl rfl ?_ | refine aops_field ty_ok rfl rfl rfl rfl rfl rfl rfl rfl rfl rfl ?_ | refine aops_cutE ty_ok rfl rfl rfl rfl rfl rfl rfl rfl rfl sdm rfl ?_ | ((fail_if_success (refine aops_known rfl ?_)); (refine aops_split ty_ok rfl rfl rfl rfl rfl rfl (fun hc => ⟨?_, ?_⟩) (fun hc => ⟨?_, ?_⟩)) <;> (try simp only [nms, reduceCtorEq] at hc) <;> (try (exfalso; omega)) <;> (try exact sdm)))) | ((fail_if_success (with_reducible show AWp _ _ _ _ _)); (fail_if_success (with_reducible show AOps _ _ _ _ _ _)); (first | (show AWp _ _ _ _ _) | (show AOps _ _ _ _ _ _))))
        rw [set_at]
        repeat' (first | ((with_reducible show AWp _ _ _ _ _); (first | refine awp_seq ?_ | refine awp_block ?_ | refine awp_skip ?_ | refine awp_exit ?_ | refine awp_scope ?_ | refine awp_label ?_ | refine awp_run ty_ok rfl sdm ?_ | refine awp_ret ⟨_, _, rfl, rfl, ?_⟩ | refine awp_ret ⟨_, rfl, ?_⟩ | ((refine awp_cond (ty := ty) rfl (fun hc => ?_) (fun hc => ?_)) <;> (try simp only [nms, reduceCtorEq] at hc) <;> (try (exfalso; omega))))) | ((with_reducible show AOps _ _ _ _ _ _); (first | refine aops_nil ?_ | refine aops_go ty_ok rfl rfl sdm ?_ | refine aops_gate ty_ok rfl rfl rfl sdm ?_ | refine aops_callE (ty := ty) rfl rfl rfl rfl rfl rfl rfl (h5) rfl ?_ | refine aops_callE (ty := ty) rfl rfl rfl rfl rfl rfl rfl (h6) rfl ?_ | refine aops_callE (ty := ty) rfl rfl rfl rfl rfl rfl rfl (c_bytes_eq _ (xlF w) (L.set m x) g2.symm) rfl ?_ | refine aops_callE (ty := ty) rfl rfl rfl rfl rfl rfl rfl (h7) rfl ?_ | refine aops_litE ty_ok rfl rfl rfl rfl rfl rfl rfl rfl rfl rfl rfl rfl ?_ | refine aops_litA ty_ok rfl rfl rfl rfl rfl rfl rfl rfl rfl rfl rfl rfl rfl rfl rfl rfl ?_ | refine aops_buildArr ty_ok rfl rfl rfl rfl rfl rfl rfl rfl rfl rfl ?_ | refine aops_indexArr ty_ok rfl rfl rfl rfl rfl rfl rfl rfl rfl rfl sdm ?_ | refine aops_lit0 ty_ok rfl rfl rfl rfl rfl rfl rfl ?_ | refine aops_field ty_ok rfl rfl rfl rfl rfl rfl rfl rfl rfl rfl ?_ | refine aops_cutE ty_ok rfl rfl rfl rfl rfl rfl rfl rfl rfl sdm rfl ?_ | ((fail_if_success (refine aops_known rfl ?_)); (refine aops_split ty_ok rfl rfl rfl rfl rfl rfl (fun hc => ⟨?_, ?_⟩) (fun hc => ⟨?_, ?_⟩)) <;> (try simp only [nms, reduceCtorEq] at hc) <;> (try (exfalso; omega)) <;> (try exact sdm)))) | ((fail_if_success (with_reducible show AWp _ _ _ _ _)); (fail_if_success (with_reducible show AOps _ _ _ _ _ _)); (first | (show AWp _ _ _ _ _) | (show AOps _ _ _ _ _ _))))
        rw [hold, byte_eq]
        have hiff : (w = v) ↔ x = L[m] := by
          rw [← hset, g2, ← hL]
          constructor
          · intro h
            rw [h]
          · intro h
            exact xl_inj g1 hv (by rw [h, hL]; omega) h
        by_cases h : x = L[m]
        · rw [decide_eq_true h, decide_eq_true (hiff.2 h)]
          rfl
        · rw [decide_eq_false h, decide_eq_false (fun e => h (hiff.1 e))]
          rfl
end Go.Proofs.YtmciaonjkkelnaaDoor

/- The laws Marshals, Parses, Changes and Ends of extensions, walked by the abstract machine. -/
namespace Go.Proofs.YtmciaonjkkelnaaDoor
open Go.Am
set_option linter.unusedSimpArgs false
set_option linter.unusedVariables false
-- withAmZ withAmMp

/-- A proper beginning is not parsed. -/
theorem x_pre {v : Ext} (hl : (exBd v).length ≤ 2147483647) {m : Nat} (hm : m < (exF v).length) : ∃ c o, exP ((exF v).take m) = .bad c o ∧ 0 < c := by
  cases hp : exP ((exF v).take m) with
  | bad c o => exact ⟨c, o, rfl, (ex_bad hp).1⟩
  | ok w =>
    exfalso
    obtain ⟨_, g2, g3⟩ := ex_ok hp
    have g3' : (exBd w).length ≤ 2147483647 := g3
    have e : putF 48 (exBd w) ++ (exF v).drop m = putF 48 (exBd v) ++ [] := by
      show exF w ++ (exF v).drop m = exF v ++ []
      rw [List.append_nil, ← g2, List.take_append_drop]
    have g6 := put_inj (by decide) g3' (by decide) hl e
    have g7 := congrArg List.length g6.2.2
    rw [List.length_drop] at g7
    simp only [List.length_nil] at g7
    omega
theorem x_more {v : Ext} (hl : (exBd v).length ≤ 2147483647) {q : List UInt8} (hq : q ≠ []) : ∃ c o, exP (exF v ++ q) = .bad c o ∧ 0 < c := by
  cases hp : exP (exF v ++ q) with
  | bad c o => exact ⟨c, o, rfl, (ex_bad hp).1⟩
  | ok w =>
    exfalso
    obtain ⟨_, g2, g3⟩ := ex_ok hp
    have g3' : (exBd w).length ≤ 2147483647 := g3
    have g2' : putF 48 (exBd v) ++ q = putF 48 (exBd w) ++ [] := by rw [List.append_nil]; exact g2
    exact hq (put_inj (by decide) hl (by decide) g3' g2').2.2
theorem isLChangesx : IsFn Tryd.prog 6 Tryd.f6 := ⟨Tryd.func6, by decide, rfl⟩
set_option maxHeartbeats 2000000 in
theorem l_xchanges (v : Ext) (p : Int) (x : UInt8) (h0 : 0 ≤ p) (h1 : p ≤ 65535) : ACalls Tryd.prog envL 6 [xD v, .int .u16 p, .int .u8 x.toNat] (fun r => r = .d (.bool true)) := by
  refine acalls_of ty_ok isLChangesx rfl rfl ?_
  cases hf : fewX v with
  | false =>
    have hcf := c_rxfew (envL.at 0) v hf
    repeat' (first | ((with_reducible show AWp _ _ _ _ _); (first | refine awp_seq ?_ | refine awp_block ?_ | refine awp_skip ?_ | refine awp_exit ?_ | refine awp_scope ?_ | refine awp_label ?_ | refine awp_run ty_ok rfl sdm ?_ | refine awp_ret ⟨_, _, rfl, rfl, ?_⟩ | refine awp_ret ⟨_, rfl, ?_⟩ | ((refine awp_cond (ty := ty) rfl (fun hc => ?_) (fun hc => ?_)) <;> (try simp only [nms, reduceCtorEq] at hc) <;> (try (exfalso; omega))))) | ((with_reducible show AOps _ _ _ _ _ _); (first | refine aops_nil ?_ | refine aops_go ty_ok rfl rfl sdm ?_ | refine aops_gate ty_ok rfl rfl rfl sdm ?_ | refine aops_callE (ty := ty) rfl rfl rfl rfl rfl rfl rfl (c_awake22) rfl ?_ | refine aops_callE (ty := ty) rfl rfl rfl rfl rfl rfl rfl (hcf) rfl ?_ | refine aops_litE ty_ok rfl rfl rfl rfl rfl rfl rfl rfl rfl rfl rfl rfl ?_ | refine aops_litA ty_ok rfl rfl rfl rfl rfl rfl rfl rfl rfl rfl rfl rfl rfl rfl rfl rfl ?_ | refine aops_buildArr ty_ok rfl rfl rfl rfl rfl rfl rfl rfl rfl rfl ?_ | refine aops_indexArr ty_ok rfl rfl rfl rfl rfl rfl rfl rfl rfl rfl sdm ?_ | refine aops_lit0 ty_ok rfl rfl rfl rfl rfl rfl rfl ?_ | refine aops_field ty_ok rfl rfl rfl rfl rfl rfl rfl rfl rfl rfl ?_ | refine aops_cutE ty_ok rfl rfl rfl rfl rfl rfl rfl rfl rfl sdm rfl ?_ | ((fail_if_success (refine aops_known rfl ?_)); (refine aops_split ty_ok rfl rfl rfl rfl rfl rfl (fun hc => ⟨?_, ?_⟩) (fun hc => ⟨?_, ?_⟩)) <;> (try simp only [nms, reduceCtorEq] at hc) <;> (try (exfalso; omega)) <;> (try exact sdm)))) | ((fail_if_success (with_reducible show AWp _ _ _ _ _)); (fail_if_success (with_reducible show AOps _ _ _ _ _ _)); (first | (show AWp _ _ _ _ _) | (show AOps _ _ _ _ _ _))))
    all_goals rfl
  | true =>
    obtain ⟨s, e1, e2, e3⟩ := x_small hf
    have hcf := c_rxfew (envL.at 0) v hf
    cases hv : exV v with
    | false =>
      have hm := c_xmar_bad v s hv
      repeat' (first | ((with_reducible show AWp _ _ _ _ _); (first | refine awp_seq ?_ | refine awp_block ?_ | refine awp_skip ?_ | refine awp_exit ?_ | refine awp_scope ?_ | refine awp_label ?_ | refine awp_run ty_ok rfl sdm ?_ | refine awp_ret ⟨_, _, rfl, rfl, ?_⟩ | refine awp_ret ⟨_, rfl, ?_⟩ | ((refine awp_cond (ty := ty) rfl (fun hc => ?_) (fun hc => ?_)) <;> (try simp only [nms, reduceCtorEq] at hc) <;> (try (exfalso; omega))))) | ((with_reducible show AOps _ _ _ _ _ _); (first | refine aops_nil ?_ | refine aops_go ty_ok rfl rfl sdm ?_ | refine aops_gate ty_ok rfl rfl rfl sdm ?_ | refine aops_callE (ty := ty) rfl rfl rfl rfl rfl rfl rfl (c_awake22) rfl ?_ | refine aops_callE (ty := ty) rfl rfl rfl rfl rfl rfl rfl (hcf) rfl ?_ | refine aops_callE (ty := ty) rfl rfl rfl rfl rfl rfl rfl (hm) rfl ?_ | refine aops_litE ty_ok rfl rfl rfl rfl rfl rfl rfl rfl rfl rfl rfl rfl ?_ | refine aops_litA ty_ok rfl rfl rfl rfl rfl rfl rfl rfl rfl rfl rfl rfl rfl rfl rfl rfl ?_ | refine aops_buildArr ty_ok rfl rfl rfl rfl rfl rfl rfl rfl rfl rfl ?_ | refine aops_indexArr ty_ok rfl rfl rfl rfl rfl rfl rfl rfl rfl rfl sdm ?_ | refine aops_lit0 ty_ok rfl rfl rfl rfl rfl rfl rfl ?_ | refine aops_field ty_ok rfl rfl rfl rfl rfl rfl rfl rfl rfl rfl ?_ | refine aops_cutE ty_ok rfl rfl rfl rfl rfl rfl rfl rfl rfl sdm rfl ?_ | ((fail_if_success (refine aops_known rfl ?_)); (refine aops_split ty_ok rfl rfl rfl rfl rfl rfl (fun hc => ⟨?_, ?_⟩) (fun hc => ⟨?_, ?_⟩)) <;> (try simp only [nms, reduceCtorEq] at hc) <;> (try (exfalso; omega)) <;> (try exact sdm)))) | ((fail_if_success (with_reducible show AWp _ _ _ _ _)); (fail_if_success (with_reducible show AOps _ _ _ _ _ _)); (first | (show AWp _ _ _ _ _) | (show AOps _ _ _ _ _ _))))
      all_goals rfl
    | true =>
      obtain ⟨L, hL⟩ : ∃ L, exF v = L := ⟨_, rfl⟩
      have hm := c_xmar_ok v s hv
      rw [hL] at e2 e3 hm
      obtain ⟨m, hm1, hm2⟩ := mod_at p L h0 h1 e3
      have hset := set_same L m x hm1
      have hold := old_at L m hm1
      have hsl : (L.set m x).length = L.length := List.length_set
      cases hp : exP (L.set m x) with
      | bad c o =>
        obtain ⟨g1, g2⟩ := ex_bad hp
        have hw := c_within_bad (envL.at 0) c o _ g1 g2
        rw [← bys_len] at hw
        have hne : x ≠ L[m] := fun e => by
          rw [hset.2 e, ← hL, ex_of hv e1] at hp
          cases hp
        have h5 := c_xparse_at _ (by omega) hp
        have h7 := c_bext (envL.at 0) x0 x0 (decide_eq_true rfl)
        repeat' (first | ((with_reducible show AWp _ _ _ _ _); (first | refine awp_seq ?_ | refine awp_block ?_ | refine awp_skip ?_ | refine awp_exit ?_ | refine awp_scope ?_ | refine awp_label ?_ | refine awp_run ty_ok rfl sdm ?_ | refine awp_ret ⟨_, _, rfl, rfl, ?_⟩ | refine awp_ret ⟨_, rfl, ?_⟩ | ((refine awp_cond (ty := ty) rfl (fun hc => ?_) (fun hc => ?_)) <;> (try simp only [nms, reduceCtorEq] at hc) <;> (try (exfalso; omega))))) | ((with_reducible show AOps _ _ _ _ _ _); (first | refine aops_nil ?_ | refine aops_go ty_ok rfl rfl sdm ?_ | refine aops_gate ty_ok rfl rfl rfl sdm ?_ | refine aops_callE (ty := ty) rfl rfl rfl rfl rfl rfl rfl (c_awake22) rfl ?_ | refine aops_callE (ty := ty) rfl rfl rfl rfl rfl rfl rfl (hcf) rfl ?_ | refine aops_callE (ty := ty) rfl rfl rfl rfl rfl rfl rfl (hm) rfl ?_ | refine aops_litE ty_ok rfl rfl rfl rfl rfl rfl rfl rfl rfl rfl rfl rfl ?_ | refine aops_litA ty_ok rfl rfl rfl rfl rfl rfl rfl rfl rfl rfl rfl rfl rfl rfl rfl rfl ?_ | refine aops_buildArr ty_ok rfl rfl rfl rfl rfl rfl rfl rfl rfl rfl ?_ | refine aops_indexArr ty_ok rfl rfl rfl rfl rfl rfl rfl rfl rfl rfl sdm ?_ | refine aops_lit0 ty_ok rfl rfl rfl rfl rfl rfl rfl ?_ | refine aops_field ty_ok rfl rfl rfl rfl rfl rfl rfl rfl rfl rfl ?_ | refine aops_cutE ty_ok rfl rfl rfl rfl rfl rfl rfl rfl rfl sdm rfl ?_ | ((fail_if_success (refine aops_known rfl ?_)); (refine aops_split ty_ok rfl rfl rfl rfl rfl rfl (fun hc => ⟨?_, ?_⟩) (fun hc => ⟨?_, ?_⟩)) <;> (try simp only [nms, reduceCtorEq] at hc) <;> (try (exfalso; omega)) <;> (try exact sdm)))) | ((fail_if_success (with_reducible show AWp _ _ _ _ _)); (fail_if_success (with_reducible show AOps _ _ _ _ _ _)); (first | (show AWp _ _ _ _ _) | (show AOps _ _ _ _ _ _))))
        rw [hm2]
        repeat' (first | ((with_reducible show AWp _ _ _ _ _); (first | refine awp_seq ?_ | refine awp_block ?_ | refine awp_skip ?_ | refine awp_exit ?_ | refine awp_scope ?_ | refine awp_label ?_ | refine awp_run ty_ok rfl sdm ?_ | refine awp_ret ⟨_, _, rfl, rfl, ?_⟩ | refine awp_ret ⟨_, rfl, ?_⟩ | ((refine awp_cond (ty := ty) rfl (fun hc => ?_) (fun hc => ?_)) <;> (try simp only [nms, reduceCtorEq] at hc) <;> (try (exfalso; omega))))) | ((with_reducible show AOps _ _ _ _ _ _); (first | refine aops_nil ?_ | refine aops_go ty_ok rfl rfl sdm ?_ | refine aops_gate ty_ok rfl rfl rfl sdm ?_ | refine aops_litE ty_ok rfl rfl rfl rfl rfl rfl rfl rfl rfl rfl rfl rfl ?_ | refine aops_litA ty_ok rfl rfl rfl rfl rfl rfl rfl rfl rfl rfl rfl rfl rfl rfl rfl rfl ?_ | refine aops_buildArr ty_ok rfl rfl rfl rfl rfl rfl rfl rfl rfl rfl ?_ | refine aops_indexArr ty_ok rfl rfl rfl rfl rfl rfl rfl rfl rfl rfl sdm ?_ | refine aops_lit0 ty_ok rfl rfl rfl rfl rfl rfl rfl ?_ | refine aops_field ty_ok rfl rfl rfl rfl rfl rfl rfl rfl rfl rfl ?_ | refine aops_cutE ty_ok rfl rfl rfl rfl rfl rfl rfl rfl rfl sdm rfl ?_ | ((fail_if_success (refine aops_known rfl ?_)); (refine aops_split ty_ok rfl rfl rfl rfl rfl rfl (fun hc => ⟨?_, ?_⟩) (fun hc => ⟨?_, ?_⟩)) <;> (try simp only [nms, reduceCtorEq] at hc) <;> (try (exfalso; omega)) <;> (try exact sdm)))) | ((fail_if_success (with_reducible show AWp _ _ _ _ _)); (fail_if_success (with_reducible show AOps _ _ _ _ _ _)); (first | (show AWp _ _ _ _ _) | (show AOps _ _ _ _ _ _))))
        rw [set_at]
        repeat' (first | ((with_reducible show AWp _ _ _ _ _); (first | refine awp_seq ?_ | refine awp_block ?_ | refine awp_skip ?_ | refine awp_exit ?_ | refine awp_scope ?_ | refine awp_label ?_ | refine awp_run ty_ok rfl sdm ?_ | refine awp_ret ⟨_, _, rfl, rfl, ?_⟩ | refine awp_ret ⟨_, rfl, ?_⟩ | ((refine awp_cond (ty := ty) rfl (fun hc => ?_) (fun hc => ?_)) <;> (try simp only [nms, reduceCtorEq] at hc) <;> (try (exfalso; omega))))) | ((with_reducible show AOps _ _ _ _ _ _); (first | refine aops_nil ?_ | refine aops_go ty_ok rfl rfl sdm ?_ | refine aops_gate ty_ok rfl rfl rfl sdm ?_ | refine aops_callE (ty := ty) rfl rfl rfl rfl rfl rfl rfl (h5) rfl ?_ | refine aops_callE (ty := ty) rfl rfl rfl rfl rfl rfl rfl (h7) rfl ?_ | refine aops_callE (ty := ty) rfl rfl rfl rfl rfl rfl rfl (hw) rfl ?_ | refine aops_litE ty_ok rfl rfl rfl rfl rfl rfl rfl rfl rfl rfl rfl rfl ?_ | refine aops_litA ty_ok rfl rfl rfl rfl rfl rfl rfl rfl rfl rfl rfl rfl rfl rfl rfl rfl ?_ | refine aops_buildArr ty_ok rfl rfl rfl rfl rfl rfl rfl rfl rfl rfl ?_ | refine aops_indexArr ty_ok rfl rfl rfl rfl rfl rfl rfl rfl rfl rfl sdm ?_ | refine aops_lit0 ty_ok rfl rfl rfl rfl rfl rfl rfl ?_ | refine aops_field ty_ok rfl rfl rfl rfl rfl rfl rfl rfl rfl rfl ?_ | refine aops_cutE ty_ok rfl rfl rfl rfl rfl rfl rfl rfl rfl sdm rfl ?_ | ((fail_if_success (refine aops_known rfl ?_)); (refine aops_split ty_ok rfl rfl rfl rfl rfl rfl (fun hc => ⟨?_, ?_⟩) (fun hc => ⟨?_, ?_⟩)) <;> (try simp only [nms, reduceCtorEq] at hc) <;> (try (exfalso; omega)) <;> (try exact sdm)))) | ((fail_if_success (with_reducible show AWp _ _ _ _ _)); (fail_if_success (with_reducible show AOps _ _ _ _ _ _)); (first | (show AWp _ _ _ _ _) | (show AOps _ _ _ _ _ _))))
        · rfl
        · rw [hold] at hc
          exact absurd (u8_ext (by omega)) hne
      | ok w =>
        obtain ⟨g1, g2, g3⟩ := ex_ok hp
        obtain ⟨_, sw⟩ := x_len g1 (by rw [← g2]; omega)
        have h5 := c_xparse_at _ (by omega) hp
        have h6 := c_xmar_ok w sw g1
        have h7 := c_bext (envL.at 0) w v rfl
        repeat' (first | ((with_reducible show AWp _ _ _ _ _); (first | refine awp_seq ?_ | refine awp_block ?_ | refine awp_skip ?_ | refine awp_exit ?_ | refine awp_scope ?_ | refine awp_label ?_ | refine awp_run ty_ok rfl sdm ?_ | refine awp_ret ⟨_, _, rfl, rfl, ?_⟩ | refine awp_ret ⟨_, rfl, ?_⟩ | ((refine awp_cond (ty := ty) rfl (fun hc => ?_) (fun hc => ?_)) <;> (try simp only [nms, reduceCtorEq] at hc) <;> (try (exfalso; omega))))) | ((with_reducible show AOps _ _ _ _ _ _); (first | refine aops_nil ?_ | refine aops_go ty_ok rfl rfl sdm ?_ | refine aops_gate ty_ok rfl rfl rfl sdm ?_ | refine aops_callE (ty := ty) rfl rfl rfl rfl rfl rfl rfl (c_awake22) rfl ?_ | refine aops_callE (ty := ty) rfl rfl rfl rfl rfl rfl rfl (hcf) rfl ?_ | refine aops_callE (ty := ty) rfl rfl rfl rfl rfl rfl rfl (hm) rfl ?_ | refine aops_litE ty_ok rfl rfl rfl rfl rfl rfl rfl rfl rfl rfl rfl rfl ?_ | refine aops_litA ty_ok rfl rfl rfl rfl rfl rfl rfl rfl rfl rfl rfl rfl rfl rfl rfl rfl ?_ | refine aops_buildArr ty_ok rfl rfl rfl rfl rfl rfl rfl rfl rfl rfl ?_ | refine aops_indexArr ty_ok rfl rfl rfl rfl rfl rfl rfl rfl rfl rfl sdm ?_ | refine aops_lit0 ty_ok rfl rfl rfl rfl rfl rfl rfl ?_ | refine aops_field ty_ok rfl rfl rfl rfl rfl rfl rfl rfl rfl rfl ?_ | refine aops_cutE ty_ok rfl rfl rfl rfl rfl rfl rfl rfl rfl sdm rfl ?_ | ((fail_if_success (refine aops_known rfl ?_)); (refine aops_split ty_ok rfl rfl rfl rfl rfl rfl (fun hc => ⟨?_, ?_⟩) (fun hc => ⟨?_, ?_⟩)) <;> (try simp only [nms, reduceCtorEq] at hc) <;> (try (exfalso; omega)) <;> (try exact sdm)))) | ((fail_if_success (with_reducible show AWp _ _ _ _ _)); (fail_if_success (with_reducible show AOps _ _ _ _ _ _)); (first | (show AWp _ _ _ _ _) | (show AOps _ _ _ _ _ _))))
        rw [hm2]
        repeat' (first | ((with_reducible show AWp _ _ _ _ _); (first | refine awp_seq ?_ | refine awp_block ?_ | refine awp_skip ?_ | refine awp_exit ?_ | refine awp_scope ?_ | refine awp_label ?_ | refine awp_run ty_ok rfl sdm ?_ | refine awp_ret ⟨_, _, rfl, rfl, ?_⟩ | refine awp_ret ⟨_, rfl, ?_⟩ | ((refine awp_cond (ty := ty) rfl (fun hc => ?_) (fun hc => ?_)) <;> (try simp only [nms, reduceCtorEq] at hc) <;> (try (exfalso; omega))))) | ((with_reducible show AOps _ _ _ _ _ _); (first | refine aops_nil ?_ | refine aops_go ty_ok rfl rfl sdm ?_ | refine aops_gate ty_ok rfl rfl rfl sdm ?_ | refine aops_litE ty_ok rfl rfl rfl rfl rfl rfl rfl rfl rfl rfl rfl rfl ?_ | refine aops_litA ty_ok rfl rfl rfl rfl rfl rfl rfl rfl rfl rfl rfl rfl rfl rfl rfl rfl ?_ | refine aops_buildArr ty_ok rfl rfl rfl rfl rfl rfl rfl rfl rfl rfl ?_ | refine aops_indexArr ty_ok rfl rfl rfl rfl rfl rfl rfl rfl rfl rfl sdm ?_ | refine aops_lit0 ty_ok rfl rfl rfl rfl rfl rfl rfl ?_ | refine aops_field ty_ok rfl rfl rfl rfl rfl rfl rfl rfl rfl rfl ?_ | refine aops_cutE ty_ok rfl rfl rfl rfl rfl rfl rfl rfl rfl sdm rfl ?_ | ((fail_if_success (refine aops_known rfl ?_)); (refine aops_split ty_ok rfl rfl rfl rfl rfl rfl (fun hc => ⟨?_, ?_⟩) (fun hc => ⟨?_, ?_⟩)) <;> (try simp only [nms, reduceCtorEq] at hc) <;> (try (exfalso; omega)) <;> (try exact sdm)))) | ((fail_if_success (with_reducible show AWp _ _ _ _ _)); (fail_if_success (with_reducible show AOps _ _ _ _ _ _)); (first | (show AWp _ _ _ _ _) | (show AOps _ _ _ _ _ _))))
        rw [set_at]
        repeat' (first | ((with_reducible show AWp _ _ _ _ _); (first | refine awp_seq ?_ | refine awp_block ?_ | refine awp_skip ?_ | refine awp_exit ?_ | refine awp_scope ?_ | refine awp_label ?_ | refine awp_run ty_ok rfl sdm ?_ | refine awp_ret ⟨_, _, rfl, rfl, ?_⟩ | refine awp_ret ⟨_, rfl, ?_⟩ | ((refine awp_cond (ty := ty) rfl (fun hc => ?_) (fun hc => ?_)) <;> (try simp only [nms, reduceCtorEq] at hc) <;> (try (exfalso; omega))))) | ((with_reducible show AOps _ _ _ _ _ _); (first | refine aops_nil ?_ | refine aops_go ty_ok rfl rfl sdm ?_ | refine aops_gate ty_ok rfl rfl rfl sdm ?_ | refine aops_callE (ty := ty) rfl rfl rfl rfl rfl rfl rfl (h5) rfl ?_ | refine aops_callE (ty := ty) rfl rfl rfl rfl rfl rfl rfl (h6) rfl ?_ | refine aops_callE (ty := ty) rfl rfl rfl rfl rfl rfl rfl (c_bytes_eq _ (exF w) (L.set m x) g2.symm) rfl ?_ | refine aops_callE (ty := ty) rfl rfl rfl rfl rfl rfl rfl (h7) rfl ?_ | refine aops_litE ty_ok rfl rfl rfl rfl rfl rfl rfl rfl rfl rfl rfl rfl ?_ | refine aops_litA ty_ok rfl rfl rfl rfl rfl rfl rfl rfl rfl rfl rfl rfl rfl rfl rfl rfl ?_ | refine aops_buildArr ty_ok rfl rfl rfl rfl rfl rfl rfl rfl rfl rfl ?_ | refine aops_indexArr ty_ok rfl rfl rfl rfl rfl rfl rfl rfl rfl rfl sdm ?_ | refine aops_lit0 ty_ok rfl rfl rfl rfl rfl rfl rfl ?_ | refine aops_field ty_ok rfl rfl rfl rfl rfl rfl rfl rfl rfl rfl ?_ | refine aops_cutE ty_ok rfl rfl rfl rfl rfl rfl rfl rfl rfl sdm rfl ?_ | ((fail_if_success (refine aops_known rfl ?_)); (refine aops_split ty_ok rfl rfl rfl rfl rfl rfl (fun hc => ⟨?_, ?_⟩) (fun hc => ⟨?_, ?_⟩)) <;> (try simp only [nms, reduceCtorEq] at hc) <;> (try (exfalso; omega)) <;> (try exact sdm)))) | ((fail_if_success (with_reducible show AWp _ _ _ _ _)); (fail_if_success (with_reducible show AOps _ _ _ _ _ _)); (first | (show AWp _ _ _ _ _) | (show AOps _ _ _ _ _ _))))
        rw [hold, byte_eq]
        have hiff : (w = v) ↔ x = L[m] := by
          rw [← hset, g2, ← hL]
          constructor
          · intro h
            rw [h]
          · intro h
            exact ex_inj g1 hv (by rw [h, hL]; omega) h
        by_cases h : x = L[m]
        · rw [decide_eq_true h, decide_eq_true (hiff.2 h)]
          rfl
        · rw [decide_eq_false h, decide_eq_false (fun e => h (hiff.1 e))]
          rfl
theorem isLEndsx : IsFn Tryd.prog 7 Tryd.f7 := ⟨Tryd.func7, by decide, rfl⟩
set_option maxHeartbeats 2000000 in
theorem l_xends (v : Ext) (p : Int) (q : List UInt8) (h0 : 0 ≤ p) (h1 : p ≤ 65535) : ACalls Tryd.prog envL 7 [xD v, .int .u16 p, .sl none (bys q)] (fun r => r = .d (.bool true)) := by
  refine acalls_of ty_ok isLEndsx rfl rfl ?_
  cases hf : fewX v with
  | false =>
    have hcf := c_rxfew (envL.at 0) v hf
    repeat' (first | ((with_reducible show AWp _ _ _ _ _); (first | refine awp_seq ?_ | refine awp_block ?_ | refine awp_skip ?_ | refine awp_exit ?_ | refine awp_scope ?_ | refine awp_label ?_ | refine awp_run ty_ok rfl sdm ?_ | refine awp_ret ⟨_, _, rfl, rfl, ?_⟩ | refine awp_ret ⟨_, rfl, ?_⟩ | ((refine awp_cond (ty := ty) rfl (fun hc => ?_) (fun hc => ?_)) <;> (try simp only [nms, reduceCtorEq] at hc) <;> (try (exfalso; omega))))) | ((with_reducible show AOps _ _ _ _ _ _); (first | refine aops_nil ?_ | refine aops_go ty_ok rfl rfl sdm ?_ | refine aops_gate ty_ok rfl rfl rfl sdm ?_ | refine aops_callE (ty := ty) rfl rfl rfl rfl rfl rfl rfl (c_awake22) rfl ?_ | refine aops_callE (ty := ty) rfl rfl rfl rfl rfl rfl rfl (hcf) rfl ?_ | refine aops_litE ty_ok rfl rfl rfl rfl rfl rfl rfl rfl rfl rfl rfl rfl ?_ | refine aops_litA ty_ok rfl rfl rfl rfl rfl rfl rfl rfl rfl rfl rfl rfl rfl rfl rfl rfl ?_ | refine aops_buildArr ty_ok rfl rfl rfl rfl rfl rfl rfl rfl rfl rfl ?_ | refine aops_indexArr ty_ok rfl rfl rfl rfl rfl rfl rfl rfl rfl rfl sdm ?_ | refine aops_lit0 ty_ok rfl rfl rfl rfl rfl rfl rfl ?_ | refine aops_field ty_ok rfl rfl rfl rfl rfl rfl rfl rfl rfl rfl ?_ | refine aops_cutE ty_ok rfl rfl rfl rfl rfl rfl rfl rfl rfl sdm rfl ?_ | ((fail_if_success (refine aops_known rfl ?_)); (refine aops_split ty_ok rfl rfl rfl rfl rfl rfl (fun hc => ⟨?_, ?_⟩) (fun hc => ⟨?_, ?_⟩)) <;> (try simp only [nms, reduceCtorEq] at hc) <;> (try (exfalso; omega)) <;> (try exact sdm)))) | ((fail_if_success (with_reducible show AWp _ _ _ _ _)); (fail_if_success (with_reducible show AOps _ _ _ _ _ _)); (first | (show AWp _ _ _ _ _) | (show AOps _ _ _ _ _ _))))
    all_goals rfl
  | true =>
    have hcf := c_rxfew (envL.at 0) v hf
    by_cases hq : q.length ≤ 2000
    · obtain ⟨s, e1, e2, e3⟩ := x_small hf
      cases hv : exV v with
      | false =>
        have hm := c_xmar_bad v s hv
        repeat' (first | ((with_reducible show AWp _ _ _ _ _); (first | refine awp_seq ?_ | refine awp_block ?_ | refine awp_skip ?_ | refine awp_exit ?_ | refine awp_scope ?_ | refine awp_label ?_ | refine awp_run ty_ok rfl sdm ?_ | refine awp_ret ⟨_, _, rfl, rfl, ?_⟩ | refine awp_ret ⟨_, rfl, ?_⟩ | ((refine awp_cond (ty := ty) rfl (fun hc => ?_) (fun hc => ?_)) <;> (try simp only [nms, reduceCtorEq] at hc) <;> (try (exfalso; omega))))) | ((with_reducible show AOps _ _ _ _ _ _); (first | refine aops_nil ?_ | refine aops_go ty_ok rfl rfl sdm ?_ | refine aops_gate ty_ok rfl rfl rfl sdm ?_ | refine aops_callE (ty := ty) rfl rfl rfl rfl rfl rfl rfl (c_awake22) rfl ?_ | refine aops_callE (ty := ty) rfl rfl rfl rfl rfl rfl rfl (hcf) rfl ?_ | refine aops_callE (ty := ty) rfl rfl rfl rfl rfl rfl rfl (hm) rfl ?_ | refine aops_litE ty_ok rfl rfl rfl rfl rfl rfl rfl rfl rfl rfl rfl rfl ?_ | refine aops_litA ty_ok rfl rfl rfl rfl rfl rfl rfl rfl rfl rfl rfl rfl rfl rfl rfl rfl ?_ | refine aops_buildArr ty_ok rfl rfl rfl rfl rfl rfl rfl rfl rfl rfl ?_ | refine aops_indexArr ty_ok rfl rfl rfl rfl rfl rfl rfl rfl rfl rfl sdm ?_ | refine aops_lit0 ty_ok rfl rfl rfl rfl rfl rfl rfl ?_ | refine aops_field ty_ok rfl rfl rfl rfl rfl rfl rfl rfl rfl rfl ?_ | refine aops_cutE ty_ok rfl rfl rfl rfl rfl rfl rfl rfl rfl sdm rfl ?_ | ((fail_if_success (refine aops_known rfl ?_)); (refine aops_split ty_ok rfl rfl rfl rfl rfl rfl (fun hc => ⟨?_, ?_⟩) (fun hc => ⟨?_, ?_⟩)) <;> (try simp only [nms, reduceCtorEq] at hc) <;> (try (exfalso; omega)) <;> (try exact sdm)))) | ((fail_if_success (with_reducible show AWp _ _ _ _ _)); (fail_if_success (with_reducible show AOps _ _ _ _ _ _)); (first | (show AWp _ _ _ _ _) | (show AOps _ _ _ _ _ _))))
        all_goals rfl
      | true =>
        obtain ⟨L, hL⟩ : ∃ L, exF v = L := ⟨_, rfl⟩
        have hm := c_xmar_ok v s hv
        rw [hL] at e2 e3 hm
        have hmm := mod_at p L h0 h1 e3
        repeat' (first | ((with_reducible show AWp _ _ _ _ _); (first | refine awp_seq ?_ | refine awp_block ?_ | refine awp_skip ?_ | refine awp_exit ?_ | refine awp_scope ?_ | refine awp_label ?_ | refine awp_run ty_ok rfl sdm ?_ | refine awp_ret ⟨_, _, rfl, rfl, ?_⟩ | refine awp_ret ⟨_, rfl, ?_⟩ | ((refine awp_cond (ty := ty) rfl (fun hc => ?_) (fun hc => ?_)) <;> (try simp only [nms, reduceCtorEq] at hc) <;> (try (exfalso; omega))))) | ((with_reducible show AOps _ _ _ _ _ _); (first | refine aops_nil ?_ | refine aops_go ty_ok rfl rfl sdm ?_ | refine aops_gate ty_ok rfl rfl rfl sdm ?_ | refine aops_callE (ty := ty) rfl rfl rfl rfl rfl rfl rfl (c_awake22) rfl ?_ | refine aops_callE (ty := ty) rfl rfl rfl rfl rfl rfl rfl (hcf) rfl ?_ | refine aops_callE (ty := ty) rfl rfl rfl rfl rfl rfl rfl (hm) rfl ?_ | refine aops_litE ty_ok rfl rfl rfl rfl rfl rfl rfl rfl rfl rfl rfl rfl ?_ | refine aops_litA ty_ok rfl rfl rfl rfl rfl rfl rfl rfl rfl rfl rfl rfl rfl rfl rfl rfl ?_ | refine aops_buildArr ty_ok rfl rfl rfl rfl rfl rfl rfl rfl rfl rfl ?_ | refine aops_indexArr ty_ok rfl rfl rfl rfl rfl rfl rfl rfl rfl rfl sdm ?_ | refine aops_lit0 ty_ok rfl rfl rfl rfl rfl rfl rfl ?_ | refine aops_field ty_ok rfl rfl rfl rfl rfl rfl rfl rfl rfl rfl ?_ | refine aops_cutE ty_ok rfl rfl rfl rfl rfl rfl rfl rfl rfl sdm rfl ?_ | ((fail_if_success (refine aops_known rfl ?_)); (refine aops_split ty_ok rfl rfl rfl rfl rfl rfl (fun hc => ⟨?_, ?_⟩) (fun hc => ⟨?_, ?_⟩)) <;> (try simp only [nms, reduceCtorEq] at hc) <;> (try (exfalso; omega)) <;> (try exact sdm)))) | ((fail_if_success (with_reducible show AWp _ _ _ _ _)); (fail_if_success (with_reducible show AOps _ _ _ _ _ _)); (first | (show AWp _ _ _ _ _) | (show AOps _ _ _ _ _ _))))
        refine aops_freezeE [.ref 1] rfl ?_
        refine aops_seen 41 rfl rfl rfl ?_
        refine aops_seen 7 rfl rfl rfl ?_
        obtain ⟨m, hm1, hm2⟩ := hmm
        have hm3 := hm2
        rw [bys_len] at hm3
        rw [hm2]
        obtain ⟨c, o, hp1, hp2⟩ := x_pre e1 (m := m) (by rw [hL]; exact hm1)
        rw [hL] at hp1
        have hc1 := c_xparse_at (L.take m) (by rw [List.length_take]; omega) hp1
        have hcut : cutL (bys L) 0 (m : Int).toNat = bys (L.take m) := by rw [cutL_bys, Int.toNat_natCast]; simp [cutB]
        rw [← hcut] at hc1
        by_cases hqe : q = []
        · have hc2 := c_xparse_at (L ++ q) (by rw [List.length_append]; omega) (v := .ok v) (by rw [hqe, List.append_nil, ← hL]; exact ex_of hv e1)
          rw [bys_app] at hc2
          repeat' (first | ((with_reducible show AWp _ _ _ _ _); (first | refine awp_seq ?_ | refine awp_block ?_ | refine awp_skip ?_ | refine awp_exit ?_ | refine awp_scope ?_ | refine awp_label ?_ | refine awp_run ty_ok rfl sdm ?_ | refine awp_ret ⟨_, _, rfl, rfl, ?_⟩ | refine awp_ret ⟨_, rfl, ?_⟩ | ((refine awp_cond (ty := ty) rfl (fun hc => ?_) (fun hc => ?_)) <;> (try simp only [nms, reduceCtorEq] at hc) <;> (try (exfalso; omega))))) | ((with_reducible show AOps _ _ _ _ _ _); (first | refine aops_nil ?_ | refine aops_go ty_ok rfl rfl sdm ?_ | refine aops_gate ty_ok rfl rfl rfl sdm ?_ | refine aops_callE (ty := ty) rfl rfl rfl rfl rfl rfl rfl (hc1) rfl ?_ | refine aops_callE (ty := ty) rfl rfl rfl rfl rfl rfl rfl (hc2) rfl ?_ | refine aops_litE ty_ok rfl rfl rfl rfl rfl rfl rfl rfl rfl rfl rfl rfl ?_ | refine aops_litA ty_ok rfl rfl rfl rfl rfl rfl rfl rfl rfl rfl rfl rfl rfl rfl rfl rfl ?_ | refine aops_buildArr ty_ok rfl rfl rfl rfl rfl rfl rfl rfl rfl rfl ?_ | refine aops_indexArr ty_ok rfl rfl rfl rfl rfl rfl rfl rfl rfl rfl sdm ?_ | refine aops_lit0 ty_ok rfl rfl rfl rfl rfl rfl rfl ?_ | refine aops_field ty_ok rfl rfl rfl rfl rfl rfl rfl rfl rfl rfl ?_ | refine aops_cutE ty_ok rfl rfl rfl rfl rfl rfl rfl rfl rfl sdm rfl ?_ | ((fail_if_success (refine aops_known rfl ?_)); (refine aops_split ty_ok rfl rfl rfl rfl rfl rfl (fun hc => ⟨?_, ?_⟩) (fun hc => ⟨?_, ?_⟩)) <;> (try simp only [nms, reduceCtorEq] at hc) <;> (try (exfalso; omega)) <;> (try exact sdm)))) | ((fail_if_success (with_reducible show AWp _ _ _ _ _)); (fail_if_success (with_reducible show AOps _ _ _ _ _ _)); (first | (show AWp _ _ _ _ _) | (show AOps _ _ _ _ _ _))))
          rw [hqe]
          rfl
        · obtain ⟨c', o', hp3, hp4⟩ := x_more e1 hqe
          rw [hL] at hp3
          have hc2 := c_xparse_at (L ++ q) (by rw [List.length_append]; omega) hp3
          rw [bys_app] at hc2
          have hql : ¬ q.length = 0 := fun e => hqe (List.eq_nil_of_length_eq_zero e)
          repeat' (first | ((with_reducible show AWp _ _ _ _ _); (first | refine awp_seq ?_ | refine awp_block ?_ | refine awp_skip ?_ | refine awp_exit ?_ | refine awp_scope ?_ | refine awp_label ?_ | refine awp_run ty_ok rfl sdm ?_ | refine awp_ret ⟨_, _, rfl, rfl, ?_⟩ | refine awp_ret ⟨_, rfl, ?_⟩ | ((refine awp_cond (ty := ty) rfl (fun hc => ?_) (fun hc => ?_)) <;> (try simp only [nms, reduceCtorEq] at hc) <;> (try (exfalso; omega))))) | ((with_reducible show AOps _ _ _ _ _ _); (first | refine aops_nil ?_ | refine aops_go ty_ok rfl rfl sdm ?_ | refine aops_gate ty_ok rfl rfl rfl sdm ?_ | refine aops_callE (ty := ty) rfl rfl rfl rfl rfl rfl rfl (hc1) rfl ?_ | refine aops_callE (ty := ty) rfl rfl rfl rfl rfl rfl rfl (hc2) rfl ?_ | refine aops_litE ty_ok rfl rfl rfl rfl rfl rfl rfl rfl rfl rfl rfl rfl ?_ | refine aops_litA ty_ok rfl rfl rfl rfl rfl rfl rfl rfl rfl rfl rfl rfl rfl rfl rfl rfl ?_ | refine aops_buildArr ty_ok rfl rfl rfl rfl rfl rfl rfl rfl rfl rfl ?_ | refine aops_indexArr ty_ok rfl rfl rfl rfl rfl rfl rfl rfl rfl rfl sdm ?_ | refine aops_lit0 ty_ok rfl rfl rfl rfl rfl rfl rfl ?_ | refine aops_field ty_ok rfl rfl rfl rfl rfl rfl rfl rfl rfl rfl ?_ | refine aops_cutE ty_ok rfl rfl rfl rfl rfl rfl rfl rfl rfl sdm rfl ?_ | ((fail_if_success (refine aops_known rfl ?_)); (refine aops_split ty_ok rfl rfl rfl rfl rfl rfl (fun hc => ⟨?_, ?_⟩) (fun hc => ⟨?_, ?_⟩)) <;> (try simp only [nms, reduceCtorEq] at hc) <;> (try (exfalso; omega)) <;> (try exact sdm)))) | ((fail_if_success (with_reducible show AWp _ _ _ _ _)); (fail_if_success (with_reducible show AOps _ _ _ _ _ _)); (first | (show AWp _ _ _ _ _) | (show AOps _ _ _ _ _ _))))
          rw [bys_len, beq_eq_false_iff_ne.2 (show (c' : Int) ≠ 0 by omega), beq_eq_false_iff_ne.2 (show (q.length : Int) ≠ 0 by omega)]
          rfl
    · skip
      repeat' (first | ((with_reducible show AWp _ _ _ _ _); (first | refine awp_seq ?_ | refine awp_block ?_ | refine awp_skip ?_ | refine awp_exit ?_ | refine awp_scope ?_ | refine awp_label ?_ | refine awp_run ty_ok rfl sdm ?_ | refine awp_ret ⟨_, _, rfl, rfl, ?_⟩ | refine awp_ret ⟨_, rfl, ?_⟩ | ((refine awp_cond (ty := ty) rfl (fun hc => ?_) (fun hc => ?_)) <;> (try simp only [nms, reduceCtorEq] at hc) <;> (try (exfalso; omega))))) | ((with_reducible show AOps _ _ _ _ _ _); (first | refine aops_nil ?_ | refine aops_go ty_ok rfl rfl sdm ?_ | refine aops_gate ty_ok rfl rfl rfl sdm ?_ | refine aops_callE (ty := ty) rfl rfl rfl rfl rfl rfl rfl (c_awake22) rfl ?_ | refine aops_callE (ty := ty) rfl rfl rfl rfl rfl rfl rfl (hcf) rfl ?_ | refine aops_litE ty_ok rfl rfl rfl rfl rfl rfl rfl rfl rfl rfl rfl rfl ?_ | refine aops_litA ty_ok rfl rfl rfl rfl rfl rfl rfl rfl rfl rfl rfl rfl rfl rfl rfl rfl ?_ | refine aops_buildArr ty_ok rfl rfl rfl rfl rfl rfl rfl rfl rfl rfl ?_ | refine aops_indexArr ty_ok rfl rfl rfl rfl rfl rfl rfl rfl rfl rfl sdm ?_ | refine aops_lit0 ty_ok rfl rfl rfl rfl rfl rfl rfl ?_ | refine aops_field ty_ok rfl rfl rfl rfl rfl rfl rfl rfl rfl rfl ?_ | refine aops_cutE ty_ok rfl rfl rfl rfl rfl rfl rfl rfl rfl sdm rfl ?_ | ((fail_if_success (refine aops_known rfl ?_)); (refine aops_split ty_ok rfl rfl rfl rfl rfl rfl (fun hc => ⟨?_, ?_⟩) (fun hc => ⟨?_, ?_⟩)) <;> (try simp only [nms, reduceCtorEq] at hc) <;> (try (exfalso; omega)) <;> (try exact sdm)))) | ((fail_if_success (with_reducible show AWp _ _ _ _ _)); (fail_if_success (with_reducible show AOps _ _ _ _ _ _)); (first | (show AWp _ _ _ _ _) | (show AOps _ _ _ _ _ _))))
      all_goals rfl
end Go.Proofs.YtmciaonjkkelnaaDoor

/- The abstract machine: the tail of a row of the walk's own is cleared. No program. -/
namespace Go.Am
open Go.RowKit
set_option linter.unusedSimpArgs false
set_option linter.unusedVariables false
section
variable {P : Program} {Γ : Env} {Q : Exit → St → Prop} {σ : St} {ty : TypeId → Option TI}

theorem zeroCells_len (zc : Array Value) (n : Nat) : (Builtin.zeroCells zc n).toList.length = n * zc.size := by simp [Builtin.zeroCells]
theorem zeroCells_get (zc : Array Value) (n i j : Nat) (hi : i < n) (hj : j < zc.size) : (Builtin.zeroCells zc n).toList[i * zc.size + j]? = some (zc.getD j undef) := by
  have hlt : i * zc.size + j < n * zc.size := mul_lt_of hi hj
  have hmod : (i * zc.size + j) % zc.size = j := by rw [Nat.mul_comm, Nat.mul_add_mod]; exact Nat.mod_eq_of_lt hj
  simp only [Builtin.zeroCells]
  simp [hlt, hmod, hj]
theorem run_clear_row (hT : TyOk P ty) {t e rt : TypeId} {ei : TI} (hu : P.underlying t = some (.slice e)) (he : ty e = some ei) (h1 : ∀ u ∈ ei.zero.cells.toList, u.oneCell' = true) {w : World} {g off n c : Nat} {bt : TypeId} {cur : Array Value} (hg : w.heap[g]? = some (.cells cur bt (0, 0))) (hn : 0 < n)
    (hle : off + n * ei.size ≤ cur.size) :
    (Builtin.clear_ #[t] rt #[.slice (some ⟨g, off, none⟩) n c]).run P w = .ok (.tuple #[]) (w.setRow g (cur.toList.take off ++ (Builtin.zeroCells ei.zero.cells n).toList ++ cur.toList.drop (off + (Builtin.zeroCells ei.zero.cells n).toList.length)).toArray) := by
  obtain ⟨j, hj, _, _, hjz⟩ := hT.info _ _ he
  obtain ⟨hz1, _⟩ := hT.zsize _ _ he
  have hlen := zeroCells_len ei.zero.cells n
  rw [hz1] at hlen
  have hst := run_storeCells_at P g off bt (Builtin.zeroCells ei.zero.cells n).toList 0 cur w hg (by simpa [hlen] using hle) (by
    intro u hu
    obtain ⟨i, hi⟩ := List.mem_iff_getElem?.1 hu
    have hlt := (List.getElem?_eq_some_iff.1 hi).1
    rw [hlen] at hlt
    have hpos : 0 < ei.size := by
      rcases Nat.eq_zero_or_pos ei.size with h | h
      · rw [h] at hlt; simp at hlt
      · exact h
    have hd := Nat.div_add_mod i ei.size
    have hq : i / ei.size < n := Nat.div_lt_of_lt_mul (by rw [Nat.mul_comm]; exact hlt)
    have hr : i % ei.size < ei.zero.cells.size := by rw [hz1]; exact Nat.mod_lt _ hpos
    have := zeroCells_get ei.zero.cells n (i / ei.size) (i % ei.size) hq hr
    rw [hz1, Nat.mul_comm, hd, hi] at this
    simp only [Option.some.injEq] at this
    rw [this]
    refine h1 _ ?_
    have e1 : ei.zero.cells.getD (i % ei.size) undef = ei.zero.cells[i % ei.size] := by simp [hr]
    rw [e1]
    exact Array.getElem_mem_toList hr)
  simp only [Nat.add_zero] at hst
  obtain ⟨m, rfl⟩ : ∃ m, n = m + 1 := ⟨n - 1, by omega⟩
  simp [Builtin.clear_, run_underlying hu, run_zero hj hjz, hst]

theorem aops_clearTail (hT : TyOk P ty) {ops rest : List Oper} {o1 o2 : Oper} {t e : TypeId} {x lo : Operand} {d1 : Tmp} {ti ei : TI} {i : Nat} {ek : Option Nat} {e' : TypeId} {xs : List Dat} {kq : IntKind} {h : Int} {sz nx : Nat} {tm : List (Nat × AV)} {ob : List (Nat × AO)}
    (hw : wantedA ops σ o1 = some true) (hg2 : o2.guard = none) (hd1 : o1.dst = some d1) (hd : dstOk σ o1.dst = true) (hd2 : o2.dst = none) (ho1 : o1.op = .slice t x (some lo) none none) (ho2 : o2.op = .call { callee := .builtin .clear, args := #[.tmp d1], argTypes := #[t] })
    (ht : ty t = some ti) (hde : ti.desc = .slice e) (he : ty e = some ei) (hek : ekB ek ei.ek = true) (hx : σ.ev ty t x = some (.ref i)) (hob : σ.obj i = some (.row ek e' xs)) (hz : σ.ev ty 0 lo = some (.d (.int kq h))) (h0 : 0 ≤ h) (hh : h < xs.length)
    (hr : put' (setO' σ i (.row ek e' (xs.take h.toNat ++ List.replicate (xs.length - h.toNat) ei.zdat))) (some d1) .undef = ⟨sz, tm, ob, nx⟩) (k : AOps P Γ ops Q rest ⟨sz, tm, ob, nx⟩) : AOps P Γ ops Q (o1 :: o2 :: rest) σ := fun C0 a C b ev m => by
  rw [put'_eq, setO'_eq] at hr
  have hek' := ekB_eq hek
  have h1s := hT.one e ei he
  have hes : esz ek = ei.size := by rw [hek']; exact hT.esz he
  have hu := hT.und _ _ ht
  rw [hde] at hu
  have hz' := Rep.int_inv (ev_sound m hz)
  obtain ⟨hz1, hz2⟩ := hT.zsize _ _ he
  have hcz := zero_csrep hT he C
  have hxr := ev_sound m hx
  obtain ⟨hi, vals, hown, hp, hcr⟩ := m.ob i _ hob
  rcases hown.2 with ⟨_, h0'⟩ | ⟨g, cap, cur, hρ, hB, hheap, hnc, hcm, hcs, htake⟩
  · omega
  have hbl : blk (C.ρ i) = some g := by rw [hρ]; rfl
  have hpg := hp g hbl
  have hvx : a.eval x = .slice (some ⟨g, 0, none⟩) xs.length cap := by
    generalize a.eval x = v at hxr
    cases hxr with
    | ref i hi v hv h1 => rw [hv, hρ]
  obtain ⟨H, rfl⟩ : ∃ H : Nat, h = H := ⟨h.toNat, by omega⟩
  rw [Int.toNat_natCast] at hr
  have hHl : H < xs.length := by omega
  have hb : (Instr.sliceBounds true xs.length cap (some (.int kq (H : Int))) none none).run P C.w = .ok (H, xs.length, cap) C.w := by
    simp [Instr.sliceBounds, run_sliceBound, (by omega : H ≤ xs.length), (by omega : H ≤ cap), hnc]
  have hrun1 : (execOp a.eval o1).run P C.w = .ok (.value (.slice (some ⟨g, H * ei.size, none⟩) (xs.length - H) (cap - H))) C.w := by
    unfold execOp
    simp only [ho1, hvx, hz', Option.map_none, Option.map_some]
    refine run_value ?_
    rw [run_slice_sl hT ht hde he hb, if_neg (by omega)]
    simp [Addr.add_lit]
  let v1 : Value := .slice (some ⟨g, H * ei.size, none⟩) (xs.length - H) (cap - H)
  have m1 : Models (σ.put (some d1) .undef) (a.put (some d1) v1) C := m.put (.undef _) (by
    intro d hdd
    cases hdd
    have := dstOk_spec hd d1 hd1
    exact this)
  have hfit : H * ei.size + (xs.length - H) * ei.size ≤ cur.size := by
    rw [hcs, ← Nat.add_mul, hes]
    exact Nat.mul_le_mul_right _ (by omega)
  have hone : ∀ u ∈ ei.zero.cells.toList, u.oneCell' = true := by
    intro u hu
    obtain ⟨j, hj⟩ := List.mem_iff_getElem?.1 hu
    have hjl : j < ei.zd.length := by
      have := (List.getElem?_eq_some_iff.1 hj).1
      rw [hz2, ← hz1]
      simpa using this
    have h3 := (hT.zrep _ _ he C.w C.pr j ei.zd[j] (List.getElem?_eq_getElem hjl)).oneCell (hT.zone _ _ he _ (List.getElem_mem hjl))
    have hg : ei.zero.cells.getD j undef = u := by
      have : ei.zero.cells[j]? = some u := by simpa using hj
      simp [this]
    rwa [hg] at h3
  have hclr := fun rt => run_clear_row (rt := rt) (c := cap - H) hT hu he hone hheap (n := xs.length - H) (off := H * ei.size) (by omega) hfit
  have hzl := zeroCells_len ei.zero.cells (xs.length - H)
  have hzg := zeroCells_get ei.zero.cells (xs.length - H)
  rw [hz1] at hzl hzg
  generalize hZ : (Builtin.zeroCells ei.zero.cells (xs.length - H)).toList = Z at hclr hzl hzg
  have hsp := fun j => splice_get cur.toList Z (H * ei.size) j (by rw [hzl]; simpa using hfit)
  generalize hL : cur.toList.take (H * ei.size) ++ Z ++ cur.toList.drop (H * ei.size + Z.length) = L at hclr hsp
  have hLl : L.length = cur.size := by
    rw [← hL]
    have := hfit
    simp [hzl] at this ⊢
    omega
  have ha1 : (a.put (some d1) v1).eval (.tmp d1) = v1 := by
    have hlt : d1 < a.tmps.size := by rw [m.sz]; exact dstOk_spec hd d1 hd1
    simp [Act.put, Act.eval, hlt]
  have hrun2 : (execOp (a.put (some d1) v1).eval o2).run P C.w = .ok (.value (.tuple #[])) (C.w.setRow g L.toArray) := by
    unfold execOp
    simp only [ho2]
    simp [resolve, invoke, builtin, ha1, v1, hclr]
  have hev := Ct.turn_evo (C := C) (cs := L.toArray) hpg hB
  have hfz := zdat_fits hT he
  have hzc := zdat_cells hT he
  have hlen' : (xs.take H ++ List.replicate (xs.length - H) ei.zdat).length = xs.length := by simp; omega
  have m2 := m1.turn (o' := .row ek e' (xs.take H ++ List.replicate (xs.length - H) ei.zdat)) (cs := L.toArray) hob rfl hbl rfl (by
    refine ⟨hi, L.take (xs.length * esz ek), ⟨?_, .inr ⟨g, cap, L.toArray, ?_, hB, setRow_heap C.w g cur _ e' (0, 0) hheap, by rw [hlen']; exact hnc, hcm, by simp [hLl, hcs], by rw [hlen']⟩⟩, hp, ?_⟩
    · rw [hlen', List.length_take, hLl, hcs]
      exact Nat.min_eq_left (Nat.mul_le_mul_right _ hnc)
    · show C.ρ i = _
      rw [hρ, hlen']
    · intro k' x' hk'
      rw [List.getElem?_append] at hk'
      have key : ∀ j, k' < xs.length → j < esz ek → (L.take (xs.length * esz ek))[k' * esz ek + j]? = L[k' * esz ek + j]? := fun j hk hj => by
        rw [List.getElem?_take, if_pos (mul_lt_of hk hj)]
      split at hk'
      · rename_i hlt
        rw [List.length_take] at hlt
        rw [List.getElem?_take, if_pos (by omega)] at hk'
        obtain ⟨hf', h2⟩ := hcr k' x' hk'
        refine ⟨hf', fun j q hj => ?_⟩
        obtain ⟨u, hu, hr⟩ := h2 j q hj
        have hjl : j < esz ek := by rw [← hf'.len]; exact (List.getElem?_eq_some_iff.1 hj).1
        refine ⟨u, ?_, hr.mono hev.kept⟩
        show (L.take (xs.length * esz ek))[k' * esz ek + j]? = _
        have hlt2 : k' * esz ek + j < H * esz ek := mul_lt_of (by omega) hjl
        rw [key j (by omega) hjl, hsp, if_pos (by rw [← hes]; exact hlt2)]
        have hu : vals[k' * esz ek + j]? = some u := hu
        rw [← htake, List.getElem?_take] at hu
        split at hu
        · exact hu
        · cases hu
      · rename_i hge
        rw [List.length_take] at hge
        rw [List.getElem?_replicate] at hk'
        split at hk'
        · rename_i hlt
          cases hk'
          rw [List.length_take] at hlt
          refine ⟨by rw [hek']; exact hfz, fun j q hj => ?_⟩
          rw [hzc] at hj
          have hjl : j < ei.size := by rw [← hz2]; exact (List.getElem?_eq_some_iff.1 hj).1
          refine ⟨ei.zero.cells.getD j undef, ?_, hT.zrep _ _ he _ _ j q hj⟩
          show (L.take (xs.length * esz ek))[k' * esz ek + j]? = _
          have hmul : k' * ei.size = H * ei.size + (k' - H) * ei.size := by rw [← Nat.add_mul]; congr 1; omega
          have hlt3 : (k' - H) * ei.size + j < (xs.length - H) * ei.size := mul_lt_of (by omega) hjl
          rw [key j (by omega) (by rw [hes]; exact hjl), hsp, hes, if_neg (by rw [hmul]; omega), if_pos (by rw [hzl, hmul]; omega)]
          have := hzg (k' - H) j (by omega) hjl
          rw [← this]
          congr 1
          omega
        · cases hk')
  unfold wpList
  rw [if_pos (wantedA_sound m hw)]
  refine .inl (upon_value hrun1 ?_)
  rw [hd1]
  unfold wpList
  rw [if_pos (by unfold Region.wanted; rw [hg2])]
  refine .inl (upon_value hrun2 ?_)
  rw [hd2]
  refine k C0 (a.put (some d1) v1) (C.turn _) b (ev.trans hev) ?_
  rw [← hr]
  refine ⟨m2.defers, m2.sz, m2.nx, m2.tm, m2.ob, m2.apart⟩
end
end Go.Am

/- Lists of extensions: index, clone, all, Find, With and Without. Walked by the abstract machine. -/
namespace Go.Proofs.YtmciaonjkkelnaaDoor
open Go.Am
set_option linter.unusedSimpArgs false
set_option linter.unusedVariables false
-- withAmZ withAmMp

def fiX (o : List UInt8) : Nat → List Ext → Option Nat
  | _, [] => none
  | k, x :: r => if x.o = o then some k else fiX o (k + 1) r
def ixI (o : List UInt8) (l : List Ext) : Int := match fiX o 0 l with
  | some i => i
  | none => -1
theorem fiX_drop {o : List UInt8} {l : List Ext} {k : Nat} (h : k < l.length) : fiX o k (l.drop k) = if l[k].o = o then some k else fiX o (k + 1) (l.drop (k + 1)) := by
  rw [List.drop_eq_getElem_cons h, fiX]
theorem fiX_some {o : List UInt8} : ∀ {q : List Ext} {k i : Nat}, fiX o k q = some i → k ≤ i ∧ ∃ h : i - k < q.length, q[i - k].o = o ∧ q.find? (fun x => decide (x.o = o)) = some q[i - k]
  | [], k, i, h => by cases h
  | x :: r, k, i, h => by
    unfold fiX at h
    split at h
    · rename_i he
      cases h
      exact ⟨Nat.le_refl _, by simp, by simp [he], by simp [he]⟩
    · rename_i he
      obtain ⟨h1, h2, h3, h4⟩ := fiX_some h
      have e : i - k = (i - (k + 1)) + 1 := by omega
      refine ⟨by omega, by rw [List.length_cons]; omega, ?_, ?_⟩
      · simp only [e, List.getElem_cons_succ]
        exact h3
      · simp only [e, List.getElem_cons_succ]
        rw [List.find?_cons, decide_eq_false he]
        exact h4
theorem fiX_none {o : List UInt8} : ∀ {q : List Ext} {k : Nat}, fiX o k q = none → ∀ x ∈ q, x.o ≠ o
  | [], k, _, x, hx => by cases hx
  | y :: r, k, h, x, hx => by
    unfold fiX at h
    split at h
    · cases h
    · rename_i he
      rcases List.mem_cons.1 hx with rfl | hx
      · exact he
      · exact fiX_none h x hx
theorem find_none {o : List UInt8} {q : List Ext} (h : ∀ x ∈ q, x.o ≠ o) : q.find? (fun x => decide (x.o = o)) = none := by
  rw [List.find?_eq_none]
  intro x hx
  simp [h x hx]
theorem isXIndex : IsFn Tryd.prog 29 Tryd.f29 := ⟨Tryd.func29, by decide, rfl⟩
theorem isXIndexFn : IsFn Tryd.prog 46 Tryd.f46 := ⟨Tryd.func46, by decide, rfl⟩
theorem isXIndex1 : IsFn Tryd.prog 47 Tryd.f47 := ⟨Tryd.func47, by decide, rfl⟩
set_option maxHeartbeats 1000000 in
theorem c_xindex (Γ : Env) (l : List Ext) (o : List UInt8) (hn : l.length ≤ 1000000) : ACalls Tryd.prog Γ 29 [.sl (some 3) (xsD l), sD o] (fun r => r = .d (.int .i64 (ixI o l))) := by
  refine acalls_of ty_ok isXIndex rfl rfl ?_
  have hxl := xs_len l
  unfold sD
  repeat' (first | ((with_reducible show AWp _ _ _ _ _); (first | refine awp_seq ?_ | refine awp_block ?_ | refine awp_skip ?_ | refine awp_exit ?_ | refine awp_scope ?_ | refine awp_label ?_ | refine awp_run ty_ok rfl sdm ?_ | refine awp_ret ⟨_, _, rfl, rfl, ?_⟩ | refine awp_ret ⟨_, rfl, ?_⟩ | ((refine awp_cond (ty := ty) rfl (fun hc => ?_) (fun hc => ?_)) <;> (try simp only [nms, reduceCtorEq] at hc) <;> (try (exfalso; omega))))) | ((with_reducible show AOps _ _ _ _ _ _); (first | refine aops_nil ?_ | refine aops_go ty_ok rfl rfl sdm ?_ | refine aops_gate ty_ok rfl rfl rfl sdm ?_ | refine aops_inline ty_ok rfl rfl rfl rfl rfl rfl isXIndexFn rfl rfl ?_ | refine aops_inline ty_ok rfl rfl rfl rfl rfl rfl isXIndex1 rfl rfl ?_ | refine aops_litE ty_ok rfl rfl rfl rfl rfl rfl rfl rfl rfl rfl rfl rfl ?_ | refine aops_litA ty_ok rfl rfl rfl rfl rfl rfl rfl rfl rfl rfl rfl rfl rfl rfl rfl rfl ?_ | refine aops_buildArr ty_ok rfl rfl rfl rfl rfl rfl rfl rfl rfl rfl ?_ | refine aops_indexArr ty_ok rfl rfl rfl rfl rfl rfl rfl rfl rfl rfl sdm ?_ | refine aops_lit0 ty_ok rfl rfl rfl rfl rfl rfl rfl ?_ | refine aops_field ty_ok rfl rfl rfl rfl rfl rfl rfl rfl rfl rfl ?_ | refine aops_cutE ty_ok rfl rfl rfl rfl rfl rfl rfl rfl rfl sdm rfl ?_ | ((fail_if_success (refine aops_known rfl ?_)); (refine aops_split ty_ok rfl rfl rfl rfl rfl rfl (fun hc => ⟨?_, ?_⟩) (fun hc => ⟨?_, ?_⟩)) <;> (try simp only [nms, reduceCtorEq] at hc) <;> (try (exfalso; omega)) <;> (try exact sdm)))) | ((fail_if_success (with_reducible show AWp _ _ _ _ _)); (fail_if_success (with_reducible show AOps _ _ _ _ _ _)); (first | (show AWp _ _ _ _ _) | (show AOps _ _ _ _ _ _) | ((with_reducible show BackOk _ _ _ _ _); refine back_nil rfl ?_))))
  refine awp_loopR (G := { k : Nat // k ≤ l.length ∧ fiX o 0 l = fiX o k (l.drop k) }) (fun k => ⟨Tryd.f46.ntmps, [(0, .d (.sl (some 3) (xsD l))), (1, .fn 47 [.ptr 0 0]), (6, .d (.sl (some 3) (xsD l))), (7, .d (.int .i64 l.length)), (8, .d (.int .i64 k.1))], [(0, .box 9 [.d (.str (bA o))])], 1⟩) (fun k => l.length - k.1) ⟨0, by simp⟩ []
      (SubR.mk' rfl rfl ⟨⟨_, rfl, rfl⟩, ⟨_, rfl, rfl⟩, ⟨_, rfl, rfl⟩, ⟨_, rfl, congrArg (fun z : Nat => AV.d (Dat.int IntKind.i64 z)) (xs_len _)⟩, ⟨_, rfl, rfl⟩, trivial⟩ ⟨⟨_, _, rfl, rfl, rfl⟩, trivial⟩) ?_
  rintro ⟨k, hk, hf⟩
  dsimp only
  rcases Nat.lt_or_ge k l.length with h | h
  · have hX := xs_at h
    have hcan := x_can hX
    have t1 : (((xsD l).getD (k : Int).toNat default).cell 0).txt = bA l[k].o := by rw [hX]; rfl
    rw [fiX_drop h] at hf
    repeat' (first | ((with_reducible show AWp _ _ _ _ _); (first | refine awp_seq ?_ | refine awp_block ?_ | refine awp_skip ?_ | refine awp_exit ?_ | refine awp_scope ?_ | refine awp_label ?_ | refine awp_run ty_ok rfl sdm ?_ | refine awp_ret ⟨_, _, rfl, rfl, ?_⟩ | refine awp_ret ⟨_, rfl, ?_⟩ | ((refine awp_cond (ty := ty) rfl (fun hc => ?_) (fun hc => ?_)) <;> (try simp only [nms, reduceCtorEq] at hc) <;> (try (exfalso; omega))))) | ((with_reducible show AOps _ _ _ _ _ _); (first | refine aops_nil ?_ | refine aops_go ty_ok rfl rfl sdm ?_ | refine aops_gate ty_ok rfl rfl rfl sdm ?_ | refine aops_inline ty_ok rfl rfl rfl rfl rfl rfl isXIndex1 rfl rfl ?_ | refine aops_litE ty_ok rfl rfl rfl rfl rfl rfl rfl rfl rfl rfl rfl rfl ?_ | refine aops_litA ty_ok rfl rfl rfl rfl rfl rfl rfl rfl rfl rfl rfl rfl rfl rfl rfl rfl ?_ | refine aops_buildArr ty_ok rfl rfl rfl rfl rfl rfl rfl rfl rfl rfl ?_ | refine aops_indexArr ty_ok rfl rfl rfl rfl rfl rfl rfl rfl rfl rfl sdm ?_ | refine aops_lit0 ty_ok rfl rfl rfl rfl rfl rfl rfl ?_ | refine aops_field ty_ok rfl rfl rfl rfl rfl rfl rfl rfl rfl rfl ?_ | refine aops_cutE ty_ok rfl rfl rfl rfl rfl rfl rfl rfl rfl sdm rfl ?_ | ((fail_if_success (refine aops_known rfl ?_)); (refine aops_split ty_ok rfl rfl rfl rfl rfl rfl (fun hc => ⟨?_, ?_⟩) (fun hc => ⟨?_, ?_⟩)) <;> (try simp only [nms, reduceCtorEq] at hc) <;> (try (exfalso; omega)) <;> (try exact sdm)))) | ((fail_if_success (with_reducible show AWp _ _ _ _ _)); (fail_if_success (with_reducible show AOps _ _ _ _ _ _)); (first | (show AWp _ _ _ _ _) | (show AOps _ _ _ _ _ _) | ((with_reducible show BackOk _ _ _ _ _); refine back_nil rfl ?_))))
    · have e : l[k].o = o := by
        rw [← bA_inj, ← t1]
        exact hc
      rw [if_pos e] at hf
      rw [ixI, hf]
    · have e : l[k].o ≠ o := fun e => hc (by
        show (((xsD l).getD (k : Int).toNat default).cell 0).txt = bA o
        rw [t1, e])
      rw [if_neg e] at hf
      exact ⟨⟨k + 1, h, hf⟩, [], SubR.mk' rfl rfl ⟨⟨_, rfl, rfl⟩, ⟨_, rfl, rfl⟩, ⟨_, rfl, rfl⟩, ⟨_, rfl, rfl⟩, ⟨_, rfl, rfl⟩, trivial⟩ ⟨⟨_, _, rfl, rfl, rfl⟩, trivial⟩, by simp only; omega⟩
  · have hke : k = l.length := by omega
    subst hke
    rw [List.drop_length, fiX] at hf
    repeat' (first | ((with_reducible show AWp _ _ _ _ _); (first | refine awp_seq ?_ | refine awp_block ?_ | refine awp_skip ?_ | refine awp_exit ?_ | refine awp_scope ?_ | refine awp_label ?_ | refine awp_run ty_ok rfl sdm ?_ | refine awp_ret ⟨_, _, rfl, rfl, ?_⟩ | refine awp_ret ⟨_, rfl, ?_⟩ | ((refine awp_cond (ty := ty) rfl (fun hc => ?_) (fun hc => ?_)) <;> (try simp only [nms, reduceCtorEq] at hc) <;> (try (exfalso; omega))))) | ((with_reducible show AOps _ _ _ _ _ _); (first | refine aops_nil ?_ | refine aops_go ty_ok rfl rfl sdm ?_ | refine aops_gate ty_ok rfl rfl rfl sdm ?_ | refine aops_litE ty_ok rfl rfl rfl rfl rfl rfl rfl rfl rfl rfl rfl rfl ?_ | refine aops_litA ty_ok rfl rfl rfl rfl rfl rfl rfl rfl rfl rfl rfl rfl rfl rfl rfl rfl ?_ | refine aops_buildArr ty_ok rfl rfl rfl rfl rfl rfl rfl rfl rfl rfl ?_ | refine aops_indexArr ty_ok rfl rfl rfl rfl rfl rfl rfl rfl rfl rfl sdm ?_ | refine aops_lit0 ty_ok rfl rfl rfl rfl rfl rfl rfl ?_ | refine aops_field ty_ok rfl rfl rfl rfl rfl rfl rfl rfl rfl rfl ?_ | refine aops_cutE ty_ok rfl rfl rfl rfl rfl rfl rfl rfl rfl sdm rfl ?_ | ((fail_if_success (refine aops_known rfl ?_)); (refine aops_split ty_ok rfl rfl rfl rfl rfl rfl (fun hc => ⟨?_, ?_⟩) (fun hc => ⟨?_, ?_⟩)) <;> (try simp only [nms, reduceCtorEq] at hc) <;> (try (exfalso; omega)) <;> (try exact sdm)))) | ((fail_if_success (with_reducible show AWp _ _ _ _ _)); (fail_if_success (with_reducible show AOps _ _ _ _ _ _)); (first | (show AWp _ _ _ _ _) | (show AOps _ _ _ _ _ _))))
    rw [ixI, hf]
theorem c_xindex_at (Γ : Env) (l : List Ext) (o : List UInt8) (hn : l.length ≤ 1000000) {v : Int} (h : ixI o l = v) : ACalls Tryd.prog Γ 29 [.sl (some 3) (xsD l), sD o] (fun r => r = .d (.int .i64 v)) := by
  subst h
  exact c_xindex Γ l o hn
theorem isXClone : IsFn Tryd.prog 30 Tryd.f30 := ⟨Tryd.func30, by decide, rfl⟩
theorem c_xclone (Γ : Env) (x : Ext) (hv : x.v.length ≤ 1099511627776) : ACalls Tryd.prog Γ 30 [xD x] (fun r => r = .d (xD x)) := by
  refine acalls_of ty_ok isXClone rfl rfl ?_
  have hc1 := c_clone (Γ.at 0) x.v hv
  unfold xD sD
  repeat' (first | ((with_reducible show AWp _ _ _ _ _); (first | refine awp_seq ?_ | refine awp_block ?_ | refine awp_skip ?_ | refine awp_exit ?_ | refine awp_scope ?_ | refine awp_label ?_ | refine awp_run ty_ok rfl sdm ?_ | refine awp_ret ⟨_, _, rfl, rfl, ?_⟩ | refine awp_ret ⟨_, rfl, ?_⟩ | ((refine awp_cond (ty := ty) rfl (fun hc => ?_) (fun hc => ?_)) <;> (try simp only [nms, reduceCtorEq] at hc) <;> (try (exfalso; omega))))) | ((with_reducible show AOps _ _ _ _ _ _); (first | refine aops_nil ?_ | refine aops_go ty_ok rfl rfl sdm ?_ | refine aops_gate ty_ok rfl rfl rfl sdm ?_ | refine aops_callE (ty := ty) rfl rfl rfl rfl rfl rfl rfl (hc1) rfl ?_ | refine aops_litE ty_ok rfl rfl rfl rfl rfl rfl rfl rfl rfl rfl rfl rfl ?_ | refine aops_litA ty_ok rfl rfl rfl rfl rfl rfl rfl rfl rfl rfl rfl rfl rfl rfl rfl rfl ?_ | refine aops_buildArr ty_ok rfl rfl rfl rfl rfl rfl rfl rfl rfl rfl ?_ | refine aops_indexArr ty_ok rfl rfl rfl rfl rfl rfl rfl rfl rfl rfl sdm ?_ | refine aops_lit0 ty_ok rfl rfl rfl rfl rfl rfl rfl ?_ | refine aops_field ty_ok rfl rfl rfl rfl rfl rfl rfl rfl rfl rfl ?_ | refine aops_cutE ty_ok rfl rfl rfl rfl rfl rfl rfl rfl rfl sdm rfl ?_ | ((fail_if_success (refine aops_known rfl ?_)); (refine aops_split ty_ok rfl rfl rfl rfl rfl rfl (fun hc => ⟨?_, ?_⟩) (fun hc => ⟨?_, ?_⟩)) <;> (try simp only [nms, reduceCtorEq] at hc) <;> (try (exfalso; omega)) <;> (try exact sdm)))) | ((fail_if_success (with_reducible show AWp _ _ _ _ _)); (fail_if_success (with_reducible show AOps _ _ _ _ _ _)); (first | (show AWp _ _ _ _ _) | (show AOps _ _ _ _ _ _))))
  rfl
theorem isXAll : IsFn Tryd.prog 31 Tryd.f31 := ⟨Tryd.func31, by decide, rfl⟩
set_option maxHeartbeats 1000000 in
theorem c_xall (Γ : Env) (l : List Ext) (hn : l.length ≤ 1000000) (hv : ∀ x ∈ l, x.v.length ≤ 1099511627776) : ACalls Tryd.prog Γ 31 [.sl (some 3) (xsD l)] (fun r => r = .own (some 3) 27 (xsD l)) := by
  refine acalls_of ty_ok isXAll rfl rfl ?_
  have hxl := xs_len l
  repeat' (first | ((with_reducible show AWp _ _ _ _ _); (first | refine awp_seq ?_ | refine awp_block ?_ | refine awp_skip ?_ | refine awp_exit ?_ | refine awp_scope ?_ | refine awp_label ?_ | refine awp_run ty_ok rfl sdm ?_ | refine awp_ret ⟨_, _, rfl, rfl, ?_⟩ | refine awp_ret ⟨_, rfl, ?_⟩ | ((refine awp_cond (ty := ty) rfl (fun hc => ?_) (fun hc => ?_)) <;> (try simp only [nms, reduceCtorEq] at hc) <;> (try (exfalso; omega))))) | ((with_reducible show AOps _ _ _ _ _ _); (first | refine aops_nil ?_ | refine aops_go ty_ok rfl rfl sdm ?_ | refine aops_gate ty_ok rfl rfl rfl sdm ?_ | refine aops_litE ty_ok rfl rfl rfl rfl rfl rfl rfl rfl rfl rfl rfl rfl ?_ | refine aops_litA ty_ok rfl rfl rfl rfl rfl rfl rfl rfl rfl rfl rfl rfl rfl rfl rfl rfl ?_ | refine aops_buildArr ty_ok rfl rfl rfl rfl rfl rfl rfl rfl rfl rfl ?_ | refine aops_indexArr ty_ok rfl rfl rfl rfl rfl rfl rfl rfl rfl rfl sdm ?_ | refine aops_lit0 ty_ok rfl rfl rfl rfl rfl rfl rfl ?_ | refine aops_field ty_ok rfl rfl rfl rfl rfl rfl rfl rfl rfl rfl ?_ | refine aops_cutE ty_ok rfl rfl rfl rfl rfl rfl rfl rfl rfl sdm rfl ?_ | ((fail_if_success (refine aops_known rfl ?_)); (refine aops_split ty_ok rfl rfl rfl rfl rfl rfl (fun hc => ⟨?_, ?_⟩) (fun hc => ⟨?_, ?_⟩)) <;> (try simp only [nms, reduceCtorEq] at hc) <;> (try (exfalso; omega)) <;> (try exact sdm)))) | ((fail_if_success (with_reducible show AWp _ _ _ _ _)); (fail_if_success (with_reducible show AOps _ _ _ _ _ _)); (first | (show AWp _ _ _ _ _) | (show AOps _ _ _ _ _ _))))
  refine awp_nilrow 3 27 rfl ?_
  refine awp_loopR (G := { k : Nat // k ≤ l.length }) (fun k => ⟨Tryd.f31.ntmps, [(3, .ref 0), (6, .d (.sl (some 3) (xsD l))), (7, .d (.int .i64 l.length)), (8, .d (.int .i64 k.1))], [(0, .row (some 3) 27 (xsD (l.take k.1)))], 1⟩) (fun k => l.length - k.1) ⟨0, Nat.zero_le _⟩ [(0, 0)]
      (SubR.mk' rfl rfl ⟨⟨_, rfl, rfl⟩, ⟨_, rfl, rfl⟩, ⟨_, rfl, congrArg (fun z : Nat => AV.d (Dat.int IntKind.i64 z)) (xs_len _)⟩, ⟨_, rfl, rfl⟩, trivial⟩ ⟨⟨_, _, rfl, rfl, rfl⟩, trivial⟩) ?_
  rintro ⟨k, hk⟩
  dsimp only
  have hrl : (xsD (l.take k)).length ≤ 1000000 := by rw [xs_len, List.length_take]; omega
  rcases Nat.lt_or_ge k l.length with h | h
  · have hX := xs_at h
    have hcan := x_can hX
    have hc1 := c_xclone (Γ.at 0) l[k] (hv _ (List.getElem_mem h))
    rw [← hX, hcan] at hc1
    repeat' (first | ((with_reducible show AWp _ _ _ _ _); (first | refine awp_seq ?_ | refine awp_block ?_ | refine awp_skip ?_ | refine awp_exit ?_ | refine awp_scope ?_ | refine awp_label ?_ | refine awp_run ty_ok rfl sdm ?_ | refine awp_ret ⟨_, _, rfl, rfl, ?_⟩ | refine awp_ret ⟨_, rfl, ?_⟩ | ((refine awp_cond (ty := ty) rfl (fun hc => ?_) (fun hc => ?_)) <;> (try simp only [nms, reduceCtorEq] at hc) <;> (try (exfalso; omega))))) | ((with_reducible show AOps _ _ _ _ _ _); (first | refine aops_nil ?_ | refine aops_go ty_ok rfl rfl sdm ?_ | refine aops_gate ty_ok rfl rfl rfl sdm ?_ | refine aops_callE (ty := ty) rfl rfl rfl rfl rfl rfl rfl (hc1) rfl ?_ | refine aops_litE ty_ok rfl rfl rfl rfl rfl rfl rfl rfl rfl rfl rfl rfl ?_ | refine aops_litA ty_ok rfl rfl rfl rfl rfl rfl rfl rfl rfl rfl rfl rfl rfl rfl rfl rfl ?_ | refine aops_buildArr ty_ok rfl rfl rfl rfl rfl rfl rfl rfl rfl rfl ?_ | refine aops_indexArr ty_ok rfl rfl rfl rfl rfl rfl rfl rfl rfl rfl sdm ?_ | refine aops_lit0 ty_ok rfl rfl rfl rfl rfl rfl rfl ?_ | refine aops_field ty_ok rfl rfl rfl rfl rfl rfl rfl rfl rfl rfl ?_ | refine aops_cutE ty_ok rfl rfl rfl rfl rfl rfl rfl rfl rfl sdm rfl ?_ | ((fail_if_success (refine aops_known rfl ?_)); (refine aops_split ty_ok rfl rfl rfl rfl rfl rfl (fun hc => ⟨?_, ?_⟩) (fun hc => ⟨?_, ?_⟩)) <;> (try simp only [nms, reduceCtorEq] at hc) <;> (try (exfalso; omega)) <;> (try exact sdm)))) | ((fail_if_success (with_reducible show AWp _ _ _ _ _)); (fail_if_success (with_reducible show AOps _ _ _ _ _ _)); (first | (show AWp _ _ _ _ _) | (show AOps _ _ _ _ _ _))))
    refine ⟨⟨k + 1, h⟩, [(3, 0)], SubR.mk' rfl rfl ⟨⟨_, rfl, rfl⟩, ⟨_, rfl, rfl⟩, ⟨_, rfl, rfl⟩, ⟨_, rfl, rfl⟩, trivial⟩ ⟨⟨_, _, rfl, rfl, congrArg (AO.row (some 3) 27) ?_⟩, trivial⟩, by simp only; omega⟩
    rw [List.take_succ_eq_append_getElem h, xs_app, ← hcan, hX]
    rfl
  · have hke : k = l.length := by omega
    subst hke
    rw [List.take_length]
    repeat' (first | ((with_reducible show AWp _ _ _ _ _); (first | refine awp_seq ?_ | refine awp_block ?_ | refine awp_skip ?_ | refine awp_exit ?_ | refine awp_scope ?_ | refine awp_label ?_ | refine awp_run ty_ok rfl sdm ?_ | refine awp_ret ⟨_, _, rfl, rfl, ?_⟩ | refine awp_ret ⟨_, rfl, ?_⟩ | ((refine awp_cond (ty := ty) rfl (fun hc => ?_) (fun hc => ?_)) <;> (try simp only [nms, reduceCtorEq] at hc) <;> (try (exfalso; omega))))) | ((with_reducible show AOps _ _ _ _ _ _); (first | refine aops_nil ?_ | refine aops_go ty_ok rfl rfl sdm ?_ | refine aops_gate ty_ok rfl rfl rfl sdm ?_ | refine aops_litE ty_ok rfl rfl rfl rfl rfl rfl rfl rfl rfl rfl rfl rfl ?_ | refine aops_litA ty_ok rfl rfl rfl rfl rfl rfl rfl rfl rfl rfl rfl rfl rfl rfl rfl rfl ?_ | refine aops_buildArr ty_ok rfl rfl rfl rfl rfl rfl rfl rfl rfl rfl ?_ | refine aops_indexArr ty_ok rfl rfl rfl rfl rfl rfl rfl rfl rfl rfl sdm ?_ | refine aops_lit0 ty_ok rfl rfl rfl rfl rfl rfl rfl ?_ | refine aops_field ty_ok rfl rfl rfl rfl rfl rfl rfl rfl rfl rfl ?_ | refine aops_cutE ty_ok rfl rfl rfl rfl rfl rfl rfl rfl rfl sdm rfl ?_ | ((fail_if_success (refine aops_known rfl ?_)); (refine aops_split ty_ok rfl rfl rfl rfl rfl rfl (fun hc => ⟨?_, ?_⟩) (fun hc => ⟨?_, ?_⟩)) <;> (try simp only [nms, reduceCtorEq] at hc) <;> (try (exfalso; omega)) <;> (try exact sdm)))) | ((fail_if_success (with_reducible show AWp _ _ _ _ _)); (fail_if_success (with_reducible show AOps _ _ _ _ _ _)); (first | (show AWp _ _ _ _ _) | (show AOps _ _ _ _ _ _))))
    rfl
def fdX (o : List UInt8) (l : List Ext) : Option Ext := l.find? (fun x => decide (x.o = o))
def fdR (o : List UInt8) (l : List Ext) : Dat := match fdX o l with
  | some x => .tup [xD x, .bool true]
  | none => .tup [xD x0, .bool false]
theorem isXFind : IsFn Tryd.prog 11 Tryd.f11 := ⟨Tryd.func11, by decide, rfl⟩
set_option maxHeartbeats 1000000 in
theorem c_xfind (Γ : Env) (l : List Ext) (o : List UInt8) (hn : l.length ≤ 1000000) (hv : ∀ x ∈ l, x.v.length ≤ 1099511627776) : ACalls Tryd.prog Γ 11 [.sl (some 3) (xsD l), sD o] (fun r => r = .d (fdR o l)) := by
  refine acalls_of ty_ok isXFind rfl rfl ?_
  have hxl := xs_len l
  unfold fdR fdX
  cases hf : fiX o 0 l with
  | none =>
    have hc1 := c_xindex_at (Γ.at 0) l o hn (v := -1) (by rw [ixI, hf])
    rw [find_none (fiX_none hf)]
    unfold sD at hc1 ⊢
    repeat' (first | ((with_reducible show AWp _ _ _ _ _); (first | refine awp_seq ?_ | refine awp_block ?_ | refine awp_skip ?_ | refine awp_exit ?_ | refine awp_scope ?_ | refine awp_label ?_ | refine awp_run ty_ok rfl sdm ?_ | refine awp_ret ⟨_, _, rfl, rfl, ?_⟩ | refine awp_ret ⟨_, rfl, ?_⟩ | ((refine awp_cond (ty := ty) rfl (fun hc => ?_) (fun hc => ?_)) <;> (try simp only [nms, reduceCtorEq] at hc) <;> (try (exfalso; omega))))) | ((with_reducible show AOps _ _ _ _ _ _); (first | refine aops_nil ?_ | refine aops_go ty_ok rfl rfl sdm ?_ | refine aops_gate ty_ok rfl rfl rfl sdm ?_ | refine aops_callE (ty := ty) rfl rfl rfl rfl rfl rfl rfl (hc1) rfl ?_ | refine aops_litE ty_ok rfl rfl rfl rfl rfl rfl rfl rfl rfl rfl rfl rfl ?_ | refine aops_litA ty_ok rfl rfl rfl rfl rfl rfl rfl rfl rfl rfl rfl rfl rfl rfl rfl rfl ?_ | refine aops_buildArr ty_ok rfl rfl rfl rfl rfl rfl rfl rfl rfl rfl ?_ | refine aops_indexArr ty_ok rfl rfl rfl rfl rfl rfl rfl rfl rfl rfl sdm ?_ | refine aops_lit0 ty_ok rfl rfl rfl rfl rfl rfl rfl ?_ | refine aops_field ty_ok rfl rfl rfl rfl rfl rfl rfl rfl rfl rfl ?_ | refine aops_cutE ty_ok rfl rfl rfl rfl rfl rfl rfl rfl rfl sdm rfl ?_ | ((fail_if_success (refine aops_known rfl ?_)); (refine aops_split ty_ok rfl rfl rfl rfl rfl rfl (fun hc => ⟨?_, ?_⟩) (fun hc => ⟨?_, ?_⟩)) <;> (try simp only [nms, reduceCtorEq] at hc) <;> (try (exfalso; omega)) <;> (try exact sdm)))) | ((fail_if_success (with_reducible show AWp _ _ _ _ _)); (fail_if_success (with_reducible show AOps _ _ _ _ _ _)); (first | (show AWp _ _ _ _ _) | (show AOps _ _ _ _ _ _))))
    rfl
  | some i =>
    have hc1 := c_xindex_at (Γ.at 0) l o hn (v := i) (by rw [ixI, hf])
    obtain ⟨_, h2, h3, h4⟩ := fiX_some hf
    simp only [Nat.sub_zero] at h2 h3 h4
    rw [h4]
    have hX := xs_at h2
    have hcan := x_can hX
    have hc2 := c_xclone (Γ.at 0) l[i] (hv _ (List.getElem_mem h2))
    rw [← hX, hcan] at hc2
    unfold sD at hc1 ⊢
    repeat' (first | ((with_reducible show AWp _ _ _ _ _); (first | refine awp_seq ?_ | refine awp_block ?_ | refine awp_skip ?_ | refine awp_exit ?_ | refine awp_scope ?_ | refine awp_label ?_ | refine awp_run ty_ok rfl sdm ?_ | refine awp_ret ⟨_, _, rfl, rfl, ?_⟩ | refine awp_ret ⟨_, rfl, ?_⟩ | ((refine awp_cond (ty := ty) rfl (fun hc => ?_) (fun hc => ?_)) <;> (try simp only [nms, reduceCtorEq] at hc) <;> (try (exfalso; omega))))) | ((with_reducible show AOps _ _ _ _ _ _); (first | refine aops_nil ?_ | refine aops_go ty_ok rfl rfl sdm ?_ | refine aops_gate ty_ok rfl rfl rfl sdm ?_ | refine aops_callE (ty := ty) rfl rfl rfl rfl rfl rfl rfl (hc1) rfl ?_ | refine aops_callE (ty := ty) rfl rfl rfl rfl rfl rfl rfl (hc2) rfl ?_ | refine aops_litE ty_ok rfl rfl rfl rfl rfl rfl rfl rfl rfl rfl rfl rfl ?_ | refine aops_litA ty_ok rfl rfl rfl rfl rfl rfl rfl rfl rfl rfl rfl rfl rfl rfl rfl rfl ?_ | refine aops_buildArr ty_ok rfl rfl rfl rfl rfl rfl rfl rfl rfl rfl ?_ | refine aops_indexArr ty_ok rfl rfl rfl rfl rfl rfl rfl rfl rfl rfl sdm ?_ | refine aops_lit0 ty_ok rfl rfl rfl rfl rfl rfl rfl ?_ | refine aops_field ty_ok rfl rfl rfl rfl rfl rfl rfl rfl rfl rfl ?_ | refine aops_cutE ty_ok rfl rfl rfl rfl rfl rfl rfl rfl rfl sdm rfl ?_ | ((fail_if_success (refine aops_known rfl ?_)); (refine aops_split ty_ok rfl rfl rfl rfl rfl rfl (fun hc => ⟨?_, ?_⟩) (fun hc => ⟨?_, ?_⟩)) <;> (try simp only [nms, reduceCtorEq] at hc) <;> (try (exfalso; omega)) <;> (try exact sdm)))) | ((fail_if_success (with_reducible show AWp _ _ _ _ _)); (fail_if_success (with_reducible show AOps _ _ _ _ _ _)); (first | (show AWp _ _ _ _ _) | (show AOps _ _ _ _ _ _))))
    rw [← hcan, hX]
theorem xD_fits (x : Ext) : Fits (some 3) (xD x) := ⟨_, rfl, rfl, by simp [Dat.one, sD]⟩
def wiX (l : List Ext) (x : Ext) : List Ext := match fiX x.o 0 l with
  | some i => l.set i x
  | none => l ++ [x]
theorem isXWith : IsFn Tryd.prog 15 Tryd.f15 := ⟨Tryd.func15, by decide, rfl⟩
set_option maxHeartbeats 1000000 in
theorem c_xwith (Γ : Env) (l : List Ext) (x : Ext) (hn : l.length ≤ 1000000) (hv : ∀ x ∈ l, x.v.length ≤ 1099511627776) (hx : x.v.length ≤ 1099511627776) : ACalls Tryd.prog Γ 15 [.sl (some 3) (xsD l), xD x] (fun r => r = .own (some 3) 27 (xsD (wiX l x))) := by
  refine acalls_of ty_ok isXWith rfl rfl ?_
  have hxl := xs_len l
  have hc0 := c_xall (Γ.at 0) l hn hv
  have hc2 := c_xclone (Γ.at 0) x hx
  unfold wiX
  cases hf : fiX x.o 0 l with
  | none =>
    have hI : AFresh Tryd.prog (Γ.at 0) 29 [.sl (some 3) (xsD l), sD x.o] (fun y => y = .int .i64 (-1)) := .of_flat (c_xindex_at (Γ.at 0) l x.o hn (v := -1) (by rw [ixI, hf])) (flat_int _ _)
    obtain ⟨o, c, v⟩ := x
    unfold xD sD at *
    simp only at hI hc2
    repeat' (first | ((with_reducible show AWp _ _ _ _ _); (first | refine awp_seq ?_ | refine awp_block ?_ | refine awp_skip ?_ | refine awp_exit ?_ | refine awp_scope ?_ | refine awp_label ?_ | refine awp_run ty_ok rfl sdm ?_ | refine awp_ret ⟨_, _, rfl, rfl, ?_⟩ | refine awp_ret ⟨_, rfl, ?_⟩ | ((refine awp_cond (ty := ty) rfl (fun hc => ?_) (fun hc => ?_)) <;> (try simp only [nms, reduceCtorEq] at hc) <;> (try (exfalso; omega))))) | ((with_reducible show AOps _ _ _ _ _ _); (first | refine aops_nil ?_ | refine aops_go ty_ok rfl rfl sdm ?_ | refine aops_gate ty_ok rfl rfl rfl sdm ?_ | refine aops_callE (ty := ty) rfl rfl rfl rfl rfl rfl rfl (hc0) rfl ?_ | refine aops_lend (ty := ty) rfl rfl rfl rfl rfl rfl rfl (hI) rfl ?_ | refine aops_callE (ty := ty) rfl rfl rfl rfl rfl rfl rfl (hc2) rfl ?_ | refine aops_litE ty_ok rfl rfl rfl rfl rfl rfl rfl rfl rfl rfl rfl rfl ?_ | refine aops_litA ty_ok rfl rfl rfl rfl rfl rfl rfl rfl rfl rfl rfl rfl rfl rfl rfl rfl ?_ | refine aops_buildArr ty_ok rfl rfl rfl rfl rfl rfl rfl rfl rfl rfl ?_ | refine aops_indexArr ty_ok rfl rfl rfl rfl rfl rfl rfl rfl rfl rfl sdm ?_ | refine aops_lit0 ty_ok rfl rfl rfl rfl rfl rfl rfl ?_ | refine aops_field ty_ok rfl rfl rfl rfl rfl rfl rfl rfl rfl rfl ?_ | refine aops_cutE ty_ok rfl rfl rfl rfl rfl rfl rfl rfl rfl sdm rfl ?_ | ((fail_if_success (refine aops_known rfl ?_)); (refine aops_split ty_ok rfl rfl rfl rfl rfl rfl (fun hc => ⟨?_, ?_⟩) (fun hc => ⟨?_, ?_⟩)) <;> (try simp only [nms, reduceCtorEq] at hc) <;> (try (exfalso; omega)) <;> (try exact sdm)))) | ((fail_if_success (with_reducible show AWp _ _ _ _ _)); (fail_if_success (with_reducible show AOps _ _ _ _ _ _)); (first | (show AWp _ _ _ _ _) | (show AOps _ _ _ _ _ _))))
    rw [xs_app]
    rfl
  | some i =>
    have hI : AFresh Tryd.prog (Γ.at 0) 29 [.sl (some 3) (xsD l), sD x.o] (fun y => y = .int .i64 i) := .of_flat (c_xindex_at (Γ.at 0) l x.o hn (v := i) (by rw [ixI, hf])) (flat_int _ _)
    obtain ⟨_, h2, h3, h4⟩ := fiX_some hf
    simp only [Nat.sub_zero] at h2
    have hfit := xD_fits x
    obtain ⟨o, c, v⟩ := x
    have e : xsD (l.set i ⟨o, c, v⟩) = (xsD l).set i (xD ⟨o, c, v⟩) := by rw [xsD, xsD, List.map_set]
    rw [e]
    unfold xD sD at *
    simp only at hI hc2 hfit
    repeat' (first | ((with_reducible show AWp _ _ _ _ _); (first | refine awp_seq ?_ | refine awp_block ?_ | refine awp_skip ?_ | refine awp_exit ?_ | refine awp_scope ?_ | refine awp_label ?_ | refine awp_run ty_ok rfl sdm ?_ | refine awp_ret ⟨_, _, rfl, rfl, ?_⟩ | refine awp_ret ⟨_, rfl, ?_⟩ | ((refine awp_cond (ty := ty) rfl (fun hc => ?_) (fun hc => ?_)) <;> (try simp only [nms, reduceCtorEq] at hc) <;> (try (exfalso; omega))))) | ((with_reducible show AOps _ _ _ _ _ _); (first | refine aops_nil ?_ | refine aops_go ty_ok rfl rfl sdm ?_ | refine aops_gate ty_ok rfl rfl rfl sdm ?_ | refine aops_callE (ty := ty) rfl rfl rfl rfl rfl rfl rfl (hc0) rfl ?_ | refine aops_lend (ty := ty) rfl rfl rfl rfl rfl rfl rfl (hI) rfl ?_ | refine aops_callE (ty := ty) rfl rfl rfl rfl rfl rfl rfl (hc2) rfl ?_ | refine aops_litE ty_ok rfl rfl rfl rfl rfl rfl rfl rfl rfl rfl rfl rfl ?_ | refine aops_litA ty_ok rfl rfl rfl rfl rfl rfl rfl rfl rfl rfl rfl rfl rfl rfl rfl rfl ?_ | refine aops_buildArr ty_ok rfl rfl rfl rfl rfl rfl rfl rfl rfl rfl ?_ | refine aops_indexArr ty_ok rfl rfl rfl rfl rfl rfl rfl rfl rfl rfl sdm ?_ | refine aops_lit0 ty_ok rfl rfl rfl rfl rfl rfl rfl ?_ | refine aops_field ty_ok rfl rfl rfl rfl rfl rfl rfl rfl rfl rfl ?_ | refine aops_cutE ty_ok rfl rfl rfl rfl rfl rfl rfl rfl rfl sdm rfl ?_ | ((fail_if_success (refine aops_known rfl ?_)); (refine aops_split ty_ok rfl rfl rfl rfl rfl rfl (fun hc => ⟨?_, ?_⟩) (fun hc => ⟨?_, ?_⟩)) <;> (try simp only [nms, reduceCtorEq] at hc) <;> (try (exfalso; omega)) <;> (try exact sdm)))) | ((fail_if_success (with_reducible show AWp _ _ _ _ _)); (fail_if_success (with_reducible show AOps _ _ _ _ _ _)); (first | (show AWp _ _ _ _ _) | (show AOps _ _ _ _ _ _))))
    rw [Int.toNat_natCast]
def keepX (o : List UInt8) (x : Ext) : Bool := decide (x.o ≠ o)
def woX (l : List Ext) (o : List UInt8) : List Ext := l.filter (keepX o)
theorem fiX_filter {o : List UInt8} {l : List Ext} {i : Nat} (h : fiX o 0 l = some i) : i < l.length ∧ (l.take (i + 1)).filter (keepX o) = l.take i := by
  have key : ∀ (q : List Ext) (k i : Nat), fiX o k q = some i → k ≤ i ∧ i - k < q.length ∧ (q.take (i - k + 1)).filter (keepX o) = q.take (i - k) := by
    intro q
    induction q with
    | nil => intro k i h; cases h
    | cons x r ih =>
      intro k i h
      unfold fiX at h
      split at h
      · rename_i he
        cases h
        refine ⟨Nat.le_refl _, by simp, ?_⟩
        simp [keepX, he]
      · rename_i he
        obtain ⟨h1, h2, h3⟩ := ih (k + 1) i h
        have e : i - k = (i - (k + 1)) + 1 := by omega
        refine ⟨by omega, by rw [List.length_cons]; omega, ?_⟩
        rw [e, List.take_succ_cons, List.take_succ_cons, List.filter_cons]
        rw [show keepX o x = true from decide_eq_true he, if_pos rfl, h3]
  have := key l 0 i h
  simp only [Nat.sub_zero] at this
  exact ⟨this.2.1, this.2.2⟩
theorem isXWithout : IsFn Tryd.prog 17 Tryd.f17 := ⟨Tryd.func17, by decide, rfl⟩
theorem isXWithout1 : IsFn Tryd.prog 33 Tryd.f33 := ⟨Tryd.func33, by decide, rfl⟩
theorem isXDelete : IsFn Tryd.prog 32 Tryd.f32 := ⟨Tryd.func32, by decide, rfl⟩
set_option maxHeartbeats 2000000 in
theorem c_xwithout (Γ : Env) (l : List Ext) (o : List UInt8) (hn : l.length ≤ 1000000) (hv : ∀ x ∈ l, x.v.length ≤ 1099511627776) : ACalls Tryd.prog Γ 17 [.sl (some 3) (xsD l), sD o] (fun r => r = .own (some 3) 27 (xsD (woX l o))) := by
  refine acalls_of ty_ok isXWithout rfl rfl ?_
  have hxl := xs_len l
  have hc0 := c_xall (Γ.at 0) l hn hv
  unfold sD
  repeat' (first | ((with_reducible show AWp _ _ _ _ _); (first | refine awp_seq ?_ | refine awp_block ?_ | refine awp_skip ?_ | refine awp_exit ?_ | refine awp_scope ?_ | refine awp_label ?_ | refine awp_run ty_ok rfl sdm ?_ | refine awp_ret ⟨_, _, rfl, rfl, ?_⟩ | refine awp_ret ⟨_, rfl, ?_⟩ | ((refine awp_cond (ty := ty) rfl (fun hc => ?_) (fun hc => ?_)) <;> (try simp only [nms, reduceCtorEq] at hc) <;> (try (exfalso; omega))))) | ((with_reducible show AOps _ _ _ _ _ _); (first | refine aops_nil ?_ | refine aops_go ty_ok rfl rfl sdm ?_ | refine aops_gate ty_ok rfl rfl rfl sdm ?_ | refine aops_callE (ty := ty) rfl rfl rfl rfl rfl rfl rfl (hc0) rfl ?_ | refine aops_inline ty_ok rfl rfl rfl rfl rfl rfl isXDelete rfl rfl ?_ | refine aops_inline ty_ok rfl rfl rfl rfl rfl rfl isXIndexFn rfl rfl ?_ | refine aops_inline ty_ok rfl rfl rfl rfl rfl rfl isXWithout1 rfl rfl ?_ | refine aops_litE ty_ok rfl rfl rfl rfl rfl rfl rfl rfl rfl rfl rfl rfl ?_ | refine aops_litA ty_ok rfl rfl rfl rfl rfl rfl rfl rfl rfl rfl rfl rfl rfl rfl rfl rfl ?_ | refine aops_buildArr ty_ok rfl rfl rfl rfl rfl rfl rfl rfl rfl rfl ?_ | refine aops_indexArr ty_ok rfl rfl rfl rfl rfl rfl rfl rfl rfl rfl sdm ?_ | refine aops_lit0 ty_ok rfl rfl rfl rfl rfl rfl rfl ?_ | refine aops_field ty_ok rfl rfl rfl rfl rfl rfl rfl rfl rfl rfl ?_ | refine aops_cutE ty_ok rfl rfl rfl rfl rfl rfl rfl rfl rfl sdm rfl ?_ | ((fail_if_success (refine aops_known rfl ?_)); (refine aops_split ty_ok rfl rfl rfl rfl rfl rfl (fun hc => ⟨?_, ?_⟩) (fun hc => ⟨?_, ?_⟩)) <;> (try simp only [nms, reduceCtorEq] at hc) <;> (try (exfalso; omega)) <;> (try exact sdm)))) | ((fail_if_success (with_reducible show AWp _ _ _ _ _)); (fail_if_success (with_reducible show AOps _ _ _ _ _ _)); (first | (show AWp _ _ _ _ _) | (show AOps _ _ _ _ _ _) | ((with_reducible show BackOk _ _ _ _ _); refine back_nil rfl ?_))))
  refine awp_loopR (G := { k : Nat // k ≤ l.length ∧ fiX o 0 l = fiX o k (l.drop k) }) (fun k => ⟨Tryd.f46.ntmps, [(0, .ref 1), (1, .fn 33 [.ptr 0 0]), (6, .ref 1), (7, .d (.int .i64 l.length)), (8, .d (.int .i64 k.1))], [(0, .box 9 [.d (.str (bA o))]), (1, .row (some 3) 27 (xsD l))], 2⟩) (fun k => l.length - k.1) ⟨0, by simp⟩ []
      (SubR.mk' rfl rfl ⟨⟨_, rfl, rfl⟩, ⟨_, rfl, rfl⟩, ⟨_, rfl, rfl⟩, ⟨_, rfl, congrArg (fun z : Nat => AV.d (Dat.int IntKind.i64 z)) (xs_len _)⟩, ⟨_, rfl, rfl⟩, trivial⟩ ⟨⟨_, _, rfl, rfl, rfl⟩, ⟨_, _, rfl, rfl, rfl⟩, trivial⟩) ?_
  rintro ⟨k, hk, hf⟩
  dsimp only
  rcases Nat.lt_or_ge k l.length with h | h
  · have hX := xs_at h
    have hcan := x_can hX
    have t1 : (((xsD l).getD (k : Int).toNat default).cell 0).txt = bA l[k].o := by rw [hX]; rfl
    rw [fiX_drop h] at hf
    repeat' (first | ((with_reducible show AWp _ _ _ _ _); (first | refine awp_seq ?_ | refine awp_block ?_ | refine awp_skip ?_ | refine awp_exit ?_ | refine awp_scope ?_ | refine awp_label ?_ | refine awp_run ty_ok rfl sdm ?_ | refine awp_ret ⟨_, _, rfl, rfl, ?_⟩ | refine awp_ret ⟨_, rfl, ?_⟩ | ((refine awp_cond (ty := ty) rfl (fun hc => ?_) (fun hc => ?_)) <;> (try simp only [nms, reduceCtorEq] at hc) <;> (try (exfalso; omega))))) | ((with_reducible show AOps _ _ _ _ _ _); (first | refine aops_nil ?_ | refine aops_go ty_ok rfl rfl sdm ?_ | refine aops_gate ty_ok rfl rfl rfl sdm ?_ | refine aops_inline ty_ok rfl rfl rfl rfl rfl rfl isXWithout1 rfl rfl ?_ | refine aops_litE ty_ok rfl rfl rfl rfl rfl rfl rfl rfl rfl rfl rfl rfl ?_ | refine aops_litA ty_ok rfl rfl rfl rfl rfl rfl rfl rfl rfl rfl rfl rfl rfl rfl rfl rfl ?_ | refine aops_buildArr ty_ok rfl rfl rfl rfl rfl rfl rfl rfl rfl rfl ?_ | refine aops_indexArr ty_ok rfl rfl rfl rfl rfl rfl rfl rfl rfl rfl sdm ?_ | refine aops_lit0 ty_ok rfl rfl rfl rfl rfl rfl rfl ?_ | refine aops_field ty_ok rfl rfl rfl rfl rfl rfl rfl rfl rfl rfl ?_ | refine aops_cutE ty_ok rfl rfl rfl rfl rfl rfl rfl rfl rfl sdm rfl ?_ | ((fail_if_success (refine aops_known rfl ?_)); (refine aops_split ty_ok rfl rfl rfl rfl rfl rfl (fun hc => ⟨?_, ?_⟩) (fun hc => ⟨?_, ?_⟩)) <;> (try simp only [nms, reduceCtorEq] at hc) <;> (try (exfalso; omega)) <;> (try exact sdm)))) | ((fail_if_success (with_reducible show AWp _ _ _ _ _)); (fail_if_success (with_reducible show AOps _ _ _ _ _ _)); (first | (show AWp _ _ _ _ _) | (show AOps _ _ _ _ _ _) | ((with_reducible show BackOk _ _ _ _ _); refine back_nil rfl ?_))))
    · have e : l[k].o = o := by
        rw [← bA_inj, ← t1]
        assumption
      rw [if_pos e] at hf
      obtain ⟨_, hfl⟩ := fiX_filter hf
      refine awp_loopR (G := { p : Nat × Nat × List Ext // p.2.1 < p.1 ∧ p.1 ≤ l.length ∧ p.2.2.length = l.length ∧ p.2.2.take p.2.1 = (l.take p.1).filter (keepX o) ∧ p.2.2.drop p.1 = l.drop p.1 }) (fun p => ⟨Tryd.f32.ntmps, [(0, .ref 1), (1, .fn 33 [.ptr 0 0]), (5, .d (.int .i64 p.1.2.1)), (6, .d (.int .i64 p.1.1))], [(0, .box 9 [.d (.str (bA o))]), (1, .row (some 3) 27 (xsD p.1.2.2))], 2⟩) (fun p => l.length - p.1.1) ⟨(k + 1, k, l), Nat.lt_succ_self _, h, rfl, hfl.symm, rfl⟩ []
        (SubR.mk' rfl rfl ⟨⟨_, rfl, rfl⟩, ⟨_, rfl, rfl⟩, ⟨_, rfl, rfl⟩, ⟨_, rfl, rfl⟩, trivial⟩ ⟨⟨_, _, rfl, rfl, rfl⟩, ⟨_, _, rfl, rfl, rfl⟩, trivial⟩) ?_
      rintro ⟨⟨j, i, q⟩, g1, g2, g3, g4, g5⟩
      dsimp only at g1 g2 g3 g4 g5 ⊢
      have hql := xs_len q
      rcases Nat.lt_or_ge j l.length with hj | hj
      · have hjq : j < q.length := by omega
        have hX := xs_at hjq
        have hcan := x_can hX
        have eq : q[j] = l[j] := by
          have h1 := List.drop_eq_getElem_cons hjq
          have h2 := List.drop_eq_getElem_cons hj
          rw [g5] at h1
          rw [h1] at h2
          exact (List.cons.inj h2).1
        have t1 : (((xsD q).getD (j : Int).toNat default).cell 0).txt = bA l[j].o := by rw [hX, eq]; rfl
        have htj : l.take (j + 1) = l.take j ++ [l[j]] := List.take_succ_eq_append_getElem hj
        have hdj : q.drop (j + 1) = l.drop (j + 1) := by
          have h1 := List.drop_eq_getElem_cons hjq
          have h2 := List.drop_eq_getElem_cons hj
          rw [g5] at h1
          rw [h1] at h2
          exact (List.cons.inj h2).2
        have hfit := xD_fits q[j]
        rw [← hX, hcan] at hfit
        repeat' (first | ((with_reducible show AWp _ _ _ _ _); (first | refine awp_seq ?_ | refine awp_block ?_ | refine awp_skip ?_ | refine awp_exit ?_ | refine awp_scope ?_ | refine awp_label ?_ | refine awp_run ty_ok rfl sdm ?_ | refine awp_ret ⟨_, _, rfl, rfl, ?_⟩ | refine awp_ret ⟨_, rfl, ?_⟩ | ((refine awp_cond (ty := ty) rfl (fun hc => ?_) (fun hc => ?_)) <;> (try simp only [nms, reduceCtorEq] at hc) <;> (try (exfalso; omega))))) | ((with_reducible show AOps _ _ _ _ _ _); (first | refine aops_nil ?_ | refine aops_go ty_ok rfl rfl sdm ?_ | refine aops_gate ty_ok rfl rfl rfl sdm ?_ | refine aops_inline ty_ok rfl rfl rfl rfl rfl rfl isXWithout1 rfl rfl ?_ | refine aops_litE ty_ok rfl rfl rfl rfl rfl rfl rfl rfl rfl rfl rfl rfl ?_ | refine aops_litA ty_ok rfl rfl rfl rfl rfl rfl rfl rfl rfl rfl rfl rfl rfl rfl rfl rfl ?_ | refine aops_buildArr ty_ok rfl rfl rfl rfl rfl rfl rfl rfl rfl rfl ?_ | refine aops_indexArr ty_ok rfl rfl rfl rfl rfl rfl rfl rfl rfl rfl sdm ?_ | refine aops_lit0 ty_ok rfl rfl rfl rfl rfl rfl rfl ?_ | refine aops_field ty_ok rfl rfl rfl rfl rfl rfl rfl rfl rfl rfl ?_ | refine aops_cutE ty_ok rfl rfl rfl rfl rfl rfl rfl rfl rfl sdm rfl ?_ | ((fail_if_success (refine aops_known rfl ?_)); (refine aops_split ty_ok rfl rfl rfl rfl rfl rfl (fun hc => ⟨?_, ?_⟩) (fun hc => ⟨?_, ?_⟩)) <;> (try simp only [nms, reduceCtorEq] at hc) <;> (try (exfalso; omega)) <;> (try exact sdm)))) | ((fail_if_success (with_reducible show AWp _ _ _ _ _)); (fail_if_success (with_reducible show AOps _ _ _ _ _ _)); (first | (show AWp _ _ _ _ _) | (show AOps _ _ _ _ _ _) | ((with_reducible show BackOk _ _ _ _ _); refine back_nil rfl ?_))))
        · have e : l[j].o ≠ o := fun e => hc (by
            show (((xsD q).getD (j : Int).toNat default).cell 0).txt = bA o
            rw [t1, e])
          refine ⟨⟨(j + 1, i + 1, q.set i l[j]), by show i + 1 < j + 1; omega, hj, by simp [g3], ?_, ?_⟩, [], SubR.mk' rfl rfl ⟨⟨_, rfl, rfl⟩, ⟨_, rfl, rfl⟩, ⟨_, rfl, rfl⟩, ⟨_, rfl, rfl⟩, trivial⟩ ⟨⟨_, _, rfl, rfl, rfl⟩, ⟨_, _, rfl, rfl, congrArg (AO.row (some 3) 27) ?_⟩, trivial⟩, by simp only; omega⟩
          · rw [htj, List.filter_append, ← g4, List.take_succ_eq_append_getElem (by rw [List.length_set]; omega), List.take_set_of_le (Nat.le_refl _), List.getElem_set_self]
            simp [keepX, e]
          · rw [List.drop_set_of_lt (by omega)]
            exact hdj
          · have e9 : xsD (q.set i l[j]) = (xsD q).set i (xD l[j]) := by rw [xsD, xsD, List.map_set]
            rw [Int.toNat_natCast, e9]
            exact congrArg (fun z => (xsD q).set i z) ((hcan.symm.trans hX).trans (congrArg xD eq))
        · have e : l[j].o = o := by
            rw [← bA_inj, ← t1]
            exact hc
          refine ⟨⟨(j + 1, i, q), by show i < j + 1; omega, hj, g3, ?_, hdj⟩, [], SubR.mk' rfl rfl ⟨⟨_, rfl, rfl⟩, ⟨_, rfl, rfl⟩, ⟨_, rfl, rfl⟩, ⟨_, rfl, rfl⟩, trivial⟩ ⟨⟨_, _, rfl, rfl, rfl⟩, ⟨_, _, rfl, rfl, rfl⟩, trivial⟩, by simp only; omega⟩
          rw [htj, List.filter_append, ← g4]
          simp [keepX, e]
      · have hje : j = l.length := by omega
        subst hje
        repeat' (first | ((with_reducible show AWp _ _ _ _ _); (first | refine awp_seq ?_ | refine awp_block ?_ | refine awp_skip ?_ | refine awp_exit ?_ | refine awp_scope ?_ | refine awp_label ?_ | refine awp_run ty_ok rfl sdm ?_ | refine awp_ret ⟨_, _, rfl, rfl, ?_⟩ | refine awp_ret ⟨_, rfl, ?_⟩ | ((refine awp_cond (ty := ty) rfl (fun hc => ?_) (fun hc => ?_)) <;> (try simp only [nms, reduceCtorEq] at hc) <;> (try (exfalso; omega))))) | ((with_reducible show AOps _ _ _ _ _ _); (first | refine aops_nil ?_ | refine aops_go ty_ok rfl rfl sdm ?_ | refine aops_gate ty_ok rfl rfl rfl sdm ?_ | refine aops_litE ty_ok rfl rfl rfl rfl rfl rfl rfl rfl rfl rfl rfl rfl ?_ | refine aops_litA ty_ok rfl rfl rfl rfl rfl rfl rfl rfl rfl rfl rfl rfl rfl rfl rfl rfl ?_ | refine aops_buildArr ty_ok rfl rfl rfl rfl rfl rfl rfl rfl rfl rfl ?_ | refine aops_indexArr ty_ok rfl rfl rfl rfl rfl rfl rfl rfl rfl rfl sdm ?_ | refine aops_lit0 ty_ok rfl rfl rfl rfl rfl rfl rfl ?_ | refine aops_field ty_ok rfl rfl rfl rfl rfl rfl rfl rfl rfl rfl ?_ | refine aops_cutE ty_ok rfl rfl rfl rfl rfl rfl rfl rfl rfl sdm rfl ?_ | ((fail_if_success (refine aops_known rfl ?_)); (refine aops_split ty_ok rfl rfl rfl rfl rfl rfl (fun hc => ⟨?_, ?_⟩) (fun hc => ⟨?_, ?_⟩)) <;> (try simp only [nms, reduceCtorEq] at hc) <;> (try (exfalso; omega)) <;> (try exact sdm)))) | ((fail_if_success (with_reducible show AWp _ _ _ _ _)); (fail_if_success (with_reducible show AOps _ _ _ _ _ _)); (first | (show AWp _ _ _ _ _) | (show AOps _ _ _ _ _ _))))
        refine aops_clearTail ty_ok rfl rfl rfl rfl rfl rfl rfl rfl rfl rfl rfl rfl rfl rfl (by omega) (by rw [hql]; omega) rfl ?_
        have hit : ((xsD q).take (i : Int).toNat).length = i := by rw [List.length_take, hql, Int.toNat_natCast]; omega
        repeat' (first | ((with_reducible show AWp _ _ _ _ _); (first | refine awp_seq ?_ | refine awp_block ?_ | refine awp_skip ?_ | refine awp_exit ?_ | refine awp_scope ?_ | refine awp_label ?_ | refine awp_run ty_ok rfl sdm ?_ | refine awp_ret ⟨_, _, rfl, rfl, ?_⟩ | refine awp_ret ⟨_, rfl, ?_⟩ | ((refine awp_cond (ty := ty) rfl (fun hc => ?_) (fun hc => ?_)) <;> (try simp only [nms, reduceCtorEq] at hc) <;> (try (exfalso; omega))))) | ((with_reducible show AOps _ _ _ _ _ _); (first | refine aops_nil ?_ | refine aops_go ty_ok rfl rfl sdm ?_ | refine aops_gate ty_ok rfl rfl rfl sdm ?_ | refine aops_litE ty_ok rfl rfl rfl rfl rfl rfl rfl rfl rfl rfl rfl rfl ?_ | refine aops_litA ty_ok rfl rfl rfl rfl rfl rfl rfl rfl rfl rfl rfl rfl rfl rfl rfl rfl ?_ | refine aops_buildArr ty_ok rfl rfl rfl rfl rfl rfl rfl rfl rfl rfl ?_ | refine aops_indexArr ty_ok rfl rfl rfl rfl rfl rfl rfl rfl rfl rfl sdm ?_ | refine aops_lit0 ty_ok rfl rfl rfl rfl rfl rfl rfl ?_ | refine aops_field ty_ok rfl rfl rfl rfl rfl rfl rfl rfl rfl rfl ?_ | refine aops_cutE ty_ok rfl rfl rfl rfl rfl rfl rfl rfl rfl sdm rfl ?_ | ((fail_if_success (refine aops_known rfl ?_)); (refine aops_split ty_ok rfl rfl rfl rfl rfl rfl (fun hc => ⟨?_, ?_⟩) (fun hc => ⟨?_, ?_⟩)) <;> (try simp only [nms, reduceCtorEq] at hc) <;> (try (exfalso; omega)) <;> (try exact sdm)))) | ((fail_if_success (with_reducible show AWp _ _ _ _ _)); (fail_if_success (with_reducible show AOps _ _ _ _ _ _)); (first | (show AWp _ _ _ _ _) | (show AOps _ _ _ _ _ _))))
        have e : woX l o = q.take i := by
          have g4' : q.take i = (l.take l.length).filter (keepX o) := g4
          rw [g4', List.take_length]
          rfl
        rw [e, Int.toNat_natCast, List.take_append_of_le_length (by rw [Int.toNat_natCast] at hit; rw [hit]; exact Nat.le_refl _), List.take_take, Nat.min_self, xsD, xsD, List.map_take]
    · have e : l[k].o ≠ o := fun e => hc (by
        show (((xsD l).getD (k : Int).toNat default).cell 0).txt = bA o
        rw [t1, e])
      rw [if_neg e] at hf
      exact ⟨⟨k + 1, h, hf⟩, [], SubR.mk' rfl rfl ⟨⟨_, rfl, rfl⟩, ⟨_, rfl, rfl⟩, ⟨_, rfl, rfl⟩, ⟨_, rfl, rfl⟩, ⟨_, rfl, rfl⟩, trivial⟩ ⟨⟨_, _, rfl, rfl, rfl⟩, ⟨_, _, rfl, rfl, rfl⟩, trivial⟩, by simp only; omega⟩
  · have hke : k = l.length := by omega
    subst hke
    rw [List.drop_length, fiX] at hf
    have hfl : woX l o = l := by
      unfold woX
      rw [List.filter_eq_self]
      exact fun x hx => decide_eq_true (fiX_none hf x hx)
    repeat' (first | ((with_reducible show AWp _ _ _ _ _); (first | refine awp_seq ?_ | refine awp_block ?_ | refine awp_skip ?_ | refine awp_exit ?_ | refine awp_scope ?_ | refine awp_label ?_ | refine awp_run ty_ok rfl sdm ?_ | refine awp_ret ⟨_, _, rfl, rfl, ?_⟩ | refine awp_ret ⟨_, rfl, ?_⟩ | ((refine awp_cond (ty := ty) rfl (fun hc => ?_) (fun hc => ?_)) <;> (try simp only [nms, reduceCtorEq] at hc) <;> (try (exfalso; omega))))) | ((with_reducible show AOps _ _ _ _ _ _); (first | refine aops_nil ?_ | refine aops_go ty_ok rfl rfl sdm ?_ | refine aops_gate ty_ok rfl rfl rfl sdm ?_ | refine aops_litE ty_ok rfl rfl rfl rfl rfl rfl rfl rfl rfl rfl rfl rfl ?_ | refine aops_litA ty_ok rfl rfl rfl rfl rfl rfl rfl rfl rfl rfl rfl rfl rfl rfl rfl rfl ?_ | refine aops_buildArr ty_ok rfl rfl rfl rfl rfl rfl rfl rfl rfl rfl ?_ | refine aops_indexArr ty_ok rfl rfl rfl rfl rfl rfl rfl rfl rfl rfl sdm ?_ | refine aops_lit0 ty_ok rfl rfl rfl rfl rfl rfl rfl ?_ | refine aops_field ty_ok rfl rfl rfl rfl rfl rfl rfl rfl rfl rfl ?_ | refine aops_cutE ty_ok rfl rfl rfl rfl rfl rfl rfl rfl rfl sdm rfl ?_ | ((fail_if_success (refine aops_known rfl ?_)); (refine aops_split ty_ok rfl rfl rfl rfl rfl rfl (fun hc => ⟨?_, ?_⟩) (fun hc => ⟨?_, ?_⟩)) <;> (try simp only [nms, reduceCtorEq] at hc) <;> (try (exfalso; omega)) <;> (try exact sdm)))) | ((fail_if_success (with_reducible show AWp _ _ _ _ _)); (fail_if_success (with_reducible show AOps _ _ _ _ _ _)); (first | (show AWp _ _ _ _ _) | (show AOps _ _ _ _ _ _))))
    rw [hfl]
end Go.Proofs.YtmciaonjkkelnaaDoor

/- The abstract machine: literals and appends to fresh slices in a head whose order is drawn. No program. -/
namespace Go.Am
open Go.RowKit
set_option linter.unusedSimpArgs false
set_option linter.unusedVariables false
section
variable {P : Program} {Γ : Env} {Q : Exit → St → Prop} {σ : St} {ty : TypeId → Option TI}

theorem below_alloc (w : World) (o : Obj) : Below w.heap.size w (w.alloc o) := ⟨rfl, rfl, rfl, by simp, fun b hb => heap_alloc_old w o hb⟩
/-- A literal without elements, in a head. -/
theorem HStep.lit0 (hT : TyOk P ty) {σm : St} {o : Oper} {id : Nat} {t e : TypeId} {ti ei : TI} (ho : o.op = .buildSlice t 0 #[]) (ht : ty t = some ti) (hde : ti.desc = .slice e) (he : ty e = some ei) : HStep P Γ σm o id (.empty ei.ek) none := by
  intro a C K R b m hid hk
  obtain ⟨j, hj, hjs, _, hjz⟩ := hT.info _ _ he
  have hu := hT.und _ _ ht
  rw [hde] at hu
  have hrun : (execOp a.eval o).run P C.w = .ok (.value (.slice (some ⟨C.w.heap.size, 0, none⟩) 0 0)) (C.w.alloc (.cells #[] e)) := by
    unfold execOp
    simp only [ho]
    exact run_value (by rw [show (#[] : Array (Nat × Operand)).map (fun x => (x.1, a.eval x.2)) = #[] from Array.eq_empty_of_size_eq_zero (by simp)]; exact run_lit0 hu hj C.w)
  have hbel := below_alloc C.w (.cells #[] e)
  refine upon_value hrun (hk _ (C.back0 (C.w.alloc (.cells #[] e))) (Ct.back0_evo b.B hbel) (fun i hi => .inl hi) (.empty _ _) (by simp) (fun g hg => ⟨hbel.block g hg, ?_⟩))
  simp [Ct.back0]
  intro h
  omega
theorem run_append_empty {t rt e : TypeId} {j : TypeInfo} (hu : P.underlying t = some (.slice e)) (hie : P.info? e = some j) (a b : Addr) (m c : Nat) (hm : 0 < m) (hbytes : m * j.bytes ≤ 140737488355328) (w : World) :
    (Builtin.append_ #[t, t] rt #[.slice (some a) 0 0, .slice (some b) m c]).run P w = (Builtin.append_ #[t, t] rt #[.slice none 0 0, .slice (some b) m c]).run P w := by
  have h0 : m ≠ 0 := by omega
  have h1 : Builtin.nextslicecap m 0 = m := by simp [Builtin.nextslicecap, hm]
  have h2 : ¬ (m * j.bytes > 2 ^ 48) := by omega
  simp [Builtin.append_, loadCells, loadCellsFrom, run_underlying hu, sizeOf, typeInfo, hie, Builtin.lenOf, Builtin.firstCells, h0, h1, h2]
theorem run_append_none0 {t rt e : TypeId} {j : TypeInfo} (hu : P.underlying t = some (.slice e)) (hie : P.info? e = some j) (a b : Option Addr) (c : Nat) (w : World) :
    (Builtin.append_ #[t, t] rt #[.slice a 0 0, .slice b 0 c]).run P w = .ok (.slice a 0 0) w := by
  cases a <;> cases b <;> simp [Builtin.append_, loadCells, loadCellsFrom, storeCells, run_underlying hu, sizeOf, typeInfo, hie, Builtin.lenOf, Builtin.firstCells]
/-- What has no room may be appended to: the result is read-only here. -/
def emptyA : AV → Option (Option Nat)
  | .nil ek => some ek
  | .empty ek => some ek
  | _ => none
theorem HStep.appE (hT : TyOk P ty) {σm : St} {o : Oper} {id : Nat} {t e : TypeId} {x z : Operand} {ti ei : TI} {y1 y2 : AV} {ek : Option Nat} {ys : List Dat} (ho : o.op = .call { callee := .builtin .append, args := #[x, z], argTypes := #[t, t] }) (ht : ty t = some ti) (hde : ti.desc = .slice e) (he : ty e = some ei)
    (hx : σm.ev ty t x = some y1) (hb : emptyA y1 = some ek) (hz : σm.ev ty t z = some y2) (hs : σm.sl y2 = some (ek, ys)) (hek : ekB ek ei.ek = true) (h0 : Nat.ble 1 ei.size = true) (hby : Nat.ble ei.bytes 128 = true) (hN : ys.length ≤ 1099511627776) : HStep P Γ σm o id (.d (.sl ek ys)) none := by
  intro a C K R b m hid hk
  have hek' := ekB_eq hek
  have hes : esz ek = ei.size := by rw [hek']; exact hT.esz he
  have hpos : 0 < esz ek := by rw [hes]; exact Nat.le_of_ble_eq_true h0
  obtain ⟨j, hj, hjs, hjb, hjz⟩ := hT.info _ _ he
  obtain ⟨hz1, _⟩ := hT.zsize _ _ he
  have hu := hT.und _ _ ht
  rw [hde] at hu
  have hble := Nat.le_of_ble_eq_true hby
  have hbytes : ys.length * j.bytes ≤ 140737488355328 := by
    have h1 : ys.length * j.bytes ≤ ys.length * 128 := Nat.mul_le_mul_left _ (by rw [hjb]; exact hble)
    omega
  obtain ⟨xa, hxv⟩ : ∃ xa, a.eval x = .slice xa 0 0 := by
    have hxr := ev_sound m hx
    generalize a.eval x = v at hxr
    unfold emptyA at hb
    split at hb
    · cases hxr; exact ⟨_, rfl⟩
    · cases hxr; exact ⟨_, rfl⟩
    · cases hb
  obtain ⟨A, cap, news, hvz, hAn, hnl, hncr, hn1, hncell⟩ := news_of (sl_sound m hs (ev_sound m hz)) hpos
  have hop : ∀ v w', (Builtin.append_ #[t, t] o.type #[a.eval x, a.eval z]).run P C.w = .ok v w' → (execOp a.eval o).run P C.w = .ok (.value v) w' := by
    intro v w' hrun
    unfold execOp
    simp only [ho]
    simp [resolve, invoke, builtin, hrun]
  rcases Nat.eq_zero_or_pos ys.length with h | h
  · have hy0 : ys = [] := List.eq_nil_of_length_eq_zero h
    subst hy0
    have hrun := run_append_none0 (rt := o.type) hu hj xa A cap C.w
    rw [hxv, hvz] at hop
    refine upon_value (hop _ _ hrun) (hk _ C (.refl C) (fun i hi => .inl hi) (.d ?_) (by simp) (fun g hg => ⟨rfl, rfl⟩))
    cases xa with
    | none => exact .nil ek
    | some ad =>
      obtain ⟨g, off, sp⟩ := ad
      exact RepD.sl_mk rfl (by simp) (by simp [maxLen]) (by simp) (by simp) (by simp)
  · cases A with
    | none => obtain ⟨_, hy⟩ := hAn rfl; rw [hy] at h; simp at h
    | some ad =>
      have hown0 : C.w.ownsRow C.w.heap.size e (esz ek) (.slice none 0 0) 0 [] := World.ownsRow_nil _ _ _ _
      obtain ⟨v', w', r1, r2, r3, _, r5⟩ := run_append_own_at (P := P) C.w C.w.heap.size t o.type e j ei.zero (esz ek) j.bytes hu hj hjz (by rw [hjs, hes]) rfl (by rw [hz1, hes]) hpos (.slice none 0 0) 0 [] hown0 ad ys.length cap news hnl (hncell ad rfl) hn1
        (by simp only [maxLen]; omega) (by rw [Nat.zero_add]; exact hbytes) (Nat.le_refl _)
      have hrun : (Builtin.append_ #[t, t] o.type #[a.eval x, a.eval z]).run P C.w = .ok v' w' := by
        rw [hxv, hvz]
        cases xa with
        | none => exact r1
        | some q => rw [run_append_empty hu hj q ad ys.length cap h hbytes]; exact r1
      have hbel : Below C.w.heap.size C.w w' := ⟨r3.os, r3.tape, r3.output, r3.size, fun g hg => r3.block g hg (by simp [Value.ownBlock])⟩
      have hbk : ∀ g, blk v' = some g → C.w.heap.size ≤ g := by
        intro g hg
        rcases r2.2 with ⟨h1, _⟩ | ⟨g', cap', cur, h1, h2, _⟩
        · rw [h1] at hg; simp [blk] at hg
        · rw [h1] at hg
          have : g' = g := by simpa [blk] using hg
          omega
      have hD : RepD w' (C.back0 w').pr (.sl ek ys) v' := by
        refine own_datum (w0 := C.w) (pr := C.pr) (e := e) ⟨news, ?_, hncr.mono fun g hg hp => ⟨hbel.block g hg, ?_⟩⟩
        · have := r2
          rw [Nat.zero_add, List.nil_append] at this
          exact this
        · have hne : blk v' ≠ some g := fun hh => by have := hbk g hh; omega
          simp [hp, hne]
      refine upon_value (hop _ _ hrun) (hk _ (C.back0 w') (Ct.back0_evo b.B hbel) (fun i hi => .inl hi) (.d hD) (by simp) (fun g hg => ⟨hbel.block g hg, ?_⟩))
      simp [Ct.back0]
      intro hh
      omega
/-- A slice of one struct, in a head. -/
theorem HStep.litA (hT : TyOk P ty) {σm : St} {o : Oper} {id : Nat} {t e : TypeId} {x : Operand} {ti ei : TI} {y : AV} {ds : List Dat} (ho : o.op = .buildSlice t 1 #[(0, x)]) (ht : ty t = some ti) (hde : ti.desc = .slice e) (he : ty e = some ei) (hek : ei.agg = true)
    (hx : σm.ev ty e x = some y) (hp : datOf σm y = some (.agg ds)) (hl : Nat.beq ds.length ei.size = true) (h1 : ds.all (·.one) = true) (h0 : Nat.ble 1 ei.size = true) (hN : Nat.ble ei.size 16777216 = true) : HStep P Γ σm o id (.ref id) (some (.row (some ei.size) e [.agg ds])) := by
  have hl' := Nat.eq_of_beq_eq_true hl
  have h0' := Nat.le_of_ble_eq_true h0
  have hN' := Nat.le_of_ble_eq_true hN
  have h1' : ∀ z ∈ ds, z.one = true := List.all_eq_true.1 h1
  intro a C K R b m hid hk
  have hB := b.B
  obtain ⟨j, hj, hjs, _, hjz⟩ := hT.info _ _ he
  obtain ⟨hz1, hz2⟩ := hT.zsize _ _ he
  have hu := hT.und _ _ ht
  rw [hde] at hu
  have hrd := datOf_sound m hp (ev_sound m hx)
  obtain ⟨v, hv⟩ : ∃ v, v = a.eval x := ⟨_, rfl⟩
  rw [← hv] at hrd
  cases hrd with
  | agg _ vs hvl _ hvr =>
    have hvs : (Value.agg vs).cells.size = j.size := by
      show vs.size = _
      rw [hvl, hl', hjs]
    have hzr := hT.zrep _ _ he
    have hzo := hT.zone _ _ he
    have hinit : CsRep C (ei.zd.map .d) ((Array.range (1 * j.size)).map (ei.zero.cells[· % ei.zero.cells.size]!)) := by
      refine ⟨by simp [hjs, hz2], ?_, ?_⟩
      · intro y hy
        obtain ⟨q, hq, rfl⟩ := List.mem_map.1 hy
        exact hzo q hq
      · intro i y hy
        rw [List.getElem?_map] at hy
        obtain ⟨q, hq, rfl⟩ := Option.map_eq_some_iff.1 hy
        have hil : i < ei.size := by rw [← hz2]; exact (List.getElem?_eq_some_iff.1 hq).1
        have e1 : ((Array.range (1 * j.size)).map (ei.zero.cells[· % ei.zero.cells.size]!)).getD i undef = ei.zero.cells.getD i undef := by
          have h2 : i < ei.zero.cells.size := by rw [hz1]; exact hil
          simp [hjs, hil, Nat.mod_eq_of_lt h2, h2]
        rw [e1]
        exact .d (hzr C.w C.pr i q hq)
    have hset := setAll_sound (c := C) 0 (ds.map .d) vs.toList 0 _ _ hinit (by simp [hvl]) (by
      intro y hy
      obtain ⟨q, hq, rfl⟩ := List.mem_map.1 hy
      exact h1' q hq) (by
      intro i y hy
      rw [List.getElem?_map] at hy
      obtain ⟨q, hq, rfl⟩ := Option.map_eq_some_iff.1 hy
      have := hvr i q hq
      simpa using Rep.d (c := C) this)
    obtain ⟨cs, hcs⟩ : ∃ cs, cs = (Value.agg vs).cells.zipIdx.foldl (fun (cs : Array Value) (x : Value × Nat) => cs.setIfInBounds (0 + x.2) x.1) ((Array.range (1 * j.size)).map (ei.zero.cells[· % ei.zero.cells.size]!)) := ⟨_, rfl⟩
    have hset' : CsRep C (setAll (ei.zd.map .d) 0 (ds.map .d)) cs := by
      rw [hcs, ← Array.foldl_toList, Array.toList_zipIdx]
      exact hset
    have hrun : (execOp a.eval o).run P C.w = .ok (.value (.slice (some ⟨C.w.heap.size, 0, none⟩) 1 1)) (C.w.alloc (.cells cs e)) := by
      unfold execOp
      simp only [ho]
      refine run_value ?_
      have := run_lit1 (v := .agg vs) hu hj hjz hvs (by rw [hjs]; omega) (by rw [hjs]; omega) C.w
      rw [← hcs] at this
      have e2 : (#[(0, x)] : Array (Nat × Operand)).map (fun (i, x) => (i, a.eval x)) = #[(0, Value.agg vs)] := by simp [← hv]
      rw [e2]
      exact this
    have hcsz : cs.size = ei.size := by
      rw [hset'.1, setAll_length, List.length_map, hz2]
    have hro : ORep (C.new id (.cells cs e) (.slice (some ⟨C.w.heap.size, 0, none⟩) 1 1)) id (.row (some ei.size) e [.agg ds]) := by
      have := new_row (C := C) hid hB (ek := some ei.size) (e := e) (xs := [.agg ds]) (vs := cs) 1 (by simp) (by simp [maxLen]) (by simp [hcsz, esz]) (by
        intro k d hk
        match k, hk with
        | 0, hk =>
          simp only [List.getElem?_cons_zero, Option.some.injEq] at hk
          subst hk
          refine ⟨⟨ds, rfl, hl', h1'⟩, fun i y hy => ?_⟩
          have hil : i < ds.length := (List.getElem?_eq_some_iff.1 hy).1
          have hlt : i < (setAll (ei.zd.map AV.d) 0 (ds.map .d)).length := by rw [setAll_length, List.length_map, hz2, ← hl']; exact hil
          have hget := List.getElem?_eq_getElem hlt
          rcases setAll_get (by simp [hz2, hl']) hget with ⟨h, _⟩ | ⟨_, _, h⟩ | ⟨h, _⟩
          · omega
          · rw [Nat.sub_zero, List.getElem?_map] at h
            have hy' : ds[i]? = some y := hy
            rw [hy'] at h
            simp only [Option.map_some, Option.some.injEq] at h
            have hrep := hset'.2.2 i _ hget
            rw [← h] at hrep
            refine ⟨cs.getD i undef, ?_, ?_⟩
            · have : i < cs.size := by rw [hcsz, ← hl']; exact hil
              simp [this]
            · cases hrep with
              | d hh => exact hh
          · simp at h
            omega)
      exact this
    refine upon_value hrun (hk _ (C.new id (.cells cs e) (.slice (some ⟨C.w.heap.size, 0, none⟩) 1 1)) (Ct.new_evo hid hB _ _) (fun i hi => (ok_or hi).imp (fun h => h) (fun h => ⟨h, rfl⟩)) (.ref _ (by simp [Ct.new]) _ (by simp [Ct.new]) rfl) (fun ao h => ?_) (fun g hg => ⟨heap_alloc_old C.w _ hg, ?_⟩))
    · cases h
      refine ⟨hro, fun g hg => ?_⟩
      simp [Ct.new, blk] at hg
      omega
    · simp only [Ct.new]
      rw [if_neg (by omega)]

theorem head_lit0 (hT : TyOk P ty) {l : List Oper} {n : Nat} {D : List Oper} {K : List Ent → Prop} {r : List Oper} {j : Nat} {acc : List Ent} {o : Oper} {t e : TypeId} {ti ei : TI} (hd : dstOk σ o.dst = true) (hw : wantedA l (minE σ n D acc o) o = some true) (ho : o.op = .buildSlice t 0 #[]) (ht : ty t = some ti) (hde : ti.desc = .slice e) (he : ty e = some ei)
    (k : HeadT P Γ l σ n D K r (j + 1) (⟨j, o.dst, .empty ei.ek, none⟩ :: acc)) : HeadT P Γ l σ n D K (o :: r) j acc :=
  ⟨.empty ei.ek, none, ⟨hd, .inl ⟨hw, HStep.lit0 hT ho ht hde he⟩⟩, k⟩
theorem head_appE (hT : TyOk P ty) {l : List Oper} {n : Nat} {D : List Oper} {K : List Ent → Prop} {r : List Oper} {j : Nat} {acc : List Ent} {o : Oper} {t e : TypeId} {x z : Operand} {ti ei : TI} {y1 y2 : AV} {ek : Option Nat} {ys : List Dat} (hd : dstOk σ o.dst = true) (hw : wantedA l (minE σ n D acc o) o = some true) (ho : o.op = .call { callee := .builtin .append, args := #[x, z], argTypes := #[t, t] }) (ht : ty t = some ti) (hde : ti.desc = .slice e) (he : ty e = some ei)
    (hx : (minE σ n D acc o).ev ty t x = some y1) (hb : emptyA y1 = some ek) (hz : (minE σ n D acc o).ev ty t z = some y2) (hs : (minE σ n D acc o).sl y2 = some (ek, ys)) (hek : ekB ek ei.ek = true) (h0 : Nat.ble 1 ei.size = true) (hby : Nat.ble ei.bytes 128 = true) (hN : ys.length ≤ 1099511627776)
    (k : HeadT P Γ l σ n D K r (j + 1) (⟨j, o.dst, .d (.sl ek ys), none⟩ :: acc)) : HeadT P Γ l σ n D K (o :: r) j acc :=
  ⟨.d (.sl ek ys), none, ⟨hd, .inl ⟨hw, HStep.appE hT ho ht hde he hx hb hz hs hek h0 hby hN⟩⟩, k⟩
theorem head_litA (hT : TyOk P ty) {l : List Oper} {n : Nat} {D : List Oper} {K : List Ent → Prop} {r : List Oper} {j : Nat} {acc : List Ent} {o : Oper} {t e : TypeId} {x : Operand} {ti ei : TI} {y : AV} {ds : List Dat} (hd : dstOk σ o.dst = true) (hw : wantedA l (minE σ n D acc o) o = some true) (ho : o.op = .buildSlice t 1 #[(0, x)]) (ht : ty t = some ti) (hde : ti.desc = .slice e) (he : ty e = some ei) (hek : ei.agg = true)
    (hx : (minE σ n D acc o).ev ty e x = some y) (hp : datOf (minE σ n D acc o) y = some (.agg ds)) (hl : Nat.beq ds.length ei.size = true) (h1 : ds.all (·.one) = true) (h0 : Nat.ble 1 ei.size = true) (hN : Nat.ble ei.size 16777216 = true)
    (k : HeadT P Γ l σ n D K r (j + 1) (⟨j, o.dst, .ref (σ.nx + j), some (.row (some ei.size) e [.agg ds])⟩ :: acc)) : HeadT P Γ l σ n D K (o :: r) j acc :=
  ⟨.ref (σ.nx + j), some (.row (some ei.size) e [.agg ds]), ⟨hd, .inl ⟨hw, HStep.litA hT ho ht hde he hek hx hp hl h1 h0 hN⟩⟩, k⟩
end
end Go.Am

/- Lists of extensions by the reference: Find, With and Without; what they are. Walked by the abstract machine. -/
namespace Go.Proofs.YtmciaonjkkelnaaDoor
open Go.Am
set_option linter.unusedSimpArgs false
set_option linter.unusedVariables false
-- withAmZ withAmMp

theorem fiX_app {o : List UInt8} : ∀ (a b : List Ext) (k : Nat), fiX o k (a ++ b) = match fiX o k a with
    | some i => some i
    | none => fiX o (k + a.length) b
  | [], b, k => by simp [fiX]
  | x :: r, b, k => by
    rw [List.cons_append, fiX, fiX]
    by_cases h : x.o = o
    · rw [if_pos h, if_pos h]
    · rw [if_neg h, if_neg h, fiX_app r b (k + 1), List.length_cons, show k + 1 + r.length = k + (r.length + 1) by omega]
theorem find_app {o : List UInt8} {l : List Ext} {k : Nat} (h : k < l.length) (hn : ∀ x ∈ l.take k, x.o ≠ o) (he : l[k].o = o) : l.find? (fun x => decide (x.o = o)) = some l[k] := by
  have e : l.take k ++ l[k] :: l.drop (k + 1) = l := by rw [← List.drop_eq_getElem_cons h, List.take_append_drop]
  have h2 : (l.take k ++ l[k] :: l.drop (k + 1)).find? (fun x => decide (x.o = o)) = some l[k] := by
    rw [List.find?_append, find_none hn, List.find?_cons, decide_eq_true he]
    simp
  rw [e] at h2
  exact h2
theorem isRXFind : IsFn Tryd.prog 12 Tryd.f12 := ⟨Tryd.func12, by decide, rfl⟩
set_option maxHeartbeats 1000000 in
theorem c_rxfind (Γ : Env) (l : List Ext) (o : List UInt8) (hn : l.length ≤ 1000000) : ACalls Tryd.prog Γ 12 [.sl (some 3) (xsD l), sD o] (fun r => r = .d (fdR o l)) := by
  refine acalls_of ty_ok isRXFind rfl rfl ?_
  have hxl := xs_len l
  unfold sD fdR fdX
  repeat' (first | ((with_reducible show AWp _ _ _ _ _); (first | refine awp_seq ?_ | refine awp_block ?_ | refine awp_skip ?_ | refine awp_exit ?_ | refine awp_scope ?_ | refine awp_label ?_ | refine awp_run ty_ok rfl sdm ?_ | refine awp_ret ⟨_, _, rfl, rfl, ?_⟩ | refine awp_ret ⟨_, rfl, ?_⟩ | ((refine awp_cond (ty := ty) rfl (fun hc => ?_) (fun hc => ?_)) <;> (try simp only [nms, reduceCtorEq] at hc) <;> (try (exfalso; omega))))) | ((with_reducible show AOps _ _ _ _ _ _); (first | refine aops_nil ?_ | refine aops_go ty_ok rfl rfl sdm ?_ | refine aops_gate ty_ok rfl rfl rfl sdm ?_ | refine aops_litE ty_ok rfl rfl rfl rfl rfl rfl rfl rfl rfl rfl rfl rfl ?_ | refine aops_litA ty_ok rfl rfl rfl rfl rfl rfl rfl rfl rfl rfl rfl rfl rfl rfl rfl rfl ?_ | refine aops_buildArr ty_ok rfl rfl rfl rfl rfl rfl rfl rfl rfl rfl ?_ | refine aops_indexArr ty_ok rfl rfl rfl rfl rfl rfl rfl rfl rfl rfl sdm ?_ | refine aops_lit0 ty_ok rfl rfl rfl rfl rfl rfl rfl ?_ | refine aops_field ty_ok rfl rfl rfl rfl rfl rfl rfl rfl rfl rfl ?_ | refine aops_cutE ty_ok rfl rfl rfl rfl rfl rfl rfl rfl rfl sdm rfl ?_ | ((fail_if_success (refine aops_known rfl ?_)); (refine aops_split ty_ok rfl rfl rfl rfl rfl rfl (fun hc => ⟨?_, ?_⟩) (fun hc => ⟨?_, ?_⟩)) <;> (try simp only [nms, reduceCtorEq] at hc) <;> (try (exfalso; omega)) <;> (try exact sdm)))) | ((fail_if_success (with_reducible show AWp _ _ _ _ _)); (fail_if_success (with_reducible show AOps _ _ _ _ _ _)); (first | (show AWp _ _ _ _ _) | (show AOps _ _ _ _ _ _))))
  refine awp_loopR (G := { k : Nat // k ≤ l.length ∧ ∀ x ∈ l.take k, x.o ≠ o }) (fun k => ⟨Tryd.f12.ntmps, [(0, .d (.sl (some 3) (xsD l))), (1, .d (.str (bA o))), (4, .ptr 0 0), (6, .d (.int .i64 k.1))], [(0, .box 27 [.d (.str ⟨#[]⟩), .d (.bool false), .nil none])], 1⟩) (fun k => l.length - k.1) ⟨0, by simp⟩ [(0, 0)]
      (SubR.mk' rfl rfl ⟨⟨_, rfl, rfl⟩, ⟨_, rfl, rfl⟩, ⟨_, rfl, rfl⟩, ⟨_, rfl, rfl⟩, trivial⟩ ⟨⟨_, _, rfl, rfl, rfl⟩, trivial⟩) ?_
  rintro ⟨k, hk, hf⟩
  dsimp only
  rcases Nat.lt_or_ge k l.length with h | h
  · have hX := xs_at h
    have hcan := x_can hX
    obtain ⟨y1, y2, y3⟩ := x_fields hX
    have t1 : (((xsD l).getD (k : Int).toNat default).cell 0).txt = bA l[k].o := by rw [hX]; rfl
    repeat' (first | ((with_reducible show AWp _ _ _ _ _); (first | refine awp_seq ?_ | refine awp_block ?_ | refine awp_skip ?_ | refine awp_exit ?_ | refine awp_scope ?_ | refine awp_label ?_ | refine awp_run ty_ok rfl sdm ?_ | refine awp_ret ⟨_, _, rfl, rfl, ?_⟩ | refine awp_ret ⟨_, rfl, ?_⟩ | ((refine awp_cond (ty := ty) rfl (fun hc => ?_) (fun hc => ?_)) <;> (try simp only [nms, reduceCtorEq] at hc) <;> (try (exfalso; omega))))) | ((with_reducible show AOps _ _ _ _ _ _); (first | refine aops_nil ?_ | refine aops_go ty_ok rfl rfl sdm ?_ | refine aops_gate ty_ok rfl rfl rfl sdm ?_ | refine aops_litE ty_ok rfl rfl rfl rfl rfl rfl rfl rfl rfl rfl rfl rfl ?_ | refine aops_litA ty_ok rfl rfl rfl rfl rfl rfl rfl rfl rfl rfl rfl rfl rfl rfl rfl rfl ?_ | refine aops_buildArr ty_ok rfl rfl rfl rfl rfl rfl rfl rfl rfl rfl ?_ | refine aops_indexArr ty_ok rfl rfl rfl rfl rfl rfl rfl rfl rfl rfl sdm ?_ | refine aops_lit0 ty_ok rfl rfl rfl rfl rfl rfl rfl ?_ | refine aops_field ty_ok rfl rfl rfl rfl rfl rfl rfl rfl rfl rfl ?_ | refine aops_cutE ty_ok rfl rfl rfl rfl rfl rfl rfl rfl rfl sdm rfl ?_ | ((fail_if_success (refine aops_known rfl ?_)); (refine aops_split ty_ok rfl rfl rfl rfl rfl rfl (fun hc => ⟨?_, ?_⟩) (fun hc => ⟨?_, ?_⟩)) <;> (try simp only [nms, reduceCtorEq] at hc) <;> (try (exfalso; omega)) <;> (try exact sdm)))) | ((fail_if_success (with_reducible show AWp _ _ _ _ _)); (fail_if_success (with_reducible show AOps _ _ _ _ _ _)); (first | (show AWp _ _ _ _ _) | (show AOps _ _ _ _ _ _))))
    · have e : l[k].o = o := by
        rw [← bA_inj, ← t1]
        exact hc
      rw [find_app h hf e]
      exact congrArg (fun z => Res.d (Dat.tup [z, .bool true])) (hcan.symm.trans hX)
    · have e : l[k].o ≠ o := fun e => hc (by
        show (((xsD l).getD (k : Int).toNat default).cell 0).txt = bA o
        rw [t1, e])
      refine ⟨⟨k + 1, h, fun x hx => ?_⟩, [(0, 0)], SubR.mk' rfl rfl ⟨⟨_, rfl, rfl⟩, ⟨_, rfl, rfl⟩, ⟨_, rfl, rfl⟩, ⟨_, rfl, rfl⟩, trivial⟩ ⟨⟨_, _, rfl, rfl, rfl⟩, trivial⟩, by simp only; omega⟩
      rw [List.take_succ_eq_append_getElem h, List.mem_append] at hx
      rcases hx with hx | hx
      · exact hf x hx
      · simp only [List.mem_singleton] at hx
        rw [hx]
        exact e
  · have hke : k = l.length := by omega
    subst hke
    rw [List.take_length] at hf
    rw [find_none hf]
    repeat' (first | ((with_reducible show AWp _ _ _ _ _); (first | refine awp_seq ?_ | refine awp_block ?_ | refine awp_skip ?_ | refine awp_exit ?_ | refine awp_scope ?_ | refine awp_label ?_ | refine awp_run ty_ok rfl sdm ?_ | refine awp_ret ⟨_, _, rfl, rfl, ?_⟩ | refine awp_ret ⟨_, rfl, ?_⟩ | ((refine awp_cond (ty := ty) rfl (fun hc => ?_) (fun hc => ?_)) <;> (try simp only [nms, reduceCtorEq] at hc) <;> (try (exfalso; omega))))) | ((with_reducible show AOps _ _ _ _ _ _); (first | refine aops_nil ?_ | refine aops_go ty_ok rfl rfl sdm ?_ | refine aops_gate ty_ok rfl rfl rfl sdm ?_ | refine aops_litE ty_ok rfl rfl rfl rfl rfl rfl rfl rfl rfl rfl rfl rfl ?_ | refine aops_litA ty_ok rfl rfl rfl rfl rfl rfl rfl rfl rfl rfl rfl rfl rfl rfl rfl rfl ?_ | refine aops_buildArr ty_ok rfl rfl rfl rfl rfl rfl rfl rfl rfl rfl ?_ | refine aops_indexArr ty_ok rfl rfl rfl rfl rfl rfl rfl rfl rfl rfl sdm ?_ | refine aops_lit0 ty_ok rfl rfl rfl rfl rfl rfl rfl ?_ | refine aops_field ty_ok rfl rfl rfl rfl rfl rfl rfl rfl rfl rfl ?_ | refine aops_cutE ty_ok rfl rfl rfl rfl rfl rfl rfl rfl rfl sdm rfl ?_ | ((fail_if_success (refine aops_known rfl ?_)); (refine aops_split ty_ok rfl rfl rfl rfl rfl rfl (fun hc => ⟨?_, ?_⟩) (fun hc => ⟨?_, ?_⟩)) <;> (try simp only [nms, reduceCtorEq] at hc) <;> (try (exfalso; omega)) <;> (try exact sdm)))) | ((fail_if_success (with_reducible show AWp _ _ _ _ _)); (fail_if_success (with_reducible show AOps _ _ _ _ _ _)); (first | (show AWp _ _ _ _ _) | (show AOps _ _ _ _ _ _))))
    rfl
def doneX (l : List Ext) (x : Ext) (k : Nat) : Bool := (fiX x.o 0 (l.take k)).isSome
def wiK (l : List Ext) (x : Ext) (k : Nat) : List Ext := match fiX x.o 0 (l.take k) with
  | some i => (l.take k).set i x
  | none => l.take k
theorem wiK_yes {l : List Ext} {x : Ext} {k : Nat} (h : k < l.length) (he : l[k].o = x.o) (hd : doneX l x k = false) : wiK l x (k + 1) = wiK l x k ++ [x] ∧ doneX l x (k + 1) = true := by
  unfold doneX wiK at *
  cases hf : fiX x.o 0 (l.take k) with
  | some i => rw [hf] at hd; cases hd
  | none =>
    have h2 : fiX x.o 0 (l.take (k + 1)) = some k := by
      rw [List.take_succ_eq_append_getElem h, fiX_app, hf]
      simp only [Nat.zero_add, List.length_take]
      rw [fiX, if_pos he, Nat.min_eq_left (by omega)]
    rw [h2]
    simp only
    refine ⟨?_, rfl⟩
    rw [List.take_succ_eq_append_getElem h, List.set_append_right _ _ (by rw [List.length_take]; omega)]
    simp [show k - min k l.length = 0 by omega]
theorem wiK_no {l : List Ext} {x : Ext} {k : Nat} (h : k < l.length) (he : ¬ (l[k].o = x.o ∧ doneX l x k = false)) : wiK l x (k + 1) = wiK l x k ++ [l[k]] ∧ doneX l x (k + 1) = doneX l x k := by
  unfold doneX wiK at *
  cases hf : fiX x.o 0 (l.take k) with
  | some i =>
    have h2 : fiX x.o 0 (l.take (k + 1)) = some i := by
      rw [List.take_succ_eq_append_getElem h, fiX_app, hf]
    obtain ⟨_, h3, _, _⟩ := fiX_some hf
    rw [h2]
    simp only
    rw [Nat.sub_zero] at h3
    exact ⟨by rw [List.take_succ_eq_append_getElem h, List.set_append_left _ _ h3], by first | trivial | rfl⟩
  | none =>
    have hne : l[k].o ≠ x.o := fun e => he ⟨e, by rw [hf]; rfl⟩
    have h2 : fiX x.o 0 (l.take (k + 1)) = none := by
      rw [List.take_succ_eq_append_getElem h, fiX_app, hf]
      simp only
      rw [fiX, if_neg hne, fiX]
    rw [h2]
    exact ⟨List.take_succ_eq_append_getElem h, by first | trivial | rfl⟩
theorem wiK_end (l : List Ext) (x : Ext) : wiX l x = match doneX l x l.length with
    | true => wiK l x l.length
    | false => wiK l x l.length ++ [x] := by
  unfold wiX doneX wiK
  rw [List.take_length]
  cases fiX x.o 0 l <;> rfl
theorem wiK_len (l : List Ext) (x : Ext) (k : Nat) : (wiK l x k).length ≤ l.length := by
  unfold wiK
  split <;> simp <;> omega
theorem isRXWith : IsFn Tryd.prog 18 Tryd.f18 := ⟨Tryd.func18, by decide, rfl⟩
set_option maxHeartbeats 1000000 in
theorem c_rxwith (Γ : Env) (l : List Ext) (x : Ext) (hn : l.length ≤ 1000000) : ACalls Tryd.prog Γ 18 [.sl (some 3) (xsD l), xD x] (fun r => r = .own (some 3) 27 (xsD (wiX l x))) := by
  refine acalls_of ty_ok isRXWith rfl rfl ?_
  have hxl := xs_len l
  have eX : xD x = .agg [.str (bA x.o), .bool x.c, .sl none (bys x.v)] := rfl
  rw [eX]
  repeat' (first | ((with_reducible show AWp _ _ _ _ _); (first | refine awp_seq ?_ | refine awp_block ?_ | refine awp_skip ?_ | refine awp_exit ?_ | refine awp_scope ?_ | refine awp_label ?_ | refine awp_run ty_ok rfl sdm ?_ | refine awp_ret ⟨_, _, rfl, rfl, ?_⟩ | refine awp_ret ⟨_, rfl, ?_⟩ | ((refine awp_cond (ty := ty) rfl (fun hc => ?_) (fun hc => ?_)) <;> (try simp only [nms, reduceCtorEq] at hc) <;> (try (exfalso; omega))))) | ((with_reducible show AOps _ _ _ _ _ _); (first | refine aops_nil ?_ | refine aops_go ty_ok rfl rfl sdm ?_ | refine aops_gate ty_ok rfl rfl rfl sdm ?_ | refine aops_litE ty_ok rfl rfl rfl rfl rfl rfl rfl rfl rfl rfl rfl rfl ?_ | refine aops_litA ty_ok rfl rfl rfl rfl rfl rfl rfl rfl rfl rfl rfl rfl rfl rfl rfl rfl ?_ | refine aops_buildArr ty_ok rfl rfl rfl rfl rfl rfl rfl rfl rfl rfl ?_ | refine aops_indexArr ty_ok rfl rfl rfl rfl rfl rfl rfl rfl rfl rfl sdm ?_ | refine aops_lit0 ty_ok rfl rfl rfl rfl rfl rfl rfl ?_ | refine aops_field ty_ok rfl rfl rfl rfl rfl rfl rfl rfl rfl rfl ?_ | refine aops_cutE ty_ok rfl rfl rfl rfl rfl rfl rfl rfl rfl sdm rfl ?_ | ((fail_if_success (refine aops_known rfl ?_)); (refine aops_split ty_ok rfl rfl rfl rfl rfl rfl (fun hc => ⟨?_, ?_⟩) (fun hc => ⟨?_, ?_⟩)) <;> (try simp only [nms, reduceCtorEq] at hc) <;> (try (exfalso; omega)) <;> (try exact sdm)))) | ((fail_if_success (with_reducible show AWp _ _ _ _ _)); (fail_if_success (with_reducible show AOps _ _ _ _ _ _)); (first | (show AWp _ _ _ _ _) | (show AOps _ _ _ _ _ _))))
  refine awp_nilrow 5 27 rfl ?_
  refine awp_loopR (G := { k : Nat // k ≤ l.length }) (fun k => ⟨Tryd.f18.ntmps, [(0, .d (.sl (some 3) (xsD l))), (3, .ptr 0 0), (5, .ref 1), (6, .d (.bool (doneX l x k.1))), (7, .d (.int .i64 k.1))], [(0, .box 27 [.d (.str (bA x.o)), .d (.bool x.c), .d (.sl none (bys x.v))]), (1, .row (some 3) 27 (xsD (wiK l x k.1)))], 2⟩) (fun k => l.length - k.1) ⟨0, Nat.zero_le _⟩ [(0, 0), (1, 1)]
      (SubR.mk' rfl rfl ⟨⟨_, rfl, rfl⟩, ⟨_, rfl, rfl⟩, ⟨_, rfl, rfl⟩, ⟨_, rfl, rfl⟩, ⟨_, rfl, rfl⟩, trivial⟩ ⟨⟨_, _, rfl, rfl, rfl⟩, ⟨_, _, rfl, rfl, rfl⟩, trivial⟩) ?_
  rintro ⟨k, hk⟩
  dsimp only
  have hrl : (xsD (wiK l x k)).length ≤ 1000000 := by
    have := wiK_len l x k
    rw [xs_len]; omega
  rcases Nat.lt_or_ge k l.length with h | h
  · have hX := xs_at h
    have hcan := x_can hX
    obtain ⟨y1, y2, y3⟩ := x_fields hX
    have t1 : (((xsD l).getD (k : Int).toNat default).cell 0).txt = bA l[k].o := by rw [hX]; rfl
    have hadd : ∀ y : Ext, xsD (wiK l x k) ++ [xD y] = xsD (wiK l x k ++ [y]) := fun y => by rw [xs_app]; rfl
    cases hd : doneX l x k with
    | true =>
      obtain ⟨g1, g2⟩ := wiK_no (x := x) h (by rw [hd]; simp)
      rw [hd] at g2
      repeat' (first | ((with_reducible show AWp _ _ _ _ _); (first | refine awp_seq ?_ | refine awp_block ?_ | refine awp_skip ?_ | refine awp_exit ?_ | refine awp_scope ?_ | refine awp_label ?_ | refine awp_run ty_ok rfl sdm ?_ | refine awp_ret ⟨_, _, rfl, rfl, ?_⟩ | refine awp_ret ⟨_, rfl, ?_⟩ | ((refine awp_cond (ty := ty) rfl (fun hc => ?_) (fun hc => ?_)) <;> (try simp only [nms, reduceCtorEq] at hc) <;> (try (exfalso; omega))) | refine awp_anyL 11 mixed rfl (by kernel_rfl) ?_)) | ((with_reducible show AOps _ _ _ _ _ _); (first | refine aops_nil ?_ | refine aops_go ty_ok rfl rfl sdm ?_ | refine aops_gate ty_ok rfl rfl rfl sdm ?_ | refine aops_litE ty_ok rfl rfl rfl rfl rfl rfl rfl rfl rfl rfl rfl rfl ?_ | refine aops_litA ty_ok rfl rfl rfl rfl rfl rfl rfl rfl rfl rfl rfl rfl rfl rfl rfl rfl ?_ | refine aops_buildArr ty_ok rfl rfl rfl rfl rfl rfl rfl rfl rfl rfl ?_ | refine aops_indexArr ty_ok rfl rfl rfl rfl rfl rfl rfl rfl rfl rfl sdm ?_ | refine aops_lit0 ty_ok rfl rfl rfl rfl rfl rfl rfl ?_ | refine aops_field ty_ok rfl rfl rfl rfl rfl rfl rfl rfl rfl rfl ?_ | refine aops_cutE ty_ok rfl rfl rfl rfl rfl rfl rfl rfl rfl sdm rfl ?_ | ((fail_if_success (refine aops_known rfl ?_)); (refine aops_split ty_ok rfl rfl rfl rfl rfl rfl (fun hc => ⟨?_, ?_⟩) (fun hc => ⟨?_, ?_⟩)) <;> (try simp only [nms, reduceCtorEq] at hc) <;> (try (exfalso; omega)) <;> (try exact sdm)))) | ((with_reducible show HeadT _ _ _ _ _ _ _ _ _ _); (first | refine head_end ?_ | refine head_goP ty_ok rfl rfl sdm ?_ | refine head_gate ty_ok rfl rfl rfl sdm ?_ | ((fail_if_success (refine head_known rfl ?_)); (refine head_split ty_ok rfl rfl rfl rfl (fun hc => ⟨?_, ?_⟩) (fun hc => ⟨?_, ?_⟩)) <;> (try simp only [nms, reduceCtorEq] at hc) <;> (try (exfalso; omega)) <;> (try exact sdm)))) | ((fail_if_success (with_reducible show AWp _ _ _ _ _)); (fail_if_success (with_reducible show AOps _ _ _ _ _ _)); (fail_if_success (with_reducible show HeadT _ _ _ _ _ _ _ _ _ _)); (first | (show AWp _ _ _ _ _) | (show AOps _ _ _ _ _ _))))
      all_goals
        refine ⟨⟨k + 1, h⟩, [(0, 0), (14, 1)], SubR.mk' rfl rfl ⟨⟨_, rfl, rfl⟩, ⟨_, rfl, rfl⟩, ⟨_, rfl, rfl⟩, ⟨_, rfl, congrArg (fun z => AV.d (Dat.bool z)) g2.symm⟩, ⟨_, rfl, rfl⟩, trivial⟩ ⟨⟨_, _, rfl, rfl, rfl⟩, ⟨_, _, rfl, rfl, congrArg (AO.row (some 3) 27) ?_⟩, trivial⟩, by simp only; omega⟩
        rw [g1, ← hadd]
        exact congrArg (fun z => xsD (wiK l x k) ++ [z]) (hcan.symm.trans hX)
    | false =>
      repeat' (first | ((with_reducible show AWp _ _ _ _ _); (first | refine awp_seq ?_ | refine awp_block ?_ | refine awp_skip ?_ | refine awp_exit ?_ | refine awp_scope ?_ | refine awp_label ?_ | refine awp_run ty_ok rfl sdm ?_ | refine awp_ret ⟨_, _, rfl, rfl, ?_⟩ | refine awp_ret ⟨_, rfl, ?_⟩ | ((refine awp_cond (ty := ty) rfl (fun hc => ?_) (fun hc => ?_)) <;> (try simp only [nms, reduceCtorEq] at hc) <;> (try (exfalso; omega))) | refine awp_anyL 11 mixed rfl (by kernel_rfl) ?_)) | ((with_reducible show AOps _ _ _ _ _ _); (first | refine aops_nil ?_ | refine aops_go ty_ok rfl rfl sdm ?_ | refine aops_gate ty_ok rfl rfl rfl sdm ?_ | refine aops_litE ty_ok rfl rfl rfl rfl rfl rfl rfl rfl rfl rfl rfl rfl ?_ | refine aops_litA ty_ok rfl rfl rfl rfl rfl rfl rfl rfl rfl rfl rfl rfl rfl rfl rfl rfl ?_ | refine aops_buildArr ty_ok rfl rfl rfl rfl rfl rfl rfl rfl rfl rfl ?_ | refine aops_indexArr ty_ok rfl rfl rfl rfl rfl rfl rfl rfl rfl rfl sdm ?_ | refine aops_lit0 ty_ok rfl rfl rfl rfl rfl rfl rfl ?_ | refine aops_field ty_ok rfl rfl rfl rfl rfl rfl rfl rfl rfl rfl ?_ | refine aops_cutE ty_ok rfl rfl rfl rfl rfl rfl rfl rfl rfl sdm rfl ?_ | ((fail_if_success (refine aops_known rfl ?_)); (refine aops_split ty_ok rfl rfl rfl rfl rfl rfl (fun hc => ⟨?_, ?_⟩) (fun hc => ⟨?_, ?_⟩)) <;> (try simp only [nms, reduceCtorEq] at hc) <;> (try (exfalso; omega)) <;> (try exact sdm)))) | ((with_reducible show HeadT _ _ _ _ _ _ _ _ _ _); (first | refine head_end ?_ | refine head_goP ty_ok rfl rfl sdm ?_ | refine head_gate ty_ok rfl rfl rfl sdm ?_ | ((fail_if_success (refine head_known rfl ?_)); (refine head_split ty_ok rfl rfl rfl rfl (fun hc => ⟨?_, ?_⟩) (fun hc => ⟨?_, ?_⟩)) <;> (try simp only [nms, reduceCtorEq] at hc) <;> (try (exfalso; omega)) <;> (try exact sdm)))) | ((fail_if_success (with_reducible show AWp _ _ _ _ _)); (fail_if_success (with_reducible show AOps _ _ _ _ _ _)); (fail_if_success (with_reducible show HeadT _ _ _ _ _ _ _ _ _ _)); (first | (show AWp _ _ _ _ _) | (show AOps _ _ _ _ _ _))))
      · have e : l[k].o = x.o := by
          rw [← bA_inj, ← t1]
          first | exact hc | assumption
        obtain ⟨g1, g2⟩ := wiK_yes h e hd
        refine ⟨⟨k + 1, h⟩, [(0, 0), (14, 1)], SubR.mk' rfl rfl ⟨⟨_, rfl, rfl⟩, ⟨_, rfl, rfl⟩, ⟨_, rfl, rfl⟩, ⟨_, rfl, congrArg (fun z => AV.d (Dat.bool z)) g2.symm⟩, ⟨_, rfl, rfl⟩, trivial⟩ ⟨⟨_, _, rfl, rfl, rfl⟩, ⟨_, _, rfl, rfl, congrArg (AO.row (some 3) 27) ?_⟩, trivial⟩, by simp only; omega⟩
        rw [g1, ← hadd]
        rfl
      · have e : l[k].o ≠ x.o := fun e => by
          have h9 : (((xsD l).getD (k : Int).toNat default).cell 0).txt = bA x.o := by rw [t1, e]
          first | exact hc h9 | contradiction
        obtain ⟨g1, g2⟩ := wiK_no (x := x) h (fun q => e q.1)
        rw [hd] at g2
        refine ⟨⟨k + 1, h⟩, [(0, 0), (14, 1)], SubR.mk' rfl rfl ⟨⟨_, rfl, rfl⟩, ⟨_, rfl, rfl⟩, ⟨_, rfl, rfl⟩, ⟨_, rfl, congrArg (fun z => AV.d (Dat.bool z)) g2.symm⟩, ⟨_, rfl, rfl⟩, trivial⟩ ⟨⟨_, _, rfl, rfl, rfl⟩, ⟨_, _, rfl, rfl, congrArg (AO.row (some 3) 27) ?_⟩, trivial⟩, by simp only; omega⟩
        rw [g1, ← hadd]
        exact congrArg (fun z => xsD (wiK l x k) ++ [z]) (hcan.symm.trans hX)
  · have hke : k = l.length := by omega
    subst hke
    rw [wiK_end]
    cases hd : doneX l x l.length with
    | true =>
      repeat' (first | ((with_reducible show AWp _ _ _ _ _); (first | refine awp_seq ?_ | refine awp_block ?_ | refine awp_skip ?_ | refine awp_exit ?_ | refine awp_scope ?_ | refine awp_label ?_ | refine awp_run ty_ok rfl sdm ?_ | refine awp_ret ⟨_, _, rfl, rfl, ?_⟩ | refine awp_ret ⟨_, rfl, ?_⟩ | ((refine awp_cond (ty := ty) rfl (fun hc => ?_) (fun hc => ?_)) <;> (try simp only [nms, reduceCtorEq] at hc) <;> (try (exfalso; omega))))) | ((with_reducible show AOps _ _ _ _ _ _); (first | refine aops_nil ?_ | refine aops_go ty_ok rfl rfl sdm ?_ | refine aops_gate ty_ok rfl rfl rfl sdm ?_ | refine aops_litE ty_ok rfl rfl rfl rfl rfl rfl rfl rfl rfl rfl rfl rfl ?_ | refine aops_litA ty_ok rfl rfl rfl rfl rfl rfl rfl rfl rfl rfl rfl rfl rfl rfl rfl rfl ?_ | refine aops_buildArr ty_ok rfl rfl rfl rfl rfl rfl rfl rfl rfl rfl ?_ | refine aops_indexArr ty_ok rfl rfl rfl rfl rfl rfl rfl rfl rfl rfl sdm ?_ | refine aops_lit0 ty_ok rfl rfl rfl rfl rfl rfl rfl ?_ | refine aops_field ty_ok rfl rfl rfl rfl rfl rfl rfl rfl rfl rfl ?_ | refine aops_cutE ty_ok rfl rfl rfl rfl rfl rfl rfl rfl rfl sdm rfl ?_ | ((fail_if_success (refine aops_known rfl ?_)); (refine aops_split ty_ok rfl rfl rfl rfl rfl rfl (fun hc => ⟨?_, ?_⟩) (fun hc => ⟨?_, ?_⟩)) <;> (try simp only [nms, reduceCtorEq] at hc) <;> (try (exfalso; omega)) <;> (try exact sdm)))) | ((fail_if_success (with_reducible show AWp _ _ _ _ _)); (fail_if_success (with_reducible show AOps _ _ _ _ _ _)); (first | (show AWp _ _ _ _ _) | (show AOps _ _ _ _ _ _))))
      rfl
    | false =>
      repeat' (first | ((with_reducible show AWp _ _ _ _ _); (first | refine awp_seq ?_ | refine awp_block ?_ | refine awp_skip ?_ | refine awp_exit ?_ | refine awp_scope ?_ | refine awp_label ?_ | refine awp_run ty_ok rfl sdm ?_ | refine awp_ret ⟨_, _, rfl, rfl, ?_⟩ | refine awp_ret ⟨_, rfl, ?_⟩ | ((refine awp_cond (ty := ty) rfl (fun hc => ?_) (fun hc => ?_)) <;> (try simp only [nms, reduceCtorEq] at hc) <;> (try (exfalso; omega))))) | ((with_reducible show AOps _ _ _ _ _ _); (first | refine aops_nil ?_ | refine aops_go ty_ok rfl rfl sdm ?_ | refine aops_gate ty_ok rfl rfl rfl sdm ?_ | refine aops_litE ty_ok rfl rfl rfl rfl rfl rfl rfl rfl rfl rfl rfl rfl ?_ | refine aops_litA ty_ok rfl rfl rfl rfl rfl rfl rfl rfl rfl rfl rfl rfl rfl rfl rfl rfl ?_ | refine aops_buildArr ty_ok rfl rfl rfl rfl rfl rfl rfl rfl rfl rfl ?_ | refine aops_indexArr ty_ok rfl rfl rfl rfl rfl rfl rfl rfl rfl rfl sdm ?_ | refine aops_lit0 ty_ok rfl rfl rfl rfl rfl rfl rfl ?_ | refine aops_field ty_ok rfl rfl rfl rfl rfl rfl rfl rfl rfl rfl ?_ | refine aops_cutE ty_ok rfl rfl rfl rfl rfl rfl rfl rfl rfl sdm rfl ?_ | ((fail_if_success (refine aops_known rfl ?_)); (refine aops_split ty_ok rfl rfl rfl rfl rfl rfl (fun hc => ⟨?_, ?_⟩) (fun hc => ⟨?_, ?_⟩)) <;> (try simp only [nms, reduceCtorEq] at hc) <;> (try (exfalso; omega)) <;> (try exact sdm)))) | ((fail_if_success (with_reducible show AWp _ _ _ _ _)); (fail_if_success (with_reducible show AOps _ _ _ _ _ _)); (first | (show AWp _ _ _ _ _) | (show AOps _ _ _ _ _ _))))
      rw [xs_app]
      rfl
theorem isRXWithout : IsFn Tryd.prog 19 Tryd.f19 := ⟨Tryd.func19, by decide, rfl⟩
set_option maxHeartbeats 1000000 in
theorem c_rxwithout (Γ : Env) (l : List Ext) (o : List UInt8) (hn : l.length ≤ 1000000) : ACalls Tryd.prog Γ 19 [.sl (some 3) (xsD l), sD o] (fun r => r = .own (some 3) 27 (xsD (woX l o))) := by
  refine acalls_of ty_ok isRXWithout rfl rfl ?_
  have hxl := xs_len l
  unfold sD
  repeat' (first | ((with_reducible show AWp _ _ _ _ _); (first | refine awp_seq ?_ | refine awp_block ?_ | refine awp_skip ?_ | refine awp_exit ?_ | refine awp_scope ?_ | refine awp_label ?_ | refine awp_run ty_ok rfl sdm ?_ | refine awp_ret ⟨_, _, rfl, rfl, ?_⟩ | refine awp_ret ⟨_, rfl, ?_⟩ | ((refine awp_cond (ty := ty) rfl (fun hc => ?_) (fun hc => ?_)) <;> (try simp only [nms, reduceCtorEq] at hc) <;> (try (exfalso; omega))))) | ((with_reducible show AOps _ _ _ _ _ _); (first | refine aops_nil ?_ | refine aops_go ty_ok rfl rfl sdm ?_ | refine aops_gate ty_ok rfl rfl rfl sdm ?_ | refine aops_litE ty_ok rfl rfl rfl rfl rfl rfl rfl rfl rfl rfl rfl rfl ?_ | refine aops_litA ty_ok rfl rfl rfl rfl rfl rfl rfl rfl rfl rfl rfl rfl rfl rfl rfl rfl ?_ | refine aops_buildArr ty_ok rfl rfl rfl rfl rfl rfl rfl rfl rfl rfl ?_ | refine aops_indexArr ty_ok rfl rfl rfl rfl rfl rfl rfl rfl rfl rfl sdm ?_ | refine aops_lit0 ty_ok rfl rfl rfl rfl rfl rfl rfl ?_ | refine aops_field ty_ok rfl rfl rfl rfl rfl rfl rfl rfl rfl rfl ?_ | refine aops_cutE ty_ok rfl rfl rfl rfl rfl rfl rfl rfl rfl sdm rfl ?_ | ((fail_if_success (refine aops_known rfl ?_)); (refine aops_split ty_ok rfl rfl rfl rfl rfl rfl (fun hc => ⟨?_, ?_⟩) (fun hc => ⟨?_, ?_⟩)) <;> (try simp only [nms, reduceCtorEq] at hc) <;> (try (exfalso; omega)) <;> (try exact sdm)))) | ((fail_if_success (with_reducible show AWp _ _ _ _ _)); (fail_if_success (with_reducible show AOps _ _ _ _ _ _)); (first | (show AWp _ _ _ _ _) | (show AOps _ _ _ _ _ _))))
  refine awp_nilrow 5 27 rfl ?_
  refine awp_loopR (G := { k : Nat // k ≤ l.length }) (fun k => ⟨Tryd.f19.ntmps, [(0, .d (.sl (some 3) (xsD l))), (1, .d (.str (bA o))), (5, .ref 0), (6, .d (.int .i64 k.1))], [(0, .row (some 3) 27 (xsD (woX (l.take k.1) o)))], 1⟩) (fun k => l.length - k.1) ⟨0, Nat.zero_le _⟩ [(0, 0)]
      (SubR.mk' rfl rfl ⟨⟨_, rfl, rfl⟩, ⟨_, rfl, rfl⟩, ⟨_, rfl, rfl⟩, ⟨_, rfl, rfl⟩, trivial⟩ ⟨⟨_, _, rfl, rfl, rfl⟩, trivial⟩) ?_
  rintro ⟨k, hk⟩
  dsimp only
  have hrl : (xsD (woX (l.take k) o)).length ≤ 1000000 := by
    have h1 : (woX (l.take k) o).length ≤ (l.take k).length := List.length_filter_le _ _
    rw [List.length_take] at h1
    rw [xs_len]; omega
  rcases Nat.lt_or_ge k l.length with h | h
  · have hX := xs_at h
    have hcan := x_can hX
    obtain ⟨y1, y2, y3⟩ := x_fields hX
    have t1 : (((xsD l).getD (k : Int).toNat default).cell 0).txt = bA l[k].o := by rw [hX]; rfl
    have htk : woX (l.take (k + 1)) o = woX (l.take k) o ++ [l[k]].filter (keepX o) := by rw [List.take_succ_eq_append_getElem h, woX, List.filter_append]; rfl
    repeat' (first | ((with_reducible show AWp _ _ _ _ _); (first | refine awp_seq ?_ | refine awp_block ?_ | refine awp_skip ?_ | refine awp_exit ?_ | refine awp_scope ?_ | refine awp_label ?_ | refine awp_run ty_ok rfl sdm ?_ | refine awp_ret ⟨_, _, rfl, rfl, ?_⟩ | refine awp_ret ⟨_, rfl, ?_⟩ | ((refine awp_cond (ty := ty) rfl (fun hc => ?_) (fun hc => ?_)) <;> (try simp only [nms, reduceCtorEq] at hc) <;> (try (exfalso; omega))))) | ((with_reducible show AOps _ _ _ _ _ _); (first | refine aops_nil ?_ | refine aops_go ty_ok rfl rfl sdm ?_ | refine aops_gate ty_ok rfl rfl rfl sdm ?_ | refine aops_litE ty_ok rfl rfl rfl rfl rfl rfl rfl rfl rfl rfl rfl rfl ?_ | refine aops_litA ty_ok rfl rfl rfl rfl rfl rfl rfl rfl rfl rfl rfl rfl rfl rfl rfl rfl ?_ | refine aops_buildArr ty_ok rfl rfl rfl rfl rfl rfl rfl rfl rfl rfl ?_ | refine aops_indexArr ty_ok rfl rfl rfl rfl rfl rfl rfl rfl rfl rfl sdm ?_ | refine aops_lit0 ty_ok rfl rfl rfl rfl rfl rfl rfl ?_ | refine aops_field ty_ok rfl rfl rfl rfl rfl rfl rfl rfl rfl rfl ?_ | refine aops_cutE ty_ok rfl rfl rfl rfl rfl rfl rfl rfl rfl sdm rfl ?_ | ((fail_if_success (refine aops_known rfl ?_)); (refine aops_split ty_ok rfl rfl rfl rfl rfl rfl (fun hc => ⟨?_, ?_⟩) (fun hc => ⟨?_, ?_⟩)) <;> (try simp only [nms, reduceCtorEq] at hc) <;> (try (exfalso; omega)) <;> (try exact sdm)))) | ((fail_if_success (with_reducible show AWp _ _ _ _ _)); (fail_if_success (with_reducible show AOps _ _ _ _ _ _)); (first | (show AWp _ _ _ _ _) | (show AOps _ _ _ _ _ _))))
    · have e : l[k].o ≠ o := fun e => by
        have h9 : (((xsD l).getD (k : Int).toNat default).cell 0).txt = bA o := by rw [t1, e]
        first | exact hc h9 | contradiction
      refine ⟨⟨k + 1, h⟩, [(2, 0)], SubR.mk' rfl rfl ⟨⟨_, rfl, rfl⟩, ⟨_, rfl, rfl⟩, ⟨_, rfl, rfl⟩, ⟨_, rfl, rfl⟩, trivial⟩ ⟨⟨_, _, rfl, rfl, congrArg (AO.row (some 3) 27) ?_⟩, trivial⟩, by simp only; omega⟩
      rw [htk, xs_app, show [l[k]].filter (keepX o) = [l[k]] from by simp [keepX, e]]
      exact congrArg (fun z => xsD (woX (l.take k) o) ++ [z]) (hcan.symm.trans hX)
    · have e : l[k].o = o := by
        rw [← bA_inj, ← t1]
        first | exact hc | assumption | (apply Classical.byContradiction; intro hh; exact hc hh)
      refine ⟨⟨k + 1, h⟩, [(0, 0)], SubR.mk' rfl rfl ⟨⟨_, rfl, rfl⟩, ⟨_, rfl, rfl⟩, ⟨_, rfl, rfl⟩, ⟨_, rfl, rfl⟩, trivial⟩ ⟨⟨_, _, rfl, rfl, congrArg (AO.row (some 3) 27) ?_⟩, trivial⟩, by simp only; omega⟩
      rw [htk, show [l[k]].filter (keepX o) = [] from by simp [keepX, e], List.append_nil]
  · have hke : k = l.length := by omega
    subst hke
    rw [List.take_length]
    repeat' (first | ((with_reducible show AWp _ _ _ _ _); (first | refine awp_seq ?_ | refine awp_block ?_ | refine awp_skip ?_ | refine awp_exit ?_ | refine awp_scope ?_ | refine awp_label ?_ | refine awp_run ty_ok rfl sdm ?_ | refine awp_ret ⟨_, _, rfl, rfl, ?_⟩ | refine awp_ret ⟨_, rfl, ?_⟩ | ((refine awp_cond (ty := ty) rfl (fun hc => ?_) (fun hc => ?_)) <;> (try simp only [nms, reduceCtorEq] at hc) <;> (try (exfalso; omega))))) | ((with_reducible show AOps _ _ _ _ _ _); (first | refine aops_nil ?_ | refine aops_go ty_ok rfl rfl sdm ?_ | refine aops_gate ty_ok rfl rfl rfl sdm ?_ | refine aops_litE ty_ok rfl rfl rfl rfl rfl rfl rfl rfl rfl rfl rfl rfl ?_ | refine aops_litA ty_ok rfl rfl rfl rfl rfl rfl rfl rfl rfl rfl rfl rfl rfl rfl rfl rfl ?_ | refine aops_buildArr ty_ok rfl rfl rfl rfl rfl rfl rfl rfl rfl rfl ?_ | refine aops_indexArr ty_ok rfl rfl rfl rfl rfl rfl rfl rfl rfl rfl sdm ?_ | refine aops_lit0 ty_ok rfl rfl rfl rfl rfl rfl rfl ?_ | refine aops_field ty_ok rfl rfl rfl rfl rfl rfl rfl rfl rfl rfl ?_ | refine aops_cutE ty_ok rfl rfl rfl rfl rfl rfl rfl rfl rfl sdm rfl ?_ | ((fail_if_success (refine aops_known rfl ?_)); (refine aops_split ty_ok rfl rfl rfl rfl rfl rfl (fun hc => ⟨?_, ?_⟩) (fun hc => ⟨?_, ?_⟩)) <;> (try simp only [nms, reduceCtorEq] at hc) <;> (try (exfalso; omega)) <;> (try exact sdm)))) | ((fail_if_success (with_reducible show AWp _ _ _ _ _)); (fail_if_success (with_reducible show AOps _ _ _ _ _ _)); (first | (show AWp _ _ _ _ _) | (show AOps _ _ _ _ _ _))))
    rfl
/-! ### What the laws ask -/
theorem fd_with (l : List Ext) (x : Ext) : fdX x.o (wiX l x) = some x := by
  unfold fdX wiX
  cases hf : fiX x.o 0 l with
  | none =>
    simp only
    rw [List.find?_append, find_none (fiX_none hf)]
    simp
  | some i =>
    obtain ⟨_, h2, h3, h4⟩ := fiX_some hf
    simp only [Nat.sub_zero] at h2 h3 h4
    obtain ⟨_, hfl⟩ := fiX_filter hf
    simp only
    have hn : ∀ y ∈ (l.set i x).take i, y.o ≠ x.o := by
      intro y hy
      rw [List.take_set_of_le (Nat.le_refl _), ← hfl] at hy
      exact of_decide_eq_true (List.mem_filter.1 hy).2
    have h5 := find_app (o := x.o) (l := l.set i x) (k := i) (by rw [List.length_set]; exact h2) hn (by rw [List.getElem_set_self])
    rw [h5, List.getElem_set_self]
theorem fd_without (l : List Ext) (o : List UInt8) : fdX o (woX l o) = none := by
  unfold fdX woX
  refine find_none fun x hx => of_decide_eq_true (List.mem_filter.1 hx).2
theorem with_valid {l : List Ext} {x : Ext} (hl : xlV l = true) (hx : exV x = true) : xlV (wiX l x) = true := by
  unfold xlV at hl ⊢
  rw [Bool.and_eq_true, Bool.and_eq_true, decide_eq_true_eq] at hl ⊢
  obtain ⟨⟨h1, h2⟩, h3⟩ := hl
  unfold wiX
  cases hf : fiX x.o 0 l with
  | none =>
    have hn := fiX_none hf
    refine ⟨⟨by simp, ?_⟩, ?_⟩
    · simp only [List.all_append, h2, List.all_cons, hx, List.all_nil, Bool.and_true]
    · simp only [List.map_append, List.map_cons, List.map_nil]
      rw [List.nodup_append]
      refine ⟨h3, by simp, fun a ha b hb => ?_⟩
      simp only [List.mem_singleton] at hb
      obtain ⟨y, hy, rfl⟩ := List.mem_map.1 ha
      rw [hb]
      exact hn y hy
  | some i =>
    obtain ⟨_, h4, h5, _⟩ := fiX_some hf
    simp only [Nat.sub_zero] at h4 h5
    refine ⟨⟨?_, ?_⟩, ?_⟩
    · cases l with
      | nil => simp at h4
      | cons a r => cases i <;> simp
    · rw [List.all_eq_true]
      intro y hy
      rcases List.mem_or_eq_of_mem_set hy with h | h
      · exact List.all_eq_true.1 h2 y h
      · rw [h]; exact hx
    · simp only
      have e : (l.set i x).map (·.o) = l.map (·.o) := by
        rw [List.map_set, ← h5]
        refine List.ext_getElem (by simp) fun k g1 g2 => ?_
        rw [List.getElem_set]
        split
        · rename_i hk
          subst hk
          simp
        · rfl
      rw [e]
      exact h3
end Go.Proofs.YtmciaonjkkelnaaDoor

/- The laws ExtensionFinds and ExtensionWith, walked by the abstract machine. -/
namespace Go.Proofs.YtmciaonjkkelnaaDoor
open Go.Am
set_option linter.unusedSimpArgs false
set_option linter.unusedVariables false
-- withAmZ withAmMp withAmHd

def bumpK (v : List UInt8) (k : Nat) : List UInt8 := (v.take k).map (· + 1) ++ v.drop k
theorem bumpK_len (v : List UInt8) (k : Nat) : (bumpK v k).length = v.length := by simp [bumpK]; omega
theorem bumpK_get {v : List UInt8} {k : Nat} (h : k < v.length) : (bumpK v k)[k]'(by rw [bumpK_len]; exact h) = v[k] := by
  unfold bumpK
  rw [List.getElem_append_right (by simp; omega)]
  simp [show min k v.length = k by omega]
theorem bumpK_step {v : List UInt8} {k : Nat} (h : k < v.length) : (bys (bumpK v k)).set (k : Int).toNat (.int .u8 (IntKind.u8.wrap (((bys (bumpK v k)).getD (k : Int).toNat default).num + 1))) = bys (bumpK v (k + 1)) := by
  have hl : k < (bumpK v k).length := by rw [bumpK_len]; exact h
  rw [Int.toNat_natCast]
  have e1 : ((bys (bumpK v k)).getD k default).num = (v[k].toNat : Int) := by
    rw [List.getD_eq_getElem?_getD, bys, List.getElem?_map, List.getElem?_eq_getElem hl, bumpK_get h]
    rfl
  have e2 : (bumpK v k).set k (v[k] + 1) = bumpK v (k + 1) := by
    unfold bumpK
    rw [List.set_append_right _ _ (by simp; omega), show k - ((v.take k).map (· + 1)).length = 0 from by simp; omega, List.drop_eq_getElem_cons h, List.set_cons_zero, List.take_succ_eq_append_getElem h, List.map_append, List.append_assoc]
    rfl
  have e3 : (IntKind.u8.wrap ((v[k].toNat : Int) + 1)) = ((v[k] + 1).toNat : Int) := by
    rw [UInt8.toNat_add, IntKind.wrap_u8]
    simp
  rw [e1, e3, ← e2, bys, bys, List.map_set]
  rfl
theorem bump_first {v : List UInt8} (h : v ≠ []) : ((bys v).getD (Int.toNat 0) default).num ≠ ((bys (bumpK v v.length)).getD (Int.toNat 0) default).num := by
  match v, h with
  | a :: r, _ =>
    have e : bumpK (a :: r) (a :: r).length = (a + 1) :: r.map (· + 1) := by simp [bumpK]
    rw [e]
    show (a.toNat : Int) ≠ ((a + 1).toNat : Int)
    intro hh
    have h1 : a.toNat = (a + 1).toNat := by omega
    rw [UInt8.toNat_add] at h1
    have h2 : (1 : UInt8).toNat = 1 := rfl
    have h3 := u8_lt a
    omega
theorem isLFinds : IsFn Tryd.prog 3 Tryd.f3 := ⟨Tryd.func3, by decide, rfl⟩
set_option maxHeartbeats 4000000 in
theorem l_xfinds (l : List Ext) (hB : xlB l) (o : List UInt8) : ACalls Tryd.prog envL 3 [.sl (some 3) (xsD l), sD o] (fun r => r = .d (.bool true)) := by
  refine acalls_of ty_ok isLFinds rfl rfl ?_
  have hsz : (bA o).size = o.length := bA_size o
  cases hf : fewXs l with
  | false =>
    have hcf := c_rxlfew (envL.at 0) l hB hf
    unfold sD
    repeat' (first | ((with_reducible show AWp _ _ _ _ _); (first | refine awp_seq ?_ | refine awp_block ?_ | refine awp_skip ?_ | refine awp_exit ?_ | refine awp_scope ?_ | refine awp_label ?_ | refine awp_run ty_ok rfl sdm ?_ | refine awp_ret ⟨_, _, rfl, rfl, ?_⟩ | refine awp_ret ⟨_, rfl, ?_⟩ | ((refine awp_cond (ty := ty) rfl (fun hc => ?_) (fun hc => ?_)) <;> (try simp only [nms, reduceCtorEq] at hc) <;> (try (exfalso; omega))))) | ((with_reducible show AOps _ _ _ _ _ _); (first | refine aops_nil ?_ | refine aops_go ty_ok rfl rfl sdm ?_ | refine aops_gate ty_ok rfl rfl rfl sdm ?_ | refine aops_callE (ty := ty) rfl rfl rfl rfl rfl rfl rfl (c_awake22) rfl ?_ | refine aops_callE (ty := ty) rfl rfl rfl rfl rfl rfl rfl (hcf) rfl ?_ | refine aops_litE ty_ok rfl rfl rfl rfl rfl rfl rfl rfl rfl rfl rfl rfl ?_ | refine aops_litA ty_ok rfl rfl rfl rfl rfl rfl rfl rfl rfl rfl rfl rfl rfl rfl rfl rfl ?_ | refine aops_buildArr ty_ok rfl rfl rfl rfl rfl rfl rfl rfl rfl rfl ?_ | refine aops_indexArr ty_ok rfl rfl rfl rfl rfl rfl rfl rfl rfl rfl sdm ?_ | refine aops_lit0 ty_ok rfl rfl rfl rfl rfl rfl rfl ?_ | refine aops_field ty_ok rfl rfl rfl rfl rfl rfl rfl rfl rfl rfl ?_ | refine aops_cutE ty_ok rfl rfl rfl rfl rfl rfl rfl rfl rfl sdm rfl ?_ | ((fail_if_success (refine aops_known rfl ?_)); (refine aops_split ty_ok rfl rfl rfl rfl rfl rfl (fun hc => ⟨?_, ?_⟩) (fun hc => ⟨?_, ?_⟩)) <;> (try simp only [nms, reduceCtorEq] at hc) <;> (try (exfalso; omega)) <;> (try exact sdm)))) | ((fail_if_success (with_reducible show AWp _ _ _ _ _)); (fail_if_success (with_reducible show AOps _ _ _ _ _ _)); (first | (show AWp _ _ _ _ _) | (show AOps _ _ _ _ _ _))))
    all_goals rfl
  | true =>
    have hcf := c_rxlfew (envL.at 0) l hB hf
    obtain ⟨f1, f2, f3⟩ := fewXs_len hf
    have hxl := xs_len l
    by_cases ho : o.length ≤ 200
    · have hrf := c_rxfind (envL.at 0) l o (by omega)
      unfold fdR at hrf
      cases hi : fiX o 0 l with
      | none =>
        have hc1 := fun Γ => c_xindex_at Γ l o (by omega) (v := -1) (by rw [ixI, hi])
        have hfd : fdX o l = none := find_none (fiX_none hi)
        rw [hfd] at hrf
        have hE := fun Γ => c_bext Γ x0 x0 (decide_eq_true rfl)
        unfold sD at hc1 hrf ⊢
        repeat' (first | ((with_reducible show AWp _ _ _ _ _); (first | refine awp_seq ?_ | refine awp_block ?_ | refine awp_skip ?_ | refine awp_exit ?_ | refine awp_scope ?_ | refine awp_label ?_ | refine awp_run ty_ok rfl sdm ?_ | refine awp_ret ⟨_, _, rfl, rfl, ?_⟩ | refine awp_ret ⟨_, rfl, ?_⟩ | ((refine awp_cond (ty := ty) rfl (fun hc => ?_) (fun hc => ?_)) <;> (try simp only [nms, reduceCtorEq] at hc) <;> (try (exfalso; omega))))) | ((with_reducible show AOps _ _ _ _ _ _); (first | refine aops_nil ?_ | refine aops_go ty_ok rfl rfl sdm ?_ | refine aops_gate ty_ok rfl rfl rfl sdm ?_ | refine aops_callE (ty := ty) rfl rfl rfl rfl rfl rfl rfl (c_awake22) rfl ?_ | refine aops_callE (ty := ty) rfl rfl rfl rfl rfl rfl rfl (hcf) rfl ?_ | refine aops_inline ty_ok rfl rfl rfl rfl rfl rfl isXFind rfl rfl ?_ | refine aops_callE (ty := ty) rfl rfl rfl rfl rfl rfl rfl (hc1 _) rfl ?_ | refine aops_callE (ty := ty) rfl rfl rfl rfl rfl rfl rfl (hrf) rfl ?_ | refine aops_callE (ty := ty) rfl rfl rfl rfl rfl rfl rfl (hE _) rfl ?_ | refine aops_litE ty_ok rfl rfl rfl rfl rfl rfl rfl rfl rfl rfl rfl rfl ?_ | refine aops_litA ty_ok rfl rfl rfl rfl rfl rfl rfl rfl rfl rfl rfl rfl rfl rfl rfl rfl ?_ | refine aops_buildArr ty_ok rfl rfl rfl rfl rfl rfl rfl rfl rfl rfl ?_ | refine aops_indexArr ty_ok rfl rfl rfl rfl rfl rfl rfl rfl rfl rfl sdm ?_ | refine aops_lit0 ty_ok rfl rfl rfl rfl rfl rfl rfl ?_ | refine aops_field ty_ok rfl rfl rfl rfl rfl rfl rfl rfl rfl rfl ?_ | refine aops_cutE ty_ok rfl rfl rfl rfl rfl rfl rfl rfl rfl sdm rfl ?_ | ((fail_if_success (refine aops_known rfl ?_)); (refine aops_split ty_ok rfl rfl rfl rfl rfl rfl (fun hc => ⟨?_, ?_⟩) (fun hc => ⟨?_, ?_⟩)) <;> (try simp only [nms, reduceCtorEq] at hc) <;> (try (exfalso; omega)) <;> (try exact sdm)))) | ((fail_if_success (with_reducible show AWp _ _ _ _ _)); (fail_if_success (with_reducible show AOps _ _ _ _ _ _)); (first | (show AWp _ _ _ _ _) | (show AOps _ _ _ _ _ _) | ((with_reducible show BackOk _ _ _ _ _); refine back_nil rfl ?_))))
        refine awp_loopR (G := Unit) (fun _ => ⟨Tryd.f3.ntmps, [(0, .d (.sl (some 3) (xsD l))), (1, .d (.str (bA o))), (5, .ptr 0 0), (6, .d (.bool false)), (8, .d (.bool false)), (9, .d (.int .i64 0))], [(0, .box 27 [.d (.str ⟨#[]⟩), .d (.bool false), .nil none])], 1⟩) (fun _ => 0) () [(1, 0)]
          (SubR.mk' rfl rfl ⟨⟨_, rfl, rfl⟩, ⟨_, rfl, rfl⟩, ⟨_, rfl, rfl⟩, ⟨_, rfl, rfl⟩, ⟨_, rfl, rfl⟩, ⟨_, rfl, rfl⟩, trivial⟩ ⟨⟨_, _, rfl, rfl, rfl⟩, trivial⟩) ?_
        rintro ⟨⟩
        repeat' (first | ((with_reducible show AWp _ _ _ _ _); (first | refine awp_seq ?_ | refine awp_block ?_ | refine awp_skip ?_ | refine awp_exit ?_ | refine awp_scope ?_ | refine awp_label ?_ | refine awp_run ty_ok rfl sdm ?_ | refine awp_ret ⟨_, _, rfl, rfl, ?_⟩ | refine awp_ret ⟨_, rfl, ?_⟩ | ((refine awp_cond (ty := ty) rfl (fun hc => ?_) (fun hc => ?_)) <;> (try simp only [nms, reduceCtorEq] at hc) <;> (try (exfalso; omega))) | refine awp_anyL 29 mixed rfl (by kernel_rfl) ?_)) | ((with_reducible show AOps _ _ _ _ _ _); (first | refine aops_nil ?_ | refine aops_go ty_ok rfl rfl sdm ?_ | refine aops_gate ty_ok rfl rfl rfl sdm ?_ | refine aops_inline ty_ok rfl rfl rfl rfl rfl rfl isXFind rfl rfl ?_ | refine aops_callE (ty := ty) rfl rfl rfl rfl rfl rfl rfl (hc1 _) rfl ?_ | refine aops_litE ty_ok rfl rfl rfl rfl rfl rfl rfl rfl rfl rfl rfl rfl ?_ | refine aops_litA ty_ok rfl rfl rfl rfl rfl rfl rfl rfl rfl rfl rfl rfl rfl rfl rfl rfl ?_ | refine aops_buildArr ty_ok rfl rfl rfl rfl rfl rfl rfl rfl rfl rfl ?_ | refine aops_indexArr ty_ok rfl rfl rfl rfl rfl rfl rfl rfl rfl rfl sdm ?_ | refine aops_lit0 ty_ok rfl rfl rfl rfl rfl rfl rfl ?_ | refine aops_field ty_ok rfl rfl rfl rfl rfl rfl rfl rfl rfl rfl ?_ | refine aops_cutE ty_ok rfl rfl rfl rfl rfl rfl rfl rfl rfl sdm rfl ?_ | ((fail_if_success (refine aops_known rfl ?_)); (refine aops_split ty_ok rfl rfl rfl rfl rfl rfl (fun hc => ⟨?_, ?_⟩) (fun hc => ⟨?_, ?_⟩)) <;> (try simp only [nms, reduceCtorEq] at hc) <;> (try (exfalso; omega)) <;> (try exact sdm)))) | ((with_reducible show HeadT _ _ _ _ _ _ _ _ _ _); (first | refine head_end ?_ | refine head_goP ty_ok rfl rfl sdm ?_ | refine head_gate ty_ok rfl rfl rfl sdm ?_ | refine head_lit0 ty_ok rfl rfl rfl rfl rfl rfl ?_ | refine head_appE ty_ok rfl rfl rfl rfl rfl rfl rfl rfl rfl rfl rfl rfl rfl sdm ?_ | refine head_litA ty_ok rfl rfl rfl rfl rfl rfl rfl rfl rfl rfl rfl rfl rfl ?_ | refine head_callE (ty := ty) rfl rfl rfl rfl rfl rfl rfl (hc1 _) rfl ?_ | ((fail_if_success (refine head_known rfl ?_)); (refine head_split ty_ok rfl rfl rfl rfl (fun hc => ⟨?_, ?_⟩) (fun hc => ⟨?_, ?_⟩)) <;> (try simp only [nms, reduceCtorEq] at hc) <;> (try (exfalso; omega)) <;> (try exact sdm)))) | ((fail_if_success (with_reducible show AWp _ _ _ _ _)); (fail_if_success (with_reducible show AOps _ _ _ _ _ _)); (fail_if_success (with_reducible show HeadT _ _ _ _ _ _ _ _ _ _)); (first | (show AWp _ _ _ _ _) | (show AOps _ _ _ _ _ _) | ((with_reducible show BackOk _ _ _ _ _); refine back_nil rfl ?_))))
        all_goals rfl
      | some i =>
        obtain ⟨_, h2, h3, h4⟩ := fiX_some hi
        simp only [Nat.sub_zero] at h2 h3 h4
        have hc1 := fun Γ => c_xindex_at Γ l o (by omega) (v := i) (by rw [ixI, hi])
        have hfd : fdX o l = some l[i] := h4
        rw [hfd] at hrf
        have hX := xs_at h2
        have hcan := x_can hX
        have hvl := (f3 _ (List.getElem_mem h2)).2
        have hE : AFresh Tryd.prog (envL.at 0) 13 [xD l[i], xD l[i]] (fun y => y = .bool true) := .of_flat (c_bext _ l[i] l[i] (decide_eq_true rfl)) (flat_bool _)
        have e1 : (((xsD l).getD (i : Int).toNat default).cell 2).els = bys l[i].v := by rw [hX]; rfl
        have e2 : (((xsD l).getD (i : Int).toNat default).cell 0).txt = bA l[i].o := by rw [hX]; rfl
        have e3 : (((xsD l).getD (i : Int).toNat default).cell 1).tru = l[i].c := by rw [hX]; rfl
        have hcl : ∀ Γ, ACalls Tryd.prog Γ 45 [.sl none (((xsD l).getD (i : Int).toNat default).cell 2).els] (fun r => r = .own none 5 (bys l[i].v)) := fun Γ => by
          rw [e1]
          exact c_clone Γ _ (by omega)
        have hE' : AFresh Tryd.prog (envL.at 0) 13 [.agg [.str (((xsD l).getD (i : Int).toNat default).cell 0).txt, .bool (((xsD l).getD (i : Int).toNat default).cell 1).tru, .sl none (bys l[i].v)], xD l[i]] (fun y => y = .bool true) := by
          rw [e2, e3]
          exact hE
        have hw : ((bys l[i].v).length : Int) = l[i].v.length := by rw [bys_len]
        unfold sD at hc1 hrf ⊢
        repeat' (first | ((with_reducible show AWp _ _ _ _ _); (first | refine awp_seq ?_ | refine awp_block ?_ | refine awp_skip ?_ | refine awp_exit ?_ | refine awp_scope ?_ | refine awp_label ?_ | refine awp_run ty_ok rfl sdm ?_ | refine awp_ret ⟨_, _, rfl, rfl, ?_⟩ | refine awp_ret ⟨_, rfl, ?_⟩ | ((refine awp_cond (ty := ty) rfl (fun hc => ?_) (fun hc => ?_)) <;> (try simp only [nms, reduceCtorEq] at hc) <;> (try (exfalso; omega))))) | ((with_reducible show AOps _ _ _ _ _ _); (first | refine aops_nil ?_ | refine aops_go ty_ok rfl rfl sdm ?_ | refine aops_gate ty_ok rfl rfl rfl sdm ?_ | refine aops_callE (ty := ty) rfl rfl rfl rfl rfl rfl rfl (c_awake22) rfl ?_ | refine aops_callE (ty := ty) rfl rfl rfl rfl rfl rfl rfl (hcf) rfl ?_ | refine aops_inline ty_ok rfl rfl rfl rfl rfl rfl isXFind rfl rfl ?_ | refine aops_inline ty_ok rfl rfl rfl rfl rfl rfl isXClone rfl rfl ?_ | refine aops_callE (ty := ty) rfl rfl rfl rfl rfl rfl rfl (hc1 _) rfl ?_ | refine aops_callE (ty := ty) rfl rfl rfl rfl rfl rfl rfl (hcl _) rfl ?_ | refine aops_callE (ty := ty) rfl rfl rfl rfl rfl rfl rfl (hrf) rfl ?_ | refine aops_lend (ty := ty) rfl rfl rfl rfl rfl rfl rfl (hE') rfl ?_ | refine aops_litE ty_ok rfl rfl rfl rfl rfl rfl rfl rfl rfl rfl rfl rfl ?_ | refine aops_litA ty_ok rfl rfl rfl rfl rfl rfl rfl rfl rfl rfl rfl rfl rfl rfl rfl rfl ?_ | refine aops_buildArr ty_ok rfl rfl rfl rfl rfl rfl rfl rfl rfl rfl ?_ | refine aops_indexArr ty_ok rfl rfl rfl rfl rfl rfl rfl rfl rfl rfl sdm ?_ | refine aops_lit0 ty_ok rfl rfl rfl rfl rfl rfl rfl ?_ | refine aops_field ty_ok rfl rfl rfl rfl rfl rfl rfl rfl rfl rfl ?_ | refine aops_cutE ty_ok rfl rfl rfl rfl rfl rfl rfl rfl rfl sdm rfl ?_ | ((fail_if_success (refine aops_known rfl ?_)); (refine aops_split ty_ok rfl rfl rfl rfl rfl rfl (fun hc => ⟨?_, ?_⟩) (fun hc => ⟨?_, ?_⟩)) <;> (try simp only [nms, reduceCtorEq] at hc) <;> (try (exfalso; omega)) <;> (try exact sdm)))) | ((fail_if_success (with_reducible show AWp _ _ _ _ _)); (fail_if_success (with_reducible show AOps _ _ _ _ _ _)); (first | (show AWp _ _ _ _ _) | (show AOps _ _ _ _ _ _) | ((with_reducible show BackOk _ _ _ _ _); refine back_nil rfl ?_))))
        refine awp_loopR (G := { k : Nat // k ≤ l[i].v.length }) (fun k => ⟨Tryd.f3.ntmps, [(0, .d (.sl (some 3) (xsD l))), (1, .d (.str (bA o))), (5, .ptr 0 0), (6, .d (.bool true)), (8, .d (.bool true)), (9, .d (.int .i64 k.1))], [(0, .box 27 [.d (.str (((xsD l).getD (i : Int).toNat default).cell 0).txt), .d (.bool (((xsD l).getD (i : Int).toNat default).cell 1).tru), .ref 1]), (1, .row none 5 (bys (bumpK l[i].v k.1)))], 2⟩) (fun k => l[i].v.length - k.1) ⟨0, Nat.zero_le _⟩ [(4, 0), (3, 1)]
          (SubR.mk' rfl rfl ⟨⟨_, rfl, rfl⟩, ⟨_, rfl, rfl⟩, ⟨_, rfl, rfl⟩, ⟨_, rfl, rfl⟩, ⟨_, rfl, rfl⟩, ⟨_, rfl, rfl⟩, trivial⟩ ⟨⟨_, _, rfl, rfl, rfl⟩, ⟨_, _, rfl, rfl, rfl⟩, trivial⟩) ?_
        rintro ⟨k, hk⟩
        dsimp only
        have hbl : ((bys (bumpK l[i].v k)).length : Int) = l[i].v.length := by rw [bys_len, bumpK_len]
        have hbl2 := bumpK_len l[i].v k
        by_cases h : k < l[i].v.length
        · repeat' (first | ((with_reducible show AWp _ _ _ _ _); (first | refine awp_seq ?_ | refine awp_block ?_ | refine awp_skip ?_ | refine awp_exit ?_ | refine awp_scope ?_ | refine awp_label ?_ | refine awp_run ty_ok rfl sdm ?_ | refine awp_ret ⟨_, _, rfl, rfl, ?_⟩ | refine awp_ret ⟨_, rfl, ?_⟩ | ((refine awp_cond (ty := ty) rfl (fun hc => ?_) (fun hc => ?_)) <;> (try simp only [nms, reduceCtorEq] at hc) <;> (try (exfalso; omega))))) | ((with_reducible show AOps _ _ _ _ _ _); (first | refine aops_nil ?_ | refine aops_go ty_ok rfl rfl sdm ?_ | refine aops_gate ty_ok rfl rfl rfl sdm ?_ | refine aops_litE ty_ok rfl rfl rfl rfl rfl rfl rfl rfl rfl rfl rfl rfl ?_ | refine aops_litA ty_ok rfl rfl rfl rfl rfl rfl rfl rfl rfl rfl rfl rfl rfl rfl rfl rfl ?_ | refine aops_buildArr ty_ok rfl rfl rfl rfl rfl rfl rfl rfl rfl rfl ?_ | refine aops_indexArr ty_ok rfl rfl rfl rfl rfl rfl rfl rfl rfl rfl sdm ?_ | refine aops_lit0 ty_ok rfl rfl rfl rfl rfl rfl rfl ?_ | refine aops_field ty_ok rfl rfl rfl rfl rfl rfl rfl rfl rfl rfl ?_ | refine aops_cutE ty_ok rfl rfl rfl rfl rfl rfl rfl rfl rfl sdm rfl ?_ | ((fail_if_success (refine aops_known rfl ?_)); (refine aops_split ty_ok rfl rfl rfl rfl rfl rfl (fun hc => ⟨?_, ?_⟩) (fun hc => ⟨?_, ?_⟩)) <;> (try simp only [nms, reduceCtorEq] at hc) <;> (try (exfalso; omega)) <;> (try exact sdm)))) | ((fail_if_success (with_reducible show AWp _ _ _ _ _)); (fail_if_success (with_reducible show AOps _ _ _ _ _ _)); (first | (show AWp _ _ _ _ _) | (show AOps _ _ _ _ _ _))))
          refine ⟨⟨k + 1, h⟩, [(0, 0), (1, 1)], SubR.mk' rfl rfl ⟨⟨_, rfl, rfl⟩, ⟨_, rfl, rfl⟩, ⟨_, rfl, rfl⟩, ⟨_, rfl, rfl⟩, ⟨_, rfl, rfl⟩, ⟨_, rfl, rfl⟩, trivial⟩ ⟨⟨_, _, rfl, rfl, rfl⟩, ⟨_, _, rfl, rfl, congrArg (AO.row none 5) ?_⟩, trivial⟩, by simp only; omega⟩
          exact bumpK_step h
        · have hke : k = l[i].v.length := by omega
          subst hke
          by_cases hz : l[i].v = []
          · have hz0 : l[i].v.length = 0 := by rw [hz]; rfl
            repeat' (first | ((with_reducible show AWp _ _ _ _ _); (first | refine awp_seq ?_ | refine awp_block ?_ | refine awp_skip ?_ | refine awp_exit ?_ | refine awp_scope ?_ | refine awp_label ?_ | refine awp_run ty_ok rfl sdm ?_ | refine awp_ret ⟨_, _, rfl, rfl, ?_⟩ | refine awp_ret ⟨_, rfl, ?_⟩ | ((refine awp_cond (ty := ty) rfl (fun hc => ?_) (fun hc => ?_)) <;> (try simp only [nms, reduceCtorEq] at hc) <;> (try (exfalso; omega))) | refine awp_anyL 29 mixed rfl (by kernel_rfl) ?_)) | ((with_reducible show AOps _ _ _ _ _ _); (first | refine aops_nil ?_ | refine aops_go ty_ok rfl rfl sdm ?_ | refine aops_gate ty_ok rfl rfl rfl sdm ?_ | refine aops_inline ty_ok rfl rfl rfl rfl rfl rfl isXFind rfl rfl ?_ | refine aops_inline ty_ok rfl rfl rfl rfl rfl rfl isXClone rfl rfl ?_ | refine aops_callE (ty := ty) rfl rfl rfl rfl rfl rfl rfl (hc1 _) rfl ?_ | refine aops_callE (ty := ty) rfl rfl rfl rfl rfl rfl rfl (hcl _) rfl ?_ | refine aops_litE ty_ok rfl rfl rfl rfl rfl rfl rfl rfl rfl rfl rfl rfl ?_ | refine aops_litA ty_ok rfl rfl rfl rfl rfl rfl rfl rfl rfl rfl rfl rfl rfl rfl rfl rfl ?_ | refine aops_buildArr ty_ok rfl rfl rfl rfl rfl rfl rfl rfl rfl rfl ?_ | refine aops_indexArr ty_ok rfl rfl rfl rfl rfl rfl rfl rfl rfl rfl sdm ?_ | refine aops_lit0 ty_ok rfl rfl rfl rfl rfl rfl rfl ?_ | refine aops_field ty_ok rfl rfl rfl rfl rfl rfl rfl rfl rfl rfl ?_ | refine aops_cutE ty_ok rfl rfl rfl rfl rfl rfl rfl rfl rfl sdm rfl ?_ | ((fail_if_success (refine aops_known rfl ?_)); (refine aops_split ty_ok rfl rfl rfl rfl rfl rfl (fun hc => ⟨?_, ?_⟩) (fun hc => ⟨?_, ?_⟩)) <;> (try simp only [nms, reduceCtorEq] at hc) <;> (try (exfalso; omega)) <;> (try exact sdm)))) | ((with_reducible show HeadT _ _ _ _ _ _ _ _ _ _); (first | refine head_end ?_ | refine head_goP ty_ok rfl rfl sdm ?_ | refine head_gate ty_ok rfl rfl rfl sdm ?_ | refine head_lit0 ty_ok rfl rfl rfl rfl rfl rfl ?_ | refine head_appE ty_ok rfl rfl rfl rfl rfl rfl rfl rfl rfl rfl rfl rfl rfl sdm ?_ | refine head_litA ty_ok rfl rfl rfl rfl rfl rfl rfl rfl rfl rfl rfl rfl rfl ?_ | refine head_callE (ty := ty) rfl rfl rfl rfl rfl rfl rfl (hc1 _) rfl ?_ | refine head_callE (ty := ty) rfl rfl rfl rfl rfl rfl rfl (hcl _) rfl ?_ | ((fail_if_success (refine head_known rfl ?_)); (refine head_split ty_ok rfl rfl rfl rfl (fun hc => ⟨?_, ?_⟩) (fun hc => ⟨?_, ?_⟩)) <;> (try simp only [nms, reduceCtorEq] at hc) <;> (try (exfalso; omega)) <;> (try exact sdm)))) | ((fail_if_success (with_reducible show AWp _ _ _ _ _)); (fail_if_success (with_reducible show AOps _ _ _ _ _ _)); (fail_if_success (with_reducible show HeadT _ _ _ _ _ _ _ _ _ _)); (first | (show AWp _ _ _ _ _) | (show AOps _ _ _ _ _ _) | ((with_reducible show BackOk _ _ _ _ _); refine back_nil rfl ?_))))
            all_goals first | (exfalso; omega) | skip
            all_goals rfl
          · have hz1 := bump_first hz
            have hz2 : l[i].v.length ≠ 0 := fun e => hz (List.eq_nil_of_length_eq_zero e)
            repeat' (first | ((with_reducible show AWp _ _ _ _ _); (first | refine awp_seq ?_ | refine awp_block ?_ | refine awp_skip ?_ | refine awp_exit ?_ | refine awp_scope ?_ | refine awp_label ?_ | refine awp_run ty_ok rfl sdm ?_ | refine awp_ret ⟨_, _, rfl, rfl, ?_⟩ | refine awp_ret ⟨_, rfl, ?_⟩ | ((refine awp_cond (ty := ty) rfl (fun hc => ?_) (fun hc => ?_)) <;> (try simp only [nms, reduceCtorEq] at hc) <;> (try (exfalso; omega))) | refine awp_anyL 29 mixed rfl (by kernel_rfl) ?_)) | ((with_reducible show AOps _ _ _ _ _ _); (first | refine aops_nil ?_ | refine aops_go ty_ok rfl rfl sdm ?_ | refine aops_gate ty_ok rfl rfl rfl sdm ?_ | refine aops_inline ty_ok rfl rfl rfl rfl rfl rfl isXFind rfl rfl ?_ | refine aops_inline ty_ok rfl rfl rfl rfl rfl rfl isXClone rfl rfl ?_ | refine aops_callE (ty := ty) rfl rfl rfl rfl rfl rfl rfl (hc1 _) rfl ?_ | refine aops_callE (ty := ty) rfl rfl rfl rfl rfl rfl rfl (hcl _) rfl ?_ | refine aops_litE ty_ok rfl rfl rfl rfl rfl rfl rfl rfl rfl rfl rfl rfl ?_ | refine aops_litA ty_ok rfl rfl rfl rfl rfl rfl rfl rfl rfl rfl rfl rfl rfl rfl rfl rfl ?_ | refine aops_buildArr ty_ok rfl rfl rfl rfl rfl rfl rfl rfl rfl rfl ?_ | refine aops_indexArr ty_ok rfl rfl rfl rfl rfl rfl rfl rfl rfl rfl sdm ?_ | refine aops_lit0 ty_ok rfl rfl rfl rfl rfl rfl rfl ?_ | refine aops_field ty_ok rfl rfl rfl rfl rfl rfl rfl rfl rfl rfl ?_ | refine aops_cutE ty_ok rfl rfl rfl rfl rfl rfl rfl rfl rfl sdm rfl ?_ | ((fail_if_success (refine aops_known rfl ?_)); (refine aops_split ty_ok rfl rfl rfl rfl rfl rfl (fun hc => ⟨?_, ?_⟩) (fun hc => ⟨?_, ?_⟩)) <;> (try simp only [nms, reduceCtorEq] at hc) <;> (try (exfalso; omega)) <;> (try exact sdm)))) | ((with_reducible show HeadT _ _ _ _ _ _ _ _ _ _); (first | refine head_end ?_ | refine head_goP ty_ok rfl rfl sdm ?_ | refine head_gate ty_ok rfl rfl rfl sdm ?_ | refine head_lit0 ty_ok rfl rfl rfl rfl rfl rfl ?_ | refine head_appE ty_ok rfl rfl rfl rfl rfl rfl rfl rfl rfl rfl rfl rfl rfl sdm ?_ | refine head_litA ty_ok rfl rfl rfl rfl rfl rfl rfl rfl rfl rfl rfl rfl rfl ?_ | refine head_callE (ty := ty) rfl rfl rfl rfl rfl rfl rfl (hc1 _) rfl ?_ | refine head_callE (ty := ty) rfl rfl rfl rfl rfl rfl rfl (hcl _) rfl ?_ | ((fail_if_success (refine head_known rfl ?_)); (refine head_split ty_ok rfl rfl rfl rfl (fun hc => ⟨?_, ?_⟩) (fun hc => ⟨?_, ?_⟩)) <;> (try simp only [nms, reduceCtorEq] at hc) <;> (try (exfalso; omega)) <;> (try exact sdm)))) | ((fail_if_success (with_reducible show AWp _ _ _ _ _)); (fail_if_success (with_reducible show AOps _ _ _ _ _ _)); (fail_if_success (with_reducible show HeadT _ _ _ _ _ _ _ _ _ _)); (first | (show AWp _ _ _ _ _) | (show AOps _ _ _ _ _ _) | ((with_reducible show BackOk _ _ _ _ _); refine back_nil rfl ?_))))
            all_goals first | (exfalso; omega) | skip
            exact congrArg (fun b => Res.d (Dat.bool b)) (bne_iff_ne.2 hz1)
    · unfold sD
      repeat' (first | ((with_reducible show AWp _ _ _ _ _); (first | refine awp_seq ?_ | refine awp_block ?_ | refine awp_skip ?_ | refine awp_exit ?_ | refine awp_scope ?_ | refine awp_label ?_ | refine awp_run ty_ok rfl sdm ?_ | refine awp_ret ⟨_, _, rfl, rfl, ?_⟩ | refine awp_ret ⟨_, rfl, ?_⟩ | ((refine awp_cond (ty := ty) rfl (fun hc => ?_) (fun hc => ?_)) <;> (try simp only [nms, reduceCtorEq] at hc) <;> (try (exfalso; omega))))) | ((with_reducible show AOps _ _ _ _ _ _); (first | refine aops_nil ?_ | refine aops_go ty_ok rfl rfl sdm ?_ | refine aops_gate ty_ok rfl rfl rfl sdm ?_ | refine aops_callE (ty := ty) rfl rfl rfl rfl rfl rfl rfl (c_awake22) rfl ?_ | refine aops_callE (ty := ty) rfl rfl rfl rfl rfl rfl rfl (hcf) rfl ?_ | refine aops_litE ty_ok rfl rfl rfl rfl rfl rfl rfl rfl rfl rfl rfl rfl ?_ | refine aops_litA ty_ok rfl rfl rfl rfl rfl rfl rfl rfl rfl rfl rfl rfl rfl rfl rfl rfl ?_ | refine aops_buildArr ty_ok rfl rfl rfl rfl rfl rfl rfl rfl rfl rfl ?_ | refine aops_indexArr ty_ok rfl rfl rfl rfl rfl rfl rfl rfl rfl rfl sdm ?_ | refine aops_lit0 ty_ok rfl rfl rfl rfl rfl rfl rfl ?_ | refine aops_field ty_ok rfl rfl rfl rfl rfl rfl rfl rfl rfl rfl ?_ | refine aops_cutE ty_ok rfl rfl rfl rfl rfl rfl rfl rfl rfl sdm rfl ?_ | ((fail_if_success (refine aops_known rfl ?_)); (refine aops_split ty_ok rfl rfl rfl rfl rfl rfl (fun hc => ⟨?_, ?_⟩) (fun hc => ⟨?_, ?_⟩)) <;> (try simp only [nms, reduceCtorEq] at hc) <;> (try (exfalso; omega)) <;> (try exact sdm)))) | ((fail_if_success (with_reducible show AWp _ _ _ _ _)); (fail_if_success (with_reducible show AOps _ _ _ _ _ _)); (first | (show AWp _ _ _ _ _) | (show AOps _ _ _ _ _ _))))
      all_goals rfl
end Go.Proofs.YtmciaonjkkelnaaDoor

/- The law ExtensionWith, walked by the abstract machine. -/
namespace Go.Proofs.YtmciaonjkkelnaaDoor
open Go.Am
set_option linter.unusedSimpArgs false
set_option linter.unusedVariables false
-- withAmZ withAmMp withAmHd

theorem wiX_mem {l : List Ext} {x y : Ext} (h : y ∈ wiX l x) : y ∈ l ∨ y = x := by
  unfold wiX at h
  split at h
  · exact List.mem_or_eq_of_mem_set h
  · rcases List.mem_append.1 h with h | h
    · exact .inl h
    · exact .inr (by simpa using h)
theorem wiX_len (l : List Ext) (x : Ext) : (wiX l x).length ≤ l.length + 1 := by
  unfold wiX
  split <;> simp
theorem woX_mem {l : List Ext} {o : List UInt8} {y : Ext} (h : y ∈ woX l o) : y ∈ l := (List.mem_filter.1 h).1
theorem woX_len (l : List Ext) (o : List UInt8) : (woX l o).length ≤ l.length := List.length_filter_le _ _
theorem isLWith : IsFn Tryd.prog 5 Tryd.f5 := ⟨Tryd.func5, by decide, rfl⟩
set_option maxHeartbeats 4000000 in
theorem l_xwith (l : List Ext) (hB : xlB l) (x : Ext) : ACalls Tryd.prog envL 5 [.sl (some 3) (xsD l), xD x] (fun r => r = .d (.bool true)) := by
  refine acalls_of ty_ok isLWith rfl rfl ?_
  have eX : xD x = .agg [.str (bA x.o), .bool x.c, .sl none (bys x.v)] := rfl
  cases hf : fewXs l with
  | false =>
    have hcf := c_rxlfew (envL.at 0) l hB hf
    rw [eX]
    repeat' (first | ((with_reducible show AWp _ _ _ _ _); (first | refine awp_seq ?_ | refine awp_block ?_ | refine awp_skip ?_ | refine awp_exit ?_ | refine awp_scope ?_ | refine awp_label ?_ | refine awp_run ty_ok rfl sdm ?_ | refine awp_ret ⟨_, _, rfl, rfl, ?_⟩ | refine awp_ret ⟨_, rfl, ?_⟩ | ((refine awp_cond (ty := ty) rfl (fun hc => ?_) (fun hc => ?_)) <;> (try simp only [nms, reduceCtorEq] at hc) <;> (try (exfalso; omega))))) | ((with_reducible show AOps _ _ _ _ _ _); (first | refine aops_nil ?_ | refine aops_go ty_ok rfl rfl sdm ?_ | refine aops_gate ty_ok rfl rfl rfl sdm ?_ | refine aops_callE (ty := ty) rfl rfl rfl rfl rfl rfl rfl (c_awake22) rfl ?_ | refine aops_callE (ty := ty) rfl rfl rfl rfl rfl rfl rfl (hcf) rfl ?_ | refine aops_litE ty_ok rfl rfl rfl rfl rfl rfl rfl rfl rfl rfl rfl rfl ?_ | refine aops_litA ty_ok rfl rfl rfl rfl rfl rfl rfl rfl rfl rfl rfl rfl rfl rfl rfl rfl ?_ | refine aops_buildArr ty_ok rfl rfl rfl rfl rfl rfl rfl rfl rfl rfl ?_ | refine aops_indexArr ty_ok rfl rfl rfl rfl rfl rfl rfl rfl rfl rfl sdm ?_ | refine aops_lit0 ty_ok rfl rfl rfl rfl rfl rfl rfl ?_ | refine aops_field ty_ok rfl rfl rfl rfl rfl rfl rfl rfl rfl rfl ?_ | refine aops_cutE ty_ok rfl rfl rfl rfl rfl rfl rfl rfl rfl sdm rfl ?_ | ((fail_if_success (refine aops_known rfl ?_)); (refine aops_split ty_ok rfl rfl rfl rfl rfl rfl (fun hc => ⟨?_, ?_⟩) (fun hc => ⟨?_, ?_⟩)) <;> (try simp only [nms, reduceCtorEq] at hc) <;> (try (exfalso; omega)) <;> (try exact sdm)))) | ((fail_if_success (with_reducible show AWp _ _ _ _ _)); (fail_if_success (with_reducible show AOps _ _ _ _ _ _)); (first | (show AWp _ _ _ _ _) | (show AOps _ _ _ _ _ _))))
    all_goals rfl
  | true =>
    have hcf := c_rxlfew (envL.at 0) l hB hf
    obtain ⟨f1, f2, f3⟩ := fewXs_len hf
    have hxl := xs_len l
    cases hg : fewX x with
    | false =>
      have hcg := c_rxfew (envL.at 0) x hg
      rw [eX]
      repeat' (first | ((with_reducible show AWp _ _ _ _ _); (first | refine awp_seq ?_ | refine awp_block ?_ | refine awp_skip ?_ | refine awp_exit ?_ | refine awp_scope ?_ | refine awp_label ?_ | refine awp_run ty_ok rfl sdm ?_ | refine awp_ret ⟨_, _, rfl, rfl, ?_⟩ | refine awp_ret ⟨_, rfl, ?_⟩ | ((refine awp_cond (ty := ty) rfl (fun hc => ?_) (fun hc => ?_)) <;> (try simp only [nms, reduceCtorEq] at hc) <;> (try (exfalso; omega))))) | ((with_reducible show AOps _ _ _ _ _ _); (first | refine aops_nil ?_ | refine aops_go ty_ok rfl rfl sdm ?_ | refine aops_gate ty_ok rfl rfl rfl sdm ?_ | refine aops_callE (ty := ty) rfl rfl rfl rfl rfl rfl rfl (c_awake22) rfl ?_ | refine aops_callE (ty := ty) rfl rfl rfl rfl rfl rfl rfl (hcf) rfl ?_ | refine aops_callE (ty := ty) rfl rfl rfl rfl rfl rfl rfl (hcg) rfl ?_ | refine aops_litE ty_ok rfl rfl rfl rfl rfl rfl rfl rfl rfl rfl rfl rfl ?_ | refine aops_litA ty_ok rfl rfl rfl rfl rfl rfl rfl rfl rfl rfl rfl rfl rfl rfl rfl rfl ?_ | refine aops_buildArr ty_ok rfl rfl rfl rfl rfl rfl rfl rfl rfl rfl ?_ | refine aops_indexArr ty_ok rfl rfl rfl rfl rfl rfl rfl rfl rfl rfl sdm ?_ | refine aops_lit0 ty_ok rfl rfl rfl rfl rfl rfl rfl ?_ | refine aops_field ty_ok rfl rfl rfl rfl rfl rfl rfl rfl rfl rfl ?_ | refine aops_cutE ty_ok rfl rfl rfl rfl rfl rfl rfl rfl rfl sdm rfl ?_ | ((fail_if_success (refine aops_known rfl ?_)); (refine aops_split ty_ok rfl rfl rfl rfl rfl rfl (fun hc => ⟨?_, ?_⟩) (fun hc => ⟨?_, ?_⟩)) <;> (try simp only [nms, reduceCtorEq] at hc) <;> (try (exfalso; omega)) <;> (try exact sdm)))) | ((fail_if_success (with_reducible show AWp _ _ _ _ _)); (fail_if_success (with_reducible show AOps _ _ _ _ _ _)); (first | (show AWp _ _ _ _ _) | (show AOps _ _ _ _ _ _))))
      all_goals rfl
    | true =>
      have hcg := c_rxfew (envL.at 0) x hg
      obtain ⟨x1, x2⟩ := fewX_len hg
      rw [eX]
      repeat' (first | ((with_reducible show AWp _ _ _ _ _); (first | refine awp_seq ?_ | refine awp_block ?_ | refine awp_skip ?_ | refine awp_exit ?_ | refine awp_scope ?_ | refine awp_label ?_ | refine awp_run ty_ok rfl sdm ?_ | refine awp_ret ⟨_, _, rfl, rfl, ?_⟩ | refine awp_ret ⟨_, rfl, ?_⟩ | ((refine awp_cond (ty := ty) rfl (fun hc => ?_) (fun hc => ?_)) <;> (try simp only [nms, reduceCtorEq] at hc) <;> (try (exfalso; omega))))) | ((with_reducible show AOps _ _ _ _ _ _); (first | refine aops_nil ?_ | refine aops_go ty_ok rfl rfl sdm ?_ | refine aops_gate ty_ok rfl rfl rfl sdm ?_ | refine aops_callE (ty := ty) rfl rfl rfl rfl rfl rfl rfl (c_awake22) rfl ?_ | refine aops_callE (ty := ty) rfl rfl rfl rfl rfl rfl rfl (hcf) rfl ?_ | refine aops_callE (ty := ty) rfl rfl rfl rfl rfl rfl rfl (hcg) rfl ?_ | refine aops_litE ty_ok rfl rfl rfl rfl rfl rfl rfl rfl rfl rfl rfl rfl ?_ | refine aops_litA ty_ok rfl rfl rfl rfl rfl rfl rfl rfl rfl rfl rfl rfl rfl rfl rfl rfl ?_ | refine aops_buildArr ty_ok rfl rfl rfl rfl rfl rfl rfl rfl rfl rfl ?_ | refine aops_indexArr ty_ok rfl rfl rfl rfl rfl rfl rfl rfl rfl rfl sdm ?_ | refine aops_lit0 ty_ok rfl rfl rfl rfl rfl rfl rfl ?_ | refine aops_field ty_ok rfl rfl rfl rfl rfl rfl rfl rfl rfl rfl ?_ | refine aops_cutE ty_ok rfl rfl rfl rfl rfl rfl rfl rfl rfl sdm rfl ?_ | ((fail_if_success (refine aops_known rfl ?_)); (refine aops_split ty_ok rfl rfl rfl rfl rfl rfl (fun hc => ⟨?_, ?_⟩) (fun hc => ⟨?_, ?_⟩)) <;> (try simp only [nms, reduceCtorEq] at hc) <;> (try (exfalso; omega)) <;> (try exact sdm)))) | ((fail_if_success (with_reducible show AWp _ _ _ _ _)); (fail_if_success (with_reducible show AOps _ _ _ _ _ _)); (first | (show AWp _ _ _ _ _) | (show AOps _ _ _ _ _ _))))
      refine awp_nilrow 5 27 rfl ?_
      refine awp_loopR (G := { k : Nat // k ≤ l.length }) (fun k => ⟨Tryd.f5.ntmps, [(0, .d (.sl (some 3) (xsD l))), (3, .ptr 0 0), (5, .ref 1), (6, .d (.int .i64 k.1))], [(0, .box 27 [.d (.str (bA x.o)), .d (.bool x.c), .d (.sl none (bys x.v))]), (1, .row (some 3) 27 (xsD (l.take k.1)))], 2⟩) (fun k => l.length - k.1) ⟨0, Nat.zero_le _⟩ [(0, 0), (1, 1)]
        (SubR.mk' rfl rfl ⟨⟨_, rfl, rfl⟩, ⟨_, rfl, rfl⟩, ⟨_, rfl, rfl⟩, ⟨_, rfl, rfl⟩, trivial⟩ ⟨⟨_, _, rfl, rfl, rfl⟩, ⟨_, _, rfl, rfl, rfl⟩, trivial⟩) ?_
      rintro ⟨k, hk⟩
      dsimp only
      have hrl : (xsD (l.take k)).length ≤ 1000000 := by rw [xs_len, List.length_take]; omega
      rcases Nat.lt_or_ge k l.length with h | h
      · have hX := xs_at h
        have hcan := x_can hX
        obtain ⟨y1, y2, y3⟩ := x_fields hX
        obtain ⟨_, z2⟩ := x_size hX
        have hvl := (f3 _ (List.getElem_mem h)).2
        have z3 : (((xsD l).getD (k : Int).toNat default).cell 2).els.length ≤ 1099511627776 := by omega
        repeat' (first | ((with_reducible show AWp _ _ _ _ _); (first | refine awp_seq ?_ | refine awp_block ?_ | refine awp_skip ?_ | refine awp_exit ?_ | refine awp_scope ?_ | refine awp_label ?_ | refine awp_run ty_ok rfl sdm ?_ | refine awp_ret ⟨_, _, rfl, rfl, ?_⟩ | refine awp_ret ⟨_, rfl, ?_⟩ | ((refine awp_cond (ty := ty) rfl (fun hc => ?_) (fun hc => ?_)) <;> (try simp only [nms, reduceCtorEq] at hc) <;> (try (exfalso; omega))) | refine awp_anyM 20 22 mixed rfl (by kernel_rfl) ?_)) | ((with_reducible show AOps _ _ _ _ _ _); (first | refine aops_nil ?_ | refine aops_go ty_ok rfl rfl sdm ?_ | refine aops_gate ty_ok rfl rfl rfl sdm ?_ | refine aops_litE ty_ok rfl rfl rfl rfl rfl rfl rfl rfl rfl rfl rfl rfl ?_ | refine aops_litA ty_ok rfl rfl rfl rfl rfl rfl rfl rfl rfl rfl rfl rfl rfl rfl rfl rfl ?_ | refine aops_buildArr ty_ok rfl rfl rfl rfl rfl rfl rfl rfl rfl rfl ?_ | refine aops_indexArr ty_ok rfl rfl rfl rfl rfl rfl rfl rfl rfl rfl sdm ?_ | refine aops_lit0 ty_ok rfl rfl rfl rfl rfl rfl rfl ?_ | refine aops_field ty_ok rfl rfl rfl rfl rfl rfl rfl rfl rfl rfl ?_ | refine aops_cutE ty_ok rfl rfl rfl rfl rfl rfl rfl rfl rfl sdm rfl ?_ | ((fail_if_success (refine aops_known rfl ?_)); (refine aops_split ty_ok rfl rfl rfl rfl rfl rfl (fun hc => ⟨?_, ?_⟩) (fun hc => ⟨?_, ?_⟩)) <;> (try simp only [nms, reduceCtorEq] at hc) <;> (try (exfalso; omega)) <;> (try exact sdm)))) | ((with_reducible show HeadT _ _ _ _ _ _ _ _ _ _); (first | refine head_end ?_ | refine head_goP ty_ok rfl rfl sdm ?_ | refine head_gate ty_ok rfl rfl rfl sdm ?_ | refine head_lit0 ty_ok rfl rfl rfl rfl rfl rfl ?_ | refine head_appE ty_ok rfl rfl rfl rfl rfl rfl rfl rfl rfl rfl rfl rfl rfl sdm ?_ | refine head_litA ty_ok rfl rfl rfl rfl rfl rfl rfl rfl rfl rfl rfl rfl rfl ?_ | ((fail_if_success (refine head_known rfl ?_)); (refine head_split ty_ok rfl rfl rfl rfl (fun hc => ⟨?_, ?_⟩) (fun hc => ⟨?_, ?_⟩)) <;> (try simp only [nms, reduceCtorEq] at hc) <;> (try (exfalso; omega)) <;> (try exact sdm)))) | ((fail_if_success (with_reducible show AWp _ _ _ _ _)); (fail_if_success (with_reducible show AOps _ _ _ _ _ _)); (fail_if_success (with_reducible show HeadT _ _ _ _ _ _ _ _ _ _)); (first | (show AWp _ _ _ _ _) | (show AOps _ _ _ _ _ _))))
        refine ⟨⟨k + 1, h⟩, [(0, 0), (22, 1)], SubR.mk' rfl rfl ⟨⟨_, rfl, rfl⟩, ⟨_, rfl, rfl⟩, ⟨_, rfl, rfl⟩, ⟨_, rfl, rfl⟩, trivial⟩ ⟨⟨_, _, rfl, rfl, rfl⟩, ⟨_, _, rfl, rfl, congrArg (AO.row (some 3) 27) ?_⟩, trivial⟩, by simp only; omega⟩
        rw [List.take_succ_eq_append_getElem h, xs_app]
        exact congrArg (fun z => xsD (l.take k) ++ [z]) (hcan.symm.trans hX)
      · have hke : k = l.length := by omega
        subst hke
        rw [List.take_length]
        have hv : ∀ y ∈ l, y.v.length ≤ 1099511627776 := fun y hy => by have := (f3 y hy).2; omega
        have hW := (c_xwith (envL.at 0) l x (by omega) hv (by omega)).own_d
        have hWo := (c_xwithout (envL.at 0) l x.o (by omega) hv).own_d
        have rW := (c_rxwith (envL.at 0) l x (by omega)).own_d
        have rWo := (c_rxwithout (envL.at 0) l x.o (by omega)).own_d
        have l1 := wiX_len l x
        have l2 := woX_len l x.o
        have q1 := c_bexts0 (envL.at 0) (wiX l x) (wiX l x) (by omega) (decide_eq_true rfl)
        have q2 := c_bexts0 (envL.at 0) (woX l x.o) (woX l x.o) (by omega) (decide_eq_true rfl)
        have q3 := c_bexts0 (envL.at 0) l l (by omega) (decide_eq_true rfl)
        have w1 := c_xfind (envL.at 0) (wiX l x) x.o (by omega) (fun y hy => by
          rcases wiX_mem hy with h | h
          · exact hv y h
          · rw [h]; omega)
        have w2 := c_xfind (envL.at 0) (woX l x.o) x.o (by omega) (fun y hy => hv y (woX_mem hy))
        rw [fdR, fd_with] at w1
        rw [fdR, fd_without] at w2
        have hE := c_bext (envL.at 0) x x (decide_eq_true rfl)
        unfold sD at hWo rWo w1 w2
        cases hvl : xlV l with
        | false =>
          have v1 := c_rxlvalid (envL.at 0) l (by omega) (fun y hy => by have := (f3 y hy).1; omega) hvl
          repeat' (first | ((with_reducible show AWp _ _ _ _ _); (first | refine awp_seq ?_ | refine awp_block ?_ | refine awp_skip ?_ | refine awp_exit ?_ | refine awp_scope ?_ | refine awp_label ?_ | refine awp_run ty_ok rfl sdm ?_ | refine awp_ret ⟨_, _, rfl, rfl, ?_⟩ | refine awp_ret ⟨_, rfl, ?_⟩ | ((refine awp_cond (ty := ty) rfl (fun hc => ?_) (fun hc => ?_)) <;> (try simp only [nms, reduceCtorEq] at hc) <;> (try (exfalso; omega))) | refine awp_anyF [.ref 1] 8 mixed rfl (by kernel_rfl) rfl ?_)) | ((with_reducible show AOps _ _ _ _ _ _); (first | refine aops_nil ?_ | refine aops_go ty_ok rfl rfl sdm ?_ | refine aops_gate ty_ok rfl rfl rfl sdm ?_ | refine aops_callE (ty := ty) rfl rfl rfl rfl rfl rfl rfl (hW) rfl ?_ | refine aops_callE (ty := ty) rfl rfl rfl rfl rfl rfl rfl (hWo) rfl ?_ | refine aops_callE (ty := ty) rfl rfl rfl rfl rfl rfl rfl (rW) rfl ?_ | refine aops_callE (ty := ty) rfl rfl rfl rfl rfl rfl rfl (rWo) rfl ?_ | refine aops_callE (ty := ty) rfl rfl rfl rfl rfl rfl rfl (q1) rfl ?_ | refine aops_callE (ty := ty) rfl rfl rfl rfl rfl rfl rfl (q2) rfl ?_ | refine aops_callE (ty := ty) rfl rfl rfl rfl rfl rfl rfl (q3) rfl ?_ | refine aops_callE (ty := ty) rfl rfl rfl rfl rfl rfl rfl (w1) rfl ?_ | refine aops_callE (ty := ty) rfl rfl rfl rfl rfl rfl rfl (w2) rfl ?_ | refine aops_callE (ty := ty) rfl rfl rfl rfl rfl rfl rfl (hE) rfl ?_ | refine aops_callE (ty := ty) rfl rfl rfl rfl rfl rfl rfl (v1) rfl ?_ | refine aops_litE ty_ok rfl rfl rfl rfl rfl rfl rfl rfl rfl rfl rfl rfl ?_ | refine aops_litA ty_ok rfl rfl rfl rfl rfl rfl rfl rfl rfl rfl rfl rfl rfl rfl rfl rfl ?_ | refine aops_buildArr ty_ok rfl rfl rfl rfl rfl rfl rfl rfl rfl rfl ?_ | refine aops_indexArr ty_ok rfl rfl rfl rfl rfl rfl rfl rfl rfl rfl sdm ?_ | refine aops_lit0 ty_ok rfl rfl rfl rfl rfl rfl rfl ?_ | refine aops_field ty_ok rfl rfl rfl rfl rfl rfl rfl rfl rfl rfl ?_ | refine aops_cutE ty_ok rfl rfl rfl rfl rfl rfl rfl rfl rfl sdm rfl ?_ | ((fail_if_success (refine aops_known rfl ?_)); (refine aops_split ty_ok rfl rfl rfl rfl rfl rfl (fun hc => ⟨?_, ?_⟩) (fun hc => ⟨?_, ?_⟩)) <;> (try simp only [nms, reduceCtorEq] at hc) <;> (try (exfalso; omega)) <;> (try exact sdm)))) | ((with_reducible show HeadT _ _ _ _ _ _ _ _ _ _); (first | refine head_end ?_ | refine head_goP ty_ok rfl rfl sdm ?_ | refine head_gate ty_ok rfl rfl rfl sdm ?_ | refine head_lit0 ty_ok rfl rfl rfl rfl rfl rfl ?_ | refine head_appE ty_ok rfl rfl rfl rfl rfl rfl rfl rfl rfl rfl rfl rfl rfl sdm ?_ | refine head_litA ty_ok rfl rfl rfl rfl rfl rfl rfl rfl rfl rfl rfl rfl rfl ?_ | refine head_callE (ty := ty) rfl rfl rfl rfl rfl rfl rfl (hW) rfl ?_ | refine head_callE (ty := ty) rfl rfl rfl rfl rfl rfl rfl (hWo) rfl ?_ | refine head_callE (ty := ty) rfl rfl rfl rfl rfl rfl rfl (rW) rfl ?_ | refine head_callE (ty := ty) rfl rfl rfl rfl rfl rfl rfl (rWo) rfl ?_ | refine head_callE (ty := ty) rfl rfl rfl rfl rfl rfl rfl (q1) rfl ?_ | refine head_callE (ty := ty) rfl rfl rfl rfl rfl rfl rfl (q2) rfl ?_ | refine head_callE (ty := ty) rfl rfl rfl rfl rfl rfl rfl (q3) rfl ?_ | refine head_callE (ty := ty) rfl rfl rfl rfl rfl rfl rfl (w1) rfl ?_ | refine head_callE (ty := ty) rfl rfl rfl rfl rfl rfl rfl (w2) rfl ?_ | refine head_callE (ty := ty) rfl rfl rfl rfl rfl rfl rfl (hE) rfl ?_ | refine head_callE (ty := ty) rfl rfl rfl rfl rfl rfl rfl (v1) rfl ?_ | ((fail_if_success (refine head_known rfl ?_)); (refine head_split ty_ok rfl rfl rfl rfl (fun hc => ⟨?_, ?_⟩) (fun hc => ⟨?_, ?_⟩)) <;> (try simp only [nms, reduceCtorEq] at hc) <;> (try (exfalso; omega)) <;> (try exact sdm)))) | ((fail_if_success (with_reducible show AWp _ _ _ _ _)); (fail_if_success (with_reducible show AOps _ _ _ _ _ _)); (fail_if_success (with_reducible show HeadT _ _ _ _ _ _ _ _ _ _)); (first | (show AWp _ _ _ _ _) | (show AOps _ _ _ _ _ _))))
          all_goals rfl
        | true =>
          have v1 := c_rxlvalid (envL.at 0) l (by omega) (fun y hy => by have := (f3 y hy).1; omega) hvl
          cases hvx : exV x with
          | false =>
            have v2 := c_rxvalid (envL.at 0) x (by omega) hvx
            repeat' (first | ((with_reducible show AWp _ _ _ _ _); (first | refine awp_seq ?_ | refine awp_block ?_ | refine awp_skip ?_ | refine awp_exit ?_ | refine awp_scope ?_ | refine awp_label ?_ | refine awp_run ty_ok rfl sdm ?_ | refine awp_ret ⟨_, _, rfl, rfl, ?_⟩ | refine awp_ret ⟨_, rfl, ?_⟩ | ((refine awp_cond (ty := ty) rfl (fun hc => ?_) (fun hc => ?_)) <;> (try simp only [nms, reduceCtorEq] at hc) <;> (try (exfalso; omega))) | refine awp_anyF [.ref 1] 8 mixed rfl (by kernel_rfl) rfl ?_)) | ((with_reducible show AOps _ _ _ _ _ _); (first | refine aops_nil ?_ | refine aops_go ty_ok rfl rfl sdm ?_ | refine aops_gate ty_ok rfl rfl rfl sdm ?_ | refine aops_callE (ty := ty) rfl rfl rfl rfl rfl rfl rfl (hW) rfl ?_ | refine aops_callE (ty := ty) rfl rfl rfl rfl rfl rfl rfl (hWo) rfl ?_ | refine aops_callE (ty := ty) rfl rfl rfl rfl rfl rfl rfl (rW) rfl ?_ | refine aops_callE (ty := ty) rfl rfl rfl rfl rfl rfl rfl (rWo) rfl ?_ | refine aops_callE (ty := ty) rfl rfl rfl rfl rfl rfl rfl (q1) rfl ?_ | refine aops_callE (ty := ty) rfl rfl rfl rfl rfl rfl rfl (q2) rfl ?_ | refine aops_callE (ty := ty) rfl rfl rfl rfl rfl rfl rfl (q3) rfl ?_ | refine aops_callE (ty := ty) rfl rfl rfl rfl rfl rfl rfl (w1) rfl ?_ | refine aops_callE (ty := ty) rfl rfl rfl rfl rfl rfl rfl (w2) rfl ?_ | refine aops_callE (ty := ty) rfl rfl rfl rfl rfl rfl rfl (hE) rfl ?_ | refine aops_callE (ty := ty) rfl rfl rfl rfl rfl rfl rfl (v1) rfl ?_ | refine aops_callE (ty := ty) rfl rfl rfl rfl rfl rfl rfl (v2) rfl ?_ | refine aops_litE ty_ok rfl rfl rfl rfl rfl rfl rfl rfl rfl rfl rfl rfl ?_ | refine aops_litA ty_ok rfl rfl rfl rfl rfl rfl rfl rfl rfl rfl rfl rfl rfl rfl rfl rfl ?_ | refine aops_buildArr ty_ok rfl rfl rfl rfl rfl rfl rfl rfl rfl rfl ?_ | refine aops_indexArr ty_ok rfl rfl rfl rfl rfl rfl rfl rfl rfl rfl sdm ?_ | refine aops_lit0 ty_ok rfl rfl rfl rfl rfl rfl rfl ?_ | refine aops_field ty_ok rfl rfl rfl rfl rfl rfl rfl rfl rfl rfl ?_ | refine aops_cutE ty_ok rfl rfl rfl rfl rfl rfl rfl rfl rfl sdm rfl ?_ | ((fail_if_success (refine aops_known rfl ?_)); (refine aops_split ty_ok rfl rfl rfl rfl rfl rfl (fun hc => ⟨?_, ?_⟩) (fun hc => ⟨?_, ?_⟩)) <;> (try simp only [nms, reduceCtorEq] at hc) <;> (try (exfalso; omega)) <;> (try exact sdm)))) | ((with_reducible show HeadT _ _ _ _ _ _ _ _ _ _); (first | refine head_end ?_ | refine head_goP ty_ok rfl rfl sdm ?_ | refine head_gate ty_ok rfl rfl rfl sdm ?_ | refine head_lit0 ty_ok rfl rfl rfl rfl rfl rfl ?_ | refine head_appE ty_ok rfl rfl rfl rfl rfl rfl rfl rfl rfl rfl rfl rfl rfl sdm ?_ | refine head_litA ty_ok rfl rfl rfl rfl rfl rfl rfl rfl rfl rfl rfl rfl rfl ?_ | refine head_callE (ty := ty) rfl rfl rfl rfl rfl rfl rfl (hW) rfl ?_ | refine head_callE (ty := ty) rfl rfl rfl rfl rfl rfl rfl (hWo) rfl ?_ | refine head_callE (ty := ty) rfl rfl rfl rfl rfl rfl rfl (rW) rfl ?_ | refine head_callE (ty := ty) rfl rfl rfl rfl rfl rfl rfl (rWo) rfl ?_ | refine head_callE (ty := ty) rfl rfl rfl rfl rfl rfl rfl (q1) rfl ?_ | refine head_callE (ty := ty) rfl rfl rfl rfl rfl rfl rfl (q2) rfl ?_ | refine head_callE (ty := ty) rfl rfl rfl rfl rfl rfl rfl (q3) rfl ?_ | refine head_callE (ty := ty) rfl rfl rfl rfl rfl rfl rfl (w1) rfl ?_ | refine head_callE (ty := ty) rfl rfl rfl rfl rfl rfl rfl (w2) rfl ?_ | refine head_callE (ty := ty) rfl rfl rfl rfl rfl rfl rfl (hE) rfl ?_ | refine head_callE (ty := ty) rfl rfl rfl rfl rfl rfl rfl (v1) rfl ?_ | refine head_callE (ty := ty) rfl rfl rfl rfl rfl rfl rfl (v2) rfl ?_ | ((fail_if_success (refine head_known rfl ?_)); (refine head_split ty_ok rfl rfl rfl rfl (fun hc => ⟨?_, ?_⟩) (fun hc => ⟨?_, ?_⟩)) <;> (try simp only [nms, reduceCtorEq] at hc) <;> (try (exfalso; omega)) <;> (try exact sdm)))) | ((fail_if_success (with_reducible show AWp _ _ _ _ _)); (fail_if_success (with_reducible show AOps _ _ _ _ _ _)); (fail_if_success (with_reducible show HeadT _ _ _ _ _ _ _ _ _ _)); (first | (show AWp _ _ _ _ _) | (show AOps _ _ _ _ _ _))))
            all_goals rfl
          | true =>
            have v2 := c_rxvalid (envL.at 0) x (by omega) hvx
            have v3 := c_xlvalid (wiX l x) (by omega) (fun y hy => by
              rcases wiX_mem hy with h | h
              · have := (f3 y h).1; omega
              · rw [h]; omega) (with_valid hvl hvx)
            repeat' (first | ((with_reducible show AWp _ _ _ _ _); (first | refine awp_seq ?_ | refine awp_block ?_ | refine awp_skip ?_ | refine awp_exit ?_ | refine awp_scope ?_ | refine awp_label ?_ | refine awp_run ty_ok rfl sdm ?_ | refine awp_ret ⟨_, _, rfl, rfl, ?_⟩ | refine awp_ret ⟨_, rfl, ?_⟩ | ((refine awp_cond (ty := ty) rfl (fun hc => ?_) (fun hc => ?_)) <;> (try simp only [nms, reduceCtorEq] at hc) <;> (try (exfalso; omega))) | refine awp_anyF [.ref 1] 8 mixed rfl (by kernel_rfl) rfl ?_)) | ((with_reducible show AOps _ _ _ _ _ _); (first | refine aops_nil ?_ | refine aops_go ty_ok rfl rfl sdm ?_ | refine aops_gate ty_ok rfl rfl rfl sdm ?_ | refine aops_callE (ty := ty) rfl rfl rfl rfl rfl rfl rfl (hW) rfl ?_ | refine aops_callE (ty := ty) rfl rfl rfl rfl rfl rfl rfl (hWo) rfl ?_ | refine aops_callE (ty := ty) rfl rfl rfl rfl rfl rfl rfl (rW) rfl ?_ | refine aops_callE (ty := ty) rfl rfl rfl rfl rfl rfl rfl (rWo) rfl ?_ | refine aops_callE (ty := ty) rfl rfl rfl rfl rfl rfl rfl (q1) rfl ?_ | refine aops_callE (ty := ty) rfl rfl rfl rfl rfl rfl rfl (q2) rfl ?_ | refine aops_callE (ty := ty) rfl rfl rfl rfl rfl rfl rfl (q3) rfl ?_ | refine aops_callE (ty := ty) rfl rfl rfl rfl rfl rfl rfl (w1) rfl ?_ | refine aops_callE (ty := ty) rfl rfl rfl rfl rfl rfl rfl (w2) rfl ?_ | refine aops_callE (ty := ty) rfl rfl rfl rfl rfl rfl rfl (hE) rfl ?_ | refine aops_callE (ty := ty) rfl rfl rfl rfl rfl rfl rfl (v1) rfl ?_ | refine aops_callE (ty := ty) rfl rfl rfl rfl rfl rfl rfl (v2) rfl ?_ | refine aops_callE (ty := ty) rfl rfl rfl rfl rfl rfl rfl (v3) rfl ?_ | refine aops_litE ty_ok rfl rfl rfl rfl rfl rfl rfl rfl rfl rfl rfl rfl ?_ | refine aops_litA ty_ok rfl rfl rfl rfl rfl rfl rfl rfl rfl rfl rfl rfl rfl rfl rfl rfl ?_ | refine aops_buildArr ty_ok rfl rfl rfl rfl rfl rfl rfl rfl rfl rfl ?_ | refine aops_indexArr ty_ok rfl rfl rfl rfl rfl rfl rfl rfl rfl rfl sdm ?_ | refine aops_lit0 ty_ok rfl rfl rfl rfl rfl rfl rfl ?_ | refine aops_field ty_ok rfl rfl rfl rfl rfl rfl rfl rfl rfl rfl ?_ | refine aops_cutE ty_ok rfl rfl rfl rfl rfl rfl rfl rfl rfl sdm rfl ?_ | ((fail_if_success (refine aops_known rfl ?_)); (refine aops_split ty_ok rfl rfl rfl rfl rfl rfl (fun hc => ⟨?_, ?_⟩) (fun hc => ⟨?_, ?_⟩)) <;> (try simp only [nms, reduceCtorEq] at hc) <;> (try (exfalso; omega)) <;> (try exact sdm)))) | ((with_reducible show HeadT _ _ _ _ _ _ _ _ _ _); (first | refine head_end ?_ | refine head_goP ty_ok rfl rfl sdm ?_ | refine head_gate ty_ok rfl rfl rfl sdm ?_ | refine head_lit0 ty_ok rfl rfl rfl rfl rfl rfl ?_ | refine head_appE ty_ok rfl rfl rfl rfl rfl rfl rfl rfl rfl rfl rfl rfl rfl sdm ?_ | refine head_litA ty_ok rfl rfl rfl rfl rfl rfl rfl rfl rfl rfl rfl rfl rfl ?_ | refine head_callE (ty := ty) rfl rfl rfl rfl rfl rfl rfl (hW) rfl ?_ | refine head_callE (ty := ty) rfl rfl rfl rfl rfl rfl rfl (hWo) rfl ?_ | refine head_callE (ty := ty) rfl rfl rfl rfl rfl rfl rfl (rW) rfl ?_ | refine head_callE (ty := ty) rfl rfl rfl rfl rfl rfl rfl (rWo) rfl ?_ | refine head_callE (ty := ty) rfl rfl rfl rfl rfl rfl rfl (q1) rfl ?_ | refine head_callE (ty := ty) rfl rfl rfl rfl rfl rfl rfl (q2) rfl ?_ | refine head_callE (ty := ty) rfl rfl rfl rfl rfl rfl rfl (q3) rfl ?_ | refine head_callE (ty := ty) rfl rfl rfl rfl rfl rfl rfl (w1) rfl ?_ | refine head_callE (ty := ty) rfl rfl rfl rfl rfl rfl rfl (w2) rfl ?_ | refine head_callE (ty := ty) rfl rfl rfl rfl rfl rfl rfl (hE) rfl ?_ | refine head_callE (ty := ty) rfl rfl rfl rfl rfl rfl rfl (v1) rfl ?_ | refine head_callE (ty := ty) rfl rfl rfl rfl rfl rfl rfl (v2) rfl ?_ | refine head_callE (ty := ty) rfl rfl rfl rfl rfl rfl rfl (v3) rfl ?_ | ((fail_if_success (refine head_known rfl ?_)); (refine head_split ty_ok rfl rfl rfl rfl (fun hc => ⟨?_, ?_⟩) (fun hc => ⟨?_, ?_⟩)) <;> (try simp only [nms, reduceCtorEq] at hc) <;> (try (exfalso; omega)) <;> (try exact sdm)))) | ((fail_if_success (with_reducible show AWp _ _ _ _ _)); (fail_if_success (with_reducible show AOps _ _ _ _ _ _)); (fail_if_success (with_reducible show HeadT _ _ _ _ _ _ _ _ _ _)); (first | (show AWp _ _ _ _ _) | (show AOps _ _ _ _ _ _))))
            all_goals rfl
end Go.Proofs.YtmciaonjkkelnaaDoor

/- The abstract machine, twenty-first part: the given statement out of a contract, where the row lists variables. No program. -/
namespace Go.Am
open Go.RowKit Go.ChangeShapes Go.WideShapes
set_option linter.unusedSimpArgs false
set_option linter.unusedVariables false

/-- Of a law whose row lists variables: from the contract on data to what its row asks. -/
theorem lifted_laid {C : Checked} {f : FuncId} {fn : Func} {s : ChangeSpec} {conds : List PathCond} {tb : TypeId} {os : Os} {H : Type} {enc : TypeId × Value → H} {laid : List (String × DataW Unit)} {Γ : Env} (own : ownKnob C.prog.godebug = none) (started : os.Started) (noInit : C.prog.inits.idxOf? f = none) (hfn : C.prog.funcs[f]? = some fn)
    (laidOut : laidOutB C.prog = true) (hts : ∀ t ∈ fn.params.toList, C.prog.readableRec t = true ∧ t < C.prog.types.size) (hres : fn.resultTypes = #[tb]) (htb : C.prog.underlying tb = some .bool) (hvars : s.vars = [])
    (hspec : ∀ (vs : List Value) (w : World) (ds : List (DataW H)) (ps : List MemPlace), DataW.TrodAll enc C.prog w 0 (fun _ => true) true fn.params.toList vs ds ps → s.fn H ds = { results := [.lit (.bool true)], args := ds })
    (witness : ∃ (w : World) (tape : Tape) (i : Input), w.os = os ∧ (w.forCall tape i).Shaped C.prog ∧ i.vars = [] ∧ Input.okWide C.prog (w.forCall tape i) .any w.heap.size f i ∧
      ((s.pre enc C.prog fn conds false (w.forCall tape i).memory i.args ∧ laidMetH C.prog laid (w.forCall tape i).memory) ∧ sizedMet enc C.prog fn (OpenSpec.ofChange s) false (w.forCall tape i).memory i.args) ∧ ({} : Assume).holds C.prog (lone (Frame.enter C.prog f i.args .normal) [] (w.forCall tape i)))
    (hΓ : ∀ W, laidMetH C.prog laid W → Γ.ok W)
    {α : Type} {g : α → List Dat} {ok : α → Prop} (hop : OpensA C.prog fn.params.toList g ok) (hA : ∀ a, ok a → ACalls C.prog Γ f (g a) (fun r => r = .d (.bool true))) :
    ReturnsInHanded {} C os f .any (fun w args => (s.pre enc C.prog fn conds false w args ∧ laidMetH C.prog laid w) ∧ sizedMet enc C.prog fn (OpenSpec.ofChange s) false w args) (s.post enc C.prog fn false true false false) := by
  refine returnsInHanded_of_change_and (C := C) (X := fun w _ => laidMetH C.prog laid w) (fun _ _ _ hh h => laidMetH.of_heap hh h) own started noInit hfn witness ?_
  intro W base args ds gs before hval hW _ _ hL _
  have hW' := hW
  obtain ⟨p, q, hT, hV, rfl, hfz, hnd⟩ := hW
  rw [hvars] at hV
  obtain ⟨rfl, rfl⟩ := trodVars_none hV
  obtain ⟨a, ha, hlen, hrep⟩ := hop H enc W base args.toList ds p hT (fun j t v hj hv => hval j t v (by simpa using hj) (by simpa using hv))
  refine ((hA a ha).2 W (fun _ => true) args (hΓ W hL) (by simpa using hlen.symm) (fun j x hj => by simpa using hrep j x hj)).mono fun e W' ⟨v, r, he, bel, hrr, hr⟩ => ?_
  subst he
  subst hr
  have hv : v = .bool true := by
    cases hrr
    rfl
  subst hv
  obtain ⟨pa, hpa⟩ := trodAll_stay laidOut bel hts hT
  refine ⟨_, rfl, ds, [], p ++ [], [], pa, [], hW', ?_, ?_, ?_, bel.frame _, fun h => by cases h⟩
  · rw [List.append_nil, hspec _ _ _ _ hT, hres]
    exact trodAll_mk1 ⟨1, by simp [DataW.trod, Value.cells, htb]⟩
  · rw [List.append_nil, hspec _ _ _ _ hT]
    exact hpa
  · rw [List.append_nil, hspec _ _ _ _ hT, hvars]
    exact rfl
end Go.Am

/- The abstract machine: what a law is handed, opened as data, with a bound on its sizes. No program. -/
namespace Go.Am
open Go.RowKit Go.ChangeShapes Go.WideShapes Go.ChangeAt
set_option linter.unusedSimpArgs false
set_option linter.unusedVariables false

def Light {H : Type} (P : Program) (t : TypeId) (d : DataW H) : Prop := ∀ n ∈ d.weights P t, n ≤ reachBytes
def OpensQ (P : Program) (t : TypeId) {α : Type} (f : α → List Dat) (ok : α → Prop) : Prop :=
  ∀ (H : Type) (enc : TypeId × Value → H) (w : World) (fuel : Nat) (cs : List Value) (x : DataW H × List MemPlace), DataW.trod enc P w 0 (fun _ => true) true fuel t cs = some x → Light P t x.1 → ∃ a, ok a ∧ CellsAre w (f a) cs
section
variable {P : Program} {t e : TypeId} {α β : Type}
theorem OpensQ.of {f : α → List Dat} {ok : α → Prop} (h : Opens P t f ok) : OpensQ P t f ok := fun H enc w fuel cs x hx _ => h H enc w fuel cs x hx
theorem OpensQ.str (ht : P.underlying t = some .string) : OpensQ P t (fun s : ByteArray => [.str s]) (fun s => s.size ≤ reachBytes) := by
  intro H enc w fuel cs x h hw
  obtain ⟨s, rfl, rfl, hs⟩ := DataW.trod_string ht h
  refine ⟨s, ?_, cellsAre_one rfl (.str s)⟩
  have := hw s.data.toList.length (by simp [DataW.weights])
  simpa using this
theorem OpensQ.map {f : α → List Dat} {ok : α → Prop} {f' : β → List Dat} {ok' : β → Prop} (h : OpensQ P t f ok) (g : α → β) (hf : ∀ a, ok a → f' (g a) = f a) (hk : ∀ a, ok a → ok' (g a)) : OpensQ P t f' ok' := fun H enc w fuel cs x hx hw => by
  obtain ⟨a, h1, h2⟩ := h H enc w fuel cs x hx hw
  exact ⟨g a, hk a h1, by rw [hf a h1]; exact h2⟩
theorem weightsAll_mem {H : Type} {P : Program} {e : TypeId} : ∀ {l : List (DataW H)} {d : DataW H}, d ∈ l → ∀ n ∈ d.weights P e, n ∈ DataW.weightsAll P e l
  | [], d, h, n, hn => by cases h
  | x :: r, d, h, n, hn => by
    unfold DataW.weightsAll
    rw [List.mem_append]
    rcases List.mem_cons.1 h with rfl | h
    · exact .inl hn
    · exact .inr (weightsAll_mem h n hn)
theorem OpensQ.slice {ek : Option Nat} {f : α → List Dat} {ok : α → Prop} (ht : P.underlying t = some (.slice e)) (hc : P.cellsOf e = Am.esz ek) (hpos : 0 < Am.esz ek) (hby : 0 < P.bytesOf e) (he : OpensQ P e f ok) (pack : α → Dat)
    (hpack : ∀ a, (f a).length = Am.esz ek → (∀ y ∈ f a, y.one = true) → Fits ek (pack a) ∧ (pack a).cells = f a) : OpensQ P t (fun l : List α => [.sl ek (l.map pack)]) (fun l => (∀ a ∈ l, ok a) ∧ l.length ≤ reachBytes) := by
  intro H enc w fuel cs x h hw
  rcases DataW.trod_slice ht h with ⟨rfl, _⟩ | ⟨a, len, cap, elems, rest, n, _, rfl, rfl, _, hl, hm, hlen, hel, _⟩
  · exact ⟨[], by simp, cellsAre_one rfl (.nil ek)⟩
  have hwe : ∀ y ∈ elems, Light P e y.1 := fun y hy n hn => hw n (by
    simp only [DataW.weights, ht]
    exact List.mem_cons_of_mem _ (List.mem_append_left _ (weightsAll_mem (List.mem_map.2 ⟨y, hy, rfl⟩) n hn)))
  have hwl : len ≤ reachBytes := by
    have h1 := hw ((elems.map (·.1)).length * P.bytesOf e + (rest.map (·.1)).length * P.bytesOf e) (by
      simp only [DataW.weights, ht, ← Nat.add_mul]
      exact List.mem_cons_self ..)
    rw [List.length_map, hlen] at h1
    have h2 : len * 1 ≤ len * P.bytesOf e := Nat.mul_le_mul_left _ hby
    omega
  have each : ∀ i, i < len → ∃ z, ok z ∧ ∃ cs', w.cells? 0 (a.add (i * P.cellsOf e)) (P.cellsOf e) = some cs' ∧ CellsAre w (f z) cs' := by
    intro i hi
    have h1 := hel i hi
    rw [List.getElem?_eq_getElem (by omega)] at h1
    obtain ⟨cs', h2, h3⟩ := Option.bind_eq_some_iff.1 h1
    obtain ⟨z, hz, hz2⟩ := he H enc w n cs' _ h3 (hwe _ (List.getElem_mem _))
    exact ⟨z, hz, cs', h2, hz2⟩
  obtain ⟨l, hll, hq⟩ := list_of len each
  refine ⟨l, ⟨fun z hz => ?_, by omega⟩, cellsAre_one rfl ?_⟩
  · obtain ⟨i, hi⟩ := List.mem_iff_getElem?.1 hz
    exact (hq i z hi).1
  obtain ⟨b, off, spot⟩ := a
  have fit : ∀ z ∈ l, Fits ek (pack z) ∧ (pack z).cells = f z := by
    intro z hz
    obtain ⟨i, hi⟩ := List.mem_iff_getElem?.1 hz
    obtain ⟨_, cs', h1, h2, h3, _⟩ := hq i z hi
    refine hpack z ?_ h3
    rw [h2, (World.cells?_some h1).2.1, hc]
  have hsp : 0 < l.length → spot = none := by
    intro h0
    obtain ⟨_, cs', h1, _⟩ := hq 0 l[0] (List.getElem?_eq_getElem h0)
    obtain ⟨_, h3, h4⟩ := World.cells?_some h1
    have h5 := h4 0 (by rw [hc]; exact hpos)
    rw [List.getElem?_eq_getElem (by rw [h3, hc]; exact hpos)] at h5
    have h6 := World.cell?_spot h5
    simpa [Addr.add] using h6
  refine RepD.sl_mk (by simpa using hll.symm) (by simp; omega) hm (by simpa using hsp) (fun z hz => ?_) (fun k z hk j y hj => ?_)
  · obtain ⟨z', hz', rfl⟩ := List.mem_map.1 hz
    exact (fit z' hz').1
  · rw [List.getElem?_map] at hk
    obtain ⟨z', hz', rfl⟩ := Option.map_eq_some_iff.1 hk
    obtain ⟨_, cs', h1, h2, h3, h4⟩ := hq k z' hz'
    have hmem := List.mem_of_getElem? hz'
    rw [(fit z' hmem).2] at hj
    obtain ⟨_, h6, h7⟩ := World.cells?_some h1
    have hjl : j < (f z').length := (List.getElem?_eq_some_iff.1 hj).1
    have h8 := h7 j (by omega)
    have h9 : spot = none := hsp (by have := (List.getElem?_eq_some_iff.1 hz').1; omega)
    subst h9
    rw [Addr.add_lit, Addr.add_lit, List.getElem?_eq_getElem (by omega)] at h8
    refine ⟨rfl, h3 y (List.mem_of_getElem? hj), _, by rw [← h8, hc], ?_⟩
    have := h4 j y hj
    rwa [List.getD_eq_getElem?_getD, List.getElem?_eq_getElem (by omega)] at this
theorem OpensQ.bytes (ht : P.underlying t = some (.slice e)) (he : P.underlying e = some (.int .u8)) (hc : P.cellsOf e = 1) (hby : 0 < P.bytesOf e) : OpensQ P t (fun l : List UInt8 => [.sl none (bys l)]) (fun l => l.length ≤ reachBytes) :=
  OpensQ.map (OpensQ.slice (ek := none) ht hc (by decide) hby (OpensQ.of (Opens.u8 he)) by1 (fun a _ _ => ⟨rfl, rfl⟩)) (fun l => l) (fun _ _ => rfl) (fun _ h => h.2)
def OpensQF (P : Program) (off : Nat) (fs : List Field) {α : Type} (f : α → List Dat) (ok : α → Prop) : Prop :=
  ∀ (H : Type) (enc : TypeId × Value → H) (w : World) (fuel : Nat) (cs : List Value), (∀ fd ∈ fs, ∃ x, DataW.trod enc P w 0 (fun _ => true) true fuel fd.type ((cs.drop fd.offset).take (P.cellsOf fd.type)) = some x ∧ Light P fd.type x.1) →
    ∃ a, ok a ∧ CellsAre w (f a) ((cs.drop off).take (f a).length)
theorem OpensQF.one {fd : Field} {off sz : Nat} {f : α → List Dat} {ok : α → Prop} (ho : fd.offset = off) (h : OpensQ P fd.type f ok) : OpensQF P off [fd] f ok := by
  intro H enc w fuel cs hx
  obtain ⟨x, hx, hw⟩ := hx fd (by simp)
  obtain ⟨a, h1, h2⟩ := h H enc w fuel _ x hx hw
  refine ⟨a, h1, ?_⟩
  rw [ho] at h2
  have hl := h2.1
  rw [List.length_take] at hl
  have : (cs.drop off).take (f a).length = (cs.drop off).take (P.cellsOf fd.type) := by
    rw [hl]
    by_cases hle : P.cellsOf fd.type ≤ (cs.drop off).length
    · rw [Nat.min_eq_left hle]
    · rw [Nat.min_eq_right (by omega), List.take_of_length_le (Nat.le_refl _), List.take_of_length_le (by omega)]
  rw [this]
  exact h2
theorem OpensQF.cons {fd : Field} {fs : List Field} {off sz : Nat} {f : α → List Dat} {ok : α → Prop} {g : β → List Dat} {ok' : β → Prop} (ho : fd.offset = off) (hsz : ∀ a, (f a).length = sz) (h : OpensQ P fd.type f ok) (hs : OpensQF P (off + sz) fs g ok') :
    OpensQF P off (fd :: fs) (fun p : α × β => f p.1 ++ g p.2) (fun p => ok p.1 ∧ ok' p.2) := by
  intro H enc w fuel cs hx
  obtain ⟨a, h1, h2⟩ := OpensQF.one (sz := sz) ho h H enc w fuel cs (fun fd' hfd => hx fd' (by simp at hfd; simp [hfd]))
  obtain ⟨b, h3, h4⟩ := hs H enc w fuel cs (fun fd' hfd => hx fd' (by simp [hfd]))
  refine ⟨(a, b), ⟨h1, h3⟩, ?_⟩
  have e1 := h2.1
  have e2 := h4.1
  rw [hsz] at h2 e1
  have key : (cs.drop off).take (f a ++ g b).length = (cs.drop off).take sz ++ (cs.drop (off + sz)).take (g b).length := by
    rw [List.length_append, hsz, List.take_add, List.drop_drop]
  refine ⟨?_, ?_, ?_⟩
  · rw [key, List.length_append, List.length_append, ← e2, ← e1, hsz]
  · intro y hy
    rcases List.mem_append.1 hy with hy | hy
    · exact h2.2.1 y hy
    · exact h4.2.1 y hy
  · intro j y hj
    simp only at hj ⊢
    rw [key]
    rw [List.getElem?_append] at hj
    rw [List.getD_eq_getElem?_getD, List.getElem?_append]
    rw [hsz] at hj
    split at hj
    · rename_i hlt
      rw [if_pos (by omega)]
      exact h2.2.2 j y hj
    · rename_i hlt
      rw [if_neg (by omega), ← e1]
      exact h4.2.2 _ y hj
theorem OpensQ.struct {fs : Array Field} {f : α → List Dat} {ok : α → Prop} (ht : P.underlying t = some (.struct fs)) (hsz : ∀ a, (f a).length = P.cellsOf t) (h : OpensQF P 0 fs.toList f ok) : OpensQ P t f ok := by
  intro H enc w fuel cs x hx hw
  obtain ⟨xs, n, rfl, rfl, hl, hxl, hg⟩ := DataW.trod_struct ht hx
  obtain ⟨a, h1, h2⟩ := h H enc w n cs (fun fd hfd => by
    obtain ⟨i, hi⟩ := List.mem_iff_getElem?.1 hfd
    have hi' : fs[i]? = some fd := by simpa using hi
    have h3 := hg i fd hi'
    have hlt := (Array.getElem?_eq_some_iff.1 hi').1
    rw [List.getElem?_eq_getElem (by omega)] at h3
    refine ⟨_, h3, fun q hq => hw q ?_⟩
    simp only [DataW.weights, ht]
    refine DataW.weights_mem_each (j := i) (t := fd.type) (d := (xs[i]'(by omega)).1) (by simp [hi']) (by simp [show i < xs.length by omega]) q hq)
  refine ⟨a, h1, ?_⟩
  rw [hsz, List.drop_zero, ← hl, List.take_length] at h2
  exact h2

def OpensQV (P : Program) (t : TypeId) {α : Type} (f : α → Dat) (ok : α → Prop) : Prop :=
  ∀ (H : Type) (enc : TypeId × Value → H) (w : World) (base : Nat) (v : Value) (d : DataW H) (ps : List MemPlace), DataW.Trod enc P w 0 (fun _ => true) true t v d ps → Light P t d → Value.okWide P w .any base t v → ∃ a, ok a ∧ RepD w (fun _ => true) (f a) v
theorem OpensQV.of {f : α → Dat} {ok : α → Prop} (h : OpensV P t f ok) : OpensQV P t f ok := fun H enc w base v d ps hx _ hok => h H enc w base v d ps hx hok
theorem OpensQV.slice {f : α → Dat} {ok : α → Prop} (ht : P.underlying t = some (.slice e)) (h : OpensQ P t (fun a => [f a]) ok) : OpensQV P t f ok := by
  intro H enc w base v d ps ⟨fuel, hf⟩ hw hok
  obtain ⟨a, l, c, rfl⟩ := okWide_slice ht hok
  obtain ⟨a, h1, h2, h3, h4⟩ := h H enc w fuel _ _ hf hw
  exact ⟨a, h1, by simpa [Value.cells] using h4 0 (f a) rfl⟩
theorem OpensQV.struct {fs : Array Field} {f : α → List Dat} {ok : α → Prop} (ht : P.underlying t = some (.struct fs)) (h : OpensQ P t f ok) : OpensQV P t (fun a => .agg (f a)) ok := by
  intro H enc w base v d ps ⟨fuel, hf⟩ hw hok
  obtain ⟨cs, rfl, _⟩ := okWide_struct ht hok
  obtain ⟨a, h1, h2, h3, h4⟩ := h H enc w fuel _ _ hf hw
  refine ⟨a, h1, .agg _ cs (by simpa [Value.cells] using h2.symm) h3 (fun j y hj => by simpa [Value.cells] using h4 j y hj)⟩
def OpensQA (P : Program) (ts : List TypeId) {α : Type} (g : α → List Dat) (ok : α → Prop) : Prop :=
  ∀ (H : Type) (enc : TypeId × Value → H) (w : World) (base : Nat) (vs : List Value) (ds : List (DataW H)) (ps : List MemPlace), DataW.TrodAll enc P w 0 (fun _ => true) true ts vs ds ps → (∀ (j : Nat) t d, ts[j]? = some t → ds[j]? = some d → Light P t d) → (∀ (j : Nat) t v, ts[j]? = some t → vs[j]? = some v → Value.okWide P w .any base t v) →
    ∃ a, ok a ∧ (g a).length = vs.length ∧ ∀ (j : Nat) (y : Dat), (g a)[j]? = some y → RepD w (fun _ => true) y (vs.getD j undef)
theorem OpensQA.nil : OpensQA P [] (fun _ : Unit => []) (fun _ => True) := by
  intro H enc w base vs ds ps h _ _
  obtain ⟨rfl, _, _⟩ := trodAll_nil h
  exact ⟨(), trivial, rfl, by simp⟩
theorem OpensQA.cons {ts : List TypeId} {f : α → Dat} {ok : α → Prop} {g : β → List Dat} {ok' : β → Prop} (h : OpensQV P t f ok) (hs : OpensQA P ts g ok') : OpensQA P (t :: ts) (fun p : α × β => f p.1 :: g p.2) (fun p => ok p.1 ∧ ok' p.2) := by
  intro H enc w base vs ds ps ht hw hok
  obtain ⟨v, vs', d, ds', p, q, rfl, rfl, rfl, h1, h2⟩ := trodAll_cons ht
  obtain ⟨a, h3, h4⟩ := h H enc w base v d p h1 (hw 0 t d rfl rfl) (hok 0 t v rfl rfl)
  obtain ⟨b, h5, h6, h7⟩ := hs H enc w base vs' ds' q h2 (fun j t d hj hd => hw (j + 1) t d (by simpa using hj) (by simpa using hd)) (fun j t v hj hv => hok (j + 1) t v (by simpa using hj) (by simpa using hv))
  refine ⟨(a, b), ⟨h3, h5⟩, by simp [h6], fun j y hj => ?_⟩
  cases j with
  | zero => simp at hj; subst hj; simpa using h4
  | succ j => simpa using h7 j y (by simpa using hj)
end
theorem lifted_laidQ {C : Checked} {f : FuncId} {fn : Func} {s : ChangeSpec} {conds : List PathCond} {tb : TypeId} {os : Os} {H : Type} {enc : TypeId × Value → H} {laid : List (String × DataW Unit)} {Γ : Env} (own : ownKnob C.prog.godebug = none) (started : os.Started) (noInit : C.prog.inits.idxOf? f = none) (hfn : C.prog.funcs[f]? = some fn)
    (laidOut : laidOutB C.prog = true) (hts : ∀ t ∈ fn.params.toList, C.prog.readableRec t = true ∧ t < C.prog.types.size) (hres : fn.resultTypes = #[tb]) (htb : C.prog.underlying tb = some .bool) (hvars : s.vars = [])
    (hspec : ∀ (vs : List Value) (w : World) (ds : List (DataW H)) (ps : List MemPlace), DataW.TrodAll enc C.prog w 0 (fun _ => true) true fn.params.toList vs ds ps → s.fn H ds = { results := [.lit (.bool true)], args := ds })
    (witness : ∃ (w : World) (tape : Tape) (i : Input), w.os = os ∧ (w.forCall tape i).Shaped C.prog ∧ i.vars = [] ∧ Input.okWide C.prog (w.forCall tape i) .any w.heap.size f i ∧
      ((s.pre enc C.prog fn conds false (w.forCall tape i).memory i.args ∧ laidMetH C.prog laid (w.forCall tape i).memory) ∧ sizedMet enc C.prog fn (OpenSpec.ofChange s) false (w.forCall tape i).memory i.args) ∧ ({} : Assume).holds C.prog (lone (Frame.enter C.prog f i.args .normal) [] (w.forCall tape i)))
    (hΓ : ∀ W, laidMetH C.prog laid W → Γ.ok W)
    {α : Type} {g : α → List Dat} {ok : α → Prop} (hop : OpensQA C.prog fn.params.toList g ok) (hA : ∀ a, ok a → ACalls C.prog Γ f (g a) (fun r => r = .d (.bool true))) :
    ReturnsInHanded {} C os f .any (fun w args => (s.pre enc C.prog fn conds false w args ∧ laidMetH C.prog laid w) ∧ sizedMet enc C.prog fn (OpenSpec.ofChange s) false w args) (s.post enc C.prog fn false true false false) := by
  refine returnsInHanded_of_change_and (C := C) (X := fun w _ => laidMetH C.prog laid w) (fun _ _ _ hh h => laidMetH.of_heap hh h) own started noInit hfn witness ?_
  intro W base args ds gs before hval hW _ hwt hL _
  have hW' := hW
  obtain ⟨p, q, hT, hV, rfl, hfz, hnd⟩ := hW
  rw [hvars] at hV
  obtain ⟨rfl, rfl⟩ := trodVars_none hV
  obtain ⟨a, ha, hlen, hrep⟩ := hop H enc W base args.toList ds p hT (fun j t d hj hd n hn => of_decide_eq_true (List.all_eq_true.1 hwt n (DataW.weights_mem_each (j := j) (by rw [List.getElem?_append_left (List.getElem?_eq_some_iff.1 hj).1]; exact hj) (by rw [List.append_nil]; exact hd) n hn))) (fun j t v hj hv => hval j t v (by simpa using hj) (by simpa using hv))
  refine ((hA a ha).2 W (fun _ => true) args (hΓ W hL) (by simpa using hlen.symm) (fun j x hj => by simpa using hrep j x hj)).mono fun e W' ⟨v, r, he, bel, hrr, hr⟩ => ?_
  subst he
  subst hr
  have hv : v = .bool true := by
    cases hrr
    rfl
  subst hv
  obtain ⟨pa, hpa⟩ := trodAll_stay laidOut bel hts hT
  refine ⟨_, rfl, ds, [], p ++ [], [], pa, [], hW', ?_, ?_, ?_, bel.frame _, fun h => by cases h⟩
  · rw [List.append_nil, hspec _ _ _ _ hT, hres]
    exact trodAll_mk1 ⟨1, by simp [DataW.trod, Value.cells, htb]⟩
  · rw [List.append_nil, hspec _ _ _ _ hT]
    exact hpa
  · rw [List.append_nil, hspec _ _ _ _ hT, hvars]
    exact rfl
end Go.Am

/- What the laws of object identifiers are handed, opened as data. -/
namespace Go.Proofs.YtmciaonjkkelnaaDoor
open Go.Am Go.ChangeShapes Go.WideShapes Go.ChangeAt Go.RowKit
set_option linter.unusedSimpArgs false
set_option linter.unusedVariables false

theorem open_bytes : OpensV Tryd.prog 25 (fun l : List UInt8 => .sl none (bys l)) (fun l => l.length ≤ maxLen) := OpensV.bytes Tryd.underlying25 Tryd.underlying5 (by kernel_rfl)
theorem open_u8 : OpensV Tryd.prog 5 (fun n : UInt8 => by1 n) (fun _ => True) := OpensV.u8 Tryd.underlying5
theorem OpensV.map {P : Program} {t : TypeId} {α β : Type} {f : α → Dat} {ok : α → Prop} {f' : β → Dat} {ok' : β → Prop} (h : OpensV P t f ok) (g : α → β) (hf : ∀ a, f' (g a) = f a) (hk : ∀ a, ok a → ok' (g a)) : OpensV P t f' ok' := fun H enc w base v d ps ht hok => by
  obtain ⟨a, h1, h2⟩ := h H enc w base v d ps ht hok
  exact ⟨g a, hk a h1, by rw [hf]; exact h2⟩
theorem open_str : OpensV Tryd.prog 9 (fun l : List UInt8 => sD l) (fun _ => True) :=
  OpensV.map (OpensV.str Tryd.underlying9) (fun s => s.data.toList) (fun s => by rw [sD, ← bA_of]) (fun _ _ => trivial)
theorem Opens.mapOk {P : Program} {t : TypeId} {α β : Type} {f : α → List Dat} {ok : α → Prop} {f' : β → List Dat} {ok' : β → Prop} (h : Opens P t f ok) (g : α → β) (hf : ∀ a, ok a → f' (g a) = f a) (hk : ∀ a, ok a → ok' (g a)) : Opens P t f' ok' := fun H enc w fuel cs x hx => by
  obtain ⟨a, h1, h2⟩ := h H enc w fuel cs x hx
  exact ⟨g a, hk a h1, by rw [hf a h1]; exact h2⟩
theorem wf_u32 {n : Int} (h : (Lit.int .u32 n).wf = true) : 0 ≤ n ∧ n ≤ 4294967295 := by
  simpa [Lit.wf, IntKind.min, IntKind.max, IntKind.signed, IntKind.bits] using h
theorem u32s_back (l : List Int) (h : ∀ n ∈ l, (Lit.int .u32 n).wf = true) : u32s (l.map Int.toNat) = l.map (Dat.int .u32) := by
  rw [u32s, List.map_map]
  refine List.map_congr_left fun n hn => ?_
  have := wf_u32 (h n hn)
  simp only [Function.comp]
  rw [Int.toNat_of_nonneg this.1]
theorem open_u32s : OpensV Tryd.prog 76 (fun l : List Nat => .sl none (u32s l)) (fun l => ∀ n ∈ l, n ≤ 4294967295) :=
  OpensV.slice Tryd.underlying76 (Opens.mapOk (Opens.ints Tryd.underlying76 Tryd.underlying80 (by kernel_rfl)) (fun l => l.map Int.toNat) (fun l h => by
    rw [u32s_back l h.1]) (fun l h n hn => by
    obtain ⟨m, hm, rfl⟩ := List.mem_map.1 hn
    have := wf_u32 (h.1 m hm)
    omega))
theorem read_all {ts : List TypeId} (h : ts.all (fun t => Tryd.prog.readableRec t && decide (t < Tryd.prog.types.size)) = true) : ∀ t ∈ ts, Tryd.prog.readableRec t = true ∧ t < Tryd.prog.types.size := by
  intro t ht
  have := List.all_eq_true.1 h t ht
  simpa using this
theorem wf_i64 {n : Int} (h : (Lit.int .i64 n).wf = true) : n ≤ 9223372036854775807 := by
  simp [Lit.wf, IntKind.min, IntKind.max, IntKind.signed, IntKind.bits] at h
  omega
theorem wf_u16 {n : Int} (h : (Lit.int .u16 n).wf = true) : 0 ≤ n ∧ n ≤ 65535 := by
  simp [Lit.wf, IntKind.min, IntKind.max, IntKind.signed, IntKind.bits] at h
  omega
theorem open_int : OpensV Tryd.prog 3 (fun n : Int => .int .i64 n) (fun n => n ≤ 9223372036854775807) :=
  OpensV.map (OpensV.int Tryd.underlying3) (fun n => n) (fun _ => rfl) (fun n h => wf_i64 h)
theorem open_u16 : OpensV Tryd.prog 37 (fun n : Int => .int .u16 n) (fun n => 0 ≤ n ∧ n ≤ 65535) :=
  OpensV.map (OpensV.int Tryd.underlying37) (fun n => n) (fun _ => rfl) (fun n h => wf_u16 h)
theorem open_strs : OpensV Tryd.prog 94 (fun l : List (List UInt8) => .sl none (Am.strs l)) (fun _ => True) :=
  OpensV.slice Tryd.underlying94 (Opens.mapOk (Opens.strs Tryd.underlying94 Tryd.underlying9 (by kernel_rfl)) (fun l => l.map (·.data.toList)) (fun l h => by
    rw [Am.strs, List.map_map]
    congr 2) (fun _ _ => trivial))
end Go.Proofs.YtmciaonjkkelnaaDoor

/- What the laws of extensions are handed, opened as data, with sizes. -/
namespace Go.Proofs.YtmciaonjkkelnaaDoor
open Go.Am Go.ChangeShapes Go.WideShapes Go.ChangeAt Go.RowKit
set_option linter.unusedSimpArgs false
set_option linter.unusedVariables false

def ext3 (p : ByteArray × Bool × List UInt8) : List Dat := [.str p.1] ++ ([.bool p.2.1] ++ [.sl none (bys p.2.2)])
def ext3X (p : ByteArray × Bool × List UInt8) : Ext := ⟨p.1.data.toList, p.2.1, p.2.2⟩
theorem ext3_xD (p : ByteArray × Bool × List UInt8) : xD (ext3X p) = .agg (ext3 p) := by
  obtain ⟨s, b, l⟩ := p
  show Dat.agg [.str (bA s.data.toList), .bool b, .sl none (bys l)] = _
  rw [← bA_of]
  rfl
set_option maxRecDepth 100000 in
theorem open_ext3 : OpensQ Tryd.prog 27 ext3 (fun p => p.1.size ≤ reachBytes ∧ True ∧ p.2.2.length ≤ reachBytes) :=
  OpensQ.struct Tryd.underlying27 (by intro a; rfl)
    (OpensQF.cons (sz := 1) rfl (fun _ => rfl) (OpensQ.str Tryd.underlying9) (OpensQF.cons (sz := 1) rfl (fun _ => rfl) (OpensQ.of (Opens.bool Tryd.underlying4)) (OpensQF.one (sz := 1) rfl (OpensQ.bytes Tryd.underlying25 Tryd.underlying5 (by kernel_rfl) (by decide +kernel)))))
set_option maxRecDepth 100000 in
theorem open_ext : OpensQV Tryd.prog 27 xD (fun _ => True) := fun H enc w base v d ps hx hl hok => by
  obtain ⟨a, _, h2⟩ := OpensQV.struct Tryd.underlying27 open_ext3 H enc w base v d ps hx hl hok
  exact ⟨ext3X a, trivial, by rw [ext3_xD]; exact h2⟩
set_option maxRecDepth 100000 in
theorem open_exts : OpensQV Tryd.prog 22 (fun l : List Ext => .sl (some 3) (xsD l)) (fun l => ∀ x ∈ l, x.o.length ≤ 140737488351232 ∧ x.v.length ≤ 140737488351232) :=
  OpensQV.slice Tryd.underlying22 (OpensQ.map (OpensQ.slice (ek := some 3) Tryd.underlying22 (by kernel_rfl) (by decide) (by decide +kernel) open_ext3 (fun p => .agg (ext3 p)) (fun a _ h => ⟨⟨ext3 a, rfl, rfl, h⟩, rfl⟩)) (fun l => l.map ext3X) (fun l _ => by
      rw [xsD, List.map_map]
      exact congrArg (fun z => [Dat.sl (some 3) z]) (List.map_congr_left fun p _ => ext3_xD p)) (fun l h x hx => by
      obtain ⟨p, hp, rfl⟩ := List.mem_map.1 hx
      have h1 := h.1 p hp
      have e : p.1.data.toList.length = p.1.size := rfl
      simp only [reachBytes] at h1
      exact ⟨by show p.1.data.toList.length ≤ _; omega, h1.2.2⟩))
end Go.Proofs.YtmciaonjkkelnaaDoor
