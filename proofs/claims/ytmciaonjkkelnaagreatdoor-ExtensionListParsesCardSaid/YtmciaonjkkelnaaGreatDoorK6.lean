/- Part 6 of the texts of this proof: an abstract machine for walks, the walks of the functions, plain laws. Each part says in its own first lines what is proved there. -/
import Derived.Test.YtmciaonjkkelnaaGreatDoorK5
import Derived.Lay
import Derived.Stop.Joined
import Derived.SizedLaws

/- The law ExtensionCopies: what Parse hands back lies in new blocks only. Walked by the abstract machine. -/
namespace Go.Proofs.YtmciaonjkkelnaaGreatDoor
open Go.Am
set_option linter.unusedSimpArgs false
set_option linter.unusedVariables false
-- withAmZ withAmMp

theorem isXParseF : IsFn Tryz.prog 9 Tryz.f9 := ⟨Tryz.func9, by decide, rfl⟩
set_option maxHeartbeats 4000000 in
set_option maxRecDepth 100000 in
theorem f_xparse (b : List UInt8) (hb : b.length ≤ 1000000) (x : Ext) (hx : exP b = .ok x) : AFresh Tryz.prog envL 9 [.sl none (bys b)] (fun y => y = .tup [xD x, errD 0 0]) := by
  refine afresh_of ty_ok isXParseF rfl rfl ?_
  rw [exP] at hx
  cases hp : ptF b 0 16 with
  | bad c o => rw [hp] at hx; cases hx
  | ok l =>
    rw [hp] at hx
    have hc1 := (c_parts_at (envL.at 0) b 0 16 (by omega) hp).ownT_d
    obtain ⟨ts, hbe, E⟩ := seq_ok hp
    match l, E, hp, hc1, hx with
    | [], E, hp, hc1, hx => cases hx
    | [e], E, hp, hc1, hx => cases hx
    | e :: f :: g :: h :: r, E, hp, hc1, hx => cases hx
    | [e, f], E, hp, hc1, hx =>
      simp only at hx
      obtain ⟨h1, h2, h3⟩ := E.le 0 (by simp)
      obtain ⟨h4, h5, h6⟩ := E.le 1 (by simp)
      simp only [List.getElem_cons_zero, List.getElem_cons_succ] at h1 h2 h3 h4 h5 h6
      obtain ⟨q1, q2, q3, q4, q5, q6, q7⟩ := el_facts (X := (els [e, f]).getD (Int.toNat 0) default) (e := e) rfl
      obtain ⟨p1, p2, p3, p4, p5, p6, p7⟩ := el_facts (X := (els [e, f]).getD (Int.toNat (((els [e, f]).length : Int) - 1)) default) (e := f) rfl
      have hl : (els [e, f]).length = 2 := rfl
      obtain ⟨k1, k2, k3⟩ := cut_side b h2 h3
      obtain ⟨k4, k5, k6⟩ := cut_side b h5 h6
      cases hi : isB e.x 0 false 6 with
      | false => rw [exI, hi] at hx; cases hx
      | true =>
        have hc2 := c_is_at (envL.at 0) e 0 6 false hi
        rw [exI, hi] at hx
        by_cases hd : (decS (cut b e.bd e.en)).2 = 0
        · have hc3 := c_odec_ok b h3 h2 (by omega) hd
          rw [decide_eq_true hd] at hx
          simp only at hx
          rw [exL] at hx
          cases hk : isB f.x 0 false 4 with
          | false => rw [hk] at hx; cases hx
          | true =>
            rw [hk] at hx
            cases hx
            have hc4 := c_is_at (envL.at 0) f 0 4 false hk
            repeat' (first | ((with_reducible show AWp _ _ _ _ _); (first | refine awp_seq ?_ | refine awp_block ?_ | refine awp_skip ?_ | refine awp_exit ?_ | refine awp_scope ?_ | refine awp_label ?_ | refine awp_run ty_ok rfl sdm ?_ | refine awp_ret ⟨_, _, rfl, rfl, ?_⟩ | refine awp_ret ⟨_, rfl, ?_⟩ | ((refine awp_cond (ty := ty) rfl (fun hc => ?_) (fun hc => ?_)) <;> (try simp only [nms, reduceCtorEq] at hc) <;> (try (exfalso; omega))) | refine awp_anyL 15 mixed rfl (by kernel_rfl) ?_)) | ((with_reducible show AOps _ _ _ _ _ _); (first | refine aops_nil ?_ | refine aops_go ty_ok rfl rfl sdm ?_ | refine aops_gate ty_ok rfl rfl rfl sdm ?_ | refine aops_callE (ty := ty) rfl rfl rfl rfl rfl rfl rfl (hc1) rfl ?_ | refine aops_callE (ty := ty) rfl rfl rfl rfl rfl rfl rfl (hc2) rfl ?_ | refine aops_callE (ty := ty) rfl rfl rfl rfl rfl rfl rfl (hc3) rfl ?_ | refine aops_callE (ty := ty) rfl rfl rfl rfl rfl rfl rfl (hc4) rfl ?_ | refine aops_callE (ty := ty) rfl rfl rfl rfl rfl rfl rfl (c_clone_at _ b h6 hb) rfl ?_ | refine aops_litE ty_ok rfl rfl rfl rfl rfl rfl rfl rfl rfl rfl rfl rfl ?_ | refine aops_litA ty_ok rfl rfl rfl rfl rfl rfl rfl rfl rfl rfl rfl rfl rfl rfl rfl rfl ?_ | refine aops_buildArr ty_ok rfl rfl rfl rfl rfl rfl rfl rfl rfl rfl ?_ | refine aops_indexArr ty_ok rfl rfl rfl rfl rfl rfl rfl rfl rfl rfl sdm ?_ | refine aops_field ty_ok rfl rfl rfl rfl rfl rfl rfl rfl rfl rfl ?_ | refine aops_cutE ty_ok rfl rfl rfl rfl rfl rfl rfl rfl rfl sdm rfl ?_ | ((fail_if_success (refine aops_known rfl ?_)); (refine aops_split ty_ok rfl rfl rfl rfl rfl rfl (fun hc => ⟨?_, ?_⟩) (fun hc => ⟨?_, ?_⟩)) <;> (try simp only [nms, reduceCtorEq] at hc) <;> (try (exfalso; omega)) <;> (try exact sdm)))) | ((with_reducible show HeadT _ _ _ _ _ _ _ _ _ _); (first | refine head_end ?_ | refine head_goP ty_ok rfl rfl sdm ?_ | refine head_gate ty_ok rfl rfl rfl sdm ?_ | refine head_callE (ty := ty) rfl rfl rfl rfl rfl rfl rfl (hc1) rfl ?_ | refine head_callE (ty := ty) rfl rfl rfl rfl rfl rfl rfl (hc2) rfl ?_ | refine head_callE (ty := ty) rfl rfl rfl rfl rfl rfl rfl (hc3) rfl ?_ | refine head_callE (ty := ty) rfl rfl rfl rfl rfl rfl rfl (hc4) rfl ?_ | refine head_callE (ty := ty) rfl rfl rfl rfl rfl rfl rfl (c_clone_at _ b h6 hb) rfl ?_ | ((fail_if_success (refine head_known rfl ?_)); (refine head_split ty_ok rfl rfl rfl rfl (fun hc => ⟨?_, ?_⟩) (fun hc => ⟨?_, ?_⟩)) <;> (try simp only [nms, reduceCtorEq] at hc) <;> (try (exfalso; omega)) <;> (try exact sdm)))) | ((fail_if_success (with_reducible show AWp _ _ _ _ _)); (fail_if_success (with_reducible show AOps _ _ _ _ _ _)); (fail_if_success (with_reducible show HeadT _ _ _ _ _ _ _ _ _ _)); (first | (show AWp _ _ _ _ _) | (show AOps _ _ _ _ _ _))))
            refine ⟨?_, rfl⟩
            (repeat' apply And.intro) <;> first | exact flat_str _ | exact flat_bool _ | exact flat_int _ _ | exact flat_bys _ | exact trivial | (intro x hx; simp only [List.mem_cons, List.not_mem_nil, or_false] at hx; rcases hx with rfl | rfl | rfl <;> rfl) | (intro x hx; simp only [List.mem_cons, List.not_mem_nil, or_false] at hx; rcases hx with rfl | rfl <;> rfl)
        · rw [decide_eq_false hd] at hx
          cases hx
    | [e, f, g], E, hp, hc1, hx =>
      simp only at hx
      obtain ⟨h1, h2, h3⟩ := E.le 0 (by simp)
      obtain ⟨h4, h5, h6⟩ := E.le 1 (by simp)
      obtain ⟨h7, h8, h9⟩ := E.le 2 (by simp)
      simp only [List.getElem_cons_zero, List.getElem_cons_succ] at h1 h2 h3 h4 h5 h6 h7 h8 h9
      obtain ⟨q1, q2, q3, q4, q5, q6, q7⟩ := el_facts (X := (els [e, f, g]).getD (Int.toNat 0) default) (e := e) rfl
      obtain ⟨s1, s2, s3, s4, s5, s6, s7⟩ := el_facts (X := (els [e, f, g]).getD (Int.toNat 1) default) (e := f) rfl
      obtain ⟨p1, p2, p3, p4, p5, p6, p7⟩ := el_facts (X := (els [e, f, g]).getD (Int.toNat (((els [e, f, g]).length : Int) - 1)) default) (e := g) rfl
      have hl : (els [e, f, g]).length = 3 := rfl
      obtain ⟨k1, k2, k3⟩ := cut_side b h2 h3
      obtain ⟨k4, k5, k6⟩ := cut_side b h5 h6
      obtain ⟨k7, k8, k9⟩ := cut_side b h8 h9
      cases hi : isB e.x 0 false 6 with
      | false => rw [exI, hi] at hx; cases hx
      | true =>
        have hc2 := c_is_at (envL.at 0) e 0 6 false hi
        rw [exI, hi] at hx
        by_cases hd : (decS (cut b e.bd e.en)).2 = 0
        · have hc3 := c_odec_ok b h3 h2 (by omega) hd
          rw [decide_eq_true hd] at hx
          simp only at hx
          cases hcc : exC b f with
          | false => rw [hcc] at hx; cases hx
          | true =>
            rw [hcc] at hx
            simp only at hx
            unfold exC at hcc
            rw [Bool.and_eq_true] at hcc
            obtain ⟨hif, hv⟩ := hcc
            have hv := of_decide_eq_true hv
            have hc5 := c_boo_at (envL.at 0) b (i := f.bd) (j := f.en) (v := true) (n := 0) (by rw [booF, if_pos hv])
            have hc6 := c_is_at (envL.at 0) f 0 1 false hif
            rw [exL] at hx
            cases hk : isB g.x 0 false 4 with
            | false => rw [hk] at hx; cases hx
            | true =>
              rw [hk] at hx
              cases hx
              have hc4 := c_is_at (envL.at 0) g 0 4 false hk
              repeat' (first | ((with_reducible show AWp _ _ _ _ _); (first | refine awp_seq ?_ | refine awp_block ?_ | refine awp_skip ?_ | refine awp_exit ?_ | refine awp_scope ?_ | refine awp_label ?_ | refine awp_run ty_ok rfl sdm ?_ | refine awp_ret ⟨_, _, rfl, rfl, ?_⟩ | refine awp_ret ⟨_, rfl, ?_⟩ | ((refine awp_cond (ty := ty) rfl (fun hc => ?_) (fun hc => ?_)) <;> (try simp only [nms, reduceCtorEq] at hc) <;> (try (exfalso; omega))) | refine awp_anyL 15 mixed rfl (by kernel_rfl) ?_)) | ((with_reducible show AOps _ _ _ _ _ _); (first | refine aops_nil ?_ | refine aops_go ty_ok rfl rfl sdm ?_ | refine aops_gate ty_ok rfl rfl rfl sdm ?_ | refine aops_callE (ty := ty) rfl rfl rfl rfl rfl rfl rfl (hc1) rfl ?_ | refine aops_callE (ty := ty) rfl rfl rfl rfl rfl rfl rfl (hc2) rfl ?_ | refine aops_callE (ty := ty) rfl rfl rfl rfl rfl rfl rfl (hc3) rfl ?_ | refine aops_callE (ty := ty) rfl rfl rfl rfl rfl rfl rfl (hc5) rfl ?_ | refine aops_callE (ty := ty) rfl rfl rfl rfl rfl rfl rfl (hc6) rfl ?_ | refine aops_callE (ty := ty) rfl rfl rfl rfl rfl rfl rfl (hc4) rfl ?_ | refine aops_callE (ty := ty) rfl rfl rfl rfl rfl rfl rfl (c_clone_at _ b h9 hb) rfl ?_ | refine aops_litE ty_ok rfl rfl rfl rfl rfl rfl rfl rfl rfl rfl rfl rfl ?_ | refine aops_litA ty_ok rfl rfl rfl rfl rfl rfl rfl rfl rfl rfl rfl rfl rfl rfl rfl rfl ?_ | refine aops_buildArr ty_ok rfl rfl rfl rfl rfl rfl rfl rfl rfl rfl ?_ | refine aops_indexArr ty_ok rfl rfl rfl rfl rfl rfl rfl rfl rfl rfl sdm ?_ | refine aops_field ty_ok rfl rfl rfl rfl rfl rfl rfl rfl rfl rfl ?_ | refine aops_cutE ty_ok rfl rfl rfl rfl rfl rfl rfl rfl rfl sdm rfl ?_ | ((fail_if_success (refine aops_known rfl ?_)); (refine aops_split ty_ok rfl rfl rfl rfl rfl rfl (fun hc => ⟨?_, ?_⟩) (fun hc => ⟨?_, ?_⟩)) <;> (try simp only [nms, reduceCtorEq] at hc) <;> (try (exfalso; omega)) <;> (try exact sdm)))) | ((with_reducible show HeadT _ _ _ _ _ _ _ _ _ _); (first | refine head_end ?_ | refine head_goP ty_ok rfl rfl sdm ?_ | refine head_gate ty_ok rfl rfl rfl sdm ?_ | refine head_callE (ty := ty) rfl rfl rfl rfl rfl rfl rfl (hc1) rfl ?_ | refine head_callE (ty := ty) rfl rfl rfl rfl rfl rfl rfl (hc2) rfl ?_ | refine head_callE (ty := ty) rfl rfl rfl rfl rfl rfl rfl (hc3) rfl ?_ | refine head_callE (ty := ty) rfl rfl rfl rfl rfl rfl rfl (hc5) rfl ?_ | refine head_callE (ty := ty) rfl rfl rfl rfl rfl rfl rfl (hc6) rfl ?_ | refine head_callE (ty := ty) rfl rfl rfl rfl rfl rfl rfl (hc4) rfl ?_ | refine head_callE (ty := ty) rfl rfl rfl rfl rfl rfl rfl (c_clone_at _ b h9 hb) rfl ?_ | ((fail_if_success (refine head_known rfl ?_)); (refine head_split ty_ok rfl rfl rfl rfl (fun hc => ⟨?_, ?_⟩) (fun hc => ⟨?_, ?_⟩)) <;> (try simp only [nms, reduceCtorEq] at hc) <;> (try (exfalso; omega)) <;> (try exact sdm)))) | ((fail_if_success (with_reducible show AWp _ _ _ _ _)); (fail_if_success (with_reducible show AOps _ _ _ _ _ _)); (fail_if_success (with_reducible show HeadT _ _ _ _ _ _ _ _ _ _)); (first | (show AWp _ _ _ _ _) | (show AOps _ _ _ _ _ _))))
              refine ⟨?_, rfl⟩
              (repeat' apply And.intro) <;> first | exact flat_str _ | exact flat_bool _ | exact flat_int _ _ | exact flat_bys _ | exact trivial | (intro x hx; simp only [List.mem_cons, List.not_mem_nil, or_false] at hx; rcases hx with rfl | rfl | rfl <;> rfl) | (intro x hx; simp only [List.mem_cons, List.not_mem_nil, or_false] at hx; rcases hx with rfl | rfl <;> rfl)
        · rw [decide_eq_false hd] at hx
          cases hx
theorem flat_err' (c o : Nat) : FlatD (errD c o) := flat_agg (by
  intro x hx
  simp only [List.mem_cons, List.not_mem_nil, or_false] at hx
  rcases hx with rfl | rfl <;> exact flat_int _ _)
theorem bump' (l : List UInt8) (k : Nat) : (bys l).set (k : Int).toNat (.int .u8 (IntKind.u8.wrap (((bys l).getD (k : Int).toNat default).num + 1))) = bys (l.set k (l.getD k 0 + 1)) := by
  rw [Int.toNat_natCast]
  by_cases h : k < l.length
  · have e1 : ((bys l).getD k default).num = (l[k].toNat : Int) := by
      rw [List.getD_eq_getElem?_getD, bys, List.getElem?_map, List.getElem?_eq_getElem h]
      rfl
    have e2 : l.getD k 0 = l[k] := by rw [List.getD_eq_getElem?_getD, List.getElem?_eq_getElem h]; rfl
    rw [e1, e2, bys, bys, List.map_set, by1]
    congr 2
  · rw [List.set_eq_of_length_le (by simp [bys]; omega), List.set_eq_of_length_le (by omega)]
theorem isLCopiesx : IsFn Tryz.prog 3 Tryz.f3 := ⟨Tryz.func3, by decide, rfl⟩
set_option maxHeartbeats 4000000 in
theorem l_xcopies (b : List UInt8) : ACalls Tryz.prog envL 3 [.sl none (bys b)] (fun r => r = .d (.bool true)) := by
  refine acalls_of ty_ok isLCopiesx rfl rfl ?_
  by_cases hb : b.length ≤ 3000
  · have hB : AFresh Tryz.prog (envL.at 0) 10 [.sl none (bys b), .sl none (bys b)] (fun y => y = .bool true) := .of_flat (c_bytes_eq _ b b rfl) (flat_bool _)
    cases hp : exP b with
    | bad c o =>
      obtain ⟨h1, h2⟩ := ex_bad hp
      have hn : ∀ v, exV v = true → exF v ≠ b := by
        intro v hv e
        have h3 := (x_len hv (by rw [e]; omega)).1
        have h4 := ex_of hv h3
        rw [e, hp] at h4
        cases h4
      have hP : AFresh Tryz.prog (envL.at 0) 9 [.sl none (bys b)] (fun y => y = .tup [.agg [.str ⟨#[]⟩, .bool false, .sl none []], errD c o]) := .of_flat (c_xparse_at b (by omega) hp) (flat_tup (by
        intro x hx
        simp only [List.mem_cons, List.not_mem_nil, or_false] at hx
        rcases hx with rfl | rfl
        · exact flat_agg (by
            intro x hx
            simp only [List.mem_cons, List.not_mem_nil, or_false] at hx
            rcases hx with rfl | rfl | rfl
            · exact flat_str _
            · exact flat_bool _
            · exact flat_none _)
        · exact flat_err' c o))
      repeat' (first | ((with_reducible show AWp _ _ _ _ _); (first | refine awp_seq ?_ | refine awp_block ?_ | refine awp_skip ?_ | refine awp_exit ?_ | refine awp_scope ?_ | refine awp_label ?_ | refine awp_run ty_ok rfl sdm ?_ | refine awp_ret ⟨_, _, rfl, rfl, ?_⟩ | refine awp_ret ⟨_, rfl, ?_⟩ | ((refine awp_cond (ty := ty) rfl (fun hc => ?_) (fun hc => ?_)) <;> (try simp only [nms, reduceCtorEq] at hc) <;> (try (exfalso; omega))))) | ((with_reducible show AOps _ _ _ _ _ _); (first | refine aops_nil ?_ | refine aops_go ty_ok rfl rfl sdm ?_ | refine aops_gate ty_ok rfl rfl rfl sdm ?_ | refine aops_callE (ty := ty) rfl rfl rfl rfl rfl rfl rfl (c_awake22) rfl ?_ | refine aops_lend (ty := ty) rfl rfl rfl rfl rfl rfl rfl (hP) rfl ?_ | refine aops_lend (ty := ty) rfl rfl rfl rfl rfl rfl rfl (hB) rfl ?_ | refine aops_litE ty_ok rfl rfl rfl rfl rfl rfl rfl rfl rfl rfl rfl rfl ?_ | refine aops_litA ty_ok rfl rfl rfl rfl rfl rfl rfl rfl rfl rfl rfl rfl rfl rfl rfl rfl ?_ | refine aops_buildArr ty_ok rfl rfl rfl rfl rfl rfl rfl rfl rfl rfl ?_ | refine aops_indexArr ty_ok rfl rfl rfl rfl rfl rfl rfl rfl rfl rfl sdm ?_ | refine aops_field ty_ok rfl rfl rfl rfl rfl rfl rfl rfl rfl rfl ?_ | refine aops_cutE ty_ok rfl rfl rfl rfl rfl rfl rfl rfl rfl sdm rfl ?_ | ((fail_if_success (refine aops_known rfl ?_)); (refine aops_split ty_ok rfl rfl rfl rfl rfl rfl (fun hc => ⟨?_, ?_⟩) (fun hc => ⟨?_, ?_⟩)) <;> (try simp only [nms, reduceCtorEq] at hc) <;> (try (exfalso; omega)) <;> (try exact sdm)))) | ((fail_if_success (with_reducible show AWp _ _ _ _ _)); (fail_if_success (with_reducible show AOps _ _ _ _ _ _)); (first | (show AWp _ _ _ _ _) | (show AOps _ _ _ _ _ _))))
      refine awp_loopR (G := { p : Nat × List UInt8 // p.1 ≤ b.length ∧ p.2.length = b.length }) (fun p => ⟨Tryz.f3.ntmps, [(0, .d (.sl none (bys b))), (3, .ref 0), (4, .ptr 1 0), (5, .ptr 2 0), (6, .d (.int .i64 p.1.1))], [(0, .row none 5 (bys p.1.2)), (1, .box 25 [.d (.str ⟨#[]⟩), .d (.bool false), .d (.sl none [])]), (2, .box 28 [.d (.int .i64 c), .d (.int .i64 o)])], 3⟩) (fun p => b.length - p.1.1) ⟨(0, b), Nat.zero_le _, rfl⟩ [(1, 0), (2, 1), (3, 2)]
        (SubR.mk' rfl rfl ⟨⟨_, rfl, rfl⟩, ⟨_, rfl, rfl⟩, ⟨_, rfl, rfl⟩, ⟨_, rfl, rfl⟩, ⟨_, rfl, rfl⟩, trivial⟩ ⟨⟨_, _, rfl, rfl, rfl⟩, ⟨_, _, rfl, rfl, rfl⟩, ⟨_, _, rfl, rfl, rfl⟩, trivial⟩) ?_
      rintro ⟨⟨k, l⟩, hk, hll⟩
      dsimp only at hk hll ⊢
      by_cases h : k < b.length
      · repeat' (first | ((with_reducible show AWp _ _ _ _ _); (first | refine awp_seq ?_ | refine awp_block ?_ | refine awp_skip ?_ | refine awp_exit ?_ | refine awp_scope ?_ | refine awp_label ?_ | refine awp_run ty_ok rfl sdm ?_ | refine awp_ret ⟨_, _, rfl, rfl, ?_⟩ | refine awp_ret ⟨_, rfl, ?_⟩ | ((refine awp_cond (ty := ty) rfl (fun hc => ?_) (fun hc => ?_)) <;> (try simp only [nms, reduceCtorEq] at hc) <;> (try (exfalso; omega))))) | ((with_reducible show AOps _ _ _ _ _ _); (first | refine aops_nil ?_ | refine aops_go ty_ok rfl rfl sdm ?_ | refine aops_gate ty_ok rfl rfl rfl sdm ?_ | refine aops_litE ty_ok rfl rfl rfl rfl rfl rfl rfl rfl rfl rfl rfl rfl ?_ | refine aops_litA ty_ok rfl rfl rfl rfl rfl rfl rfl rfl rfl rfl rfl rfl rfl rfl rfl rfl ?_ | refine aops_buildArr ty_ok rfl rfl rfl rfl rfl rfl rfl rfl rfl rfl ?_ | refine aops_indexArr ty_ok rfl rfl rfl rfl rfl rfl rfl rfl rfl rfl sdm ?_ | refine aops_field ty_ok rfl rfl rfl rfl rfl rfl rfl rfl rfl rfl ?_ | refine aops_cutE ty_ok rfl rfl rfl rfl rfl rfl rfl rfl rfl sdm rfl ?_ | ((fail_if_success (refine aops_known rfl ?_)); (refine aops_split ty_ok rfl rfl rfl rfl rfl rfl (fun hc => ⟨?_, ?_⟩) (fun hc => ⟨?_, ?_⟩)) <;> (try simp only [nms, reduceCtorEq] at hc) <;> (try (exfalso; omega)) <;> (try exact sdm)))) | ((fail_if_success (with_reducible show AWp _ _ _ _ _)); (fail_if_success (with_reducible show AOps _ _ _ _ _ _)); (first | (show AWp _ _ _ _ _) | (show AOps _ _ _ _ _ _))))
        refine ⟨⟨(k + 1, l.set k (l.getD k 0 + 1)), h, by simp [hll]⟩, [(0, 0), (1, 1), (2, 2)], SubR.mk' rfl rfl ⟨⟨_, rfl, rfl⟩, ⟨_, rfl, rfl⟩, ⟨_, rfl, rfl⟩, ⟨_, rfl, rfl⟩, ⟨_, rfl, rfl⟩, trivial⟩ ⟨⟨_, _, rfl, rfl, congrArg (AO.row none 5) ?_⟩, ⟨_, _, rfl, rfl, rfl⟩, ⟨_, _, rfl, rfl, rfl⟩, trivial⟩, by simp only; omega⟩
        exact bump' l k
      · have hm := c_xmar_bad x0 xSm0 (by decide +kernel)
        repeat' (first | ((with_reducible show AWp _ _ _ _ _); (first | refine awp_seq ?_ | refine awp_block ?_ | refine awp_skip ?_ | refine awp_exit ?_ | refine awp_scope ?_ | refine awp_label ?_ | refine awp_run ty_ok rfl sdm ?_ | refine awp_ret ⟨_, _, rfl, rfl, ?_⟩ | refine awp_ret ⟨_, rfl, ?_⟩ | ((refine awp_cond (ty := ty) rfl (fun hc => ?_) (fun hc => ?_)) <;> (try simp only [nms, reduceCtorEq] at hc) <;> (try (exfalso; omega))))) | ((with_reducible show AOps _ _ _ _ _ _); (first | refine aops_nil ?_ | refine aops_go ty_ok rfl rfl sdm ?_ | refine aops_gate ty_ok rfl rfl rfl sdm ?_ | refine aops_callE (ty := ty) rfl rfl rfl rfl rfl rfl rfl (hm) rfl ?_ | refine aops_callE (ty := ty) rfl rfl rfl rfl rfl rfl rfl (c_rxparse_bad b hb hn) rfl ?_ | refine aops_callE (ty := ty) rfl rfl rfl rfl rfl rfl rfl (c_bext _ x0 x0 (decide_eq_true rfl)) rfl ?_ | refine aops_litE ty_ok rfl rfl rfl rfl rfl rfl rfl rfl rfl rfl rfl rfl ?_ | refine aops_litA ty_ok rfl rfl rfl rfl rfl rfl rfl rfl rfl rfl rfl rfl rfl rfl rfl rfl ?_ | refine aops_buildArr ty_ok rfl rfl rfl rfl rfl rfl rfl rfl rfl rfl ?_ | refine aops_indexArr ty_ok rfl rfl rfl rfl rfl rfl rfl rfl rfl rfl sdm ?_ | refine aops_field ty_ok rfl rfl rfl rfl rfl rfl rfl rfl rfl rfl ?_ | refine aops_cutE ty_ok rfl rfl rfl rfl rfl rfl rfl rfl rfl sdm rfl ?_ | ((fail_if_success (refine aops_known rfl ?_)); (refine aops_split ty_ok rfl rfl rfl rfl rfl rfl (fun hc => ⟨?_, ?_⟩) (fun hc => ⟨?_, ?_⟩)) <;> (try simp only [nms, reduceCtorEq] at hc) <;> (try (exfalso; omega)) <;> (try exact sdm)))) | ((fail_if_success (with_reducible show AWp _ _ _ _ _)); (fail_if_success (with_reducible show AOps _ _ _ _ _ _)); (first | (show AWp _ _ _ _ _) | (show AOps _ _ _ _ _ _))))
        refine awp_loopR (G := Unit) (fun _ => ⟨Tryz.f3.ntmps, [(7, .d (.sl none [])), (8, .d (.int .i64 8)), (10, .d (.bool false)), (11, .d (.int .i64 0))], [], 0⟩) (fun _ => 0) () []
          (SubR.mk' rfl rfl ⟨⟨_, rfl, rfl⟩, ⟨_, rfl, rfl⟩, ⟨_, rfl, rfl⟩, ⟨_, rfl, rfl⟩, trivial⟩ trivial) ?_
        rintro ⟨⟩
        repeat' (first | ((with_reducible show AWp _ _ _ _ _); (first | refine awp_seq ?_ | refine awp_block ?_ | refine awp_skip ?_ | refine awp_exit ?_ | refine awp_scope ?_ | refine awp_label ?_ | refine awp_run ty_ok rfl sdm ?_ | refine awp_ret ⟨_, _, rfl, rfl, ?_⟩ | refine awp_ret ⟨_, rfl, ?_⟩ | ((refine awp_cond (ty := ty) rfl (fun hc => ?_) (fun hc => ?_)) <;> (try simp only [nms, reduceCtorEq] at hc) <;> (try (exfalso; omega))))) | ((with_reducible show AOps _ _ _ _ _ _); (first | refine aops_nil ?_ | refine aops_go ty_ok rfl rfl sdm ?_ | refine aops_gate ty_ok rfl rfl rfl sdm ?_ | refine aops_litE ty_ok rfl rfl rfl rfl rfl rfl rfl rfl rfl rfl rfl rfl ?_ | refine aops_litA ty_ok rfl rfl rfl rfl rfl rfl rfl rfl rfl rfl rfl rfl rfl rfl rfl rfl ?_ | refine aops_buildArr ty_ok rfl rfl rfl rfl rfl rfl rfl rfl rfl rfl ?_ | refine aops_indexArr ty_ok rfl rfl rfl rfl rfl rfl rfl rfl rfl rfl sdm ?_ | refine aops_field ty_ok rfl rfl rfl rfl rfl rfl rfl rfl rfl rfl ?_ | refine aops_cutE ty_ok rfl rfl rfl rfl rfl rfl rfl rfl rfl sdm rfl ?_ | ((fail_if_success (refine aops_known rfl ?_)); (refine aops_split ty_ok rfl rfl rfl rfl rfl rfl (fun hc => ⟨?_, ?_⟩) (fun hc => ⟨?_, ?_⟩)) <;> (try simp only [nms, reduceCtorEq] at hc) <;> (try (exfalso; omega)) <;> (try exact sdm)))) | ((fail_if_success (with_reducible show AWp _ _ _ _ _)); (fail_if_success (with_reducible show AOps _ _ _ _ _ _)); (first | (show AWp _ _ _ _ _) | (show AOps _ _ _ _ _ _))))
        all_goals rfl
    | ok v =>
      obtain ⟨hv, hbe, _⟩ := ex_ok hp
      obtain ⟨_, s⟩ := x_len hv (by rw [← hbe]; omega)
      have hP : AFresh Tryz.prog (envL.at 0) 9 [.sl none (bys b)] (fun y => y = .tup [xD v, errD 0 0]) := f_xparse b (by omega) v hp
      have hr := c_rxparse_ok v hv (by rw [← hbe]; omega)
      rw [← hbe] at hr
      have hm := c_xmar_ok v s hv
      rw [← hbe] at hm
      have hS := fun Γ => c_bext Γ v v (decide_eq_true rfl)
      obtain ⟨o, c, w⟩ := v
      unfold xD sD at hP hr hm hS
      simp only at hP hr hm hS
      repeat' (first | ((with_reducible show AWp _ _ _ _ _); (first | refine awp_seq ?_ | refine awp_block ?_ | refine awp_skip ?_ | refine awp_exit ?_ | refine awp_scope ?_ | refine awp_label ?_ | refine awp_run ty_ok rfl sdm ?_ | refine awp_ret ⟨_, _, rfl, rfl, ?_⟩ | refine awp_ret ⟨_, rfl, ?_⟩ | ((refine awp_cond (ty := ty) rfl (fun hc => ?_) (fun hc => ?_)) <;> (try simp only [nms, reduceCtorEq] at hc) <;> (try (exfalso; omega))))) | ((with_reducible show AOps _ _ _ _ _ _); (first | refine aops_nil ?_ | refine aops_go ty_ok rfl rfl sdm ?_ | refine aops_gate ty_ok rfl rfl rfl sdm ?_ | refine aops_callE (ty := ty) rfl rfl rfl rfl rfl rfl rfl (c_awake22) rfl ?_ | refine aops_lend (ty := ty) rfl rfl rfl rfl rfl rfl rfl (hP) rfl ?_ | refine aops_lend (ty := ty) rfl rfl rfl rfl rfl rfl rfl (hB) rfl ?_ | refine aops_litE ty_ok rfl rfl rfl rfl rfl rfl rfl rfl rfl rfl rfl rfl ?_ | refine aops_litA ty_ok rfl rfl rfl rfl rfl rfl rfl rfl rfl rfl rfl rfl rfl rfl rfl rfl ?_ | refine aops_buildArr ty_ok rfl rfl rfl rfl rfl rfl rfl rfl rfl rfl ?_ | refine aops_indexArr ty_ok rfl rfl rfl rfl rfl rfl rfl rfl rfl rfl sdm ?_ | refine aops_field ty_ok rfl rfl rfl rfl rfl rfl rfl rfl rfl rfl ?_ | refine aops_cutE ty_ok rfl rfl rfl rfl rfl rfl rfl rfl rfl sdm rfl ?_ | ((fail_if_success (refine aops_known rfl ?_)); (refine aops_split ty_ok rfl rfl rfl rfl rfl rfl (fun hc => ⟨?_, ?_⟩) (fun hc => ⟨?_, ?_⟩)) <;> (try simp only [nms, reduceCtorEq] at hc) <;> (try (exfalso; omega)) <;> (try exact sdm)))) | ((fail_if_success (with_reducible show AWp _ _ _ _ _)); (fail_if_success (with_reducible show AOps _ _ _ _ _ _)); (first | (show AWp _ _ _ _ _) | (show AOps _ _ _ _ _ _))))
      refine awp_loopR (G := { p : Nat × List UInt8 // p.1 ≤ b.length ∧ p.2.length = b.length }) (fun p => ⟨Tryz.f3.ntmps, [(0, .d (.sl none (bys b))), (3, .ref 0), (4, .ptr 1 0), (5, .ptr 2 0), (6, .d (.int .i64 p.1.1))], [(0, .row none 5 (bys p.1.2)), (1, .box 25 [.d (.str (bA o)), .d (.bool c), .d (.sl none (bys w))]), (2, .box 28 [.d (.int .i64 0), .d (.int .i64 0)])], 3⟩) (fun p => b.length - p.1.1) ⟨(0, b), Nat.zero_le _, rfl⟩ [(1, 0), (2, 1), (3, 2)]
        (SubR.mk' rfl rfl ⟨⟨_, rfl, rfl⟩, ⟨_, rfl, rfl⟩, ⟨_, rfl, rfl⟩, ⟨_, rfl, rfl⟩, ⟨_, rfl, rfl⟩, trivial⟩ ⟨⟨_, _, rfl, rfl, rfl⟩, ⟨_, _, rfl, rfl, rfl⟩, ⟨_, _, rfl, rfl, rfl⟩, trivial⟩) ?_
      rintro ⟨⟨k, l⟩, hk, hll⟩
      dsimp only at hk hll ⊢
      by_cases h : k < b.length
      · repeat' (first | ((with_reducible show AWp _ _ _ _ _); (first | refine awp_seq ?_ | refine awp_block ?_ | refine awp_skip ?_ | refine awp_exit ?_ | refine awp_scope ?_ | refine awp_label ?_ | refine awp_run ty_ok rfl sdm ?_ | refine awp_ret ⟨_, _, rfl, rfl, ?_⟩ | refine awp_ret ⟨_, rfl, ?_⟩ | ((refine awp_cond (ty := ty) rfl (fun hc => ?_) (fun hc => ?_)) <;> (try simp only [nms, reduceCtorEq] at hc) <;> (try (exfalso; omega))))) | ((with_reducible show AOps _ _ _ _ _ _); (first | refine aops_nil ?_ | refine aops_go ty_ok rfl rfl sdm ?_ | refine aops_gate ty_ok rfl rfl rfl sdm ?_ | refine aops_litE ty_ok rfl rfl rfl rfl rfl rfl rfl rfl rfl rfl rfl rfl ?_ | refine aops_litA ty_ok rfl rfl rfl rfl rfl rfl rfl rfl rfl rfl rfl rfl rfl rfl rfl rfl ?_ | refine aops_buildArr ty_ok rfl rfl rfl rfl rfl rfl rfl rfl rfl rfl ?_ | refine aops_indexArr ty_ok rfl rfl rfl rfl rfl rfl rfl rfl rfl rfl sdm ?_ | refine aops_field ty_ok rfl rfl rfl rfl rfl rfl rfl rfl rfl rfl ?_ | refine aops_cutE ty_ok rfl rfl rfl rfl rfl rfl rfl rfl rfl sdm rfl ?_ | ((fail_if_success (refine aops_known rfl ?_)); (refine aops_split ty_ok rfl rfl rfl rfl rfl rfl (fun hc => ⟨?_, ?_⟩) (fun hc => ⟨?_, ?_⟩)) <;> (try simp only [nms, reduceCtorEq] at hc) <;> (try (exfalso; omega)) <;> (try exact sdm)))) | ((fail_if_success (with_reducible show AWp _ _ _ _ _)); (fail_if_success (with_reducible show AOps _ _ _ _ _ _)); (first | (show AWp _ _ _ _ _) | (show AOps _ _ _ _ _ _))))
        refine ⟨⟨(k + 1, l.set k (l.getD k 0 + 1)), h, by simp [hll]⟩, [(0, 0), (1, 1), (2, 2)], SubR.mk' rfl rfl ⟨⟨_, rfl, rfl⟩, ⟨_, rfl, rfl⟩, ⟨_, rfl, rfl⟩, ⟨_, rfl, rfl⟩, ⟨_, rfl, rfl⟩, trivial⟩ ⟨⟨_, _, rfl, rfl, congrArg (AO.row none 5) ?_⟩, ⟨_, _, rfl, rfl, rfl⟩, ⟨_, _, rfl, rfl, rfl⟩, trivial⟩, by simp only; omega⟩
        exact bump' l k
      · repeat' (first | ((with_reducible show AWp _ _ _ _ _); (first | refine awp_seq ?_ | refine awp_block ?_ | refine awp_skip ?_ | refine awp_exit ?_ | refine awp_scope ?_ | refine awp_label ?_ | refine awp_run ty_ok rfl sdm ?_ | refine awp_ret ⟨_, _, rfl, rfl, ?_⟩ | refine awp_ret ⟨_, rfl, ?_⟩ | ((refine awp_cond (ty := ty) rfl (fun hc => ?_) (fun hc => ?_)) <;> (try simp only [nms, reduceCtorEq] at hc) <;> (try (exfalso; omega))))) | ((with_reducible show AOps _ _ _ _ _ _); (first | refine aops_nil ?_ | refine aops_go ty_ok rfl rfl sdm ?_ | refine aops_gate ty_ok rfl rfl rfl sdm ?_ | refine aops_callE (ty := ty) rfl rfl rfl rfl rfl rfl rfl (hm) rfl ?_ | refine aops_callE (ty := ty) rfl rfl rfl rfl rfl rfl rfl (hr) rfl ?_ | refine aops_callE (ty := ty) rfl rfl rfl rfl rfl rfl rfl (hS _) rfl ?_ | refine aops_litE ty_ok rfl rfl rfl rfl rfl rfl rfl rfl rfl rfl rfl rfl ?_ | refine aops_litA ty_ok rfl rfl rfl rfl rfl rfl rfl rfl rfl rfl rfl rfl rfl rfl rfl rfl ?_ | refine aops_buildArr ty_ok rfl rfl rfl rfl rfl rfl rfl rfl rfl rfl ?_ | refine aops_indexArr ty_ok rfl rfl rfl rfl rfl rfl rfl rfl rfl rfl sdm ?_ | refine aops_field ty_ok rfl rfl rfl rfl rfl rfl rfl rfl rfl rfl ?_ | refine aops_cutE ty_ok rfl rfl rfl rfl rfl rfl rfl rfl rfl sdm rfl ?_ | ((fail_if_success (refine aops_known rfl ?_)); (refine aops_split ty_ok rfl rfl rfl rfl rfl rfl (fun hc => ⟨?_, ?_⟩) (fun hc => ⟨?_, ?_⟩)) <;> (try simp only [nms, reduceCtorEq] at hc) <;> (try (exfalso; omega)) <;> (try exact sdm)))) | ((fail_if_success (with_reducible show AWp _ _ _ _ _)); (fail_if_success (with_reducible show AOps _ _ _ _ _ _)); (first | (show AWp _ _ _ _ _) | (show AOps _ _ _ _ _ _))))
        refine awp_loopR (G := { p : Nat × List UInt8 // p.1 ≤ b.length ∧ p.2.length = b.length }) (fun p => ⟨Tryz.f3.ntmps, [(4, .ptr 0 0), (7, .ref 2), (8, .d (.int .i64 0)), (9, .ptr 1 0), (10, .d (.bool true)), (11, .d (.int .i64 p.1.1))], [(0, .box 25 [.d (.str (bA o)), .d (.bool c), .d (.sl none (bys w))]), (1, .box 25 [.d (.str (bA o)), .d (.bool c), .d (.sl none (bys w))]), (2, .row none 5 (bys p.1.2))], 3⟩) (fun p => b.length - p.1.1) ⟨(0, b), Nat.zero_le _, rfl⟩ [(1, 0), (4, 1), (3, 2)]
          (SubR.mk' rfl rfl ⟨⟨_, rfl, rfl⟩, ⟨_, rfl, rfl⟩, ⟨_, rfl, rfl⟩, ⟨_, rfl, rfl⟩, ⟨_, rfl, rfl⟩, ⟨_, rfl, rfl⟩, trivial⟩ ⟨⟨_, _, rfl, rfl, rfl⟩, ⟨_, _, rfl, rfl, rfl⟩, ⟨_, _, rfl, rfl, rfl⟩, trivial⟩) ?_
        rintro ⟨⟨m, n⟩, hm, hnl⟩
        dsimp only at hm hnl ⊢
        by_cases h' : m < b.length
        · repeat' (first | ((with_reducible show AWp _ _ _ _ _); (first | refine awp_seq ?_ | refine awp_block ?_ | refine awp_skip ?_ | refine awp_exit ?_ | refine awp_scope ?_ | refine awp_label ?_ | refine awp_run ty_ok rfl sdm ?_ | refine awp_ret ⟨_, _, rfl, rfl, ?_⟩ | refine awp_ret ⟨_, rfl, ?_⟩ | ((refine awp_cond (ty := ty) rfl (fun hc => ?_) (fun hc => ?_)) <;> (try simp only [nms, reduceCtorEq] at hc) <;> (try (exfalso; omega))))) | ((with_reducible show AOps _ _ _ _ _ _); (first | refine aops_nil ?_ | refine aops_go ty_ok rfl rfl sdm ?_ | refine aops_gate ty_ok rfl rfl rfl sdm ?_ | refine aops_litE ty_ok rfl rfl rfl rfl rfl rfl rfl rfl rfl rfl rfl rfl ?_ | refine aops_litA ty_ok rfl rfl rfl rfl rfl rfl rfl rfl rfl rfl rfl rfl rfl rfl rfl rfl ?_ | refine aops_buildArr ty_ok rfl rfl rfl rfl rfl rfl rfl rfl rfl rfl ?_ | refine aops_indexArr ty_ok rfl rfl rfl rfl rfl rfl rfl rfl rfl rfl sdm ?_ | refine aops_field ty_ok rfl rfl rfl rfl rfl rfl rfl rfl rfl rfl ?_ | refine aops_cutE ty_ok rfl rfl rfl rfl rfl rfl rfl rfl rfl sdm rfl ?_ | ((fail_if_success (refine aops_known rfl ?_)); (refine aops_split ty_ok rfl rfl rfl rfl rfl rfl (fun hc => ⟨?_, ?_⟩) (fun hc => ⟨?_, ?_⟩)) <;> (try simp only [nms, reduceCtorEq] at hc) <;> (try (exfalso; omega)) <;> (try exact sdm)))) | ((fail_if_success (with_reducible show AWp _ _ _ _ _)); (fail_if_success (with_reducible show AOps _ _ _ _ _ _)); (first | (show AWp _ _ _ _ _) | (show AOps _ _ _ _ _ _))))
          refine ⟨⟨(m + 1, n.set m (n.getD m 0 + 1)), h', by simp [hnl]⟩, [(0, 0), (1, 1), (2, 2)], SubR.mk' rfl rfl ⟨⟨_, rfl, rfl⟩, ⟨_, rfl, rfl⟩, ⟨_, rfl, rfl⟩, ⟨_, rfl, rfl⟩, ⟨_, rfl, rfl⟩, ⟨_, rfl, rfl⟩, trivial⟩ ⟨⟨_, _, rfl, rfl, rfl⟩, ⟨_, _, rfl, rfl, rfl⟩, ⟨_, _, rfl, rfl, congrArg (AO.row none 5) ?_⟩, trivial⟩, by simp only; omega⟩
          exact bump' n m
        · repeat' (first | ((with_reducible show AWp _ _ _ _ _); (first | refine awp_seq ?_ | refine awp_block ?_ | refine awp_skip ?_ | refine awp_exit ?_ | refine awp_scope ?_ | refine awp_label ?_ | refine awp_run ty_ok rfl sdm ?_ | refine awp_ret ⟨_, _, rfl, rfl, ?_⟩ | refine awp_ret ⟨_, rfl, ?_⟩ | ((refine awp_cond (ty := ty) rfl (fun hc => ?_) (fun hc => ?_)) <;> (try simp only [nms, reduceCtorEq] at hc) <;> (try (exfalso; omega))))) | ((with_reducible show AOps _ _ _ _ _ _); (first | refine aops_nil ?_ | refine aops_go ty_ok rfl rfl sdm ?_ | refine aops_gate ty_ok rfl rfl rfl sdm ?_ | refine aops_callE (ty := ty) rfl rfl rfl rfl rfl rfl rfl (hS _) rfl ?_ | refine aops_litE ty_ok rfl rfl rfl rfl rfl rfl rfl rfl rfl rfl rfl rfl ?_ | refine aops_litA ty_ok rfl rfl rfl rfl rfl rfl rfl rfl rfl rfl rfl rfl rfl rfl rfl rfl ?_ | refine aops_buildArr ty_ok rfl rfl rfl rfl rfl rfl rfl rfl rfl rfl ?_ | refine aops_indexArr ty_ok rfl rfl rfl rfl rfl rfl rfl rfl rfl rfl sdm ?_ | refine aops_field ty_ok rfl rfl rfl rfl rfl rfl rfl rfl rfl rfl ?_ | refine aops_cutE ty_ok rfl rfl rfl rfl rfl rfl rfl rfl rfl sdm rfl ?_ | ((fail_if_success (refine aops_known rfl ?_)); (refine aops_split ty_ok rfl rfl rfl rfl rfl rfl (fun hc => ⟨?_, ?_⟩) (fun hc => ⟨?_, ?_⟩)) <;> (try simp only [nms, reduceCtorEq] at hc) <;> (try (exfalso; omega)) <;> (try exact sdm)))) | ((fail_if_success (with_reducible show AWp _ _ _ _ _)); (fail_if_success (with_reducible show AOps _ _ _ _ _ _)); (first | (show AWp _ _ _ _ _) | (show AOps _ _ _ _ _ _))))
          all_goals rfl
  · repeat' (first | ((with_reducible show AWp _ _ _ _ _); (first | refine awp_seq ?_ | refine awp_block ?_ | refine awp_skip ?_ | refine awp_exit ?_ | refine awp_scope ?_ | refine awp_label ?_ | refine awp_run ty_ok rfl sdm ?_ | refine awp_ret ⟨_, _, rfl, rfl, ?_⟩ | refine awp_ret ⟨_, rfl, ?_⟩ | ((refine awp_cond (ty := ty) rfl (fun hc => ?_) (fun hc => ?_)) <;> (try simp only [nms, reduceCtorEq] at hc) <;> (try (exfalso; omega))))) | ((with_reducible show AOps _ _ _ _ _ _); (first | refine aops_nil ?_ | refine aops_go ty_ok rfl rfl sdm ?_ | refine aops_gate ty_ok rfl rfl rfl sdm ?_ | refine aops_callE (ty := ty) rfl rfl rfl rfl rfl rfl rfl (c_awake22) rfl ?_ | refine aops_litE ty_ok rfl rfl rfl rfl rfl rfl rfl rfl rfl rfl rfl rfl ?_ | refine aops_litA ty_ok rfl rfl rfl rfl rfl rfl rfl rfl rfl rfl rfl rfl rfl rfl rfl rfl ?_ | refine aops_buildArr ty_ok rfl rfl rfl rfl rfl rfl rfl rfl rfl rfl ?_ | refine aops_indexArr ty_ok rfl rfl rfl rfl rfl rfl rfl rfl rfl rfl sdm ?_ | refine aops_field ty_ok rfl rfl rfl rfl rfl rfl rfl rfl rfl rfl ?_ | refine aops_cutE ty_ok rfl rfl rfl rfl rfl rfl rfl rfl rfl sdm rfl ?_ | ((fail_if_success (refine aops_known rfl ?_)); (refine aops_split ty_ok rfl rfl rfl rfl rfl rfl (fun hc => ⟨?_, ?_⟩) (fun hc => ⟨?_, ?_⟩)) <;> (try simp only [nms, reduceCtorEq] at hc) <;> (try (exfalso; omega)) <;> (try exact sdm)))) | ((fail_if_success (with_reducible show AWp _ _ _ _ _)); (fail_if_success (with_reducible show AOps _ _ _ _ _ _)); (first | (show AWp _ _ _ _ _) | (show AOps _ _ _ _ _ _))))
    all_goals rfl
end Go.Proofs.YtmciaonjkkelnaaGreatDoor

/- The abstract machine, twenty-first part: the given statement out of a contract, where the row lists variables. No program. -/
namespace Go.Am
open Go.RowKit Go.ChangeShapes Go.WideShapes
set_option linter.unusedSimpArgs false
set_option linter.unusedVariables false

/-- Of a law whose row lists variables: from the contract on data to what its row asks. -/
theorem lifted_laid {C : Checked} {f : FuncId} {fn : Func} {s : ChangeSpec} {conds : List PathCond} {tb : TypeId} {os : Os} {H : Type} {enc : TypeId × Value → H} {laid : List (String × DataW Unit)} {Γ : Env} (own : ownKnob C.prog.godebug = none) (started : os.Started) (noInit : C.prog.inits.idxOf? f = none) (hfn : C.prog.funcs[f]? = some fn)
    (laidOut : laidOutB C.prog = true) (hts : ∀ t ∈ fn.params.toList, C.prog.readableRec t = true ∧ t < C.prog.types.size) (hres : fn.resultTypes = #[tb]) (htb : C.prog.underlying tb = some .bool) (hvars : s.vars = [])
    (hspec : ∀ (vs : List Value) (w : World) (ds : List (DataW H)) (ps : List MemPlace), DataW.TrodAll enc C.prog w 0 (fun _ => true) true fn.params.toList vs ds ps → s.fn H ds = { results := [.lit (.bool true)], args := ds })
    (witness : ∃ (w : World) (tape : Tape) (i : Input), w.os = os ∧ (w.forCall tape i).Shaped C.prog ∧ i.vars = [] ∧ Input.okWide C.prog (w.forCall tape i) .any w.heap.size f i ∧
      ((s.pre enc C.prog fn conds false (w.forCall tape i).memory i.args ∧ laidMetH C.prog laid (w.forCall tape i).memory) ∧ sizedMet enc C.prog fn (OpenSpec.ofChange s) false (w.forCall tape i).memory i.args) ∧ ({} : Assume).holds C.prog (lone (Frame.enter C.prog f i.args .normal) [] (w.forCall tape i)))
    (hΓ : ∀ W, laidMetH C.prog laid W → Γ.ok W)
    {α : Type} {g : α → List Dat} {ok : α → Prop} (hop : OpensA C.prog fn.params.toList g ok) (hA : ∀ a, ok a → ACalls C.prog Γ f (g a) (fun r => r = .d (.bool true))) :
    ReturnsInHanded {} C os f .any (fun w args => (s.pre enc C.prog fn conds false w args ∧ laidMetH C.prog laid w) ∧ sizedMet enc C.prog fn (OpenSpec.ofChange s) false w args) (s.post enc C.prog fn false true false false) := by
  refine returnsInHanded_of_change_and (C := C) (X := fun w _ => laidMetH C.prog laid w) (fun _ _ _ hh h => laidMetH.of_heap hh h) own started noInit hfn witness ?_
  intro W base args ds gs before hval hW _ _ hL _
  have hW' := hW
  obtain ⟨p, q, hT, hV, rfl, hfz, hnd⟩ := hW
  rw [hvars] at hV
  obtain ⟨rfl, rfl⟩ := trodVars_none hV
  obtain ⟨a, ha, hlen, hrep⟩ := hop H enc W base args.toList ds p hT (fun j t v hj hv => hval j t v (by simpa using hj) (by simpa using hv))
  refine ((hA a ha).2 W (fun _ => true) args (hΓ W hL) (by simpa using hlen.symm) (fun j x hj => by simpa using hrep j x hj)).mono fun e W' ⟨v, r, he, bel, hrr, hr⟩ => ?_
  subst he
  subst hr
  have hv : v = .bool true := by
    cases hrr
    rfl
  subst hv
  obtain ⟨pa, hpa⟩ := trodAll_stay laidOut bel hts hT
  refine ⟨_, rfl, ds, [], p ++ [], [], pa, [], hW', ?_, ?_, ?_, bel.frame _, fun h => by cases h⟩
  · rw [List.append_nil, hspec _ _ _ _ hT, hres]
    exact trodAll_mk1 ⟨1, by simp [DataW.trod, Value.cells, htb]⟩
  · rw [List.append_nil, hspec _ _ _ _ hT]
    exact hpa
  · rw [List.append_nil, hspec _ _ _ _ hT, hvars]
    exact rfl
end Go.Am

/- The abstract machine: what a law is handed, opened as data, with a bound on its sizes. No program. -/
namespace Go.Am
open Go.RowKit Go.ChangeShapes Go.WideShapes Go.ChangeAt
set_option linter.unusedSimpArgs false
set_option linter.unusedVariables false

def Light {H : Type} (P : Program) (t : TypeId) (d : DataW H) : Prop := ∀ n ∈ d.weights P t, n ≤ reachBytes
def OpensQ (P : Program) (t : TypeId) {α : Type} (f : α → List Dat) (ok : α → Prop) : Prop :=
  ∀ (H : Type) (enc : TypeId × Value → H) (w : World) (fuel : Nat) (cs : List Value) (x : DataW H × List MemPlace), DataW.trod enc P w 0 (fun _ => true) true fuel t cs = some x → Light P t x.1 → ∃ a, ok a ∧ CellsAre w (f a) cs
section
variable {P : Program} {t e : TypeId} {α β : Type}
theorem OpensQ.of {f : α → List Dat} {ok : α → Prop} (h : Opens P t f ok) : OpensQ P t f ok := fun H enc w fuel cs x hx _ => h H enc w fuel cs x hx
theorem OpensQ.str (ht : P.underlying t = some .string) : OpensQ P t (fun s : ByteArray => [.str s]) (fun s => s.size ≤ reachBytes) := by
  intro H enc w fuel cs x h hw
  obtain ⟨s, rfl, rfl, hs⟩ := DataW.trod_string ht h
  refine ⟨s, ?_, cellsAre_one rfl (.str s)⟩
  have := hw s.data.toList.length (by simp [DataW.weights])
  simpa using this
theorem OpensQ.map {f : α → List Dat} {ok : α → Prop} {f' : β → List Dat} {ok' : β → Prop} (h : OpensQ P t f ok) (g : α → β) (hf : ∀ a, ok a → f' (g a) = f a) (hk : ∀ a, ok a → ok' (g a)) : OpensQ P t f' ok' := fun H enc w fuel cs x hx hw => by
  obtain ⟨a, h1, h2⟩ := h H enc w fuel cs x hx hw
  exact ⟨g a, hk a h1, by rw [hf a h1]; exact h2⟩
theorem weightsAll_mem {H : Type} {P : Program} {e : TypeId} : ∀ {l : List (DataW H)} {d : DataW H}, d ∈ l → ∀ n ∈ d.weights P e, n ∈ DataW.weightsAll P e l
  | [], d, h, n, hn => by cases h
  | x :: r, d, h, n, hn => by
    unfold DataW.weightsAll
    rw [List.mem_append]
    rcases List.mem_cons.1 h with rfl | h
    · exact .inl hn
    · exact .inr (weightsAll_mem h n hn)
theorem OpensQ.slice {ek : Option Nat} {f : α → List Dat} {ok : α → Prop} (ht : P.underlying t = some (.slice e)) (hc : P.cellsOf e = Am.esz ek) (hpos : 0 < Am.esz ek) (hby : 0 < P.bytesOf e) (he : OpensQ P e f ok) (pack : α → Dat)
    (hpack : ∀ a, (f a).length = Am.esz ek → (∀ y ∈ f a, y.one = true) → Fits ek (pack a) ∧ (pack a).cells = f a) : OpensQ P t (fun l : List α => [.sl ek (l.map pack)]) (fun l => (∀ a ∈ l, ok a) ∧ l.length ≤ reachBytes) := by
  intro H enc w fuel cs x h hw
  rcases DataW.trod_slice ht h with ⟨rfl, _⟩ | ⟨a, len, cap, elems, rest, n, _, rfl, rfl, _, hl, hm, hlen, hel, _⟩
  · exact ⟨[], by simp, cellsAre_one rfl (.nil ek)⟩
  have hwe : ∀ y ∈ elems, Light P e y.1 := fun y hy n hn => hw n (by
    simp only [DataW.weights, ht]
    exact List.mem_cons_of_mem _ (List.mem_append_left _ (weightsAll_mem (List.mem_map.2 ⟨y, hy, rfl⟩) n hn)))
  have hwl : len ≤ reachBytes := by
    have h1 := hw ((elems.map (·.1)).length * P.bytesOf e + (rest.map (·.1)).length * P.bytesOf e) (by
      simp only [DataW.weights, ht, ← Nat.add_mul]
      exact List.mem_cons_self ..)
    rw [List.length_map, hlen] at h1
    have h2 : len * 1 ≤ len * P.bytesOf e := Nat.mul_le_mul_left _ hby
    omega
  have each : ∀ i, i < len → ∃ z, ok z ∧ ∃ cs', w.cells? 0 (a.add (i * P.cellsOf e)) (P.cellsOf e) = some cs' ∧ CellsAre w (f z) cs' := by
    intro i hi
    have h1 := hel i hi
    rw [List.getElem?_eq_getElem (by omega)] at h1
    obtain ⟨cs', h2, h3⟩ := Option.bind_eq_some_iff.1 h1
    obtain ⟨z, hz, hz2⟩ := he H enc w n cs' _ h3 (hwe _ (List.getElem_mem _))
    exact ⟨z, hz, cs', h2, hz2⟩
  obtain ⟨l, hll, hq⟩ := list_of len each
  refine ⟨l, ⟨fun z hz => ?_, by omega⟩, cellsAre_one rfl ?_⟩
  · obtain ⟨i, hi⟩ := List.mem_iff_getElem?.1 hz
    exact (hq i z hi).1
  obtain ⟨b, off, spot⟩ := a
  have fit : ∀ z ∈ l, Fits ek (pack z) ∧ (pack z).cells = f z := by
    intro z hz
    obtain ⟨i, hi⟩ := List.mem_iff_getElem?.1 hz
    obtain ⟨_, cs', h1, h2, h3, _⟩ := hq i z hi
    refine hpack z ?_ h3
    rw [h2, (World.cells?_some h1).2.1, hc]
  have hsp : 0 < l.length → spot = none := by
    intro h0
    obtain ⟨_, cs', h1, _⟩ := hq 0 l[0] (List.getElem?_eq_getElem h0)
    obtain ⟨_, h3, h4⟩ := World.cells?_some h1
    have h5 := h4 0 (by rw [hc]; exact hpos)
    rw [List.getElem?_eq_getElem (by rw [h3, hc]; exact hpos)] at h5
    have h6 := World.cell?_spot h5
    simpa [Addr.add] using h6
  refine RepD.sl_mk (by simpa using hll.symm) (by simp; omega) hm (by simpa using hsp) (fun z hz => ?_) (fun k z hk j y hj => ?_)
  · obtain ⟨z', hz', rfl⟩ := List.mem_map.1 hz
    exact (fit z' hz').1
  · rw [List.getElem?_map] at hk
    obtain ⟨z', hz', rfl⟩ := Option.map_eq_some_iff.1 hk
    obtain ⟨_, cs', h1, h2, h3, h4⟩ := hq k z' hz'
    have hmem := List.mem_of_getElem? hz'
    rw [(fit z' hmem).2] at hj
    obtain ⟨_, h6, h7⟩ := World.cells?_some h1
    have hjl : j < (f z').length := (List.getElem?_eq_some_iff.1 hj).1
    have h8 := h7 j (by omega)
    have h9 : spot = none := hsp (by have := (List.getElem?_eq_some_iff.1 hz').1; omega)
    subst h9
    rw [Addr.add_lit, Addr.add_lit, List.getElem?_eq_getElem (by omega)] at h8
    refine ⟨rfl, h3 y (List.mem_of_getElem? hj), _, by rw [← h8, hc], ?_⟩
    have := h4 j y hj
    rwa [List.getD_eq_getElem?_getD, List.getElem?_eq_getElem (by omega)] at this
theorem OpensQ.bytes (ht : P.underlying t = some (.slice e)) (he : P.underlying e = some (.int .u8)) (hc : P.cellsOf e = 1) (hby : 0 < P.bytesOf e) : OpensQ P t (fun l : List UInt8 => [.sl none (bys l)]) (fun l => l.length ≤ reachBytes) :=
  OpensQ.map (OpensQ.slice (ek := none) ht hc (by decide) hby (OpensQ.of (Opens.u8 he)) by1 (fun a _ _ => ⟨rfl, rfl⟩)) (fun l => l) (fun _ _ => rfl) (fun _ h => h.2)
def OpensQF (P : Program) (off : Nat) (fs : List Field) {α : Type} (f : α → List Dat) (ok : α → Prop) : Prop :=
  ∀ (H : Type) (enc : TypeId × Value → H) (w : World) (fuel : Nat) (cs : List Value), (∀ fd ∈ fs, ∃ x, DataW.trod enc P w 0 (fun _ => true) true fuel fd.type ((cs.drop fd.offset).take (P.cellsOf fd.type)) = some x ∧ Light P fd.type x.1) →
    ∃ a, ok a ∧ CellsAre w (f a) ((cs.drop off).take (f a).length)
theorem OpensQF.one {fd : Field} {off sz : Nat} {f : α → List Dat} {ok : α → Prop} (ho : fd.offset = off) (h : OpensQ P fd.type f ok) : OpensQF P off [fd] f ok := by
  intro H enc w fuel cs hx
  obtain ⟨x, hx, hw⟩ := hx fd (by simp)
  obtain ⟨a, h1, h2⟩ := h H enc w fuel _ x hx hw
  refine ⟨a, h1, ?_⟩
  rw [ho] at h2
  have hl := h2.1
  rw [List.length_take] at hl
  have : (cs.drop off).take (f a).length = (cs.drop off).take (P.cellsOf fd.type) := by
    rw [hl]
    by_cases hle : P.cellsOf fd.type ≤ (cs.drop off).length
    · rw [Nat.min_eq_left hle]
    · rw [Nat.min_eq_right (by omega), List.take_of_length_le (Nat.le_refl _), List.take_of_length_le (by omega)]
  rw [this]
  exact h2
theorem OpensQF.cons {fd : Field} {fs : List Field} {off sz : Nat} {f : α → List Dat} {ok : α → Prop} {g : β → List Dat} {ok' : β → Prop} (ho : fd.offset = off) (hsz : ∀ a, (f a).length = sz) (h : OpensQ P fd.type f ok) (hs : OpensQF P (off + sz) fs g ok') :
    OpensQF P off (fd :: fs) (fun p : α × β => f p.1 ++ g p.2) (fun p => ok p.1 ∧ ok' p.2) := by
  intro H enc w fuel cs hx
  obtain ⟨a, h1, h2⟩ := OpensQF.one (sz := sz) ho h H enc w fuel cs (fun fd' hfd => hx fd' (by simp at hfd; simp [hfd]))
  obtain ⟨b, h3, h4⟩ := hs H enc w fuel cs (fun fd' hfd => hx fd' (by simp [hfd]))
  refine ⟨(a, b), ⟨h1, h3⟩, ?_⟩
  have e1 := h2.1
  have e2 := h4.1
  rw [hsz] at h2 e1
  have key : (cs.drop off).take (f a ++ g b).length = (cs.drop off).take sz ++ (cs.drop (off + sz)).take (g b).length := by
    rw [List.length_append, hsz, List.take_add, List.drop_drop]
  refine ⟨?_, ?_, ?_⟩
  · rw [key, List.length_append, List.length_append, ← e2, ← e1, hsz]
  · intro y hy
    rcases List.mem_append.1 hy with hy | hy
    · exact h2.2.1 y hy
    · exact h4.2.1 y hy
  · intro j y hj
    simp only at hj ⊢
    rw [key]
    rw [List.getElem?_append] at hj
    rw [List.getD_eq_getElem?_getD, List.getElem?_append]
    rw [hsz] at hj
    split at hj
    · rename_i hlt
      rw [if_pos (by omega)]
      exact h2.2.2 j y hj
    · rename_i hlt
      rw [if_neg (by omega), ← e1]
      exact h4.2.2 _ y hj
theorem OpensQ.struct {fs : Array Field} {f : α → List Dat} {ok : α → Prop} (ht : P.underlying t = some (.struct fs)) (hsz : ∀ a, (f a).length = P.cellsOf t) (h : OpensQF P 0 fs.toList f ok) : OpensQ P t f ok := by
  intro H enc w fuel cs x hx hw
  obtain ⟨xs, n, rfl, rfl, hl, hxl, hg⟩ := DataW.trod_struct ht hx
  obtain ⟨a, h1, h2⟩ := h H enc w n cs (fun fd hfd => by
    obtain ⟨i, hi⟩ := List.mem_iff_getElem?.1 hfd
    have hi' : fs[i]? = some fd := by simpa using hi
    have h3 := hg i fd hi'
    have hlt := (Array.getElem?_eq_some_iff.1 hi').1
    rw [List.getElem?_eq_getElem (by omega)] at h3
    refine ⟨_, h3, fun q hq => hw q ?_⟩
    simp only [DataW.weights, ht]
    refine DataW.weights_mem_each (j := i) (t := fd.type) (d := (xs[i]'(by omega)).1) (by simp [hi']) (by simp [show i < xs.length by omega]) q hq)
  refine ⟨a, h1, ?_⟩
  rw [hsz, List.drop_zero, ← hl, List.take_length] at h2
  exact h2

def OpensQV (P : Program) (t : TypeId) {α : Type} (f : α → Dat) (ok : α → Prop) : Prop :=
  ∀ (H : Type) (enc : TypeId × Value → H) (w : World) (base : Nat) (v : Value) (d : DataW H) (ps : List MemPlace), DataW.Trod enc P w 0 (fun _ => true) true t v d ps → Light P t d → Value.okWide P w .any base t v → ∃ a, ok a ∧ RepD w (fun _ => true) (f a) v
theorem OpensQV.of {f : α → Dat} {ok : α → Prop} (h : OpensV P t f ok) : OpensQV P t f ok := fun H enc w base v d ps hx _ hok => h H enc w base v d ps hx hok
theorem OpensQV.slice {f : α → Dat} {ok : α → Prop} (ht : P.underlying t = some (.slice e)) (h : OpensQ P t (fun a => [f a]) ok) : OpensQV P t f ok := by
  intro H enc w base v d ps ⟨fuel, hf⟩ hw hok
  obtain ⟨a, l, c, rfl⟩ := okWide_slice ht hok
  obtain ⟨a, h1, h2, h3, h4⟩ := h H enc w fuel _ _ hf hw
  exact ⟨a, h1, by simpa [Value.cells] using h4 0 (f a) rfl⟩
theorem OpensQV.struct {fs : Array Field} {f : α → List Dat} {ok : α → Prop} (ht : P.underlying t = some (.struct fs)) (h : OpensQ P t f ok) : OpensQV P t (fun a => .agg (f a)) ok := by
  intro H enc w base v d ps ⟨fuel, hf⟩ hw hok
  obtain ⟨cs, rfl, _⟩ := okWide_struct ht hok
  obtain ⟨a, h1, h2, h3, h4⟩ := h H enc w fuel _ _ hf hw
  refine ⟨a, h1, .agg _ cs (by simpa [Value.cells] using h2.symm) h3 (fun j y hj => by simpa [Value.cells] using h4 j y hj)⟩
def OpensQA (P : Program) (ts : List TypeId) {α : Type} (g : α → List Dat) (ok : α → Prop) : Prop :=
  ∀ (H : Type) (enc : TypeId × Value → H) (w : World) (base : Nat) (vs : List Value) (ds : List (DataW H)) (ps : List MemPlace), DataW.TrodAll enc P w 0 (fun _ => true) true ts vs ds ps → (∀ (j : Nat) t d, ts[j]? = some t → ds[j]? = some d → Light P t d) → (∀ (j : Nat) t v, ts[j]? = some t → vs[j]? = some v → Value.okWide P w .any base t v) →
    ∃ a, ok a ∧ (g a).length = vs.length ∧ ∀ (j : Nat) (y : Dat), (g a)[j]? = some y → RepD w (fun _ => true) y (vs.getD j undef)
theorem OpensQA.nil : OpensQA P [] (fun _ : Unit => []) (fun _ => True) := by
  intro H enc w base vs ds ps h _ _
  obtain ⟨rfl, _, _⟩ := trodAll_nil h
  exact ⟨(), trivial, rfl, by simp⟩
theorem OpensQA.cons {ts : List TypeId} {f : α → Dat} {ok : α → Prop} {g : β → List Dat} {ok' : β → Prop} (h : OpensQV P t f ok) (hs : OpensQA P ts g ok') : OpensQA P (t :: ts) (fun p : α × β => f p.1 :: g p.2) (fun p => ok p.1 ∧ ok' p.2) := by
  intro H enc w base vs ds ps ht hw hok
  obtain ⟨v, vs', d, ds', p, q, rfl, rfl, rfl, h1, h2⟩ := trodAll_cons ht
  obtain ⟨a, h3, h4⟩ := h H enc w base v d p h1 (hw 0 t d rfl rfl) (hok 0 t v rfl rfl)
  obtain ⟨b, h5, h6, h7⟩ := hs H enc w base vs' ds' q h2 (fun j t d hj hd => hw (j + 1) t d (by simpa using hj) (by simpa using hd)) (fun j t v hj hv => hok (j + 1) t v (by simpa using hj) (by simpa using hv))
  refine ⟨(a, b), ⟨h3, h5⟩, by simp [h6], fun j y hj => ?_⟩
  cases j with
  | zero => simp at hj; subst hj; simpa using h4
  | succ j => simpa using h7 j y (by simpa using hj)
end
theorem lifted_laidQ {C : Checked} {f : FuncId} {fn : Func} {s : ChangeSpec} {conds : List PathCond} {tb : TypeId} {os : Os} {H : Type} {enc : TypeId × Value → H} {laid : List (String × DataW Unit)} {Γ : Env} (own : ownKnob C.prog.godebug = none) (started : os.Started) (noInit : C.prog.inits.idxOf? f = none) (hfn : C.prog.funcs[f]? = some fn)
    (laidOut : laidOutB C.prog = true) (hts : ∀ t ∈ fn.params.toList, C.prog.readableRec t = true ∧ t < C.prog.types.size) (hres : fn.resultTypes = #[tb]) (htb : C.prog.underlying tb = some .bool) (hvars : s.vars = [])
    (hspec : ∀ (vs : List Value) (w : World) (ds : List (DataW H)) (ps : List MemPlace), DataW.TrodAll enc C.prog w 0 (fun _ => true) true fn.params.toList vs ds ps → s.fn H ds = { results := [.lit (.bool true)], args := ds })
    (witness : ∃ (w : World) (tape : Tape) (i : Input), w.os = os ∧ (w.forCall tape i).Shaped C.prog ∧ i.vars = [] ∧ Input.okWide C.prog (w.forCall tape i) .any w.heap.size f i ∧
      ((s.pre enc C.prog fn conds false (w.forCall tape i).memory i.args ∧ laidMetH C.prog laid (w.forCall tape i).memory) ∧ sizedMet enc C.prog fn (OpenSpec.ofChange s) false (w.forCall tape i).memory i.args) ∧ ({} : Assume).holds C.prog (lone (Frame.enter C.prog f i.args .normal) [] (w.forCall tape i)))
    (hΓ : ∀ W, laidMetH C.prog laid W → Γ.ok W)
    {α : Type} {g : α → List Dat} {ok : α → Prop} (hop : OpensQA C.prog fn.params.toList g ok) (hA : ∀ a, ok a → ACalls C.prog Γ f (g a) (fun r => r = .d (.bool true))) :
    ReturnsInHanded {} C os f .any (fun w args => (s.pre enc C.prog fn conds false w args ∧ laidMetH C.prog laid w) ∧ sizedMet enc C.prog fn (OpenSpec.ofChange s) false w args) (s.post enc C.prog fn false true false false) := by
  refine returnsInHanded_of_change_and (C := C) (X := fun w _ => laidMetH C.prog laid w) (fun _ _ _ hh h => laidMetH.of_heap hh h) own started noInit hfn witness ?_
  intro W base args ds gs before hval hW _ hwt hL _
  have hW' := hW
  obtain ⟨p, q, hT, hV, rfl, hfz, hnd⟩ := hW
  rw [hvars] at hV
  obtain ⟨rfl, rfl⟩ := trodVars_none hV
  obtain ⟨a, ha, hlen, hrep⟩ := hop H enc W base args.toList ds p hT (fun j t d hj hd n hn => of_decide_eq_true (List.all_eq_true.1 hwt n (DataW.weights_mem_each (j := j) (by rw [List.getElem?_append_left (List.getElem?_eq_some_iff.1 hj).1]; exact hj) (by rw [List.append_nil]; exact hd) n hn))) (fun j t v hj hv => hval j t v (by simpa using hj) (by simpa using hv))
  refine ((hA a ha).2 W (fun _ => true) args (hΓ W hL) (by simpa using hlen.symm) (fun j x hj => by simpa using hrep j x hj)).mono fun e W' ⟨v, r, he, bel, hrr, hr⟩ => ?_
  subst he
  subst hr
  have hv : v = .bool true := by
    cases hrr
    rfl
  subst hv
  obtain ⟨pa, hpa⟩ := trodAll_stay laidOut bel hts hT
  refine ⟨_, rfl, ds, [], p ++ [], [], pa, [], hW', ?_, ?_, ?_, bel.frame _, fun h => by cases h⟩
  · rw [List.append_nil, hspec _ _ _ _ hT, hres]
    exact trodAll_mk1 ⟨1, by simp [DataW.trod, Value.cells, htb]⟩
  · rw [List.append_nil, hspec _ _ _ _ hT]
    exact hpa
  · rw [List.append_nil, hspec _ _ _ _ hT, hvars]
    exact rfl
end Go.Am

/- What the laws of object identifiers are handed, opened as data. -/
namespace Go.Proofs.YtmciaonjkkelnaaGreatDoor
open Go.Am Go.ChangeShapes Go.WideShapes Go.ChangeAt Go.RowKit
set_option linter.unusedSimpArgs false
set_option linter.unusedVariables false

theorem open_bytes : OpensV Tryz.prog 22 (fun l : List UInt8 => .sl none (bys l)) (fun l => l.length ≤ maxLen) := OpensV.bytes Tryz.underlying22 Tryz.underlying5 (by kernel_rfl)
theorem open_u8 : OpensV Tryz.prog 5 (fun n : UInt8 => by1 n) (fun _ => True) := OpensV.u8 Tryz.underlying5
theorem OpensV.map {P : Program} {t : TypeId} {α β : Type} {f : α → Dat} {ok : α → Prop} {f' : β → Dat} {ok' : β → Prop} (h : OpensV P t f ok) (g : α → β) (hf : ∀ a, f' (g a) = f a) (hk : ∀ a, ok a → ok' (g a)) : OpensV P t f' ok' := fun H enc w base v d ps ht hok => by
  obtain ⟨a, h1, h2⟩ := h H enc w base v d ps ht hok
  exact ⟨g a, hk a h1, by rw [hf]; exact h2⟩
theorem open_str : OpensV Tryz.prog 9 (fun l : List UInt8 => sD l) (fun _ => True) :=
  OpensV.map (OpensV.str Tryz.underlying9) (fun s => s.data.toList) (fun s => by rw [sD, ← bA_of]) (fun _ _ => trivial)
theorem Opens.mapOk {P : Program} {t : TypeId} {α β : Type} {f : α → List Dat} {ok : α → Prop} {f' : β → List Dat} {ok' : β → Prop} (h : Opens P t f ok) (g : α → β) (hf : ∀ a, ok a → f' (g a) = f a) (hk : ∀ a, ok a → ok' (g a)) : Opens P t f' ok' := fun H enc w fuel cs x hx => by
  obtain ⟨a, h1, h2⟩ := h H enc w fuel cs x hx
  exact ⟨g a, hk a h1, by rw [hf a h1]; exact h2⟩
theorem wf_u32 {n : Int} (h : (Lit.int .u32 n).wf = true) : 0 ≤ n ∧ n ≤ 4294967295 := by
  simpa [Lit.wf, IntKind.min, IntKind.max, IntKind.signed, IntKind.bits] using h
theorem u32s_back (l : List Int) (h : ∀ n ∈ l, (Lit.int .u32 n).wf = true) : u32s (l.map Int.toNat) = l.map (Dat.int .u32) := by
  rw [u32s, List.map_map]
  refine List.map_congr_left fun n hn => ?_
  have := wf_u32 (h n hn)
  simp only [Function.comp]
  rw [Int.toNat_of_nonneg this.1]
theorem open_u32s : OpensV Tryz.prog 82 (fun l : List Nat => .sl none (u32s l)) (fun l => ∀ n ∈ l, n ≤ 4294967295) :=
  OpensV.slice Tryz.underlying82 (Opens.mapOk (Opens.ints Tryz.underlying82 Tryz.underlying81 (by kernel_rfl)) (fun l => l.map Int.toNat) (fun l h => by
    rw [u32s_back l h.1]) (fun l h n hn => by
    obtain ⟨m, hm, rfl⟩ := List.mem_map.1 hn
    have := wf_u32 (h.1 m hm)
    omega))
theorem read_all {ts : List TypeId} (h : ts.all (fun t => Tryz.prog.readableRec t && decide (t < Tryz.prog.types.size)) = true) : ∀ t ∈ ts, Tryz.prog.readableRec t = true ∧ t < Tryz.prog.types.size := by
  intro t ht
  have := List.all_eq_true.1 h t ht
  simpa using this
theorem wf_i64 {n : Int} (h : (Lit.int .i64 n).wf = true) : n ≤ 9223372036854775807 := by
  simp [Lit.wf, IntKind.min, IntKind.max, IntKind.signed, IntKind.bits] at h
  omega
theorem wf_u16 {n : Int} (h : (Lit.int .u16 n).wf = true) : 0 ≤ n ∧ n ≤ 65535 := by
  simp [Lit.wf, IntKind.min, IntKind.max, IntKind.signed, IntKind.bits] at h
  omega
theorem open_int : OpensV Tryz.prog 3 (fun n : Int => .int .i64 n) (fun n => n ≤ 9223372036854775807) :=
  OpensV.map (OpensV.int Tryz.underlying3) (fun n => n) (fun _ => rfl) (fun n h => wf_i64 h)
theorem open_strs : OpensV Tryz.prog 98 (fun l : List (List UInt8) => .sl none (Am.strs l)) (fun _ => True) :=
  OpensV.slice Tryz.underlying98 (Opens.mapOk (Opens.strs Tryz.underlying98 Tryz.underlying9 (by kernel_rfl)) (fun l => l.map (·.data.toList)) (fun l h => by
    rw [Am.strs, List.map_map]
    congr 2) (fun _ _ => trivial))
end Go.Proofs.YtmciaonjkkelnaaGreatDoor

/- What the laws of extensions are handed, opened as data, with sizes. -/
namespace Go.Proofs.YtmciaonjkkelnaaGreatDoor
open Go.Am Go.ChangeShapes Go.WideShapes Go.ChangeAt Go.RowKit
set_option linter.unusedSimpArgs false
set_option linter.unusedVariables false

def ext3 (p : ByteArray × Bool × List UInt8) : List Dat := [.str p.1] ++ ([.bool p.2.1] ++ [.sl none (bys p.2.2)])
def ext3X (p : ByteArray × Bool × List UInt8) : Ext := ⟨p.1.data.toList, p.2.1, p.2.2⟩
theorem ext3_xD (p : ByteArray × Bool × List UInt8) : xD (ext3X p) = .agg (ext3 p) := by
  obtain ⟨s, b, l⟩ := p
  show Dat.agg [.str (bA s.data.toList), .bool b, .sl none (bys l)] = _
  rw [← bA_of]
  rfl
set_option maxRecDepth 100000 in
theorem open_ext3 : OpensQ Tryz.prog 25 ext3 (fun p => p.1.size ≤ reachBytes ∧ True ∧ p.2.2.length ≤ reachBytes) :=
  OpensQ.struct Tryz.underlying25 (by intro a; rfl)
    (OpensQF.cons (sz := 1) rfl (fun _ => rfl) (OpensQ.str Tryz.underlying9) (OpensQF.cons (sz := 1) rfl (fun _ => rfl) (OpensQ.of (Opens.bool Tryz.underlying4)) (OpensQF.one (sz := 1) rfl (OpensQ.bytes Tryz.underlying22 Tryz.underlying5 (by kernel_rfl) (by decide +kernel)))))
set_option maxRecDepth 100000 in
theorem open_ext : OpensQV Tryz.prog 25 xD (fun _ => True) := fun H enc w base v d ps hx hl hok => by
  obtain ⟨a, _, h2⟩ := OpensQV.struct Tryz.underlying25 open_ext3 H enc w base v d ps hx hl hok
  exact ⟨ext3X a, trivial, by rw [ext3_xD]; exact h2⟩
set_option maxRecDepth 100000 in
theorem open_exts : OpensQV Tryz.prog 40 (fun l : List Ext => .sl (some 3) (xsD l)) (fun l => ∀ x ∈ l, x.o.length ≤ 140737488351232 ∧ x.v.length ≤ 140737488351232) :=
  OpensQV.slice Tryz.underlying40 (OpensQ.map (OpensQ.slice (ek := some 3) Tryz.underlying40 (by kernel_rfl) (by decide) (by decide +kernel) open_ext3 (fun p => .agg (ext3 p)) (fun a _ h => ⟨⟨ext3 a, rfl, rfl, h⟩, rfl⟩)) (fun l => l.map ext3X) (fun l _ => by
      rw [xsD, List.map_map]
      exact congrArg (fun z => [Dat.sl (some 3) z]) (List.map_congr_left fun p _ => ext3_xD p)) (fun l h x hx => by
      obtain ⟨p, hp, rfl⟩ := List.mem_map.1 hx
      have h1 := h.1 p hp
      have e : p.1.data.toList.length = p.1.size := rfl
      simp only [reachBytes] at h1
      exact ⟨by show p.1.data.toList.length ≤ _; omega, h1.2.2⟩))
end Go.Proofs.YtmciaonjkkelnaaGreatDoor
