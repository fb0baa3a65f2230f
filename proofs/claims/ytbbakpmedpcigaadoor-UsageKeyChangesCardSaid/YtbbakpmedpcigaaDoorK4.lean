/- Part 4 of the texts of this proof: an abstract machine for walks, the walks of the functions, plain laws. Each part says in its own first lines what is proved there. -/
import Derived.Test.YtbbakpmedpcigaaDoorK3
import Derived.Lay
import Derived.Stop.Joined

/- Lists of purposes: Valid and Marshal. Walked by the abstract machine. -/
namespace Go.Proofs.YtbbakpmedpcigaaDoor
open Go.Am
set_option linter.unusedSimpArgs false
set_option linter.unusedVariables false

/-- The encoding of an object identifier. -/
def encO (s : List UInt8) : List UInt8 := match okF s with
  | some a => encL a
  | none => []
theorem encL_len {a : List Nat} (h : ∀ n ∈ a, n ≤ 4294967295) (hr : rightF a = true) : (encL a).length ≤ 5 * a.length := by
  match a, hr with
  | x :: y :: t, hr =>
    have h1 : 40 * x + y ≤ 4294967295 := by
      simp only [rightF, Bool.or_eq_true, Bool.and_eq_true, decide_eq_true_eq] at hr
      omega
    have h2 := b128_len32 true _ h1
    have h3 := flat_len t (fun n hn => h n (by simp [hn]))
    simp only [encL, List.length_append, List.length_cons]
    omega
theorem encO_len (s : List UInt8) : (encO s).length ≤ 5 * (s.length + 1) := by
  unfold encO
  cases h : okF s with
  | none => simp
  | some a =>
    obtain ⟨_, hr, hn⟩ := okF_text h
    have h1 := encL_len hn hr
    have h2 := okF_len h
    simp only
    omega
def objF (s : List UInt8) : List UInt8 := putF 6 (encO s)
theorem objF_len (s : List UInt8) : (objF s).length ≤ 5 * s.length + 15 := by
  have h1 := encO_len s
  have h2 := hsz_le (encO s)
  rw [objF, putF_len]
  omega
def usV (l : List (List UInt8)) : Bool := !l.isEmpty && l.all oidV
/-- The encoding of a list of purposes. -/
def usF (l : List (List UInt8)) : List UInt8 := putF 48 (l.map objF).flatten
theorem objs_len (l : List (List UInt8)) (B : Nat) (h : ∀ s ∈ l, s.length ≤ B) : (l.map objF).flatten.length ≤ l.length * (5 * B + 15) := by
  induction l with
  | nil => simp
  | cons s r ih =>
    have h1 := objF_len s
    have h2 := h s (List.mem_cons_self ..)
    have h3 := ih fun t ht => h t (List.mem_cons_of_mem _ ht)
    rw [List.map_cons, List.flatten_cons, List.length_append, List.length_cons, Nat.add_mul, Nat.one_mul]
    have h4 : 5 * s.length ≤ 5 * B := Nat.mul_le_mul_left 5 h2
    omega
theorem c_oenc_okO (s : List UInt8) (hl : s.length ≤ 100000000) (h : oidV s = true) : ACalls Tryd.prog envL 33 [sD s] (fun r => r = .ownT none 5 (bys (encO s)) [.int .i64 0]) := by
  unfold oidV at h
  unfold encO
  cases ho : okF s with
  | none => rw [ho] at h; cases h
  | some a => exact c_oenc_ok s a hl ho
theorem isContainsFunc : IsFn Tryd.prog 45 Tryd.f45 := ⟨Tryd.func45, by decide, rfl⟩
theorem isIndexFunc : IsFn Tryd.prog 59 Tryd.f59 := ⟨Tryd.func59, by decide, rfl⟩
theorem isUValid1 : IsFn Tryd.prog 46 Tryd.f46 := ⟨Tryd.func46, by decide, rfl⟩
theorem c_uvalid1 (s : List UInt8) (hl : s.length ≤ 100000000) : ACalls Tryd.prog envL 46 [sD s] (fun r => r = .d (.bool (!oidV s))) := by
  refine acalls_of ty_ok isUValid1 rfl rfl ?_
  repeat' (first | ((with_reducible show AWp _ _ _ _ _); (first | refine awp_seq ?_ | refine awp_block ?_ | refine awp_skip ?_ | refine awp_exit ?_ | refine awp_scope ?_ | refine awp_label ?_ | refine awp_run ty_ok rfl sd ?_ | refine awp_ret ⟨_, _, rfl, rfl, ?_⟩ | refine awp_ret ⟨_, rfl, ?_⟩ | ((refine awp_cond (ty := ty) rfl (fun hc => ?_) (fun hc => ?_)) <;> (try simp only [nms, reduceCtorEq] at hc) <;> (try (exfalso; omega))))) | ((with_reducible show AOps _ _ _ _ _ _); (first | refine aops_nil ?_ | refine aops_go ty_ok rfl rfl sd ?_ | refine aops_gate ty_ok rfl rfl rfl sd ?_ | refine aops_callE (ty := ty) rfl rfl rfl rfl rfl rfl rfl (c_ovalid s hl) rfl ?_ | refine aops_litE ty_ok rfl rfl rfl rfl rfl rfl rfl rfl rfl rfl rfl rfl ?_ | refine aops_cutE ty_ok rfl rfl rfl rfl rfl rfl rfl rfl rfl sd rfl ?_ | ((fail_if_success (refine aops_known rfl ?_)); (refine aops_split ty_ok rfl rfl rfl rfl rfl rfl (fun hc => ⟨?_, ?_⟩) (fun hc => ⟨?_, ?_⟩)) <;> (try simp only [nms, reduceCtorEq] at hc) <;> (try (exfalso; omega)) <;> (try exact sd)))) | ((fail_if_success (with_reducible show AWp _ _ _ _ _)); (fail_if_success (with_reducible show AOps _ _ _ _ _ _)); (first | (show AWp _ _ _ _ _) | (show AOps _ _ _ _ _ _))))
  rfl
theorem isUValid : IsFn Tryd.prog 32 Tryd.f32 := ⟨Tryd.func32, by decide, rfl⟩
set_option maxHeartbeats 1000000 in
theorem c_uvalid (l : List (List UInt8)) (hn : l.length ≤ 1000) (hl : ∀ s ∈ l, s.length ≤ 100000000) : ACalls Tryd.prog envL 32 [.sl none (strs l)] (fun r => r = .d (.bool (usV l))) := by
  refine acalls_of ty_ok isUValid rfl rfl ?_
  match l, hn, hl with
  | [], _, _ =>
    repeat' (first | ((with_reducible show AWp _ _ _ _ _); (first | refine awp_seq ?_ | refine awp_block ?_ | refine awp_skip ?_ | refine awp_exit ?_ | refine awp_scope ?_ | refine awp_label ?_ | refine awp_run ty_ok rfl sd ?_ | refine awp_ret ⟨_, _, rfl, rfl, ?_⟩ | refine awp_ret ⟨_, rfl, ?_⟩ | ((refine awp_cond (ty := ty) rfl (fun hc => ?_) (fun hc => ?_)) <;> (try simp only [nms, reduceCtorEq] at hc) <;> (try (exfalso; omega))))) | ((with_reducible show AOps _ _ _ _ _ _); (first | refine aops_nil ?_ | refine aops_go ty_ok rfl rfl sd ?_ | refine aops_gate ty_ok rfl rfl rfl sd ?_ | refine aops_litE ty_ok rfl rfl rfl rfl rfl rfl rfl rfl rfl rfl rfl rfl ?_ | refine aops_cutE ty_ok rfl rfl rfl rfl rfl rfl rfl rfl rfl sd rfl ?_ | ((fail_if_success (refine aops_known rfl ?_)); (refine aops_split ty_ok rfl rfl rfl rfl rfl rfl (fun hc => ⟨?_, ?_⟩) (fun hc => ⟨?_, ?_⟩)) <;> (try simp only [nms, reduceCtorEq] at hc) <;> (try (exfalso; omega)) <;> (try exact sd)))) | ((fail_if_success (with_reducible show AWp _ _ _ _ _)); (fail_if_success (with_reducible show AOps _ _ _ _ _ _)); (first | (show AWp _ _ _ _ _) | (show AOps _ _ _ _ _ _))))
    all_goals rfl
  | p :: r, hn, hl =>
    have hlen : (strs (p :: r)).length = r.length + 1 := by simp [strs_len]
    obtain ⟨l, hle⟩ : ∃ l, l = p :: r := ⟨_, rfl⟩
    have hv : usV (p :: r) = l.all oidV := by rw [hle]; rfl
    rw [hv]
    have hl0 : 0 < l.length := by rw [hle]; simp
    rw [← hle] at hlen hn hl ⊢
    repeat' (first | ((with_reducible show AWp _ _ _ _ _); (first | refine awp_seq ?_ | refine awp_block ?_ | refine awp_skip ?_ | refine awp_exit ?_ | refine awp_scope ?_ | refine awp_label ?_ | refine awp_run ty_ok rfl sd ?_ | refine awp_ret ⟨_, _, rfl, rfl, ?_⟩ | refine awp_ret ⟨_, rfl, ?_⟩ | ((refine awp_cond (ty := ty) rfl (fun hc => ?_) (fun hc => ?_)) <;> (try simp only [nms, reduceCtorEq] at hc) <;> (try (exfalso; omega))))) | ((with_reducible show AOps _ _ _ _ _ _); (first | refine aops_nil ?_ | refine aops_go ty_ok rfl rfl sd ?_ | refine aops_gate ty_ok rfl rfl rfl sd ?_ | refine aops_inline ty_ok rfl rfl rfl rfl rfl rfl isContainsFunc rfl rfl ?_ | refine aops_inline ty_ok rfl rfl rfl rfl rfl rfl isIndexFunc rfl rfl ?_ | refine aops_litE ty_ok rfl rfl rfl rfl rfl rfl rfl rfl rfl rfl rfl rfl ?_ | refine aops_cutE ty_ok rfl rfl rfl rfl rfl rfl rfl rfl rfl sd rfl ?_ | ((fail_if_success (refine aops_known rfl ?_)); (refine aops_split ty_ok rfl rfl rfl rfl rfl rfl (fun hc => ⟨?_, ?_⟩) (fun hc => ⟨?_, ?_⟩)) <;> (try simp only [nms, reduceCtorEq] at hc) <;> (try (exfalso; omega)) <;> (try exact sd)))) | ((fail_if_success (with_reducible show AWp _ _ _ _ _)); (fail_if_success (with_reducible show AOps _ _ _ _ _ _)); (first | (show AWp _ _ _ _ _) | (show AOps _ _ _ _ _ _))))
    refine awp_loopR (G := { k : Nat // k ≤ l.length ∧ (l.take k).all oidV = true }) (fun k => ⟨Tryd.f59.ntmps, [(0, .d (.sl none (strs l))), (1, .fn 46 []), (7, .d (.int .i64 l.length)), (8, .d (.int .i64 k.1))], [], 0⟩) (fun k => l.length - k.1) ⟨0, Nat.zero_le _, rfl⟩ []
      (SubR.mk' rfl rfl ⟨⟨_, rfl, rfl⟩, ⟨_, rfl, rfl⟩, ⟨_, rfl, congrArg (fun z : Nat => AV.d (Dat.int IntKind.i64 z)) (strs_len _)⟩, ⟨_, rfl, rfl⟩, trivial⟩ trivial) ?_
    rintro ⟨k, hk, ha⟩
    dsimp only
    rcases Nat.lt_or_ge k l.length with hkl | hkl
    · have hc1 := c_uvalid1 l[k] (hl _ (List.getElem_mem _))
      unfold sD at hc1
      rw [← str_at hkl] at hc1
      have ht : l.take (k + 1) = l.take k ++ [l[k]] := List.take_succ_eq_append_getElem hkl
      cases ho : oidV l[k] with
      | true =>
        rw [ho] at hc1
        repeat' (first | ((with_reducible show AWp _ _ _ _ _); (first | refine awp_seq ?_ | refine awp_block ?_ | refine awp_skip ?_ | refine awp_exit ?_ | refine awp_scope ?_ | refine awp_label ?_ | refine awp_run ty_ok rfl sd ?_ | refine awp_ret ⟨_, _, rfl, rfl, ?_⟩ | refine awp_ret ⟨_, rfl, ?_⟩ | ((refine awp_cond (ty := ty) rfl (fun hc => ?_) (fun hc => ?_)) <;> (try simp only [nms, reduceCtorEq] at hc) <;> (try (exfalso; omega))))) | ((with_reducible show AOps _ _ _ _ _ _); (first | refine aops_nil ?_ | refine aops_go ty_ok rfl rfl sd ?_ | refine aops_gate ty_ok rfl rfl rfl sd ?_ | refine aops_callE (ty := ty) rfl rfl rfl rfl rfl rfl rfl (hc1) rfl ?_ | refine aops_litE ty_ok rfl rfl rfl rfl rfl rfl rfl rfl rfl rfl rfl rfl ?_ | refine aops_cutE ty_ok rfl rfl rfl rfl rfl rfl rfl rfl rfl sd rfl ?_ | ((fail_if_success (refine aops_known rfl ?_)); (refine aops_split ty_ok rfl rfl rfl rfl rfl rfl (fun hc => ⟨?_, ?_⟩) (fun hc => ⟨?_, ?_⟩)) <;> (try simp only [nms, reduceCtorEq] at hc) <;> (try (exfalso; omega)) <;> (try exact sd)))) | ((fail_if_success (with_reducible show AWp _ _ _ _ _)); (fail_if_success (with_reducible show AOps _ _ _ _ _ _)); (first | (show AWp _ _ _ _ _) | (show AOps _ _ _ _ _ _))))
        refine ⟨⟨k + 1, hkl, ?_⟩, [], SubR.mk' rfl rfl ⟨⟨_, rfl, rfl⟩, ⟨_, rfl, rfl⟩, ⟨_, rfl, rfl⟩, ⟨_, rfl, rfl⟩, trivial⟩ trivial, by simp only; omega⟩
        rw [ht, List.all_append, ha]
        simp [ho]
      | false =>
        rw [ho] at hc1
        have hf : l.all oidV = false := by
          rw [List.all_eq_false]
          exact ⟨l[k], List.getElem_mem _, by simp [ho]⟩
        rw [hf]
        repeat' (first | ((with_reducible show AWp _ _ _ _ _); (first | refine awp_seq ?_ | refine awp_block ?_ | refine awp_skip ?_ | refine awp_exit ?_ | refine awp_scope ?_ | refine awp_label ?_ | refine awp_run ty_ok rfl sd ?_ | refine awp_ret ⟨_, _, rfl, rfl, ?_⟩ | refine awp_ret ⟨_, rfl, ?_⟩ | ((refine awp_cond (ty := ty) rfl (fun hc => ?_) (fun hc => ?_)) <;> (try simp only [nms, reduceCtorEq] at hc) <;> (try (exfalso; omega))))) | ((with_reducible show AOps _ _ _ _ _ _); (first | refine aops_nil ?_ | refine aops_go ty_ok rfl rfl sd ?_ | refine aops_gate ty_ok rfl rfl rfl sd ?_ | refine aops_callE (ty := ty) rfl rfl rfl rfl rfl rfl rfl (hc1) rfl ?_ | refine aops_litE ty_ok rfl rfl rfl rfl rfl rfl rfl rfl rfl rfl rfl rfl ?_ | refine aops_cutE ty_ok rfl rfl rfl rfl rfl rfl rfl rfl rfl sd rfl ?_ | ((fail_if_success (refine aops_known rfl ?_)); (refine aops_split ty_ok rfl rfl rfl rfl rfl rfl (fun hc => ⟨?_, ?_⟩) (fun hc => ⟨?_, ?_⟩)) <;> (try simp only [nms, reduceCtorEq] at hc) <;> (try (exfalso; omega)) <;> (try exact sd)))) | ((fail_if_success (with_reducible show AWp _ _ _ _ _)); (fail_if_success (with_reducible show AOps _ _ _ _ _ _)); (first | (show AWp _ _ _ _ _) | (show AOps _ _ _ _ _ _))))
        have hk0 : (k : Int) ≥ 0 := Int.natCast_nonneg k
        rw [decide_eq_true hk0]
        rfl
    · have hke : k = l.length := by omega
      subst hke
      rw [List.take_length] at ha
      rw [ha]
      repeat' (first | ((with_reducible show AWp _ _ _ _ _); (first | refine awp_seq ?_ | refine awp_block ?_ | refine awp_skip ?_ | refine awp_exit ?_ | refine awp_scope ?_ | refine awp_label ?_ | refine awp_run ty_ok rfl sd ?_ | refine awp_ret ⟨_, _, rfl, rfl, ?_⟩ | refine awp_ret ⟨_, rfl, ?_⟩ | ((refine awp_cond (ty := ty) rfl (fun hc => ?_) (fun hc => ?_)) <;> (try simp only [nms, reduceCtorEq] at hc) <;> (try (exfalso; omega))))) | ((with_reducible show AOps _ _ _ _ _ _); (first | refine aops_nil ?_ | refine aops_go ty_ok rfl rfl sd ?_ | refine aops_gate ty_ok rfl rfl rfl sd ?_ | refine aops_litE ty_ok rfl rfl rfl rfl rfl rfl rfl rfl rfl rfl rfl rfl ?_ | refine aops_cutE ty_ok rfl rfl rfl rfl rfl rfl rfl rfl rfl sd rfl ?_ | ((fail_if_success (refine aops_known rfl ?_)); (refine aops_split ty_ok rfl rfl rfl rfl rfl rfl (fun hc => ⟨?_, ?_⟩) (fun hc => ⟨?_, ?_⟩)) <;> (try simp only [nms, reduceCtorEq] at hc) <;> (try (exfalso; omega)) <;> (try exact sd)))) | ((fail_if_success (with_reducible show AWp _ _ _ _ _)); (fail_if_success (with_reducible show AOps _ _ _ _ _ _)); (first | (show AWp _ _ _ _ _) | (show AOps _ _ _ _ _ _))))
      all_goals rfl

theorem byss_take (l : List (List UInt8)) (k : Nat) (h : k < l.length) : byss ((l.take (k + 1)).map objF) = byss ((l.take k).map objF) ++ [.sl none (bys (objF l[k]))] := by
  rw [List.take_succ_eq_append_getElem h, List.map_append, byss, byss, List.map_append]
  rfl
theorem usV_all {l : List (List UInt8)} (h : usV l = true) : ∀ s ∈ l, oidV s = true := by
  unfold usV at h
  rw [Bool.and_eq_true] at h
  exact List.all_eq_true.1 h.2
def usR (l : List (List UInt8)) : Res := match usV l with
  | true => .ownT none 5 (bys (usF l)) [.int .i64 0]
  | false => .d (.tup [.sl none [], .int .i64 8])
theorem isUMarshal : IsFn Tryd.prog 23 Tryd.f23 := ⟨Tryd.func23, by decide, rfl⟩
set_option maxHeartbeats 1000000 in
theorem c_umarshal (l : List (List UInt8)) (hn : l.length ≤ 1000) (hl : ∀ s ∈ l, s.length ≤ 10000) : ACalls Tryd.prog envL 23 [.sl none (strs l)] (fun r => r = usR l) := by
  refine acalls_of ty_ok isUMarshal rfl rfl ?_
  have hc1 := c_uvalid l hn (fun s hs => Nat.le_trans (hl s hs) (by omega))
  unfold usR
  cases hv : usV l with
  | false =>
    rw [hv] at hc1
    repeat' (first | ((with_reducible show AWp _ _ _ _ _); (first | refine awp_seq ?_ | refine awp_block ?_ | refine awp_skip ?_ | refine awp_exit ?_ | refine awp_scope ?_ | refine awp_label ?_ | refine awp_run ty_ok rfl sd ?_ | refine awp_ret ⟨_, _, rfl, rfl, ?_⟩ | refine awp_ret ⟨_, rfl, ?_⟩ | ((refine awp_cond (ty := ty) rfl (fun hc => ?_) (fun hc => ?_)) <;> (try simp only [nms, reduceCtorEq] at hc) <;> (try (exfalso; omega))))) | ((with_reducible show AOps _ _ _ _ _ _); (first | refine aops_nil ?_ | refine aops_go ty_ok rfl rfl sd ?_ | refine aops_gate ty_ok rfl rfl rfl sd ?_ | refine aops_callE (ty := ty) rfl rfl rfl rfl rfl rfl rfl (hc1) rfl ?_ | refine aops_litE ty_ok rfl rfl rfl rfl rfl rfl rfl rfl rfl rfl rfl rfl ?_ | refine aops_cutE ty_ok rfl rfl rfl rfl rfl rfl rfl rfl rfl sd rfl ?_ | ((fail_if_success (refine aops_known rfl ?_)); (refine aops_split ty_ok rfl rfl rfl rfl rfl rfl (fun hc => ⟨?_, ?_⟩) (fun hc => ⟨?_, ?_⟩)) <;> (try simp only [nms, reduceCtorEq] at hc) <;> (try (exfalso; omega)) <;> (try exact sd)))) | ((fail_if_success (with_reducible show AWp _ _ _ _ _)); (fail_if_success (with_reducible show AOps _ _ _ _ _ _)); (first | (show AWp _ _ _ _ _) | (show AOps _ _ _ _ _ _))))
    rfl
  | true =>
    rw [hv] at hc1
    have hall := usV_all hv
    have hfl := objs_len l 10000 hl
    repeat' (first | ((with_reducible show AWp _ _ _ _ _); (first | refine awp_seq ?_ | refine awp_block ?_ | refine awp_skip ?_ | refine awp_exit ?_ | refine awp_scope ?_ | refine awp_label ?_ | refine awp_run ty_ok rfl sd ?_ | refine awp_ret ⟨_, _, rfl, rfl, ?_⟩ | refine awp_ret ⟨_, rfl, ?_⟩ | ((refine awp_cond (ty := ty) rfl (fun hc => ?_) (fun hc => ?_)) <;> (try simp only [nms, reduceCtorEq] at hc) <;> (try (exfalso; omega))))) | ((with_reducible show AOps _ _ _ _ _ _); (first | refine aops_nil ?_ | refine aops_go ty_ok rfl rfl sd ?_ | refine aops_gate ty_ok rfl rfl rfl sd ?_ | refine aops_callE (ty := ty) rfl rfl rfl rfl rfl rfl rfl (hc1) rfl ?_ | refine aops_litE ty_ok rfl rfl rfl rfl rfl rfl rfl rfl rfl rfl rfl rfl ?_ | refine aops_cutE ty_ok rfl rfl rfl rfl rfl rfl rfl rfl rfl sd rfl ?_ | ((fail_if_success (refine aops_known rfl ?_)); (refine aops_split ty_ok rfl rfl rfl rfl rfl rfl (fun hc => ⟨?_, ?_⟩) (fun hc => ⟨?_, ?_⟩)) <;> (try simp only [nms, reduceCtorEq] at hc) <;> (try (exfalso; omega)) <;> (try exact sd)))) | ((fail_if_success (with_reducible show AWp _ _ _ _ _)); (fail_if_success (with_reducible show AOps _ _ _ _ _ _)); (first | (show AWp _ _ _ _ _) | (show AOps _ _ _ _ _ _))))
    refine awp_nilrow 4 24 rfl ?_
    refine awp_loopR (G := { k : Nat // k ≤ l.length }) (fun k => ⟨Tryd.f23.ntmps, [(4, .ref 0), (13, .d (.sl none (strs l))), (14, .d (.int .i64 l.length)), (15, .d (.int .i64 k.1))], [(0, .row none 24 (byss ((l.take k.1).map objF)))], 1⟩) (fun k => l.length - k.1) ⟨0, Nat.zero_le _⟩ [(0, 0)]
      (SubR.mk' rfl rfl ⟨⟨_, rfl, rfl⟩, ⟨_, rfl, rfl⟩, ⟨_, rfl, congrArg (fun z : Nat => AV.d (Dat.int IntKind.i64 z)) (strs_len _)⟩, ⟨_, rfl, rfl⟩, trivial⟩ ⟨⟨_, _, rfl, rfl, rfl⟩, trivial⟩) ?_
    rintro ⟨k, hk⟩
    dsimp only
    rcases Nat.lt_or_ge k l.length with hkl | hkl
    · have hm : l[k] ∈ l := List.getElem_mem _
      have hc2 := c_oenc_okO l[k] (Nat.le_trans (hl _ hm) (by omega)) (hall _ hm)
      unfold sD at hc2
      rw [← str_at hkl] at hc2
      have he := encO_len l[k]
      have hlk := hl _ hm
      have hc3 := c_wrap (envL.at 0) 0 6 false [encO l[k]] (by omega) (by omega) (by simp) (by simp; omega)
      repeat' (first | ((with_reducible show AWp _ _ _ _ _); (first | refine awp_seq ?_ | refine awp_block ?_ | refine awp_skip ?_ | refine awp_exit ?_ | refine awp_scope ?_ | refine awp_label ?_ | refine awp_run ty_ok rfl sd ?_ | refine awp_ret ⟨_, _, rfl, rfl, ?_⟩ | refine awp_ret ⟨_, rfl, ?_⟩ | ((refine awp_cond (ty := ty) rfl (fun hc => ?_) (fun hc => ?_)) <;> (try simp only [nms, reduceCtorEq] at hc) <;> (try (exfalso; omega))))) | ((with_reducible show AOps _ _ _ _ _ _); (first | refine aops_nil ?_ | refine aops_go ty_ok rfl rfl sd ?_ | refine aops_gate ty_ok rfl rfl rfl sd ?_ | refine aops_callE (ty := ty) rfl rfl rfl rfl rfl rfl rfl (hc2) rfl ?_ | refine aops_callE (ty := ty) rfl rfl rfl rfl rfl rfl rfl (hc3) rfl ?_ | refine aops_litE ty_ok rfl rfl rfl rfl rfl rfl rfl rfl rfl rfl rfl rfl ?_ | refine aops_cutE ty_ok rfl rfl rfl rfl rfl rfl rfl rfl rfl sd rfl ?_ | ((fail_if_success (refine aops_known rfl ?_)); (refine aops_split ty_ok rfl rfl rfl rfl rfl rfl (fun hc => ⟨?_, ?_⟩) (fun hc => ⟨?_, ?_⟩)) <;> (try simp only [nms, reduceCtorEq] at hc) <;> (try (exfalso; omega)) <;> (try exact sd)))) | ((fail_if_success (with_reducible show AWp _ _ _ _ _)); (fail_if_success (with_reducible show AOps _ _ _ _ _ _)); (first | (show AWp _ _ _ _ _) | (show AOps _ _ _ _ _ _))))
      refine ⟨⟨k + 1, hkl⟩, [(5, 0)], SubR.mk' rfl rfl ⟨⟨_, rfl, rfl⟩, ⟨_, rfl, rfl⟩, ⟨_, rfl, rfl⟩, ⟨_, rfl, rfl⟩, trivial⟩ ⟨⟨_, _, rfl, rfl, congrArg (AO.row none 24) ?_⟩, trivial⟩, by simp only; omega⟩
      rw [byss_take l k hkl]
      simp [objF, idB]
    · have hke : k = l.length := by omega
      subst hke
      rw [List.take_length]
      have hbd : l.length * (5 * 10000 + 15) ≤ 1000 * 50015 := Nat.mul_le_mul_right _ hn
      repeat' (first | ((with_reducible show AWp _ _ _ _ _); (first | refine awp_seq ?_ | refine awp_block ?_ | refine awp_skip ?_ | refine awp_exit ?_ | refine awp_scope ?_ | refine awp_label ?_ | refine awp_run ty_ok rfl sd ?_ | refine awp_ret ⟨_, _, rfl, rfl, ?_⟩ | refine awp_ret ⟨_, rfl, ?_⟩ | ((refine awp_cond (ty := ty) rfl (fun hc => ?_) (fun hc => ?_)) <;> (try simp only [nms, reduceCtorEq] at hc) <;> (try (exfalso; omega))))) | ((with_reducible show AOps _ _ _ _ _ _); (first | refine aops_nil ?_ | refine aops_go ty_ok rfl rfl sd ?_ | refine aops_gate ty_ok rfl rfl rfl sd ?_ | refine aops_callE (ty := ty) rfl rfl rfl rfl rfl rfl rfl (c_sequence _ (l.map objF) (by simp; omega) (by omega)) rfl ?_ | refine aops_litE ty_ok rfl rfl rfl rfl rfl rfl rfl rfl rfl rfl rfl rfl ?_ | refine aops_cutE ty_ok rfl rfl rfl rfl rfl rfl rfl rfl rfl sd rfl ?_ | ((fail_if_success (refine aops_known rfl ?_)); (refine aops_split ty_ok rfl rfl rfl rfl rfl rfl (fun hc => ⟨?_, ?_⟩) (fun hc => ⟨?_, ?_⟩)) <;> (try simp only [nms, reduceCtorEq] at hc) <;> (try (exfalso; omega)) <;> (try exact sd)))) | ((fail_if_success (with_reducible show AWp _ _ _ _ _)); (fail_if_success (with_reducible show AOps _ _ _ _ _ _)); (first | (show AWp _ _ _ _ _) | (show AOps _ _ _ _ _ _))))
      rfl
end Go.Proofs.YtbbakpmedpcigaaDoor

/- What the laws of key usages ask first; the laws UsageKeyMarshals and UsageKeyParses. Walked by the abstract machine. -/
namespace Go.Proofs.YtbbakpmedpcigaaDoor
open Go.Am
set_option linter.unusedSimpArgs false
set_option linter.unusedVariables false

theorem fields_of {P : Program} {t : TypeId} {fs : Array Field} (h : P.underlying t = some (.struct fs)) : P.fieldsOf t = fs := by
  unfold Program.fieldsOf
  rw [h]
theorem errEq : EqInts Tryd.prog 30 where
  guard := by kernel_rfl
  eq w a b c d := by
    have hu := Tryd.underlying30
    have hf := fields_of hu
    unfold Op.equal
    rw [show Op.maxDepth = 9999 + 1 from rfl, run_equalIn_struct w 9999 30 _ _ (by rw [hf]; exact hu) (by kernel_rfl), hf]
    simp [Op.eqFields, go_sem, part, Tryd.isAgg25, Tryd.isAgg3, Tryd.underlying25, Tryd.underlying3]
    by_cases h1 : a = c
    · subst h1
      simp [Op.eqFields, go_sem, part, Tryd.isAgg25, Tryd.isAgg3, Tryd.underlying25, Tryd.underlying3]
      by_cases h2 : b = d <;> simp [h2]
    · simp [h1]
theorem key5 : keyF 5 = [3, 2, 5, 160] := by decide +kernel
theorem key256 : keyF 256 = [3, 3, 7, 0, 128] := by decide +kernel
def srvS : List UInt8 := [49, 46, 51, 46, 54, 46, 49, 46, 53, 46, 53, 46, 55, 46, 51, 46, 49]
theorem srv_v : usV [srvS] = true := by decide +kernel
theorem srv_f : usF [srvS] = [48, 10, 6, 8, 43, 6, 1, 5, 5, 7, 3, 1] := by decide +kernel
theorem key_bad : pkF [3, 1, 0] = .bad 6 2 := by rfl
theorem c_mkey_ok (Γ : Env) (S : Nat) (h1 : 1 ≤ S) (h2 : S ≤ 511) : ACalls Tryd.prog Γ 9 [.int .i64 S] (fun r => r = .ownT none 5 (bys (keyF S)) [.int .i64 0]) := (c_mkey Γ S (by omega)).mono fun r hr => by
  rw [hr, keyR, show keyV (S : Int) = true by rw [keyV, decide_eq_true_eq]; omega]
  simp only [Int.toNat_natCast]
theorem c_pkey_at (Γ : Env) (b : List UInt8) (hb : b.length ≤ 1000000000) {v : Ex Nat} (h : pkF b = v) : ACalls Tryd.prog Γ 14 [.sl none (bys b)] (fun r => r = .d (pkD v)) := by
  subst h
  exact c_pkey Γ b hb
theorem c_bytes_eq (Γ : Env) (x y : List UInt8) (h : x = y) : ACalls Tryd.prog Γ 11 [.sl none (bys x), .sl none (bys y)] (fun r => r = .d (.bool true)) := by
  have := c_bytes Γ x y
  rwa [decide_eq_true h] at this
theorem isAwake : IsFn Tryd.prog 7 Tryd.f7 := ⟨Tryd.func7, by decide, rfl⟩
set_option maxHeartbeats 1000000 in
theorem c_awake : ACalls Tryd.prog envL 7 [] (fun r => r = .d (.bool true)) := by
  refine acalls_of ty_ok isAwake rfl rfl ?_
  have h1 := c_mkey_ok (envL.at 0) 5 (by omega) (by omega)
  have h2 := c_mkey_ok (envL.at 0) 256 (by omega) (by omega)
  rw [key5] at h1
  rw [key256] at h2
  have h3 : ACalls Tryd.prog (envL.at 0) 23 [.sl none (strs [srvS])] (fun r => r = .ownT none 5 (bys [48, 10, 6, 8, 43, 6, 1, 5, 5, 7, 3, 1]) [.int .i64 0]) := (c_umarshal [srvS] (by decide) (by decide)).mono fun r hr => by
    rw [hr, usR, srv_v]
    simp only
    rw [srv_f]
  have h4 := c_pkey_at (envL.at 0) [3, 1, 0] (by decide) key_bad
  repeat' (first | ((with_reducible show AWp _ _ _ _ _); (first | refine awp_seq ?_ | refine awp_block ?_ | refine awp_skip ?_ | refine awp_exit ?_ | refine awp_scope ?_ | refine awp_label ?_ | refine awp_run ty_ok rfl sd ?_ | refine awp_ret ⟨_, _, rfl, rfl, ?_⟩ | refine awp_ret ⟨_, rfl, ?_⟩ | ((refine awp_cond (ty := ty) rfl (fun hc => ?_) (fun hc => ?_)) <;> (try simp only [nms, reduceCtorEq] at hc) <;> (try (exfalso; omega))))) | ((with_reducible show AOps _ _ _ _ _ _); (first | refine aops_nil ?_ | refine aops_go ty_ok rfl rfl sd ?_ | refine aops_gate ty_ok rfl rfl rfl sd ?_ | refine aops_callE (ty := ty) rfl rfl rfl rfl rfl rfl rfl (h1) rfl ?_ | refine aops_callE (ty := ty) rfl rfl rfl rfl rfl rfl rfl (h2) rfl ?_ | refine aops_callE (ty := ty) rfl rfl rfl rfl rfl rfl rfl (h3) rfl ?_ | refine aops_callE (ty := ty) rfl rfl rfl rfl rfl rfl rfl (h4) rfl ?_ | refine aops_callE (ty := ty) rfl rfl rfl rfl rfl rfl rfl (c_bytes_eq _ [3, 2, 5, 160] [3, 2, 5, 160] rfl) rfl ?_ | refine aops_callE (ty := ty) rfl rfl rfl rfl rfl rfl rfl (c_bytes_eq _ [3, 3, 7, 0, 128] [3, 3, 7, 0, 128] rfl) rfl ?_ | refine aops_callE (ty := ty) rfl rfl rfl rfl rfl rfl rfl (c_bytes_eq _ [48, 10, 6, 8, 43, 6, 1, 5, 5, 7, 3, 1] [48, 10, 6, 8, 43, 6, 1, 5, 5, 7, 3, 1] rfl) rfl ?_ | refine aops_litE ty_ok rfl rfl rfl rfl rfl rfl rfl rfl rfl rfl rfl rfl ?_ | refine aops_cutE ty_ok rfl rfl rfl rfl rfl rfl rfl rfl rfl sd rfl ?_ | ((fail_if_success (refine aops_known rfl ?_)); (refine aops_split ty_ok rfl rfl rfl rfl rfl rfl (fun hc => ⟨?_, ?_⟩) (fun hc => ⟨?_, ?_⟩)) <;> (try simp only [nms, reduceCtorEq] at hc) <;> (try (exfalso; omega)) <;> (try exact sd)))) | ((fail_if_success (with_reducible show AWp _ _ _ _ _)); (fail_if_success (with_reducible show AOps _ _ _ _ _ _)); (first | (show AWp _ _ _ _ _) | (show AOps _ _ _ _ _ _))))
  all_goals first | rfl | skip

theorem isFewKey : IsFn Tryd.prog 8 Tryd.f8 := ⟨Tryd.func8, by decide, rfl⟩
theorem c_fewkey (Γ : Env) (n : Int) : ACalls Tryd.prog Γ 8 [.int .i64 n] (fun r => r = .d (.bool true)) := by
  refine acalls_of ty_ok isFewKey rfl rfl ?_
  repeat' (first | ((with_reducible show AWp _ _ _ _ _); (first | refine awp_seq ?_ | refine awp_block ?_ | refine awp_skip ?_ | refine awp_exit ?_ | refine awp_scope ?_ | refine awp_label ?_ | refine awp_run ty_ok rfl sd ?_ | refine awp_ret ⟨_, _, rfl, rfl, ?_⟩ | refine awp_ret ⟨_, rfl, ?_⟩ | ((refine awp_cond (ty := ty) rfl (fun hc => ?_) (fun hc => ?_)) <;> (try simp only [nms, reduceCtorEq] at hc) <;> (try (exfalso; omega))))) | ((with_reducible show AOps _ _ _ _ _ _); (first | refine aops_nil ?_ | refine aops_go ty_ok rfl rfl sd ?_ | refine aops_gate ty_ok rfl rfl rfl sd ?_ | refine aops_litE ty_ok rfl rfl rfl rfl rfl rfl rfl rfl rfl rfl rfl rfl ?_ | refine aops_cutE ty_ok rfl rfl rfl rfl rfl rfl rfl rfl rfl sd rfl ?_ | ((fail_if_success (refine aops_known rfl ?_)); (refine aops_split ty_ok rfl rfl rfl rfl rfl rfl (fun hc => ⟨?_, ?_⟩) (fun hc => ⟨?_, ?_⟩)) <;> (try simp only [nms, reduceCtorEq] at hc) <;> (try (exfalso; omega)) <;> (try exact sd)))) | ((fail_if_success (with_reducible show AWp _ _ _ _ _)); (fail_if_success (with_reducible show AOps _ _ _ _ _ _)); (first | (show AWp _ _ _ _ _) | (show AOps _ _ _ _ _ _))))
  rfl
theorem c_mkey_bad (Γ : Env) (n : Int) (hn : n ≤ 9223372036854775807) (h : keyV n = false) : ACalls Tryd.prog Γ 9 [.int .i64 n] (fun r => r = .d (.tup [.sl none [], .int .i64 8])) := (c_mkey Γ n hn).mono fun r hr => by
  rw [hr, keyR, h]
theorem c_rmkey_bad (Γ : Env) (n : Int) (hn : n ≤ 9223372036854775807) (h : keyV n = false) : ACalls Tryd.prog Γ 10 [.int .i64 n] (fun r => r = .d (.tup [.sl none [], .int .i64 8])) := (c_rmkey Γ n hn).mono fun r hr => by
  rw [hr, keyR, h]
theorem c_validkey_at (Γ : Env) (n : Int) (hn : n ≤ 9223372036854775807) {v : Bool} (h : keyV n = v) : ACalls Tryd.prog Γ 12 [.int .i64 n] (fun r => r = .d (.bool v)) := by
  subst h
  exact c_validkey Γ n hn
theorem c_rvalidkey_at (Γ : Env) (n : Int) {v : Bool} (h : keyV n = v) : ACalls Tryd.prog Γ 13 [.int .i64 n] (fun r => r = .d (.bool v)) := by
  subst h
  exact c_rvalidkey Γ n
theorem c_bint_eq (Γ : Env) (x : Int) : ACalls Tryd.prog Γ 15 [.int .i64 x, .int .i64 x] (fun r => r = .d (.bool true)) := by
  have := c_bint Γ x x
  rwa [decide_eq_true rfl] at this
theorem keyF_len (S : Nat) (h : S ≤ 511) : (keyF S).length ≤ 21 ∧ 0 < (keyF S).length := by
  have h1 := namF_len S (by omega)
  have h2 := hsz_le (namF S)
  have h3 := hsz_ge (namF S)
  rw [keyF, putF_len]
  omega
theorem isLKeyMarshals : IsFn Tryd.prog 3 Tryd.f3 := ⟨Tryd.func3, by decide, rfl⟩
set_option maxHeartbeats 1000000 in
theorem l_keymarshals (n : Int) (hn : n ≤ 9223372036854775807) : ACalls Tryd.prog envL 3 [.int .i64 n] (fun r => r = .d (.bool true)) := by
  refine acalls_of ty_ok isLKeyMarshals rfl rfl ?_
  cases hv : keyV n with
  | false =>
    repeat' (first | ((with_reducible show AWp _ _ _ _ _); (first | refine awp_seq ?_ | refine awp_block ?_ | refine awp_skip ?_ | refine awp_exit ?_ | refine awp_scope ?_ | refine awp_label ?_ | refine awp_run ty_ok rfl sd ?_ | refine awp_ret ⟨_, _, rfl, rfl, ?_⟩ | refine awp_ret ⟨_, rfl, ?_⟩ | ((refine awp_cond (ty := ty) rfl (fun hc => ?_) (fun hc => ?_)) <;> (try simp only [nms, reduceCtorEq] at hc) <;> (try (exfalso; omega))))) | ((with_reducible show AOps _ _ _ _ _ _); (first | refine aops_nil ?_ | refine aops_go ty_ok rfl rfl sd ?_ | refine aops_gate ty_ok rfl rfl rfl sd ?_ | refine aops_callE (ty := ty) rfl rfl rfl rfl rfl rfl rfl (c_awake) rfl ?_ | refine aops_callE (ty := ty) rfl rfl rfl rfl rfl rfl rfl (c_fewkey _ n) rfl ?_ | refine aops_callE (ty := ty) rfl rfl rfl rfl rfl rfl rfl (c_mkey_bad _ n hn hv) rfl ?_ | refine aops_callE (ty := ty) rfl rfl rfl rfl rfl rfl rfl (c_rmkey_bad _ n hn hv) rfl ?_ | refine aops_callE (ty := ty) rfl rfl rfl rfl rfl rfl rfl (c_bytes_eq _ [] [] rfl) rfl ?_ | refine aops_callE (ty := ty) rfl rfl rfl rfl rfl rfl rfl (c_validkey_at _ n hn hv) rfl ?_ | refine aops_callE (ty := ty) rfl rfl rfl rfl rfl rfl rfl (c_rvalidkey_at _ n hv) rfl ?_ | refine aops_litE ty_ok rfl rfl rfl rfl rfl rfl rfl rfl rfl rfl rfl rfl ?_ | refine aops_cutE ty_ok rfl rfl rfl rfl rfl rfl rfl rfl rfl sd rfl ?_ | ((fail_if_success (refine aops_known rfl ?_)); (refine aops_split ty_ok rfl rfl rfl rfl rfl rfl (fun hc => ⟨?_, ?_⟩) (fun hc => ⟨?_, ?_⟩)) <;> (try simp only [nms, reduceCtorEq] at hc) <;> (try (exfalso; omega)) <;> (try exact sd)))) | ((fail_if_success (with_reducible show AWp _ _ _ _ _)); (fail_if_success (with_reducible show AOps _ _ _ _ _ _)); (first | (show AWp _ _ _ _ _) | (show AOps _ _ _ _ _ _))))
    all_goals rfl
  | true =>
    obtain ⟨S, rfl, h1, h2⟩ := keyV_nat hv
    have hl := keyF_len S h2
    repeat' (first | ((with_reducible show AWp _ _ _ _ _); (first | refine awp_seq ?_ | refine awp_block ?_ | refine awp_skip ?_ | refine awp_exit ?_ | refine awp_scope ?_ | refine awp_label ?_ | refine awp_run ty_ok rfl sd ?_ | refine awp_ret ⟨_, _, rfl, rfl, ?_⟩ | refine awp_ret ⟨_, rfl, ?_⟩ | ((refine awp_cond (ty := ty) rfl (fun hc => ?_) (fun hc => ?_)) <;> (try simp only [nms, reduceCtorEq] at hc) <;> (try (exfalso; omega))))) | ((with_reducible show AOps _ _ _ _ _ _); (first | refine aops_nil ?_ | refine aops_go ty_ok rfl rfl sd ?_ | refine aops_gate ty_ok rfl rfl rfl sd ?_ | refine aops_callE (ty := ty) rfl rfl rfl rfl rfl rfl rfl (c_awake) rfl ?_ | refine aops_callE (ty := ty) rfl rfl rfl rfl rfl rfl rfl (c_fewkey _ S) rfl ?_ | refine aops_callE (ty := ty) rfl rfl rfl rfl rfl rfl rfl (c_mkey_ok _ S h1 h2) rfl ?_ | refine aops_callE (ty := ty) rfl rfl rfl rfl rfl rfl rfl (c_rmkey_ok _ S h1 h2) rfl ?_ | refine aops_callE (ty := ty) rfl rfl rfl rfl rfl rfl rfl (c_bytes_eq _ (keyF S) (keyF S) rfl) rfl ?_ | refine aops_callE (ty := ty) rfl rfl rfl rfl rfl rfl rfl (c_validkey_at _ S hn hv) rfl ?_ | refine aops_callE (ty := ty) rfl rfl rfl rfl rfl rfl rfl (c_rvalidkey_at _ S hv) rfl ?_ | refine aops_callE (ty := ty) rfl rfl rfl rfl rfl rfl rfl (c_pkey_at _ (keyF S) (by omega) (pk_of h1 h2)) rfl ?_ | refine aops_eqE (ty := ty) errEq rfl rfl rfl rfl rfl rfl rfl rfl ?_ | refine aops_callE (ty := ty) rfl rfl rfl rfl rfl rfl rfl (c_bint_eq _ S) rfl ?_ | refine aops_litE ty_ok rfl rfl rfl rfl rfl rfl rfl rfl rfl rfl rfl rfl ?_ | refine aops_cutE ty_ok rfl rfl rfl rfl rfl rfl rfl rfl rfl sd rfl ?_ | ((fail_if_success (refine aops_known rfl ?_)); (refine aops_split ty_ok rfl rfl rfl rfl rfl rfl (fun hc => ⟨?_, ?_⟩) (fun hc => ⟨?_, ?_⟩)) <;> (try simp only [nms, reduceCtorEq] at hc) <;> (try (exfalso; omega)) <;> (try exact sd)))) | ((fail_if_success (with_reducible show AWp _ _ _ _ _)); (fail_if_success (with_reducible show AOps _ _ _ _ _ _)); (first | (show AWp _ _ _ _ _) | (show AOps _ _ _ _ _ _))))
    all_goals rfl
theorem c_rpkey_at (Γ : Env) (b : List UInt8) {v : Ex Nat} (h : pkF b = v) : ACalls Tryd.prog Γ 16 [.sl none (bys b)] (fun r => r = .d (rpkD v)) := by
  subst h
  exact c_rpkey Γ b
theorem c_within_ok (Γ : Env) (n : Int) : ACalls Tryd.prog Γ 17 [errD 0 0, .int .i64 n] (fun r => r = .d (.bool true)) := c_within Γ 0 0 n
theorem c_within_bad (Γ : Env) (c o n : Nat) (h : 0 < c) (ho : o ≤ n) : ACalls Tryd.prog Γ 17 [errD c o, .int .i64 n] (fun r => r = .d (.bool true)) := (c_within Γ c o n).mono fun r hr => by
  rw [hr, witF, decide_eq_true (by omega)]
theorem isLKeyParses : IsFn Tryd.prog 4 Tryd.f4 := ⟨Tryd.func4, by decide, rfl⟩
set_option maxHeartbeats 1000000 in
theorem l_keyparses (b : List UInt8) : ACalls Tryd.prog envL 4 [.sl none (bys b)] (fun r => r = .d (.bool true)) := by
  refine acalls_of ty_ok isLKeyParses rfl rfl ?_
  by_cases hb : b.length ≤ 3000
  · cases hp : pkF b with
    | bad c o =>
      obtain ⟨h1, h2⟩ := pk_bad hp
      have hw := c_within_bad (envL.at 0) c o b.length h1 h2
      rw [← bys_len b] at hw
      repeat' (first | ((with_reducible show AWp _ _ _ _ _); (first | refine awp_seq ?_ | refine awp_block ?_ | refine awp_skip ?_ | refine awp_exit ?_ | refine awp_scope ?_ | refine awp_label ?_ | refine awp_run ty_ok rfl sd ?_ | refine awp_ret ⟨_, _, rfl, rfl, ?_⟩ | refine awp_ret ⟨_, rfl, ?_⟩ | ((refine awp_cond (ty := ty) rfl (fun hc => ?_) (fun hc => ?_)) <;> (try simp only [nms, reduceCtorEq] at hc) <;> (try (exfalso; omega))))) | ((with_reducible show AOps _ _ _ _ _ _); (first | refine aops_nil ?_ | refine aops_go ty_ok rfl rfl sd ?_ | refine aops_gate ty_ok rfl rfl rfl sd ?_ | refine aops_callE (ty := ty) rfl rfl rfl rfl rfl rfl rfl (c_awake) rfl ?_ | refine aops_callE (ty := ty) rfl rfl rfl rfl rfl rfl rfl (c_pkey_at _ b (by omega) hp) rfl ?_ | refine aops_callE (ty := ty) rfl rfl rfl rfl rfl rfl rfl (c_rpkey_at _ b hp) rfl ?_ | refine aops_callE (ty := ty) rfl rfl rfl rfl rfl rfl rfl (c_bint_eq _ 0) rfl ?_ | refine aops_callE (ty := ty) rfl rfl rfl rfl rfl rfl rfl (hw) rfl ?_ | refine aops_litE ty_ok rfl rfl rfl rfl rfl rfl rfl rfl rfl rfl rfl rfl ?_ | refine aops_cutE ty_ok rfl rfl rfl rfl rfl rfl rfl rfl rfl sd rfl ?_ | ((fail_if_success (refine aops_known rfl ?_)); (refine aops_split ty_ok rfl rfl rfl rfl rfl rfl (fun hc => ⟨?_, ?_⟩) (fun hc => ⟨?_, ?_⟩)) <;> (try simp only [nms, reduceCtorEq] at hc) <;> (try (exfalso; omega)) <;> (try exact sd)))) | ((fail_if_success (with_reducible show AWp _ _ _ _ _)); (fail_if_success (with_reducible show AOps _ _ _ _ _ _)); (first | (show AWp _ _ _ _ _) | (show AOps _ _ _ _ _ _))))
      all_goals rfl
    | ok S =>
      obtain ⟨h1, h2, h3⟩ := pk_ok hp
      have hv : keyV (S : Int) = true := by rw [keyV, decide_eq_true_eq]; omega
      repeat' (first | ((with_reducible show AWp _ _ _ _ _); (first | refine awp_seq ?_ | refine awp_block ?_ | refine awp_skip ?_ | refine awp_exit ?_ | refine awp_scope ?_ | refine awp_label ?_ | refine awp_run ty_ok rfl sd ?_ | refine awp_ret ⟨_, _, rfl, rfl, ?_⟩ | refine awp_ret ⟨_, rfl, ?_⟩ | ((refine awp_cond (ty := ty) rfl (fun hc => ?_) (fun hc => ?_)) <;> (try simp only [nms, reduceCtorEq] at hc) <;> (try (exfalso; omega))))) | ((with_reducible show AOps _ _ _ _ _ _); (first | refine aops_nil ?_ | refine aops_go ty_ok rfl rfl sd ?_ | refine aops_gate ty_ok rfl rfl rfl sd ?_ | refine aops_callE (ty := ty) rfl rfl rfl rfl rfl rfl rfl (c_awake) rfl ?_ | refine aops_callE (ty := ty) rfl rfl rfl rfl rfl rfl rfl (c_pkey_at _ b (by omega) hp) rfl ?_ | refine aops_callE (ty := ty) rfl rfl rfl rfl rfl rfl rfl (c_rpkey_at _ b hp) rfl ?_ | refine aops_callE (ty := ty) rfl rfl rfl rfl rfl rfl rfl (c_bint_eq _ S) rfl ?_ | refine aops_callE (ty := ty) rfl rfl rfl rfl rfl rfl rfl (c_within_ok _ _) rfl ?_ | refine aops_callE (ty := ty) rfl rfl rfl rfl rfl rfl rfl (c_mkey_ok _ S h1 h2) rfl ?_ | refine aops_callE (ty := ty) rfl rfl rfl rfl rfl rfl rfl (c_validkey_at _ S (by omega) hv) rfl ?_ | refine aops_callE (ty := ty) rfl rfl rfl rfl rfl rfl rfl (c_bytes_eq _ (keyF S) b h3.symm) rfl ?_ | refine aops_litE ty_ok rfl rfl rfl rfl rfl rfl rfl rfl rfl rfl rfl rfl ?_ | refine aops_cutE ty_ok rfl rfl rfl rfl rfl rfl rfl rfl rfl sd rfl ?_ | ((fail_if_success (refine aops_known rfl ?_)); (refine aops_split ty_ok rfl rfl rfl rfl rfl rfl (fun hc => ⟨?_, ?_⟩) (fun hc => ⟨?_, ?_⟩)) <;> (try simp only [nms, reduceCtorEq] at hc) <;> (try (exfalso; omega)) <;> (try exact sd)))) | ((fail_if_success (with_reducible show AWp _ _ _ _ _)); (fail_if_success (with_reducible show AOps _ _ _ _ _ _)); (first | (show AWp _ _ _ _ _) | (show AOps _ _ _ _ _ _))))
      all_goals rfl
  · repeat' (first | ((with_reducible show AWp _ _ _ _ _); (first | refine awp_seq ?_ | refine awp_block ?_ | refine awp_skip ?_ | refine awp_exit ?_ | refine awp_scope ?_ | refine awp_label ?_ | refine awp_run ty_ok rfl sd ?_ | refine awp_ret ⟨_, _, rfl, rfl, ?_⟩ | refine awp_ret ⟨_, rfl, ?_⟩ | ((refine awp_cond (ty := ty) rfl (fun hc => ?_) (fun hc => ?_)) <;> (try simp only [nms, reduceCtorEq] at hc) <;> (try (exfalso; omega))))) | ((with_reducible show AOps _ _ _ _ _ _); (first | refine aops_nil ?_ | refine aops_go ty_ok rfl rfl sd ?_ | refine aops_gate ty_ok rfl rfl rfl sd ?_ | refine aops_callE (ty := ty) rfl rfl rfl rfl rfl rfl rfl (c_awake) rfl ?_ | refine aops_litE ty_ok rfl rfl rfl rfl rfl rfl rfl rfl rfl rfl rfl rfl ?_ | refine aops_cutE ty_ok rfl rfl rfl rfl rfl rfl rfl rfl rfl sd rfl ?_ | ((fail_if_success (refine aops_known rfl ?_)); (refine aops_split ty_ok rfl rfl rfl rfl rfl rfl (fun hc => ⟨?_, ?_⟩) (fun hc => ⟨?_, ?_⟩)) <;> (try simp only [nms, reduceCtorEq] at hc) <;> (try (exfalso; omega)) <;> (try exact sd)))) | ((fail_if_success (with_reducible show AWp _ _ _ _ _)); (fail_if_success (with_reducible show AOps _ _ _ _ _ _)); (first | (show AWp _ _ _ _ _) | (show AOps _ _ _ _ _ _))))
    all_goals rfl
end Go.Proofs.YtbbakpmedpcigaaDoor

/- One octet replaced: plain facts for the laws. No program. -/
namespace Go.Am
open Go.RowKit
set_option linter.unusedSimpArgs false
set_option linter.unusedVariables false
theorem mod_at (p : Int) (L : List UInt8) (h0 : 0 ≤ p) (h1 : p ≤ 65535) (hL : 0 < L.length) : ∃ m, m < L.length ∧ (IntKind.i64.wrap p).tmod ((bys L).length : Int) = (m : Int) := by
  refine ⟨p.toNat % L.length, Nat.mod_lt _ hL, ?_⟩
  have hw : IntKind.i64.wrap p = ((p.toNat : Nat) : Int) := by rw [IntKind.wrap_i64]; omega
  rw [hw, bys_len, ← Int.ofNat_tmod]
theorem set_at (L : List UInt8) (m : Nat) (x : UInt8) : (bys L).set (m : Int).toNat (.int .u8 x.toNat) = bys (L.set m x) := by
  rw [Int.toNat_natCast]
  simp only [bys, List.map_set, by1]
theorem old_at (L : List UInt8) (m : Nat) (h : m < L.length) : ((bys L).getD (m : Int).toNat default).num = (L[m].toNat : Int) := by
  rw [num_bys, Int.toNat_natCast, List.getD_eq_getElem?_getD, List.getElem?_eq_getElem h]
  rfl
theorem set_same (L : List UInt8) (m : Nat) (x : UInt8) (h : m < L.length) : L.set m x = L ↔ x = L[m] := by
  constructor
  · intro e
    have h2 : m < (L.set m x).length := by simpa using h
    have : (L.set m x)[m] = L[m] := by simp only [e]
    rw [← this]
    simp
  · rintro rfl
    exact List.set_getElem_self h
theorem byte_ne (x y : UInt8) : ((x.toNat : Int) != (y.toNat : Int)) = !decide (x = y) := by
  by_cases h : x = y
  · subst h; simp
  · have : ¬ x.toNat = y.toNat := fun e => h (UInt8.toNat.inj e)
    simp [h]
    omega
theorem byte_eq (x y : UInt8) : ((x.toNat : Int) == (y.toNat : Int)) = decide (x = y) := by
  by_cases h : x = y
  · subst h; simp
  · have : ¬ x.toNat = y.toNat := fun e => h (UInt8.toNat.inj e)
    simp [h]
    omega
end Go.Am

/- The law UsageKeyChanges, walked by the abstract machine. -/
namespace Go.Proofs.YtbbakpmedpcigaaDoor
open Go.Am
set_option linter.unusedSimpArgs false
set_option linter.unusedVariables false

theorem isLKeyChanges : IsFn Tryd.prog 5 Tryd.f5 := ⟨Tryd.func5, by decide, rfl⟩
set_option maxHeartbeats 2000000 in
theorem l_keychanges (n p : Int) (x : UInt8) (hn : n ≤ 9223372036854775807) (h0 : 0 ≤ p) (h1 : p ≤ 65535) : ACalls Tryd.prog envL 5 [.int .i64 n, .int .u16 p, .int .u8 x.toNat] (fun r => r = .d (.bool true)) := by
  refine acalls_of ty_ok isLKeyChanges rfl rfl ?_
  cases hv : keyV n with
  | false =>
    repeat' (first | ((with_reducible show AWp _ _ _ _ _); (first | refine awp_seq ?_ | refine awp_block ?_ | refine awp_skip ?_ | refine awp_exit ?_ | refine awp_scope ?_ | refine awp_label ?_ | refine awp_run ty_ok rfl sd ?_ | refine awp_ret ⟨_, _, rfl, rfl, ?_⟩ | refine awp_ret ⟨_, rfl, ?_⟩ | ((refine awp_cond (ty := ty) rfl (fun hc => ?_) (fun hc => ?_)) <;> (try simp only [nms, reduceCtorEq] at hc) <;> (try (exfalso; omega))))) | ((with_reducible show AOps _ _ _ _ _ _); (first | refine aops_nil ?_ | refine aops_go ty_ok rfl rfl sd ?_ | refine aops_gate ty_ok rfl rfl rfl sd ?_ | refine aops_callE (ty := ty) rfl rfl rfl rfl rfl rfl rfl (c_awake) rfl ?_ | refine aops_callE (ty := ty) rfl rfl rfl rfl rfl rfl rfl (c_fewkey _ n) rfl ?_ | refine aops_callE (ty := ty) rfl rfl rfl rfl rfl rfl rfl (c_mkey_bad _ n hn hv) rfl ?_ | refine aops_litE ty_ok rfl rfl rfl rfl rfl rfl rfl rfl rfl rfl rfl rfl ?_ | refine aops_cutE ty_ok rfl rfl rfl rfl rfl rfl rfl rfl rfl sd rfl ?_ | ((fail_if_success (refine aops_known rfl ?_)); (refine aops_split ty_ok rfl rfl rfl rfl rfl rfl (fun hc => ⟨?_, ?_⟩) (fun hc => ⟨?_, ?_⟩)) <;> (try simp only [nms, reduceCtorEq] at hc) <;> (try (exfalso; omega)) <;> (try exact sd)))) | ((fail_if_success (with_reducible show AWp _ _ _ _ _)); (fail_if_success (with_reducible show AOps _ _ _ _ _ _)); (first | (show AWp _ _ _ _ _) | (show AOps _ _ _ _ _ _))))
    all_goals rfl
  | true =>
    obtain ⟨S, rfl, s1, s2⟩ := keyV_nat hv
    obtain ⟨L, hL⟩ : ∃ L, keyF S = L := ⟨_, rfl⟩
    have hl := keyF_len S s2
    have hm := c_mkey_ok (envL.at 0) S s1 s2
    rw [hL] at hl hm
    obtain ⟨m, hm1, hm2⟩ := mod_at p L h0 h1 hl.2
    repeat' (first | ((with_reducible show AWp _ _ _ _ _); (first | refine awp_seq ?_ | refine awp_block ?_ | refine awp_skip ?_ | refine awp_exit ?_ | refine awp_scope ?_ | refine awp_label ?_ | refine awp_run ty_ok rfl sd ?_ | refine awp_ret ⟨_, _, rfl, rfl, ?_⟩ | refine awp_ret ⟨_, rfl, ?_⟩ | ((refine awp_cond (ty := ty) rfl (fun hc => ?_) (fun hc => ?_)) <;> (try simp only [nms, reduceCtorEq] at hc) <;> (try (exfalso; omega))))) | ((with_reducible show AOps _ _ _ _ _ _); (first | refine aops_nil ?_ | refine aops_go ty_ok rfl rfl sd ?_ | refine aops_gate ty_ok rfl rfl rfl sd ?_ | refine aops_callE (ty := ty) rfl rfl rfl rfl rfl rfl rfl (c_awake) rfl ?_ | refine aops_callE (ty := ty) rfl rfl rfl rfl rfl rfl rfl (c_fewkey _ S) rfl ?_ | refine aops_callE (ty := ty) rfl rfl rfl rfl rfl rfl rfl (hm) rfl ?_ | refine aops_litE ty_ok rfl rfl rfl rfl rfl rfl rfl rfl rfl rfl rfl rfl ?_ | refine aops_cutE ty_ok rfl rfl rfl rfl rfl rfl rfl rfl rfl sd rfl ?_ | ((fail_if_success (refine aops_known rfl ?_)); (refine aops_split ty_ok rfl rfl rfl rfl rfl rfl (fun hc => ⟨?_, ?_⟩) (fun hc => ⟨?_, ?_⟩)) <;> (try simp only [nms, reduceCtorEq] at hc) <;> (try (exfalso; omega)) <;> (try exact sd)))) | ((fail_if_success (with_reducible show AWp _ _ _ _ _)); (fail_if_success (with_reducible show AOps _ _ _ _ _ _)); (first | (show AWp _ _ _ _ _) | (show AOps _ _ _ _ _ _))))
    rw [hm2]
    repeat' (first | ((with_reducible show AWp _ _ _ _ _); (first | refine awp_seq ?_ | refine awp_block ?_ | refine awp_skip ?_ | refine awp_exit ?_ | refine awp_scope ?_ | refine awp_label ?_ | refine awp_run ty_ok rfl sd ?_ | refine awp_ret ⟨_, _, rfl, rfl, ?_⟩ | refine awp_ret ⟨_, rfl, ?_⟩ | ((refine awp_cond (ty := ty) rfl (fun hc => ?_) (fun hc => ?_)) <;> (try simp only [nms, reduceCtorEq] at hc) <;> (try (exfalso; omega))))) | ((with_reducible show AOps _ _ _ _ _ _); (first | refine aops_nil ?_ | refine aops_go ty_ok rfl rfl sd ?_ | refine aops_gate ty_ok rfl rfl rfl sd ?_ | refine aops_litE ty_ok rfl rfl rfl rfl rfl rfl rfl rfl rfl rfl rfl rfl ?_ | refine aops_cutE ty_ok rfl rfl rfl rfl rfl rfl rfl rfl rfl sd rfl ?_ | ((fail_if_success (refine aops_known rfl ?_)); (refine aops_split ty_ok rfl rfl rfl rfl rfl rfl (fun hc => ⟨?_, ?_⟩) (fun hc => ⟨?_, ?_⟩)) <;> (try simp only [nms, reduceCtorEq] at hc) <;> (try (exfalso; omega)) <;> (try exact sd)))) | ((fail_if_success (with_reducible show AWp _ _ _ _ _)); (fail_if_success (with_reducible show AOps _ _ _ _ _ _)); (first | (show AWp _ _ _ _ _) | (show AOps _ _ _ _ _ _))))
    rw [set_at]
    have hset := set_same L m x hm1
    have hold := old_at L m hm1
    have hsl : (L.set m x).length ≤ 21 := by rw [List.length_set]; omega
    cases hp : pkF (L.set m x) with
    | bad c o =>
      obtain ⟨g1, g2⟩ := pk_bad hp
      have hw := c_within_bad (envL.at 0) c o _ g1 g2
      rw [← bys_len] at hw
      have hne : x ≠ L[m] := fun e => by
        rw [hset.2 e, ← hL, pk_of s1 s2] at hp
        cases hp
      repeat' (first | ((with_reducible show AWp _ _ _ _ _); (first | refine awp_seq ?_ | refine awp_block ?_ | refine awp_skip ?_ | refine awp_exit ?_ | refine awp_scope ?_ | refine awp_label ?_ | refine awp_run ty_ok rfl sd ?_ | refine awp_ret ⟨_, _, rfl, rfl, ?_⟩ | refine awp_ret ⟨_, rfl, ?_⟩ | ((refine awp_cond (ty := ty) rfl (fun hc => ?_) (fun hc => ?_)) <;> (try simp only [nms, reduceCtorEq] at hc) <;> (try (exfalso; omega))))) | ((with_reducible show AOps _ _ _ _ _ _); (first | refine aops_nil ?_ | refine aops_go ty_ok rfl rfl sd ?_ | refine aops_gate ty_ok rfl rfl rfl sd ?_ | refine aops_callE (ty := ty) rfl rfl rfl rfl rfl rfl rfl (c_pkey_at _ _ (by omega) hp) rfl ?_ | refine aops_callE (ty := ty) rfl rfl rfl rfl rfl rfl rfl (c_bint_eq _ 0) rfl ?_ | refine aops_callE (ty := ty) rfl rfl rfl rfl rfl rfl rfl (hw) rfl ?_ | refine aops_litE ty_ok rfl rfl rfl rfl rfl rfl rfl rfl rfl rfl rfl rfl ?_ | refine aops_cutE ty_ok rfl rfl rfl rfl rfl rfl rfl rfl rfl sd rfl ?_ | ((fail_if_success (refine aops_known rfl ?_)); (refine aops_split ty_ok rfl rfl rfl rfl rfl rfl (fun hc => ⟨?_, ?_⟩) (fun hc => ⟨?_, ?_⟩)) <;> (try simp only [nms, reduceCtorEq] at hc) <;> (try (exfalso; omega)) <;> (try exact sd)))) | ((fail_if_success (with_reducible show AWp _ _ _ _ _)); (fail_if_success (with_reducible show AOps _ _ _ _ _ _)); (first | (show AWp _ _ _ _ _) | (show AOps _ _ _ _ _ _))))
      · rfl
      · rw [hold] at hc
        exact absurd (u8_ext (by omega)) hne
    | ok T =>
      obtain ⟨g1, g2, g3⟩ := pk_ok hp
      repeat' (first | ((with_reducible show AWp _ _ _ _ _); (first | refine awp_seq ?_ | refine awp_block ?_ | refine awp_skip ?_ | refine awp_exit ?_ | refine awp_scope ?_ | refine awp_label ?_ | refine awp_run ty_ok rfl sd ?_ | refine awp_ret ⟨_, _, rfl, rfl, ?_⟩ | refine awp_ret ⟨_, rfl, ?_⟩ | ((refine awp_cond (ty := ty) rfl (fun hc => ?_) (fun hc => ?_)) <;> (try simp only [nms, reduceCtorEq] at hc) <;> (try (exfalso; omega))))) | ((with_reducible show AOps _ _ _ _ _ _); (first | refine aops_nil ?_ | refine aops_go ty_ok rfl rfl sd ?_ | refine aops_gate ty_ok rfl rfl rfl sd ?_ | refine aops_callE (ty := ty) rfl rfl rfl rfl rfl rfl rfl (c_pkey_at _ _ (by omega) hp) rfl ?_ | refine aops_callE (ty := ty) rfl rfl rfl rfl rfl rfl rfl (c_mkey_ok _ T g1 g2) rfl ?_ | refine aops_callE (ty := ty) rfl rfl rfl rfl rfl rfl rfl (c_bytes_eq _ (keyF T) (L.set m x) g3.symm) rfl ?_ | refine aops_callE (ty := ty) rfl rfl rfl rfl rfl rfl rfl (c_bint _ T S) rfl ?_ | refine aops_litE ty_ok rfl rfl rfl rfl rfl rfl rfl rfl rfl rfl rfl rfl ?_ | refine aops_cutE ty_ok rfl rfl rfl rfl rfl rfl rfl rfl rfl sd rfl ?_ | ((fail_if_success (refine aops_known rfl ?_)); (refine aops_split ty_ok rfl rfl rfl rfl rfl rfl (fun hc => ⟨?_, ?_⟩) (fun hc => ⟨?_, ?_⟩)) <;> (try simp only [nms, reduceCtorEq] at hc) <;> (try (exfalso; omega)) <;> (try exact sd)))) | ((fail_if_success (with_reducible show AWp _ _ _ _ _)); (fail_if_success (with_reducible show AOps _ _ _ _ _ _)); (first | (show AWp _ _ _ _ _) | (show AOps _ _ _ _ _ _))))
      rw [hold, byte_eq]
      have hiff : ((T : Int) = S) ↔ x = L[m] := by
        rw [← hset, g3, ← hL]
        constructor
        · intro h
          rw [show T = S by omega]
        · intro h
          rw [key_inj g1 g2 s1 s2 h]
      by_cases h : x = L[m]
      · rw [decide_eq_true h, decide_eq_true (hiff.2 h)]
        rfl
      · rw [decide_eq_false h, decide_eq_false (fun e => h (hiff.1 e))]
        rfl
end Go.Proofs.YtbbakpmedpcigaaDoor

/- What the laws of object identifiers are handed, opened as data. -/
namespace Go.Proofs.YtbbakpmedpcigaaDoor
open Go.Am Go.ChangeShapes Go.WideShapes Go.ChangeAt Go.RowKit
set_option linter.unusedSimpArgs false
set_option linter.unusedVariables false

theorem open_bytes : OpensV Tryd.prog 24 (fun l : List UInt8 => .sl none (bys l)) (fun l => l.length ≤ maxLen) := OpensV.bytes Tryd.underlying24 Tryd.underlying5 (by kernel_rfl)
theorem open_u8 : OpensV Tryd.prog 5 (fun n : UInt8 => by1 n) (fun _ => True) := OpensV.u8 Tryd.underlying5
theorem OpensV.map {P : Program} {t : TypeId} {α β : Type} {f : α → Dat} {ok : α → Prop} {f' : β → Dat} {ok' : β → Prop} (h : OpensV P t f ok) (g : α → β) (hf : ∀ a, f' (g a) = f a) (hk : ∀ a, ok a → ok' (g a)) : OpensV P t f' ok' := fun H enc w base v d ps ht hok => by
  obtain ⟨a, h1, h2⟩ := h H enc w base v d ps ht hok
  exact ⟨g a, hk a h1, by rw [hf]; exact h2⟩
theorem open_str : OpensV Tryd.prog 9 (fun l : List UInt8 => sD l) (fun _ => True) :=
  OpensV.map (OpensV.str Tryd.underlying9) (fun s => s.data.toList) (fun s => by rw [sD, ← bA_of]) (fun _ _ => trivial)
theorem Opens.mapOk {P : Program} {t : TypeId} {α β : Type} {f : α → List Dat} {ok : α → Prop} {f' : β → List Dat} {ok' : β → Prop} (h : Opens P t f ok) (g : α → β) (hf : ∀ a, ok a → f' (g a) = f a) (hk : ∀ a, ok a → ok' (g a)) : Opens P t f' ok' := fun H enc w fuel cs x hx => by
  obtain ⟨a, h1, h2⟩ := h H enc w fuel cs x hx
  exact ⟨g a, hk a h1, by rw [hf a h1]; exact h2⟩
theorem wf_u32 {n : Int} (h : (Lit.int .u32 n).wf = true) : 0 ≤ n ∧ n ≤ 4294967295 := by
  simpa [Lit.wf, IntKind.min, IntKind.max, IntKind.signed, IntKind.bits] using h
theorem u32s_back (l : List Int) (h : ∀ n ∈ l, (Lit.int .u32 n).wf = true) : u32s (l.map Int.toNat) = l.map (Dat.int .u32) := by
  rw [u32s, List.map_map]
  refine List.map_congr_left fun n hn => ?_
  have := wf_u32 (h n hn)
  simp only [Function.comp]
  rw [Int.toNat_of_nonneg this.1]
theorem open_u32s : OpensV Tryd.prog 74 (fun l : List Nat => .sl none (u32s l)) (fun l => ∀ n ∈ l, n ≤ 4294967295) :=
  OpensV.slice Tryd.underlying74 (Opens.mapOk (Opens.ints Tryd.underlying74 Tryd.underlying77 (by kernel_rfl)) (fun l => l.map Int.toNat) (fun l h => by
    rw [u32s_back l h.1]) (fun l h n hn => by
    obtain ⟨m, hm, rfl⟩ := List.mem_map.1 hn
    have := wf_u32 (h.1 m hm)
    omega))
theorem read_all {ts : List TypeId} (h : ts.all (fun t => Tryd.prog.readableRec t && decide (t < Tryd.prog.types.size)) = true) : ∀ t ∈ ts, Tryd.prog.readableRec t = true ∧ t < Tryd.prog.types.size := by
  intro t ht
  have := List.all_eq_true.1 h t ht
  simpa using this
theorem wf_i64 {n : Int} (h : (Lit.int .i64 n).wf = true) : n ≤ 9223372036854775807 := by
  simp [Lit.wf, IntKind.min, IntKind.max, IntKind.signed, IntKind.bits] at h
  omega
theorem wf_u16 {n : Int} (h : (Lit.int .u16 n).wf = true) : 0 ≤ n ∧ n ≤ 65535 := by
  simp [Lit.wf, IntKind.min, IntKind.max, IntKind.signed, IntKind.bits] at h
  omega
theorem open_int : OpensV Tryd.prog 3 (fun n : Int => .int .i64 n) (fun n => n ≤ 9223372036854775807) :=
  OpensV.map (OpensV.int Tryd.underlying3) (fun n => n) (fun _ => rfl) (fun n h => wf_i64 h)
theorem open_u16 : OpensV Tryd.prog 38 (fun n : Int => .int .u16 n) (fun n => 0 ≤ n ∧ n ≤ 65535) :=
  OpensV.map (OpensV.int Tryd.underlying38) (fun n => n) (fun _ => rfl) (fun n h => wf_u16 h)
theorem open_strs : OpensV Tryd.prog 40 (fun l : List (List UInt8) => .sl none (Am.strs l)) (fun _ => True) :=
  OpensV.slice Tryd.underlying40 (Opens.mapOk (Opens.strs Tryd.underlying40 Tryd.underlying9 (by kernel_rfl)) (fun l => l.map (·.data.toList)) (fun l h => by
    rw [Am.strs, List.map_map]
    congr 2) (fun _ _ => trivial))
end Go.Proofs.YtbbakpmedpcigaaDoor

/- The abstract machine, twenty-first part: the given statement out of a contract, where the row lists variables. No program. -/
namespace Go.Am
open Go.RowKit Go.ChangeShapes Go.WideShapes
set_option linter.unusedSimpArgs false
set_option linter.unusedVariables false

/-- Of a law whose row lists variables: from the contract on data to what its row asks. -/
theorem lifted_laid {C : Checked} {f : FuncId} {fn : Func} {s : ChangeSpec} {conds : List PathCond} {tb : TypeId} {os : Os} {H : Type} {enc : TypeId × Value → H} {laid : List (String × DataW Unit)} {Γ : Env} (own : ownKnob C.prog.godebug = none) (started : os.Started) (noInit : C.prog.inits.idxOf? f = none) (hfn : C.prog.funcs[f]? = some fn)
    (laidOut : laidOutB C.prog = true) (hts : ∀ t ∈ fn.params.toList, C.prog.readableRec t = true ∧ t < C.prog.types.size) (hres : fn.resultTypes = #[tb]) (htb : C.prog.underlying tb = some .bool) (hvars : s.vars = [])
    (hspec : ∀ (vs : List Value) (w : World) (ds : List (DataW H)) (ps : List MemPlace), DataW.TrodAll enc C.prog w 0 (fun _ => true) true fn.params.toList vs ds ps → s.fn H ds = { results := [.lit (.bool true)], args := ds })
    (witness : ∃ (w : World) (tape : Tape) (i : Input), w.os = os ∧ (w.forCall tape i).Shaped C.prog ∧ i.vars = [] ∧ Input.okWide C.prog (w.forCall tape i) .any w.heap.size f i ∧
      ((s.pre enc C.prog fn conds false (w.forCall tape i).memory i.args ∧ laidMetH C.prog laid (w.forCall tape i).memory) ∧ sizedMet enc C.prog fn (OpenSpec.ofChange s) false (w.forCall tape i).memory i.args) ∧ ({} : Assume).holds C.prog (lone (Frame.enter C.prog f i.args .normal) [] (w.forCall tape i)))
    (hΓ : ∀ W, laidMetH C.prog laid W → Γ.ok W)
    {α : Type} {g : α → List Dat} {ok : α → Prop} (hop : OpensA C.prog fn.params.toList g ok) (hA : ∀ a, ok a → ACalls C.prog Γ f (g a) (fun r => r = .d (.bool true))) :
    ReturnsInHanded {} C os f .any (fun w args => (s.pre enc C.prog fn conds false w args ∧ laidMetH C.prog laid w) ∧ sizedMet enc C.prog fn (OpenSpec.ofChange s) false w args) (s.post enc C.prog fn false true false false) := by
  refine returnsInHanded_of_change_and (C := C) (X := fun w _ => laidMetH C.prog laid w) (fun _ _ _ hh h => laidMetH.of_heap hh h) own started noInit hfn witness ?_
  intro W base args ds gs before hval hW _ _ hL _
  have hW' := hW
  obtain ⟨p, q, hT, hV, rfl, hfz, hnd⟩ := hW
  rw [hvars] at hV
  obtain ⟨rfl, rfl⟩ := trodVars_none hV
  obtain ⟨a, ha, hlen, hrep⟩ := hop H enc W base args.toList ds p hT (fun j t v hj hv => hval j t v (by simpa using hj) (by simpa using hv))
  refine ((hA a ha).2 W (fun _ => true) args (hΓ W hL) (by simpa using hlen.symm) (fun j x hj => by simpa using hrep j x hj)).mono fun e W' ⟨v, r, he, bel, hrr, hr⟩ => ?_
  subst he
  subst hr
  have hv : v = .bool true := by
    cases hrr
    rfl
  subst hv
  obtain ⟨pa, hpa⟩ := trodAll_stay laidOut bel hts hT
  refine ⟨_, rfl, ds, [], p ++ [], [], pa, [], hW', ?_, ?_, ?_, bel.frame _, fun h => by cases h⟩
  · rw [List.append_nil, hspec _ _ _ _ hT, hres]
    exact trodAll_mk1 ⟨1, by simp [DataW.trod, Value.cells, htb]⟩
  · rw [List.append_nil, hspec _ _ _ _ hT]
    exact hpa
  · rw [List.append_nil, hspec _ _ _ _ hT, hvars]
    exact rfl
end Go.Am
