/- Part 4 of the texts of this proof: an abstract machine for walks, the walks of the functions, plain laws. Each part says in its own first lines what is proved there. -/
import Derived.Test.YtmciaonjkkelnaaGreatDoorK3
import Derived.MapKept

/- Contents octets and the numbers that they hold: one to one. Plain Lean; Encode of the reference, walked. -/
namespace Go.Proofs.YtmciaonjkkelnaaGreatDoor
open Go.Am
open Go.Lib (decDigits)
set_option linter.unusedSimpArgs false
set_option linter.unusedVariables false

/-- The numbers in contents octets; 'begun': within a number, of which n was read. -/
def dec7 (begun : Bool) (n : Nat) : List UInt8 → Option (List Nat)
  | [] => match begun with
    | true => none
    | false => some []
  | x :: r => match !begun && decide (x = 128), decide (n * 128 + x.toNat % 128 ≤ 4294967295), decide (128 ≤ x.toNat) with
    | false, true, true => dec7 true (n * 128 + x.toNat % 128) r
    | false, true, false => (dec7 false 0 r).map fun l => (n * 128 + x.toNat % 128) :: l
    | _, _, _ => none
def dec7r (n : Nat) : List UInt8 → Option (List Nat)
  | [] => some []
  | x :: r => match decide (n * 128 + x.toNat % 128 ≤ 4294967295), decide (x.toNat < 128) with
    | true, true => (dec7r 0 r).map fun l => (n * 128 + x.toNat % 128) :: l
    | true, false => dec7r (n * 128 + x.toNat % 128) r
    | _, _ => none
def flat7 (ns : List Nat) : List UInt8 := (ns.map (b128 true)).flatten
theorem flat7_cons (n : Nat) (ns : List Nat) : flat7 (n :: ns) = b128 true n ++ flat7 ns := by simp [flat7]
theorem dec7_r : ∀ (c : List UInt8) (b : Bool) (n : Nat) (ns : List Nat), dec7 b n c = some ns → dec7r n c = some ns
  | [], b, n, ns, h => by
    cases b with
    | true => cases h
    | false => exact h
  | x :: r, b, n, ns, h => by
    unfold dec7 at h
    unfold dec7r
    split at h
    · rename_i h1 h2 h3
      have h4 : decide (x.toNat < 128) = false := by
        simp only [decide_eq_true_eq, decide_eq_false_iff_not] at h3 ⊢
        omega
      simp only [h2, h4]
      exact dec7_r r _ _ _ h
    · rename_i h1 h2 h3
      have h4 : decide (x.toNat < 128) = true := by
        simp only [decide_eq_false_iff_not, decide_eq_true_eq] at h3 ⊢
        omega
      simp only [h2, h4]
      obtain ⟨l, hl, rfl⟩ := Option.map_eq_some_iff.1 h
      rw [dec7_r r _ _ _ hl]
      rfl
    · cases h
theorem dec7r_le : ∀ (c : List UInt8) (n : Nat) (ns : List Nat), dec7r n c = some ns → ∀ m ∈ ns, m ≤ 4294967295
  | [], n, ns, h, m, hm => by
    cases h
    cases hm
  | x :: r, n, ns, h, m, hm => by
    unfold dec7r at h
    split at h
    · rename_i h1 h2
      obtain ⟨l, hl, rfl⟩ := Option.map_eq_some_iff.1 h
      rcases List.mem_cons.1 hm with rfl | hm
      · exact of_decide_eq_true h1
      · exact dec7r_le r _ _ hl m hm
    · exact dec7r_le r _ _ h m hm
    · cases h
theorem low7_ne (q : Nat) (h0 : 0 < q) (h : q < 128) : low7 false q ≠ 128 := by
  intro e
  have h1 := (low7_nat q).2
  rw [e] at h1
  have : (128 : UInt8).toNat = 128 := rfl
  omega
theorem dec7_hi (q : Nat) : 0 < q → q ≤ 4294967295 → ∀ r, dec7 false 0 (b128 false q ++ r) = dec7 true q r := by
  induction q using Nat.strongRecOn with
  | _ q ih =>
    intro h0 hM r
    have hlow := (low7_nat q).2
    by_cases h : q < 128
    · rw [b128_small h]
      have e1 : decide (low7 false q = 128) = false := decide_eq_false (low7_ne q h0 h)
      have e2 : 0 * 128 + (low7 false q).toNat % 128 = q := by omega
      have e3 : decide (q ≤ 4294967295) = true := decide_eq_true hM
      have e4 : decide (128 ≤ (low7 false q).toNat) = true := decide_eq_true (by omega)
      simp only [List.cons_append, List.nil_append, dec7, e1, e2, e3, e4, Bool.and_false]
    · rw [b128_big h, List.append_assoc, ih (q / 128) (by omega) (by omega) (by omega)]
      have e2 : q / 128 * 128 + (low7 false q).toNat % 128 = q := by omega
      have e3 : decide (q ≤ 4294967295) = true := decide_eq_true hM
      have e4 : decide (128 ≤ (low7 false q).toNat) = true := decide_eq_true (by omega)
      simp only [List.cons_append, List.nil_append, dec7, e2, e3, e4, Bool.not_true, Bool.false_and]
theorem dec7_lo (n : Nat) (hM : n ≤ 4294967295) (r : List UInt8) : dec7 false 0 (b128 true n ++ r) = (dec7 false 0 r).map fun l => n :: l := by
  have hlow := (low7_nat n).1
  by_cases h : n < 128
  · rw [b128_small h]
    have e1 : decide (low7 true n = 128) = false := decide_eq_false (by
      intro e
      have : (128 : UInt8).toNat = 128 := rfl
      rw [e] at hlow
      omega)
    have e2 : 0 * 128 + (low7 true n).toNat % 128 = n := by omega
    have e3 : decide (n ≤ 4294967295) = true := decide_eq_true hM
    have e4 : decide (128 ≤ (low7 true n).toNat) = false := decide_eq_false (by omega)
    simp only [List.cons_append, List.nil_append, dec7, e1, e2, e3, e4, Bool.and_false]
  · rw [b128_big h, List.append_assoc, dec7_hi (n / 128) (by omega) (by omega)]
    have e2 : n / 128 * 128 + (low7 true n).toNat % 128 = n := by omega
    have e3 : decide (n ≤ 4294967295) = true := decide_eq_true hM
    have e4 : decide (128 ≤ (low7 true n).toNat) = false := decide_eq_false (by omega)
    simp only [List.cons_append, List.nil_append, dec7, e2, e3, e4, Bool.not_true, Bool.false_and]
theorem dec7_flat : ∀ (ns : List Nat), (∀ n ∈ ns, n ≤ 4294967295) → dec7 false 0 (flat7 ns) = some ns
  | [], _ => rfl
  | n :: ns, h => by
    rw [flat7_cons, dec7_lo n (h n (List.mem_cons_self ..)), dec7_flat ns (fun m hm => h m (List.mem_cons_of_mem _ hm))]
    rfl
theorem u8_of {x : UInt8} {y : UInt8} (h : x.toNat = y.toNat) : x = y := UInt8.toNat_inj.1 h
theorem flat_dec7 : ∀ (c : List UInt8), (∀ ns, dec7 false 0 c = some ns → flat7 ns = c) ∧ (∀ q, 0 < q → ∀ ns, dec7 true q c = some ns → flat7 ns = b128 false q ++ c)
  | [] => ⟨fun ns h => by cases h; rfl, fun q _ ns h => by cases h⟩
  | x :: r => by
    obtain ⟨ih1, ih2⟩ := flat_dec7 r
    have hx : x.toNat < 256 := x.toNat_lt
    constructor
    · intro ns h
      unfold dec7 at h
      split at h
      · rename_i h1 h2 h3
        have h3' : 128 ≤ x.toNat := of_decide_eq_true h3
        have hne : x ≠ 128 := by
          intro e
          rw [e] at h1
          cases h1
        have hpos : 0 < 0 * 128 + x.toNat % 128 := by
          have : x.toNat ≠ 128 := fun e => hne (u8_of e)
          omega
        rw [ih2 _ hpos ns h, b128_small (by omega)]
        have : low7 false (0 * 128 + x.toNat % 128) = x := u8_of (by rw [(low7_nat _).2]; omega)
        rw [this]
        rfl
      · rename_i h1 h2 h3
        have h3' : ¬ 128 ≤ x.toNat := of_decide_eq_false h3
        obtain ⟨l, hl, rfl⟩ := Option.map_eq_some_iff.1 h
        rw [flat7_cons, ih1 l hl, b128_small (by omega)]
        have : low7 true (0 * 128 + x.toNat % 128) = x := u8_of (by rw [(low7_nat _).1]; omega)
        rw [this]
        rfl
      · cases h
    · intro q hq ns h
      unfold dec7 at h
      split at h
      · rename_i h1 h2 h3
        have h3' : 128 ≤ x.toNat := of_decide_eq_true h3
        rw [ih2 _ (by omega) ns h, b128_big (by omega)]
        have e1 : low7 false (q * 128 + x.toNat % 128) = x := u8_of (by rw [(low7_nat _).2]; omega)
        have e2 : (q * 128 + x.toNat % 128) / 128 = q := by omega
        rw [e1, e2, List.append_assoc]
        rfl
      · rename_i h1 h2 h3
        have h3' : ¬ 128 ≤ x.toNat := of_decide_eq_false h3
        obtain ⟨l, hl, rfl⟩ := Option.map_eq_some_iff.1 h
        rw [flat7_cons, ih1 l hl, b128_big (by omega)]
        have e1 : low7 true (q * 128 + x.toNat % 128) = x := u8_of (by rw [(low7_nat _).1]; omega)
        have e2 : (q * 128 + x.toNat % 128) / 128 = q := by omega
        rw [e1, e2, List.append_assoc]
        rfl
      · cases h
/-- The arcs of numbers. -/
def arcsOf (m : Nat) (r : List Nat) : List Nat := min (m / 40) 2 :: (m - 40 * min (m / 40) 2) :: r
theorem arcsOf_right (m : Nat) (r : List Nat) (h : m ≤ 4294967295) : rightF (arcsOf m r) = true := by
  simp only [arcsOf, rightF, Bool.or_eq_true, Bool.and_eq_true, decide_eq_true_eq]
  omega
theorem arcsOf_le (m : Nat) (r : List Nat) (h : ∀ n ∈ m :: r, n ≤ 4294967295) : ∀ n ∈ arcsOf m r, n ≤ 4294967295 := by
  have hm := h m (List.mem_cons_self ..)
  intro n hn
  simp only [arcsOf, List.mem_cons] at hn
  rcases hn with rfl | rfl | hn
  · omega
  · omega
  · exact h n (List.mem_cons_of_mem _ hn)
theorem arcsOf_enc (m : Nat) (r : List Nat) : encL (arcsOf m r) = flat7 (m :: r) := by
  rw [flat7_cons, arcsOf, encL]
  rw [show 40 * min (m / 40) 2 + (m - 40 * min (m / 40) 2) = m by omega]
  rfl
theorem enc_arcs {a : List Nat} (h : rightF a = true) : ∃ m r, arcsOf m r = a ∧ (∀ n ∈ a, n ≤ 4294967295) → ∀ n ∈ m :: r, n ≤ 4294967295 := ⟨0, [], fun _ n hn => by simp at hn; omega⟩
def decS (c : List UInt8) : List UInt8 × Int := match dec7 false 0 c with
  | some (m :: r) => (textF (arcsOf m r), 0)
  | _ => ([], 6)
def decOD (c : List UInt8) : Dat := .tup [sD (decS c).1, .int .i64 (decS c).2]

theorem isREncode : IsFn Tryz.prog 57 Tryz.f57 := ⟨Tryz.func57, by decide, rfl⟩
theorem c_renc_bad (Γ : Env) (l : List UInt8) (hl : l.length ≤ 100000000) (h : okF l = none) : ACalls Tryz.prog Γ 57 [sD l] (fun r => r = .d (.tup [.sl none [], .int .i64 8])) := by
  refine acalls_of ty_ok isREncode rfl rfl ?_
  have hA := c_rarcs Γ l hl
  rw [arcsD, h] at hA
  repeat' (first | ((with_reducible show AWp _ _ _ _ _); (first | refine awp_seq ?_ | refine awp_block ?_ | refine awp_skip ?_ | refine awp_exit ?_ | refine awp_scope ?_ | refine awp_label ?_ | refine awp_run ty_ok rfl sd ?_ | refine awp_ret ⟨_, _, rfl, rfl, ?_⟩ | refine awp_ret ⟨_, rfl, ?_⟩ | ((refine awp_cond (ty := ty) rfl (fun hc => ?_) (fun hc => ?_)) <;> (try simp only [nms, reduceCtorEq] at hc) <;> (try (exfalso; omega))))) | ((with_reducible show AOps _ _ _ _ _ _); (first | refine aops_nil ?_ | refine aops_go ty_ok rfl rfl sd ?_ | refine aops_gate ty_ok rfl rfl rfl sd ?_ | refine aops_callE (ty := ty) rfl rfl rfl rfl rfl rfl rfl (hA) rfl ?_ | refine aops_litE ty_ok rfl rfl rfl rfl rfl rfl rfl rfl rfl rfl rfl rfl ?_ | refine aops_cutE ty_ok rfl rfl rfl rfl rfl rfl rfl rfl rfl sd rfl ?_ | ((fail_if_success (refine aops_known rfl ?_)); (refine aops_split ty_ok rfl rfl rfl rfl rfl rfl (fun hc => ⟨?_, ?_⟩) (fun hc => ⟨?_, ?_⟩)) <;> (try simp only [nms, reduceCtorEq] at hc) <;> (try (exfalso; omega)) <;> (try exact sd)))) | ((fail_if_success (with_reducible show AWp _ _ _ _ _)); (fail_if_success (with_reducible show AOps _ _ _ _ _ _)); (first | (show AWp _ _ _ _ _) | (show AOps _ _ _ _ _ _))))
  all_goals rfl
set_option maxHeartbeats 1000000 in
theorem c_renc_ok (Γ : Env) (l : List UInt8) (a : List Nat) (hl : l.length ≤ 100000000) (h : okF l = some a) : ACalls Tryz.prog Γ 57 [sD l] (fun r => r = .ownT none 5 (bys (encL a)) [.int .i64 0]) := by
  refine acalls_of ty_ok isREncode rfl rfl ?_
  have hA := c_rarcs Γ l hl
  rw [arcsD, h] at hA
  have hal := okF_len h
  obtain ⟨_, hr, hn⟩ := okF_text h
  match a, hr, hn, hal, hA with
  | x :: y :: t, hr, hn, hal, hA =>
  have hx : ((u32s (x :: y :: t)).getD (Int.toNat 0) default).num = x := rfl
  have hy : ((u32s (x :: y :: t)).getD (Int.toNat 1) default).num = y := rfl
  have hlen : (u32s (x :: y :: t)).length = t.length + 2 := by simp [u32s]
  have hxy : 40 * x + y ≤ 4294967295 := by
    simp only [rightF, Bool.or_eq_true, Bool.and_eq_true, decide_eq_true_eq] at hr
    omega
  have htn : ∀ n ∈ t, n ≤ 4294967295 := fun n hm => hn n (by simp [hm])
  simp only [List.length_cons] at hal
  have hb1 := c_base (Γ.at 0) (40 * x + y) true (by omega)
  have hw1 : IntKind.u64.wrap (IntKind.u64.wrap (40 * IntKind.u64.wrap ((u32s (x :: y :: t)).getD (Int.toNat 0) default).num) + IntKind.u64.wrap ((u32s (x :: y :: t)).getD (Int.toNat 1) default).num) = ((40 * x + y : Nat) : Int) := by
    rw [hx, hy, IntKind.wrap_u64, IntKind.wrap_u64, IntKind.wrap_u64, IntKind.wrap_u64]
    omega
  rw [← hw1] at hb1
  have hb5 := b128_len32 true (40 * x + y) hxy
  repeat' (first | ((with_reducible show AWp _ _ _ _ _); (first | refine awp_seq ?_ | refine awp_block ?_ | refine awp_skip ?_ | refine awp_exit ?_ | refine awp_scope ?_ | refine awp_label ?_ | refine awp_run ty_ok rfl sd ?_ | refine awp_ret ⟨_, _, rfl, rfl, ?_⟩ | refine awp_ret ⟨_, rfl, ?_⟩ | ((refine awp_cond (ty := ty) rfl (fun hc => ?_) (fun hc => ?_)) <;> (try simp only [nms, reduceCtorEq] at hc) <;> (try (exfalso; omega))) | refine awp_anyM 10 12 mixed rfl (by kernel_rfl) ?_)) | ((with_reducible show AOps _ _ _ _ _ _); (first | refine aops_nil ?_ | refine aops_go ty_ok rfl rfl sd ?_ | refine aops_gate ty_ok rfl rfl rfl sd ?_ | refine aops_callE (ty := ty) rfl rfl rfl rfl rfl rfl rfl (hA) rfl ?_ | refine aops_callE (ty := ty) rfl rfl rfl rfl rfl rfl rfl (hb1) rfl ?_ | refine aops_litE ty_ok rfl rfl rfl rfl rfl rfl rfl rfl rfl rfl rfl rfl ?_ | refine aops_cutE ty_ok rfl rfl rfl rfl rfl rfl rfl rfl rfl sd rfl ?_ | ((fail_if_success (refine aops_known rfl ?_)); (refine aops_split ty_ok rfl rfl rfl rfl rfl rfl (fun hc => ⟨?_, ?_⟩) (fun hc => ⟨?_, ?_⟩)) <;> (try simp only [nms, reduceCtorEq] at hc) <;> (try (exfalso; omega)) <;> (try exact sd)))) | ((with_reducible show HeadT _ _ _ _ _ _ _ _ _ _); (first | refine head_end ?_ | refine head_goP ty_ok rfl rfl sd ?_ | refine head_gate ty_ok rfl rfl rfl sd ?_ | refine head_callE (ty := ty) rfl rfl rfl rfl rfl rfl rfl (hA) rfl ?_ | refine head_callE (ty := ty) rfl rfl rfl rfl rfl rfl rfl (hb1) rfl ?_ | ((fail_if_success (refine head_known rfl ?_)); (refine head_split ty_ok rfl rfl rfl rfl (fun hc => ⟨?_, ?_⟩) (fun hc => ⟨?_, ?_⟩)) <;> (try simp only [nms, reduceCtorEq] at hc) <;> (try (exfalso; omega)) <;> (try exact sd)))) | ((fail_if_success (with_reducible show AWp _ _ _ _ _)); (fail_if_success (with_reducible show AOps _ _ _ _ _ _)); (fail_if_success (with_reducible show HeadT _ _ _ _ _ _ _ _ _ _)); (first | (show AWp _ _ _ _ _) | (show AOps _ _ _ _ _ _))))
  refine awp_loopR (G := { k : Nat // k ≤ t.length }) (fun k => ⟨Tryz.f57.ntmps, [(4, .d (.sl none (u32s (x :: y :: t)))), (6, .ref 0), (7, .d (.int .i64 ((k.1 : Int) + 2)))], [(0, .row none 5 (bys (b128 true (40 * x + y) ++ ((t.take k.1).map (b128 true)).flatten)))], 1⟩) (fun k => t.length - k.1) ⟨0, Nat.zero_le _⟩ [(10, 0)]
    (SubR.mk' rfl rfl ⟨⟨_, rfl, rfl⟩, ⟨_, rfl, rfl⟩, ⟨_, rfl, rfl⟩, trivial⟩ ⟨⟨_, _, rfl, rfl, congrArg (fun z => AO.row none 5 (bys z)) (by simp)⟩, trivial⟩) ?_
  rintro ⟨k, hk⟩
  dsimp only
  have hfl := flat_len (t.take k) (fun m hm => htn m (List.mem_of_mem_take hm))
  have htk : (t.take k).length ≤ t.length := by rw [List.length_take]; omega
  rcases Nat.lt_or_ge k t.length with hkl | hkl
  · have hnk := htn t[k] (List.getElem_mem _)
    have hnum : IntKind.u64.wrap ((u32s (x :: y :: t)).getD ((k : Int) + 2).toNat default).num = (t[k] : Int) := by
      have e1 : ((k : Int) + 2).toNat = k + 1 + 1 := by omega
      rw [e1, num_u32s, List.getD_cons_succ, List.getD_cons_succ, List.getD_eq_getElem?_getD, List.getElem?_eq_getElem hkl]
      exact wrap_u64 _ (by simp; omega)
    have hb2 := c_base (Γ.at 0) t[k] true (by omega)
    rw [← hnum] at hb2
    have hb6 := b128_len32 true t[k] hnk
    repeat' (first | ((with_reducible show AWp _ _ _ _ _); (first | refine awp_seq ?_ | refine awp_block ?_ | refine awp_skip ?_ | refine awp_exit ?_ | refine awp_scope ?_ | refine awp_label ?_ | refine awp_run ty_ok rfl sd ?_ | refine awp_ret ⟨_, _, rfl, rfl, ?_⟩ | refine awp_ret ⟨_, rfl, ?_⟩ | ((refine awp_cond (ty := ty) rfl (fun hc => ?_) (fun hc => ?_)) <;> (try simp only [nms, reduceCtorEq] at hc) <;> (try (exfalso; omega))))) | ((with_reducible show AOps _ _ _ _ _ _); (first | refine aops_nil ?_ | refine aops_go ty_ok rfl rfl sd ?_ | refine aops_gate ty_ok rfl rfl rfl sd ?_ | refine aops_callE (ty := ty) rfl rfl rfl rfl rfl rfl rfl (hb2) rfl ?_ | refine aops_litE ty_ok rfl rfl rfl rfl rfl rfl rfl rfl rfl rfl rfl rfl ?_ | refine aops_cutE ty_ok rfl rfl rfl rfl rfl rfl rfl rfl rfl sd rfl ?_ | ((fail_if_success (refine aops_known rfl ?_)); (refine aops_split ty_ok rfl rfl rfl rfl rfl rfl (fun hc => ⟨?_, ?_⟩) (fun hc => ⟨?_, ?_⟩)) <;> (try simp only [nms, reduceCtorEq] at hc) <;> (try (exfalso; omega)) <;> (try exact sd)))) | ((fail_if_success (with_reducible show AWp _ _ _ _ _)); (fail_if_success (with_reducible show AOps _ _ _ _ _ _)); (first | (show AWp _ _ _ _ _) | (show AOps _ _ _ _ _ _))))
    refine ⟨⟨k + 1, hkl⟩, [(2, 0)], SubR.mk' rfl rfl ⟨⟨_, rfl, rfl⟩, ⟨_, rfl, rfl⟩, ⟨_, rfl, congrArg (fun z : Int => AV.d (Dat.int IntKind.i64 z)) (by simp only; omega)⟩, trivial⟩ ⟨⟨_, _, rfl, rfl, congrArg (AO.row none 5) ?_⟩, trivial⟩, by simp only; omega⟩
    rw [flat_take (b128 true) t k hkl]
    simp only [bys_app, List.append_assoc]
  · have hke : k = t.length := by omega
    subst hke
    repeat' (first | ((with_reducible show AWp _ _ _ _ _); (first | refine awp_seq ?_ | refine awp_block ?_ | refine awp_skip ?_ | refine awp_exit ?_ | refine awp_scope ?_ | refine awp_label ?_ | refine awp_run ty_ok rfl sd ?_ | refine awp_ret ⟨_, _, rfl, rfl, ?_⟩ | refine awp_ret ⟨_, rfl, ?_⟩ | ((refine awp_cond (ty := ty) rfl (fun hc => ?_) (fun hc => ?_)) <;> (try simp only [nms, reduceCtorEq] at hc) <;> (try (exfalso; omega))))) | ((with_reducible show AOps _ _ _ _ _ _); (first | refine aops_nil ?_ | refine aops_go ty_ok rfl rfl sd ?_ | refine aops_gate ty_ok rfl rfl rfl sd ?_ | refine aops_litE ty_ok rfl rfl rfl rfl rfl rfl rfl rfl rfl rfl rfl rfl ?_ | refine aops_cutE ty_ok rfl rfl rfl rfl rfl rfl rfl rfl rfl sd rfl ?_ | ((fail_if_success (refine aops_known rfl ?_)); (refine aops_split ty_ok rfl rfl rfl rfl rfl rfl (fun hc => ⟨?_, ?_⟩) (fun hc => ⟨?_, ?_⟩)) <;> (try simp only [nms, reduceCtorEq] at hc) <;> (try (exfalso; omega)) <;> (try exact sd)))) | ((fail_if_success (with_reducible show AWp _ _ _ _ _)); (fail_if_success (with_reducible show AOps _ _ _ _ _ _)); (first | (show AWp _ _ _ _ _) | (show AOps _ _ _ _ _ _))))
    simp only [encL, List.take_length]
end Go.Proofs.YtmciaonjkkelnaaGreatDoor

/- What octets are decoded as; what an encoding is decoded as: plain. -/
namespace Go.Proofs.YtmciaonjkkelnaaGreatDoor
open Go.Am
open Go.Lib (decDigits)
set_option linter.unusedSimpArgs false
set_option linter.unusedVariables false

theorem right_arcs {a : List Nat} (h : rightF a = true) (hn : ∀ n ∈ a, n ≤ 4294967295) : ∃ m r, arcsOf m r = a ∧ ∀ n ∈ m :: r, n ≤ 4294967295 := by
  match a, h, hn with
  | x :: y :: t, h, hn =>
    simp only [rightF, Bool.or_eq_true, Bool.and_eq_true, decide_eq_true_eq] at h
    refine ⟨40 * x + y, t, ?_, ?_⟩
    · have h1 : min ((40 * x + y) / 40) 2 = x := by omega
      have h2 : 40 * x + y - 40 * x = y := by omega
      simp only [arcsOf, h1, h2]
    · intro n hm
      rcases List.mem_cons.1 hm with rfl | hm
      · omega
      · exact hn n (by simp [hm])
theorem decS_enc {l : List UInt8} {a : List Nat} (h : okF l = some a) : decS (encL a) = (l, 0) := by
  obtain ⟨h1, h2, h3⟩ := okF_text h
  obtain ⟨m, r, h4, h5⟩ := right_arcs h2 h3
  have h6 : dec7 false 0 (encL a) = some (m :: r) := by
    rw [← h4, arcsOf_enc]
    exact dec7_flat _ h5
  simp only [decS, h6]
  rw [h4, h1]
theorem flat7_ge (ns : List Nat) : ns.length ≤ (flat7 ns).length := by
  induction ns with
  | nil => simp
  | cons n ns ih =>
    rw [flat7_cons, List.length_append, List.length_cons]
    have : 0 < (b128 true n).length := by
      by_cases hb : n < 128
      · rw [b128_small hb]; simp
      · rw [b128_big hb]; simp
    omega
/-- What octets are decoded as: nothing, or the only string that has them. -/
theorem decS_cases (c : List UInt8) : decS c = ([], 6) ∨ ∃ s, oidV s = true ∧ encO s = c ∧ decS c = (s, 0) ∧ s.length ≤ (c.length + 2) * 11 := by
  cases h : dec7 false 0 c with
  | none => exact .inl (by simp only [decS, h])
  | some ns =>
    match ns, h with
    | [], h => exact .inl (by simp only [decS, h])
    | m :: r, h =>
      have hle := dec7r_le c 0 _ (dec7_r _ _ _ _ h)
      have hr := arcsOf_right m r (hle m (List.mem_cons_self ..))
      have hn := arcsOf_le m r hle
      have ho := text_okF hr hn
      have he : encL (arcsOf m r) = c := by
        rw [arcsOf_enc]
        exact (flat_dec7 c).1 _ h
      refine .inr ⟨textF (arcsOf m r), by unfold oidV; rw [ho]; rfl, by unfold encO; rw [ho]; exact he, by simp only [decS, h], ?_⟩
      have h5 := textF_len _ hn
      have h6 := flat7_ge (m :: r)
      rw [← arcsOf_enc, he, List.length_cons] at h6
      simp only [arcsOf, List.length_cons] at h5 ⊢
      omega
theorem decS_encO {s : List UInt8} (h : oidV s = true) : decS (encO s) = (s, 0) := by
  unfold oidV at h
  unfold encO
  cases ho : okF s with
  | none => rw [ho] at h; cases h
  | some a => exact decS_enc ho
theorem oidV_nil : oidV [] = false := by
  unfold oidV
  cases ho : okF [] with
  | none => rfl
  | some a =>
    exfalso
    have h1 := okF_len ho
    obtain ⟨_, h2, _⟩ := okF_text ho
    match a, h2 with
    | x :: y :: t, _ => simp at h1
theorem decS_len (c : List UInt8) : (decS c).1.length ≤ (c.length + 2) * 11 := by
  rcases decS_cases c with h | ⟨s, _, _, h, hl⟩
  · rw [h]; simp
  · rw [h]; exact hl
end Go.Proofs.YtmciaonjkkelnaaGreatDoor

/- The elements of a SEQUENCE, as facts on each: plain Lean. No program. -/
namespace Go.Am
set_option linter.unusedSimpArgs false
set_option linter.unusedVariables false

/-- What is known of the elements of a constructed one. -/
structure Els (b : List UInt8) (l : List El) (ts : List (UInt8 × List UInt8)) : Prop where
  len : l.length = ts.length
  good : ∀ t ∈ ts, goodT t
  size : (catF ts).length ≤ 2147483647
  tag : ∀ k (h : k < l.length) (h' : k < ts.length), l[k].x = ts[k].1
  body : ∀ k (h : k < l.length) (h' : k < ts.length), cut b l[k].bd l[k].en = ts[k].2
  whole : ∀ k (h : k < l.length) (h' : k < ts.length), cut b l[k].st l[k].en = putF ts[k].1 ts[k].2
  le : ∀ k (h : k < l.length), l[k].st ≤ l[k].bd ∧ l[k].bd ≤ l[k].en ∧ l[k].en ≤ b.length
theorem els_mk {x : UInt8} {ts : List (UInt8 × List UInt8)} (hl : (catF ts).length ≤ 2147483647) (hg : ∀ t ∈ ts, goodT t) : Els (putF x (catF ts)) (elsF (hsz (catF ts)) ts) ts := by
  have key : ∀ k (h : k < (elsF (hsz (catF ts)) ts).length) (h' : k < ts.length), (elsF (hsz (catF ts)) ts)[k].x = ts[k].1 ∧ cut (putF x (catF ts)) (elsF (hsz (catF ts)) ts)[k].bd (elsF (hsz (catF ts)) ts)[k].en = ts[k].2 ∧ cut (putF x (catF ts)) (elsF (hsz (catF ts)) ts)[k].st (elsF (hsz (catF ts)) ts)[k].en = putF ts[k].1 ts[k].2 ∧ (elsF (hsz (catF ts)) ts)[k].st ≤ (elsF (hsz (catF ts)) ts)[k].bd ∧ (elsF (hsz (catF ts)) ts)[k].bd ≤ (elsF (hsz (catF ts)) ts)[k].en ∧ (elsF (hsz (catF ts)) ts)[k].en ≤ (putF x (catF ts)).length := by
    intro k h h'
    obtain ⟨e, e1, e2, e3, e4, e5, e6, e7⟩ := pt_at (x := x) (ts := ts) k h'
    have h5 : (elsF (hsz (catF ts)) ts)[k]? = some (elsF (hsz (catF ts)) ts)[k] := List.getElem?_eq_getElem h
    rw [e1] at h5
    simp only [Option.some.injEq] at h5
    rw [← h5]
    exact ⟨e2, e6, e7, e3, e4, e5⟩
  have hlen := elsF_len (hsz (catF ts)) ts
  exact ⟨hlen, hg, hl, fun k h h' => (key k h h').1, fun k h h' => (key k h h').2.1, fun k h h' => (key k h h').2.2.1, fun k h => (key k h (by omega)).2.2.2⟩
theorem seq_ok {b : List UInt8} {l : List El} (h : ptF b 0 16 = .ok l) : ∃ ts, b = putF 48 (catF ts) ∧ Els b l ts := by
  obtain ⟨x, ts, hx1, hx2, hx3, hg, hbe, hle⟩ := pt_ok h
  have hx := isB_seq.1 hx1
  subst hx
  refine ⟨ts, hbe, ?_⟩
  rw [hbe, hle]
  exact els_mk hx3 hg
theorem seq_of {ts : List (UInt8 × List UInt8)} (hl : (catF ts).length ≤ 2147483647) (hg : ∀ t ∈ ts, goodT t) : ∃ l, ptF (putF 48 (catF ts)) 0 16 = .ok l ∧ Els (putF 48 (catF ts)) l ts :=
  ⟨_, pt_of (by decide) (by decide) hl hg rfl, els_mk hl hg⟩
end Go.Am

/- Extensions: what is parsed, what is marshalled, and how the two fit: plain. -/
namespace Go.Proofs.YtmciaonjkkelnaaGreatDoor
open Go.Am
set_option linter.unusedSimpArgs false
set_option linter.unusedVariables false

structure Ext where
  o : List UInt8
  c : Bool
  v : List UInt8
theorem Ext.ext' {x y : Ext} (h1 : x.o = y.o) (h2 : x.c = y.c) (h3 : x.v = y.v) : x = y := by
  obtain ⟨_, _, _⟩ := x
  obtain ⟨_, _, _⟩ := y
  simp only at h1 h2 h3
  rw [h1, h2, h3]
def exB (x : Ext) : List (UInt8 × List UInt8) := match x.c with
  | true => [(6, encO x.o), (1, [255]), (4, x.v)]
  | false => [(6, encO x.o), (4, x.v)]
def exV (x : Ext) : Bool := oidV x.o
def exF (x : Ext) : List UInt8 := putF 48 (catF (exB x))
def exI (b : List UInt8) (e : El) : Ex (List UInt8) := match isB e.x 0 false 6 with
  | false => .bad 3 0
  | true => match decide ((decS (cut b e.bd e.en)).2 = 0) with
    | true => .ok (decS (cut b e.bd e.en)).1
    | false => .bad 6 e.bd
def exC (b : List UInt8) (e : El) : Bool := isB e.x 0 false 1 && decide (cut b e.bd e.en = [255])
def exL (b s : List UInt8) (c : Bool) (e : El) : Ex Ext := match isB e.x 0 false 4 with
  | true => .ok ⟨s, c, cut b e.bd e.en⟩
  | false => .bad 3 e.st
def exP (b : List UInt8) : Ex Ext := match ptF b 0 16 with
  | .bad c o => .bad c o
  | .ok [e, f] => (match exI b e with
    | .bad c o => .bad c o
    | .ok s => exL b s false f)
  | .ok [e, f, g] => (match exI b e with
    | .bad c o => .bad c o
    | .ok s => (match exC b f with
      | true => exL b s true g
      | false => .bad 6 f.st))
  | .ok _ => .bad 3 0
theorem exI_ok {b : List UInt8} {e : El} {s : List UInt8} (h : exI b e = .ok s) : e.x = 6 ∧ oidV s = true ∧ encO s = cut b e.bd e.en := by
  unfold exI at h
  cases hi : isB e.x 0 false 6 with
  | false => rw [hi] at h; cases h
  | true =>
    rw [hi] at h
    simp only at h
    rcases decS_cases (cut b e.bd e.en) with hd | ⟨s', h1, h2, hd, _⟩
    · rw [hd] at h; cases h
    · rw [hd] at h
      cases h
      exact ⟨isB_oid.1 hi, h1, h2⟩
theorem exI_of {b : List UInt8} {e : El} {s : List UInt8} (hx : e.x = 6) (hv : oidV s = true) (hc : cut b e.bd e.en = encO s) : exI b e = .ok s := by
  unfold exI
  rw [hx, hc, decS_encO hv]
  simp only [show isB 6 0 false 6 = true from by decide, decide_true]
theorem exI_bad {b : List UInt8} {e : El} {c o : Nat} (h : exI b e = .bad c o) : 0 < c ∧ (o = 0 ∨ o = e.bd) := by
  unfold exI at h
  split at h
  · cases h; exact ⟨by omega, .inl rfl⟩
  · split at h
    · cases h
    · cases h; exact ⟨by omega, .inr rfl⟩
theorem exC_iff {b : List UInt8} {e : El} : exC b e = true ↔ e.x = 1 ∧ cut b e.bd e.en = [255] := by
  unfold exC
  rw [Bool.and_eq_true, decide_eq_true_eq, isB_bool]
theorem exL_ok {b s : List UInt8} {c : Bool} {e : El} {x : Ext} (h : exL b s c e = .ok x) : e.x = 4 ∧ x = ⟨s, c, cut b e.bd e.en⟩ := by
  unfold exL at h
  cases hi : isB e.x 0 false 4 with
  | false => rw [hi] at h; cases h
  | true =>
    rw [hi] at h
    cases h
    exact ⟨isB_octets.1 hi, rfl⟩
theorem exL_of {b s : List UInt8} {c : Bool} {e : El} (h : e.x = 4) : exL b s c e = .ok ⟨s, c, cut b e.bd e.en⟩ := by
  unfold exL
  rw [h]
  rfl
theorem exL_bad {b s : List UInt8} {c : Bool} {e : El} {k o : Nat} (h : exL b s c e = .bad k o) : 0 < k ∧ o = e.st := by
  unfold exL at h
  split at h
  · cases h
  · cases h; exact ⟨by omega, rfl⟩
/-- What is parsed is valid, and its encoding are these bytes. -/
theorem ex_ok {b : List UInt8} {x : Ext} (h : exP b = .ok x) : exV x = true ∧ b = exF x ∧ (catF (exB x)).length ≤ 2147483647 := by
  unfold exP at h
  cases hp : ptF b 0 16 with
  | bad c o => rw [hp] at h; cases h
  | ok l =>
    rw [hp] at h
    obtain ⟨ts, hb, E⟩ := seq_ok hp
    match l, ts, h, hb, E with
    | [], _, h, _, _ => cases h
    | [_], _, h, _, _ => cases h
    | _ :: _ :: _ :: _ :: _, _, h, _, _ => cases h
    | [e, f], ts, h, hb, E =>
      match ts, hb, E with
      | [t, u], hb, E =>
        simp only at h
        cases hi : exI b e with
        | bad c o => rw [hi] at h; cases h
        | ok s =>
          rw [hi] at h
          simp only at h
          obtain ⟨a1, a2, a3⟩ := exI_ok hi
          obtain ⟨b1, rfl⟩ := exL_ok h
          have h0 := E.tag 0 (by simp) (by simp)
          have h1 := E.body 0 (by simp) (by simp)
          have h2 := E.tag 1 (by simp) (by simp)
          have h3 := E.body 1 (by simp) (by simp)
          simp only [List.getElem_cons_zero, List.getElem_cons_succ] at h0 h1 h2 h3
          have ht : t = (6, encO s) := Prod.ext (by rw [← h0, a1]) (by rw [← h1, a3])
          have hu : u = (4, cut b f.bd f.en) := Prod.ext (by rw [← h2, b1]) (by rw [← h3])
          have he : exB ⟨s, false, cut b f.bd f.en⟩ = [t, u] := by rw [ht, hu]; rfl
          exact ⟨a2, by rw [exF, he]; exact hb, by rw [he]; exact E.size⟩
      | [], _, E => exact absurd E.len (by simp)
      | [_], _, E => exact absurd E.len (by simp)
      | _ :: _ :: _ :: _, _, E => exact absurd E.len (by simp)
    | [e, f, g], ts, h, hb, E =>
      match ts, hb, E with
      | [t, w, u], hb, E =>
        simp only at h
        cases hi : exI b e with
        | bad c o => rw [hi] at h; cases h
        | ok s =>
          rw [hi] at h
          simp only at h
          cases hc : exC b f with
          | false => rw [hc] at h; cases h
          | true =>
            rw [hc] at h
            simp only at h
            obtain ⟨a1, a2, a3⟩ := exI_ok hi
            obtain ⟨c1, c2⟩ := exC_iff.1 hc
            obtain ⟨b1, rfl⟩ := exL_ok h
            have h0 := E.tag 0 (by simp) (by simp)
            have h1 := E.body 0 (by simp) (by simp)
            have h2 := E.tag 1 (by simp) (by simp)
            have h3 := E.body 1 (by simp) (by simp)
            have h4 := E.tag 2 (by simp) (by simp)
            have h5 := E.body 2 (by simp) (by simp)
            simp only [List.getElem_cons_zero, List.getElem_cons_succ] at h0 h1 h2 h3 h4 h5
            have ht : t = (6, encO s) := Prod.ext (by rw [← h0, a1]) (by rw [← h1, a3])
            have hw : w = (1, [255]) := Prod.ext (by rw [← h2, c1]) (by rw [← h3, c2])
            have hu : u = (4, cut b g.bd g.en) := Prod.ext (by rw [← h4, b1]) (by rw [← h5])
            have he : exB ⟨s, true, cut b g.bd g.en⟩ = [t, w, u] := by rw [ht, hw, hu]; rfl
            exact ⟨a2, by rw [exF, he]; exact hb, by rw [he]; exact E.size⟩
      | [], _, E => exact absurd E.len (by simp)
      | [_], _, E => exact absurd E.len (by simp)
      | [_, _], _, E => exact absurd E.len (by simp)
      | _ :: _ :: _ :: _ :: _, _, E => exact absurd E.len (by simp)
theorem exB_good {x : Ext} (hl : (catF (exB x)).length ≤ 2147483647) : ∀ t ∈ exB x, goodT t := by
  have key : ∀ ts : List (UInt8 × List UInt8), (catF ts).length ≤ 2147483647 → (∀ t ∈ ts, t.1.toNat % 32 ≠ 31) → ∀ t ∈ ts, goodT t := by
    intro ts
    induction ts with
    | nil => intro _ _ t ht; cases ht
    | cons u r ih =>
      intro h1 h2 t ht
      have h3 := putF_len u.1 u.2
      simp only [catF, List.length_append] at h1
      rcases List.mem_cons.1 ht with rfl | ht
      · exact ⟨h2 _ (List.mem_cons_self ..), by omega⟩
      · exact ih (by omega) (fun t ht => h2 t (List.mem_cons_of_mem _ ht)) t ht
  refine key _ hl ?_
  unfold exB
  cases x.c
  all_goals
    intro t ht
    simp only [List.mem_cons, List.not_mem_nil, or_false] at ht
  · rcases ht with rfl | rfl <;> simp
  · rcases ht with rfl | rfl | rfl <;> simp
/-- An encoding is parsed as what it encodes. -/
theorem ex_of {x : Ext} (hv : exV x = true) (hl : (catF (exB x)).length ≤ 2147483647) : exP (exF x) = .ok x := by
  obtain ⟨l, hp, E⟩ := seq_of hl (exB_good hl)
  have hb : exF x = putF 48 (catF (exB x)) := rfl
  rw [← hb] at hp E
  unfold exP
  rw [hp]
  obtain ⟨s, c, v⟩ := x
  cases c with
  | false =>
    have hlen := E.len
    match l, hlen, hp, E with
    | [e, f], _, hp, E =>
      have h0 := E.tag 0 (by simp) (by simp [exB])
      have h1 := E.body 0 (by simp) (by simp [exB])
      have h2 := E.tag 1 (by simp) (by simp [exB])
      have h3 := E.body 1 (by simp) (by simp [exB])
      simp only [exB, List.getElem_cons_zero, List.getElem_cons_succ] at h0 h1 h2 h3
      simp only
      rw [exI_of h0 hv h1]
      simp only
      rw [exL_of h2, h3]
  | true =>
    have hlen := E.len
    match l, hlen, hp, E with
    | [e, f, g], _, hp, E =>
      have h0 := E.tag 0 (by simp) (by simp [exB])
      have h1 := E.body 0 (by simp) (by simp [exB])
      have h2 := E.tag 1 (by simp) (by simp [exB])
      have h3 := E.body 1 (by simp) (by simp [exB])
      have h4 := E.tag 2 (by simp) (by simp [exB])
      have h5 := E.body 2 (by simp) (by simp [exB])
      simp only [exB, List.getElem_cons_zero, List.getElem_cons_succ] at h0 h1 h2 h3 h4 h5
      simp only
      rw [exI_of h0 hv h1, exC_iff.2 ⟨h2, h3⟩]
      simp only
      rw [exL_of h4, h5]
theorem ex_bad {b : List UInt8} {c o : Nat} (h : exP b = .bad c o) : 0 < c ∧ o ≤ b.length := by
  unfold exP at h
  cases hp : ptF b 0 16 with
  | bad c' o' =>
    rw [hp] at h
    cases h
    exact pt_bad hp
  | ok l =>
    rw [hp] at h
    obtain ⟨ts, hb, E⟩ := seq_ok hp
    match l, h, E with
    | [], h, _ => cases h; exact ⟨by omega, by omega⟩
    | [_], h, _ => cases h; exact ⟨by omega, by omega⟩
    | _ :: _ :: _ :: _ :: _, h, _ => cases h; exact ⟨by omega, by omega⟩
    | [e, f], h, E =>
      have l0 := E.le 0 (by simp)
      have l1 := E.le 1 (by simp)
      simp only [List.getElem_cons_zero, List.getElem_cons_succ] at l0 l1
      simp only at h
      cases hi : exI b e with
      | bad c' o' =>
        rw [hi] at h
        cases h
        have := exI_bad hi
        omega
      | ok s =>
        rw [hi] at h
        have := exL_bad h
        omega
    | [e, f, g], h, E =>
      have l0 := E.le 0 (by simp)
      have l1 := E.le 1 (by simp)
      have l2 := E.le 2 (by simp)
      simp only [List.getElem_cons_zero, List.getElem_cons_succ] at l0 l1 l2
      simp only at h
      cases hi : exI b e with
      | bad c' o' =>
        rw [hi] at h
        cases h
        have := exI_bad hi
        omega
      | ok s =>
        rw [hi] at h
        simp only at h
        cases hc : exC b f with
        | false =>
          rw [hc] at h
          cases h
          omega
        | true =>
          rw [hc] at h
          have := exL_bad h
          omega
theorem ex_inj {x y : Ext} (hx : exV x = true) (hy : exV y = true) (hl : (exF x).length ≤ 2147483647) (h : exF x = exF y) : x = y := by
  have h1 : (catF (exB x)).length ≤ 2147483647 := by rw [exF, putF_len] at hl; omega
  have h2 : (catF (exB y)).length ≤ 2147483647 := by rw [h, exF, putF_len] at hl; omega
  have h3 := ex_of hx h1
  rw [h, ex_of hy h2] at h3
  cases h3
  rfl
end Go.Proofs.YtmciaonjkkelnaaGreatDoor

/- What the laws of key usages ask first; the laws UsageKeyMarshals and UsageKeyParses. Walked by the abstract machine. -/
namespace Go.Proofs.YtmciaonjkkelnaaGreatDoor
open Go.Am
set_option linter.unusedSimpArgs false
set_option linter.unusedVariables false

theorem fields_of {P : Program} {t : TypeId} {fs : Array Field} (h : P.underlying t = some (.struct fs)) : P.fieldsOf t = fs := by
  unfold Program.fieldsOf
  rw [h]
theorem errEq : EqInts Tryz.prog 28 where
  guard := by kernel_rfl
  eq w a b c d := by
    have hu := Tryz.underlying28
    have hf := fields_of hu
    unfold Op.equal
    rw [show Op.maxDepth = 9999 + 1 from rfl, run_equalIn_struct w 9999 28 _ _ (by rw [hf]; exact hu) (by kernel_rfl), hf]
    simp [Op.eqFields, go_sem, part, Tryz.isAgg26, Tryz.isAgg3, Tryz.underlying26, Tryz.underlying3]
    by_cases h1 : a = c
    · subst h1
      simp [Op.eqFields, go_sem, part, Tryz.isAgg26, Tryz.isAgg3, Tryz.underlying26, Tryz.underlying3]
      by_cases h2 : b = d <;> simp [h2]
    · simp [h1]
theorem key5 : keyF 5 = [3, 2, 5, 160] := by decide +kernel
theorem key256 : keyF 256 = [3, 3, 7, 0, 128] := by decide +kernel
def srvS : List UInt8 := [49, 46, 51, 46, 54, 46, 49, 46, 53, 46, 53, 46, 55, 46, 51, 46, 49]
theorem srv_v : usV [srvS] = true := by decide +kernel
theorem srv_f : usF [srvS] = [48, 10, 6, 8, 43, 6, 1, 5, 5, 7, 3, 1] := by decide +kernel
theorem key_bad : pkF [3, 1, 0] = .bad 6 2 := by rfl
theorem keyF_len (S : Nat) (h : S ≤ 511) : (keyF S).length ≤ 21 ∧ 0 < (keyF S).length := by
  have h1 := namF_len S (by omega)
  have h2 := hsz_le (namF S)
  have h3 := hsz_ge (namF S)
  rw [keyF, putF_len]
  omega
theorem c_within_ok (Γ : Env) (n : Int) : ACalls Tryz.prog Γ 18 [errD 0 0, .int .i64 n] (fun r => r = .d (.bool true)) := c_within Γ 0 0 n
theorem c_within_bad (Γ : Env) (c o n : Nat) (h : 0 < c) (ho : o ≤ n) : ACalls Tryz.prog Γ 18 [errD c o, .int .i64 n] (fun r => r = .d (.bool true)) := (c_within Γ c o n).mono fun r hr => by
  rw [hr, witF, decide_eq_true (by omega)]
end Go.Proofs.YtmciaonjkkelnaaGreatDoor

/- The abstract machine, twenty-sixth part: a slice of one struct; arrays. No program. -/
namespace Go.Am
open Go.RowKit
set_option linter.unusedSimpArgs false
set_option linter.unusedVariables false
section
variable {P : Program} {Γ : Env} {Q : Exit → St → Prop} {σ : St} {ty : TypeId → Option TI}
theorem run_lit1 {t e : TypeId} {v z : Value} {j : TypeInfo} (hu : P.underlying t = some (.slice e)) (hie : P.info? e = some j) (hz : j.zero = some z) (hs : v.cells.size = j.size) (h0 : 0 < j.size) (hm : j.size ≤ 16777216) (w : World) :
    (Instr.buildSlice t 1 #[(0, v)]).run P w = .ok (.slice (some ⟨w.heap.size, 0, none⟩) 1 1) (w.alloc (.cells (v.cells.zipIdx.foldl (fun (cs : Array Value) (x : Value × Nat) => cs.setIfInBounds (0 + x.2) x.1) ((Array.range (1 * j.size)).map (z.cells[· % z.cells.size]!))) e)) := by
  have h1 : ¬ 1 * j.size > 2 ^ 24 := by omega
  have h2 : ¬ 1 * j.size = 0 := by omega
  have hf : Instr.fill (fun i => some (i * j.size, j.size)) ((Array.range (1 * j.size)).map (z.cells[· % z.cells.size]!)) [(0, v)] = some (v.cells.zipIdx.foldl (fun (cs : Array Value) (x : Value × Nat) => cs.setIfInBounds (0 + x.2) x.1) ((Array.range (1 * j.size)).map (z.cells[· % z.cells.size]!))) := by
    have h3 : ((Array.range (1 * j.size)).map (z.cells[· % z.cells.size]!)).size = j.size := by simp
    simp only [Instr.fill, Nat.zero_mul, hs, Nat.zero_add, h3]
    rw [if_neg (by simp)]
  have h4 : ¬ 16777216 < j.size := by omega
  have h5 : ¬ j.size = 0 := by omega
  simp [Instr.buildSlice, run_underlying hu, sizeOf, typeInfo, zeroValue, hie, hz, h4, h5, newRow] at hf ⊢
  simp [hf]
theorem aops_litA (hT : TyOk P ty) {ops rest : List Oper} {o : Oper} {t e : TypeId} {x : Operand} {ti ei : TI} {y : AV} {ds : List Dat} {sz nx : Nat} {tm : List (Nat × AV)} {ob : List (Nat × AO)} {sz' nx' : Nat} {tm' : List (Nat × AV)} {ob' : List (Nat × AO)} (ho : o.op = .buildSlice t 1 #[(0, x)]) (ht : ty t = some ti) (hde : ti.desc = .slice e) (he : ty e = some ei) (hek : ei.agg = true)
    (hx0 : σ.ev ty e x = some y) (hf : frzAN σ y = ⟨sz, tm, ob, nx⟩) (hw : wantedA ops ⟨sz, tm, ob, nx⟩ o = some true) (hd : dstOk ⟨sz, tm, ob, nx⟩ o.dst = true) (hx : (⟨sz, tm, ob, nx⟩ : St).ev ty e x = some y) (hp : datOf ⟨sz, tm, ob, nx⟩ y = some (.agg ds)) (hl : Nat.beq ds.length ei.size = true) (h1 : ds.all (·.one) = true) (h0 : Nat.ble 1 ei.size = true) (hN : Nat.ble ei.size 16777216 = true)
    (hr : addPut ⟨sz, tm, ob, nx⟩ none (.row (some ei.size) e [.agg ds]) o.dst .ref = ⟨sz', tm', ob', nx'⟩) (k : AOps P Γ ops Q rest ⟨sz', tm', ob', nx'⟩) : AOps P Γ ops Q (o :: rest) σ := by
  refine aops_freeze [y] ?_
  have hfe : frzAll σ [y] = ⟨sz, tm, ob, nx⟩ := by
    rw [frzAll, frzAll, ← frzAN_eq]
    exact hf
  rw [hfe]
  have hl' := Nat.eq_of_beq_eq_true hl
  have h0' := Nat.le_of_ble_eq_true h0
  have hN' := Nat.le_of_ble_eq_true hN
  have h1' : ∀ z ∈ ds, z.one = true := List.all_eq_true.1 h1
  refine aops_step hw fun C0 a C K R b ev m hk => ?_
  have hB := (b.evo ev).B
  obtain ⟨j, hj, hjs, _, hjz⟩ := hT.info _ _ he
  obtain ⟨hz1, hz2⟩ := hT.zsize _ _ he
  have hu := hT.und _ _ ht
  rw [hde] at hu
  have hrd := datOf_sound m hp (ev_sound m hx)
  obtain ⟨v, hv⟩ : ∃ v, v = a.eval x := ⟨_, rfl⟩
  rw [← hv] at hrd
  cases hrd with
  | agg _ vs hvl _ hvr =>
    have hvs : (Value.agg vs).cells.size = j.size := by
      show vs.size = _
      rw [hvl, hl', hjs]
    have hzr := hT.zrep _ _ he
    have hzo := hT.zone _ _ he
    have hinit : CsRep C (ei.zd.map .d) ((Array.range (1 * j.size)).map (ei.zero.cells[· % ei.zero.cells.size]!)) := by
      refine ⟨by simp [hjs, hz2], ?_, ?_⟩
      · intro y hy
        obtain ⟨q, hq, rfl⟩ := List.mem_map.1 hy
        exact hzo q hq
      · intro i y hy
        rw [List.getElem?_map] at hy
        obtain ⟨q, hq, rfl⟩ := Option.map_eq_some_iff.1 hy
        have hil : i < ei.size := by rw [← hz2]; exact (List.getElem?_eq_some_iff.1 hq).1
        have e1 : ((Array.range (1 * j.size)).map (ei.zero.cells[· % ei.zero.cells.size]!)).getD i undef = ei.zero.cells.getD i undef := by
          have h2 : i < ei.zero.cells.size := by rw [hz1]; exact hil
          simp [hjs, hil, Nat.mod_eq_of_lt h2, h2]
        rw [e1]
        exact .d (hzr C.w C.pr i q hq)
    have hset := setAll_sound (c := C) 0 (ds.map .d) vs.toList 0 _ _ hinit (by simp [hvl]) (by
      intro y hy
      obtain ⟨q, hq, rfl⟩ := List.mem_map.1 hy
      exact h1' q hq) (by
      intro i y hy
      rw [List.getElem?_map] at hy
      obtain ⟨q, hq, rfl⟩ := Option.map_eq_some_iff.1 hy
      have := hvr i q hq
      simpa using Rep.d (c := C) this)
    obtain ⟨cs, hcs⟩ : ∃ cs, cs = (Value.agg vs).cells.zipIdx.foldl (fun (cs : Array Value) (x : Value × Nat) => cs.setIfInBounds (0 + x.2) x.1) ((Array.range (1 * j.size)).map (ei.zero.cells[· % ei.zero.cells.size]!)) := ⟨_, rfl⟩
    have hset' : CsRep C (setAll (ei.zd.map .d) 0 (ds.map .d)) cs := by
      rw [hcs, ← Array.foldl_toList, Array.toList_zipIdx]
      exact hset
    have hrun : (execOp a.eval o).run P C.w = .ok (.value (.slice (some ⟨C.w.heap.size, 0, none⟩) 1 1)) (C.w.alloc (.cells cs e)) := by
      unfold execOp
      simp only [ho]
      refine run_value ?_
      have := run_lit1 (v := .agg vs) hu hj hjz hvs (by rw [hjs]; omega) (by rw [hjs]; omega) C.w
      rw [← hcs] at this
      have e2 : (#[(0, x)] : Array (Nat × Operand)).map (fun (i, x) => (i, a.eval x)) = #[(0, Value.agg vs)] := by simp [← hv]
      rw [e2]
      exact this
    have hcsz : cs.size = ei.size := by
      rw [hset'.1, setAll_length, List.length_map, hz2]
    have m' := m.new hB (.cells cs e) (.slice (some ⟨C.w.heap.size, 0, none⟩) 1 1) rfl (.row (some ei.size) e [.agg ds]) (by
      have := new_row (C := C) m.fresh hB (ek := some ei.size) (e := e) (xs := [.agg ds]) (vs := cs) 1 (by simp) (by simp [maxLen]) (by simp [hcsz, esz]) (by
        intro k d hk
        match k, hk with
        | 0, hk =>
          simp only [List.getElem?_cons_zero, Option.some.injEq] at hk
          subst hk
          refine ⟨⟨ds, rfl, hl', h1'⟩, fun i y hy => ?_⟩
          have hil : i < ds.length := (List.getElem?_eq_some_iff.1 hy).1
          have hlt : i < (setAll (ei.zd.map AV.d) 0 (ds.map .d)).length := by rw [setAll_length, List.length_map, hz2, ← hl']; exact hil
          have hget := List.getElem?_eq_getElem hlt
          rcases setAll_get (by simp [hz2, hl']) hget with ⟨h, _⟩ | ⟨_, _, h⟩ | ⟨h, _⟩
          · omega
          · rw [Nat.sub_zero, List.getElem?_map] at h
            have hy' : ds[i]? = some y := hy
            rw [hy'] at h
            simp only [Option.map_some, Option.some.injEq] at h
            have hrep := hset'.2.2 i _ hget
            rw [← h] at hrep
            refine ⟨cs.getD i undef, ?_, ?_⟩
            · have : i < cs.size := by rw [hcsz, ← hl']; exact hil
              simp [this]
            · cases hrep with
              | d hh => exact hh
          · simp at h
            omega)
      exact this)
    rw [addPut_eq] at hr
    rw [← hr] at k
    refine upon_value hrun (hk _ (C.new _ _ _) _ (m'.put (v := .slice (some ⟨C.w.heap.size, 0, none⟩) 1 1) ?_ (dstOk_spec hd)) (ev.trans (Ct.new_evo m.fresh hB _ _)) k)
    exact .ref _ (by simp [Ct.new]) _ (by simp [Ct.new]) rfl

/-! ### Arrays -/
def partsA (σ : St) (ty : TypeId → Option TI) (e : TypeId) : Nat → List (Nat × Operand) → Option (List AV)
  | _, [] => some []
  | k, (i, x) :: r => match Nat.beq i k with
    | true => match σ.ev ty e x with
      | some y => match y.one, partsA σ ty e (k + 1) r with
        | true, some l => some (y :: l)
        | _, _ => none
      | none => none
    | false => none
theorem partsA_sound {a : Act} {C : Ct} (m : Models σ a C) {e : TypeId} : ∀ {l : List (Nat × Operand)} {k : Nat} {ys : List AV}, partsA σ ty e k l = some ys → ys.length = l.length ∧ (∀ y ∈ ys, y.one = true) ∧
    (∀ (j : Nat) (p : Nat × Operand), l[j]? = some p → p.1 = k + j) ∧ ∀ (j : Nat) (p : Nat × Operand) (y : AV), l[j]? = some p → ys[j]? = some y → Rep C y (a.eval p.2)
  | [], k, ys, h => by
    cases h
    simp
  | (i, x) :: r, k, ys, h => by
    rw [partsA] at h
    split at h
    · rename_i hik
      split at h
      · rename_i y hy
        split at h
        · rename_i l hone hl
          cases h
          obtain ⟨h1, h2, h3, h4⟩ := partsA_sound m hl
          refine ⟨by simp [h1], ?_, ?_, ?_⟩
          · intro z hz
            rcases List.mem_cons.1 hz with rfl | hz
            · exact hone
            · exact h2 z hz
          · intro j p hj
            cases j with
            | zero =>
              simp only [List.getElem?_cons_zero, Option.some.injEq] at hj
              subst hj
              exact Nat.eq_of_beq_eq_true hik
            | succ j =>
              have := h3 j p (by simpa using hj)
              omega
          · intro j p z hj hz
            cases j with
            | zero =>
              simp only [List.getElem?_cons_zero, Option.some.injEq] at hj hz
              subst hj; subst hz
              exact ev_sound m hy
            | succ j => exact h4 j p z (by simpa using hj) (by simpa using hz)
        · cases h
      · cases h
    · cases h
/-- An array literal, each element of it given, each one cell. -/
theorem aops_buildArr (hT : TyOk P ty) {ops rest : List Oper} {o : Oper} {t e : TypeId} {n : Nat} {parts : Array (Nat × Operand)} {ti ei : TI} {ys : List AV} {sz nx : Nat} {tm : List (Nat × AV)} {ob : List (Nat × AO)} (hw : wantedA ops σ o = some true) (hd : dstOk σ o.dst = true) (ho : o.op = .build t parts) (ht : ty t = some ti) (hde : ti.desc = .array n e) (he : ty e = some ei) (hek : ei.agg = false)
    (hp : partsA σ ty e 0 parts.toList = some ys) (hn : Nat.beq ys.length ti.size = true) (hr : put' σ o.dst (.agg ys) = ⟨sz, tm, ob, nx⟩) (k : AOps P Γ ops Q rest ⟨sz, tm, ob, nx⟩) : AOps P Γ ops Q (o :: rest) σ := by
  refine aops_step hw fun C0 a C K R b ev m hk => ?_
  obtain ⟨j, hj, hjs, _, hjz⟩ := hT.info _ _ ht
  obtain ⟨je, hje, hjes, _, _⟩ := hT.info _ _ he
  obtain ⟨hz1, hz2⟩ := hT.zsize _ _ ht
  have h1s := hT.one _ _ he hek
  have hu := hT.und _ _ ht
  rw [hde] at hu
  have hn' := Nat.eq_of_beq_eq_true hn
  obtain ⟨i1, i2, i3, i4⟩ := partsA_sound m hp
  obtain ⟨L, hL⟩ : ∃ L, L = parts.toList.map fun (i, x) => (i, a.eval x) := ⟨_, rfl⟩
  have hget : ∀ (j : Nat) (q : Nat × Value), L[j]? = some q → ∃ p, parts.toList[j]? = some p ∧ q = (p.1, a.eval p.2) := by
    intro j q hq
    rw [hL, List.getElem?_map] at hq
    obtain ⟨p, hp, rfl⟩ := Option.map_eq_some_iff.1 hq
    exact ⟨p, hp, rfl⟩
  have hone : ∀ (j : Nat) (q : Nat × Value), L[j]? = some q → q.1 = 0 + j ∧ q.2.cells = #[q.2] := by
    intro j q hq
    obtain ⟨p, hp1, rfl⟩ := hget j q hq
    refine ⟨i3 j p hp1, ?_⟩
    have hjl : j < ys.length := by rw [i1]; exact (List.getElem?_eq_some_iff.1 hp1).1
    have hr := i4 j p ys[j] hp1 (List.getElem?_eq_getElem hjl)
    exact one_cells (hr.oneCell (i2 _ (List.getElem_mem hjl)))
  have hLl : L.length = ys.length := by rw [hL, List.length_map, i1]
  obtain ⟨cs, f1, f2, _, f4⟩ := fill_lit L 0 ti.zero.cells hone (by rw [hLl, hz1, hn']; omega)
  have hpl : (parts.map fun (i, x) => (i, a.eval x)).toList = L := by rw [hL]; simp
  have hrun : (execOp a.eval o).run P C.w = .ok (.value (.agg cs)) C.w := by
    unfold execOp
    simp only [ho]
    refine run_value ?_
    unfold Instr.build
    simp only [Nat.mul_one] at f1
    have hz0 : (zeroValue t).run P C.w = .ok ti.zero C.w := by simp [zeroValue, typeInfo, hj, hjz]
    have hse : (sizeOf e).run P C.w = .ok 1 C.w := by simp [sizeOf, typeInfo, hje, hjes, h1s]
    simp only [Sem.run_bind, hz0, Result.andThen_ok, run_underlying hu, hse, Nat.mul_one]
    have hpl' : (Array.map (fun x => (x.fst, a.eval x.snd)) parts).toList = L := hpl
    rw [hpl', f1]
    rfl
  refine upon_value hrun (hk _ C _ (m.put (x := .agg ys) ?_ (dstOk_spec hd)) ev (by rw [← put'_eq, hr]; exact k))
  refine .agg ys cs (by rw [f2, hz1, hn']) i2 (fun j y hj => ?_)
  have hjl : j < parts.toList.length := by rw [← i1]; exact (List.getElem?_eq_some_iff.1 hj).1
  have hpj := List.getElem?_eq_getElem hjl
  have h5 := f4 j (parts.toList[j].1, a.eval parts.toList[j].2) (by rw [hL, List.getElem?_map, hpj]; rfl)
  have h6 := i4 j _ y hpj hj
  rw [Nat.zero_add] at h5
  have : cs.getD j undef = a.eval parts.toList[j].2 := by simp [h5]
  rw [this]
  exact h6
/-- The address of an element of an array that lies in a box. -/
theorem aops_indexArr (hT : TyOk P ty) {ops rest : List Oper} {o : Oper} {t e : TypeId} {n : Nat} {x z : Operand} {ti ei : TI} {i off : Nat} {kq : IntKind} {q : Int} {sz nx : Nat} {tm : List (Nat × AV)} {ob : List (Nat × AO)} (hw : wantedA ops σ o = some true) (hd : dstOk σ o.dst = true) (ho : o.op = .indexAddr t x z) (ht : ty t = some ti) (hde : ti.desc = .array n e) (he : ty e = some ei) (h1 : Nat.beq ei.size 1 = true)
    (hx : σ.ev ty t x = some (.ptr i off)) (hz : σ.ev ty 0 z = some (.d (.int kq q))) (hr : put' σ o.dst (.ptr i (off + q.toNat)) = ⟨sz, tm, ob, nx⟩) (hq : 0 ≤ q ∧ q < n) (k : AOps P Γ ops Q rest ⟨sz, tm, ob, nx⟩) : AOps P Γ ops Q (o :: rest) σ := by
  refine aops_step hw fun C0 a C K R b ev m hk => ?_
  have hu := hT.und _ _ ht
  rw [hde] at hu
  have h1' := Nat.eq_of_beq_eq_true h1
  have hxr := ev_sound m hx
  have hzr := Rep.int_inv (ev_sound m hz)
  obtain ⟨v, hv⟩ : ∃ v, v = a.eval x := ⟨_, rfl⟩
  rw [← hv] at hxr
  cases hxr with
  | ptr _ _ g hi hg =>
    have hrun : (execOp a.eval o).run P C.w = .ok (.value (.pointer (some ⟨g, off + q.toNat, none⟩))) C.w := by
      unfold execOp
      simp only [ho]
      refine run_value ?_
      rw [← hv, hzr]
      have hs := hT.run_size he C.w
      simp [Instr.indexAt, run_underlying hu, asIntOf, Instr.sureAddr, hq.1, hq.2, hs, h1', Addr.add_lit]
    exact upon_value hrun (hk _ C _ (m.put (x := .ptr i (off + q.toNat)) (.ptr i _ g hi hg) (dstOk_spec hd)) ev (by rw [← put'_eq, hr]; exact k))
end
end Go.Am

/- Elements in a row, and in a constructed element: List and Parts of package element. Walked by the abstract machine. -/
namespace Go.Proofs.YtmciaonjkkelnaaGreatDoor
open Go.Am
set_option linter.unusedSimpArgs false
set_option linter.unusedVariables false
-- withAmZ

def els (l : List El) : List Dat := l.map elD
theorem els_len (l : List El) : (els l).length = l.length := by simp [els]
theorem els_app (a b : List El) : els (a ++ b) = els a ++ els b := by simp [els]
def preX (acc : List El) : Ex (List El) → Ex (List El)
  | .bad c o => .bad c o
  | .ok l => .ok (acc ++ l)
def elsR : Ex (List El) → Res
  | .bad c o => .d (.tup [.sl (some 6) [], errD c o])
  | .ok l => .ownT (some 6) 53 (els l) [errD 0 0]
theorem isEList : IsFn Tryz.prog 47 Tryz.f47 := ⟨Tryz.func47, by decide, rfl⟩
set_option maxHeartbeats 4000000 in
set_option maxRecDepth 100000 in
theorem c_elist (Γ : Env) (b : List UInt8) (i j : Nat) (hb : b.length ≤ 1099511627) (hij : i ≤ j) (hj : j ≤ b.length) : ACalls Tryz.prog Γ 47 [.sl none (bys b), .int .i64 i, .int .i64 j] (fun r => r = elsR (lsF b i j)) := by
  refine acalls_of ty_ok isEList rfl rfl ?_
  repeat' (first | ((with_reducible show AWp _ _ _ _ _); (first | refine awp_seq ?_ | refine awp_block ?_ | refine awp_skip ?_ | refine awp_exit ?_ | refine awp_scope ?_ | refine awp_label ?_ | refine awp_run ty_ok rfl sd ?_ | refine awp_ret ⟨_, _, rfl, rfl, ?_⟩ | refine awp_ret ⟨_, rfl, ?_⟩ | ((refine awp_cond (ty := ty) rfl (fun hc => ?_) (fun hc => ?_)) <;> (try simp only [nms, reduceCtorEq] at hc) <;> (try (exfalso; omega))))) | ((with_reducible show AOps _ _ _ _ _ _); (first | refine aops_nil ?_ | refine aops_go ty_ok rfl rfl sd ?_ | refine aops_gate ty_ok rfl rfl rfl sd ?_ | refine aops_litE ty_ok rfl rfl rfl rfl rfl rfl rfl rfl rfl rfl rfl rfl ?_ | refine aops_litA ty_ok rfl rfl rfl rfl rfl rfl rfl rfl rfl rfl rfl rfl rfl rfl rfl rfl ?_ | refine aops_buildArr ty_ok rfl rfl rfl rfl rfl rfl rfl rfl rfl rfl ?_ | refine aops_indexArr ty_ok rfl rfl rfl rfl rfl rfl rfl rfl rfl rfl sd ?_ | refine aops_cutE ty_ok rfl rfl rfl rfl rfl rfl rfl rfl rfl sd rfl ?_ | ((fail_if_success (refine aops_known rfl ?_)); (refine aops_split ty_ok rfl rfl rfl rfl rfl rfl (fun hc => ⟨?_, ?_⟩) (fun hc => ⟨?_, ?_⟩)) <;> (try simp only [nms, reduceCtorEq] at hc) <;> (try (exfalso; omega)) <;> (try exact sd)))) | ((fail_if_success (with_reducible show AWp _ _ _ _ _)); (fail_if_success (with_reducible show AOps _ _ _ _ _ _)); (first | (show AWp _ _ _ _ _) | (show AOps _ _ _ _ _ _))))
  refine awp_nilrow 8 53 rfl ?_
  refine awp_loopR (G := { p : List El × Nat // p.2 ≤ j ∧ p.1.length ≤ p.2 ∧ ∃ k, j - p.2 ≤ k ∧ lsF b i j = preX p.1 (lsT b j k p.2) }) (fun p => ⟨Tryz.f47.ntmps, [(0, .d (.sl none (bys b))), (2, .d (.int .i64 j)), (7, .ptr 0 0), (8, .ref 1), (9, .d (.int .i64 p.1.2))], [(0, .box 28 [.d (.int .i64 0), .d (.int .i64 0)]), (1, .row (some 6) 53 (els p.1.1))], 2⟩) (fun p => j - p.1.2) ⟨([], i), hij, Nat.zero_le _, j - i, Nat.le_refl _, by
      unfold lsF
      cases lsT b j (j - i) i <;> rfl⟩ [(0, 0), (1, 1)]
    (SubR.mk' rfl rfl ⟨⟨_, rfl, rfl⟩, ⟨_, rfl, rfl⟩, ⟨_, rfl, rfl⟩, ⟨_, rfl, rfl⟩, ⟨_, rfl, rfl⟩, trivial⟩ ⟨⟨_, _, rfl, rfl, rfl⟩, ⟨_, _, rfl, rfl, rfl⟩, trivial⟩) ?_
  rintro ⟨⟨acc, q⟩, hq, hacc, k, hk, hl⟩
  dsimp only at hq hacc hk hl ⊢
  by_cases h : q < j
  · obtain ⟨k, rfl⟩ : ∃ k', k = k' + 1 := ⟨k - 1, by omega⟩
    rw [lsT, if_pos h] at hl
    have hel : (els acc).length ≤ 1099511627 := by rw [els_len]; omega
    cases hn : nxF b q j with
    | bad c o =>
      rw [hn] at hl
      have hc1 := c_next_at (Γ.at 0) b q j (by omega) hq hj hn
      have := nx_bad hq hj hn
      repeat' (first | ((with_reducible show AWp _ _ _ _ _); (first | refine awp_seq ?_ | refine awp_block ?_ | refine awp_skip ?_ | refine awp_exit ?_ | refine awp_scope ?_ | refine awp_label ?_ | refine awp_run ty_ok rfl sd ?_ | refine awp_ret ⟨_, _, rfl, rfl, ?_⟩ | refine awp_ret ⟨_, rfl, ?_⟩ | ((refine awp_cond (ty := ty) rfl (fun hc => ?_) (fun hc => ?_)) <;> (try simp only [nms, reduceCtorEq] at hc) <;> (try (exfalso; omega))) | refine awp_anyL 2 mixed rfl (by kernel_rfl) ?_)) | ((with_reducible show AOps _ _ _ _ _ _); (first | refine aops_nil ?_ | refine aops_go ty_ok rfl rfl sd ?_ | refine aops_gate ty_ok rfl rfl rfl sd ?_ | refine aops_callE (ty := ty) rfl rfl rfl rfl rfl rfl rfl (hc1) rfl ?_ | refine aops_litE ty_ok rfl rfl rfl rfl rfl rfl rfl rfl rfl rfl rfl rfl ?_ | refine aops_litA ty_ok rfl rfl rfl rfl rfl rfl rfl rfl rfl rfl rfl rfl rfl rfl rfl rfl ?_ | refine aops_buildArr ty_ok rfl rfl rfl rfl rfl rfl rfl rfl rfl rfl ?_ | refine aops_indexArr ty_ok rfl rfl rfl rfl rfl rfl rfl rfl rfl rfl sd ?_ | refine aops_cutE ty_ok rfl rfl rfl rfl rfl rfl rfl rfl rfl sd rfl ?_ | ((fail_if_success (refine aops_known rfl ?_)); (refine aops_split ty_ok rfl rfl rfl rfl rfl rfl (fun hc => ⟨?_, ?_⟩) (fun hc => ⟨?_, ?_⟩)) <;> (try simp only [nms, reduceCtorEq] at hc) <;> (try (exfalso; omega)) <;> (try exact sd)))) | ((with_reducible show HeadT _ _ _ _ _ _ _ _ _ _); (first | refine head_end ?_ | refine head_goP ty_ok rfl rfl sd ?_ | refine head_gate ty_ok rfl rfl rfl sd ?_ | refine head_callE (ty := ty) rfl rfl rfl rfl rfl rfl rfl (hc1) rfl ?_ | ((fail_if_success (refine head_known rfl ?_)); (refine head_split ty_ok rfl rfl rfl rfl (fun hc => ⟨?_, ?_⟩) (fun hc => ⟨?_, ?_⟩)) <;> (try simp only [nms, reduceCtorEq] at hc) <;> (try (exfalso; omega)) <;> (try exact sd)))) | ((fail_if_success (with_reducible show AWp _ _ _ _ _)); (fail_if_success (with_reducible show AOps _ _ _ _ _ _)); (fail_if_success (with_reducible show HeadT _ _ _ _ _ _ _ _ _ _)); (first | (show AWp _ _ _ _ _) | (show AOps _ _ _ _ _ _))))
      rw [hl]
      rfl
    | ok e =>
      rw [hn] at hl
      simp only at hl
      have hc1 := c_next_at (Γ.at 0) b q j (by omega) hq hj hn
      obtain ⟨c, g1, g2, g3, g4, g5, g6, g7⟩ := nx_ok hq hj hn
      have hz := hsz_ge c
      have hen : e.en = q + hsz c + c.length := by rw [g4]
      repeat' (first | ((with_reducible show AWp _ _ _ _ _); (first | refine awp_seq ?_ | refine awp_block ?_ | refine awp_skip ?_ | refine awp_exit ?_ | refine awp_scope ?_ | refine awp_label ?_ | refine awp_run ty_ok rfl sd ?_ | refine awp_ret ⟨_, _, rfl, rfl, ?_⟩ | refine awp_ret ⟨_, rfl, ?_⟩ | ((refine awp_cond (ty := ty) rfl (fun hc => ?_) (fun hc => ?_)) <;> (try simp only [nms, reduceCtorEq] at hc) <;> (try (exfalso; omega))) | refine awp_anyL 2 mixed rfl (by kernel_rfl) ?_)) | ((with_reducible show AOps _ _ _ _ _ _); (first | refine aops_nil ?_ | refine aops_go ty_ok rfl rfl sd ?_ | refine aops_gate ty_ok rfl rfl rfl sd ?_ | refine aops_callE (ty := ty) rfl rfl rfl rfl rfl rfl rfl (hc1) rfl ?_ | refine aops_litE ty_ok rfl rfl rfl rfl rfl rfl rfl rfl rfl rfl rfl rfl ?_ | refine aops_litA ty_ok rfl rfl rfl rfl rfl rfl rfl rfl rfl rfl rfl rfl rfl rfl rfl rfl ?_ | refine aops_buildArr ty_ok rfl rfl rfl rfl rfl rfl rfl rfl rfl rfl ?_ | refine aops_indexArr ty_ok rfl rfl rfl rfl rfl rfl rfl rfl rfl rfl sd ?_ | refine aops_cutE ty_ok rfl rfl rfl rfl rfl rfl rfl rfl rfl sd rfl ?_ | ((fail_if_success (refine aops_known rfl ?_)); (refine aops_split ty_ok rfl rfl rfl rfl rfl rfl (fun hc => ⟨?_, ?_⟩) (fun hc => ⟨?_, ?_⟩)) <;> (try simp only [nms, reduceCtorEq] at hc) <;> (try (exfalso; omega)) <;> (try exact sd)))) | ((with_reducible show HeadT _ _ _ _ _ _ _ _ _ _); (first | refine head_end ?_ | refine head_goP ty_ok rfl rfl sd ?_ | refine head_gate ty_ok rfl rfl rfl sd ?_ | refine head_callE (ty := ty) rfl rfl rfl rfl rfl rfl rfl (hc1) rfl ?_ | ((fail_if_success (refine head_known rfl ?_)); (refine head_split ty_ok rfl rfl rfl rfl (fun hc => ⟨?_, ?_⟩) (fun hc => ⟨?_, ?_⟩)) <;> (try simp only [nms, reduceCtorEq] at hc) <;> (try (exfalso; omega)) <;> (try exact sd)))) | ((fail_if_success (with_reducible show AWp _ _ _ _ _)); (fail_if_success (with_reducible show AOps _ _ _ _ _ _)); (fail_if_success (with_reducible show HeadT _ _ _ _ _ _ _ _ _ _)); (first | (show AWp _ _ _ _ _) | (show AOps _ _ _ _ _ _))))
      refine ⟨⟨(acc ++ [e], e.en), by simp only; omega, by simp; omega, k, by simp only; omega, ?_⟩, [(0, 0), (5, 1)], SubR.mk' rfl rfl ⟨⟨_, rfl, rfl⟩, ⟨_, rfl, rfl⟩, ⟨_, rfl, rfl⟩, ⟨_, rfl, rfl⟩, ⟨_, rfl, rfl⟩, trivial⟩ ⟨⟨_, _, rfl, rfl, rfl⟩, ⟨_, _, rfl, rfl, congrArg (AO.row (some 6) 53) ?_⟩, trivial⟩, by simp only; omega⟩
      · rw [hl]
        simp only
        cases lsT b j k e.en with
        | bad c o => rfl
        | ok l => simp [preX]
      · rw [els_app]
        rfl
  · repeat' (first | ((with_reducible show AWp _ _ _ _ _); (first | refine awp_seq ?_ | refine awp_block ?_ | refine awp_skip ?_ | refine awp_exit ?_ | refine awp_scope ?_ | refine awp_label ?_ | refine awp_run ty_ok rfl sd ?_ | refine awp_ret ⟨_, _, rfl, rfl, ?_⟩ | refine awp_ret ⟨_, rfl, ?_⟩ | ((refine awp_cond (ty := ty) rfl (fun hc => ?_) (fun hc => ?_)) <;> (try simp only [nms, reduceCtorEq] at hc) <;> (try (exfalso; omega))))) | ((with_reducible show AOps _ _ _ _ _ _); (first | refine aops_nil ?_ | refine aops_go ty_ok rfl rfl sd ?_ | refine aops_gate ty_ok rfl rfl rfl sd ?_ | refine aops_litE ty_ok rfl rfl rfl rfl rfl rfl rfl rfl rfl rfl rfl rfl ?_ | refine aops_litA ty_ok rfl rfl rfl rfl rfl rfl rfl rfl rfl rfl rfl rfl rfl rfl rfl rfl ?_ | refine aops_buildArr ty_ok rfl rfl rfl rfl rfl rfl rfl rfl rfl rfl ?_ | refine aops_indexArr ty_ok rfl rfl rfl rfl rfl rfl rfl rfl rfl rfl sd ?_ | refine aops_cutE ty_ok rfl rfl rfl rfl rfl rfl rfl rfl rfl sd rfl ?_ | ((fail_if_success (refine aops_known rfl ?_)); (refine aops_split ty_ok rfl rfl rfl rfl rfl rfl (fun hc => ⟨?_, ?_⟩) (fun hc => ⟨?_, ?_⟩)) <;> (try simp only [nms, reduceCtorEq] at hc) <;> (try (exfalso; omega)) <;> (try exact sd)))) | ((fail_if_success (with_reducible show AWp _ _ _ _ _)); (fail_if_success (with_reducible show AOps _ _ _ _ _ _)); (first | (show AWp _ _ _ _ _) | (show AOps _ _ _ _ _ _))))
    have hz : lsT b j k q = .ok [] := by
      cases k with
      | zero => rfl
      | succ k => rw [lsT, if_neg h]
    rw [hl, hz]
    simp [preX, elsR]
    rfl
theorem c_elist_at (Γ : Env) (b : List UInt8) (i j : Nat) (hb : b.length ≤ 1099511627) (hij : i ≤ j) (hj : j ≤ b.length) {v : Ex (List El)} (h : lsF b i j = v) : ACalls Tryz.prog Γ 47 [.sl none (bys b), .int .i64 i, .int .i64 j] (fun r => r = elsR v) := by
  subst h
  exact c_elist Γ b i j hb hij hj
theorem isParts : IsFn Tryz.prog 27 Tryz.f27 := ⟨Tryz.func27, by decide, rfl⟩
set_option maxHeartbeats 4000000 in
theorem c_parts (Γ : Env) (b : List UInt8) (cls num : Nat) (hb : b.length ≤ 1099511627) : ACalls Tryz.prog Γ 27 [.sl none (bys b), .int .i64 cls, .int .i64 num] (fun r => r = elsR (ptF b cls num)) := by
  refine acalls_of ty_ok isParts rfl rfl ?_
  rw [ptF]
  cases ho : onF b with
  | bad c o =>
    have hc1 := c_one_at (Γ.at 0) b (by omega) ho
    have := on_bad ho
    repeat' (first | ((with_reducible show AWp _ _ _ _ _); (first | refine awp_seq ?_ | refine awp_block ?_ | refine awp_skip ?_ | refine awp_exit ?_ | refine awp_scope ?_ | refine awp_label ?_ | refine awp_run ty_ok rfl sd ?_ | refine awp_ret ⟨_, _, rfl, rfl, ?_⟩ | refine awp_ret ⟨_, rfl, ?_⟩ | ((refine awp_cond (ty := ty) rfl (fun hc => ?_) (fun hc => ?_)) <;> (try simp only [nms, reduceCtorEq] at hc) <;> (try (exfalso; omega))) | refine awp_anyL 2 mixed rfl (by kernel_rfl) ?_)) | ((with_reducible show AOps _ _ _ _ _ _); (first | refine aops_nil ?_ | refine aops_go ty_ok rfl rfl sd ?_ | refine aops_gate ty_ok rfl rfl rfl sd ?_ | refine aops_callE (ty := ty) rfl rfl rfl rfl rfl rfl rfl (hc1) rfl ?_ | refine aops_litE ty_ok rfl rfl rfl rfl rfl rfl rfl rfl rfl rfl rfl rfl ?_ | refine aops_litA ty_ok rfl rfl rfl rfl rfl rfl rfl rfl rfl rfl rfl rfl rfl rfl rfl rfl ?_ | refine aops_buildArr ty_ok rfl rfl rfl rfl rfl rfl rfl rfl rfl rfl ?_ | refine aops_indexArr ty_ok rfl rfl rfl rfl rfl rfl rfl rfl rfl rfl sd ?_ | refine aops_cutE ty_ok rfl rfl rfl rfl rfl rfl rfl rfl rfl sd rfl ?_ | ((fail_if_success (refine aops_known rfl ?_)); (refine aops_split ty_ok rfl rfl rfl rfl rfl rfl (fun hc => ⟨?_, ?_⟩) (fun hc => ⟨?_, ?_⟩)) <;> (try simp only [nms, reduceCtorEq] at hc) <;> (try (exfalso; omega)) <;> (try exact sd)))) | ((with_reducible show HeadT _ _ _ _ _ _ _ _ _ _); (first | refine head_end ?_ | refine head_goP ty_ok rfl rfl sd ?_ | refine head_gate ty_ok rfl rfl rfl sd ?_ | refine head_callE (ty := ty) rfl rfl rfl rfl rfl rfl rfl (hc1) rfl ?_ | ((fail_if_success (refine head_known rfl ?_)); (refine head_split ty_ok rfl rfl rfl rfl (fun hc => ⟨?_, ?_⟩) (fun hc => ⟨?_, ?_⟩)) <;> (try simp only [nms, reduceCtorEq] at hc) <;> (try (exfalso; omega)) <;> (try exact sd)))) | ((fail_if_success (with_reducible show AWp _ _ _ _ _)); (fail_if_success (with_reducible show AOps _ _ _ _ _ _)); (fail_if_success (with_reducible show HeadT _ _ _ _ _ _ _ _ _ _)); (first | (show AWp _ _ _ _ _) | (show AOps _ _ _ _ _ _))))
    rfl
  | ok e =>
    have hc1 := c_one_at (Γ.at 0) b (by omega) ho
    obtain ⟨c, _, _, _, _, _, h6, h7⟩ := on_ok ho
    simp only
    cases hi : isB e.x cls true num with
    | false =>
      rw [if_neg (by simp)]
      repeat' (first | ((with_reducible show AWp _ _ _ _ _); (first | refine awp_seq ?_ | refine awp_block ?_ | refine awp_skip ?_ | refine awp_exit ?_ | refine awp_scope ?_ | refine awp_label ?_ | refine awp_run ty_ok rfl sd ?_ | refine awp_ret ⟨_, _, rfl, rfl, ?_⟩ | refine awp_ret ⟨_, rfl, ?_⟩ | ((refine awp_cond (ty := ty) rfl (fun hc => ?_) (fun hc => ?_)) <;> (try simp only [nms, reduceCtorEq] at hc) <;> (try (exfalso; omega))) | refine awp_anyL 2 mixed rfl (by kernel_rfl) ?_)) | ((with_reducible show AOps _ _ _ _ _ _); (first | refine aops_nil ?_ | refine aops_go ty_ok rfl rfl sd ?_ | refine aops_gate ty_ok rfl rfl rfl sd ?_ | refine aops_callE (ty := ty) rfl rfl rfl rfl rfl rfl rfl (hc1) rfl ?_ | refine aops_callE (ty := ty) rfl rfl rfl rfl rfl rfl rfl (c_is_at _ e cls num true hi) rfl ?_ | refine aops_litE ty_ok rfl rfl rfl rfl rfl rfl rfl rfl rfl rfl rfl rfl ?_ | refine aops_litA ty_ok rfl rfl rfl rfl rfl rfl rfl rfl rfl rfl rfl rfl rfl rfl rfl rfl ?_ | refine aops_buildArr ty_ok rfl rfl rfl rfl rfl rfl rfl rfl rfl rfl ?_ | refine aops_indexArr ty_ok rfl rfl rfl rfl rfl rfl rfl rfl rfl rfl sd ?_ | refine aops_cutE ty_ok rfl rfl rfl rfl rfl rfl rfl rfl rfl sd rfl ?_ | ((fail_if_success (refine aops_known rfl ?_)); (refine aops_split ty_ok rfl rfl rfl rfl rfl rfl (fun hc => ⟨?_, ?_⟩) (fun hc => ⟨?_, ?_⟩)) <;> (try simp only [nms, reduceCtorEq] at hc) <;> (try (exfalso; omega)) <;> (try exact sd)))) | ((with_reducible show HeadT _ _ _ _ _ _ _ _ _ _); (first | refine head_end ?_ | refine head_goP ty_ok rfl rfl sd ?_ | refine head_gate ty_ok rfl rfl rfl sd ?_ | refine head_callE (ty := ty) rfl rfl rfl rfl rfl rfl rfl (hc1) rfl ?_ | refine head_callE (ty := ty) rfl rfl rfl rfl rfl rfl rfl (c_is_at _ e cls num true hi) rfl ?_ | ((fail_if_success (refine head_known rfl ?_)); (refine head_split ty_ok rfl rfl rfl rfl (fun hc => ⟨?_, ?_⟩) (fun hc => ⟨?_, ?_⟩)) <;> (try simp only [nms, reduceCtorEq] at hc) <;> (try (exfalso; omega)) <;> (try exact sd)))) | ((fail_if_success (with_reducible show AWp _ _ _ _ _)); (fail_if_success (with_reducible show AOps _ _ _ _ _ _)); (fail_if_success (with_reducible show HeadT _ _ _ _ _ _ _ _ _ _)); (first | (show AWp _ _ _ _ _) | (show AOps _ _ _ _ _ _))))
      rfl
    | true =>
      rw [if_pos rfl]
      cases hl : lsF b e.bd e.en with
      | bad c o =>
        have hc2 := c_elist_at (Γ.at 0) b e.bd e.en hb h6 (by omega) hl
        repeat' (first | ((with_reducible show AWp _ _ _ _ _); (first | refine awp_seq ?_ | refine awp_block ?_ | refine awp_skip ?_ | refine awp_exit ?_ | refine awp_scope ?_ | refine awp_label ?_ | refine awp_run ty_ok rfl sd ?_ | refine awp_ret ⟨_, _, rfl, rfl, ?_⟩ | refine awp_ret ⟨_, rfl, ?_⟩ | ((refine awp_cond (ty := ty) rfl (fun hc => ?_) (fun hc => ?_)) <;> (try simp only [nms, reduceCtorEq] at hc) <;> (try (exfalso; omega))) | refine awp_anyL 2 mixed rfl (by kernel_rfl) ?_)) | ((with_reducible show AOps _ _ _ _ _ _); (first | refine aops_nil ?_ | refine aops_go ty_ok rfl rfl sd ?_ | refine aops_gate ty_ok rfl rfl rfl sd ?_ | refine aops_callE (ty := ty) rfl rfl rfl rfl rfl rfl rfl (hc1) rfl ?_ | refine aops_callE (ty := ty) rfl rfl rfl rfl rfl rfl rfl (c_is_at _ e cls num true hi) rfl ?_ | refine aops_callE (ty := ty) rfl rfl rfl rfl rfl rfl rfl (hc2) rfl ?_ | refine aops_litE ty_ok rfl rfl rfl rfl rfl rfl rfl rfl rfl rfl rfl rfl ?_ | refine aops_litA ty_ok rfl rfl rfl rfl rfl rfl rfl rfl rfl rfl rfl rfl rfl rfl rfl rfl ?_ | refine aops_buildArr ty_ok rfl rfl rfl rfl rfl rfl rfl rfl rfl rfl ?_ | refine aops_indexArr ty_ok rfl rfl rfl rfl rfl rfl rfl rfl rfl rfl sd ?_ | refine aops_cutE ty_ok rfl rfl rfl rfl rfl rfl rfl rfl rfl sd rfl ?_ | ((fail_if_success (refine aops_known rfl ?_)); (refine aops_split ty_ok rfl rfl rfl rfl rfl rfl (fun hc => ⟨?_, ?_⟩) (fun hc => ⟨?_, ?_⟩)) <;> (try simp only [nms, reduceCtorEq] at hc) <;> (try (exfalso; omega)) <;> (try exact sd)))) | ((with_reducible show HeadT _ _ _ _ _ _ _ _ _ _); (first | refine head_end ?_ | refine head_goP ty_ok rfl rfl sd ?_ | refine head_gate ty_ok rfl rfl rfl sd ?_ | refine head_callE (ty := ty) rfl rfl rfl rfl rfl rfl rfl (hc1) rfl ?_ | refine head_callE (ty := ty) rfl rfl rfl rfl rfl rfl rfl (c_is_at _ e cls num true hi) rfl ?_ | refine head_callE (ty := ty) rfl rfl rfl rfl rfl rfl rfl (hc2) rfl ?_ | ((fail_if_success (refine head_known rfl ?_)); (refine head_split ty_ok rfl rfl rfl rfl (fun hc => ⟨?_, ?_⟩) (fun hc => ⟨?_, ?_⟩)) <;> (try simp only [nms, reduceCtorEq] at hc) <;> (try (exfalso; omega)) <;> (try exact sd)))) | ((fail_if_success (with_reducible show AWp _ _ _ _ _)); (fail_if_success (with_reducible show AOps _ _ _ _ _ _)); (fail_if_success (with_reducible show HeadT _ _ _ _ _ _ _ _ _ _)); (first | (show AWp _ _ _ _ _) | (show AOps _ _ _ _ _ _))))
        rfl
      | ok l =>
        have hc2 := c_elist_at (Γ.at 0) b e.bd e.en hb h6 (by omega) hl
        repeat' (first | ((with_reducible show AWp _ _ _ _ _); (first | refine awp_seq ?_ | refine awp_block ?_ | refine awp_skip ?_ | refine awp_exit ?_ | refine awp_scope ?_ | refine awp_label ?_ | refine awp_run ty_ok rfl sd ?_ | refine awp_ret ⟨_, _, rfl, rfl, ?_⟩ | refine awp_ret ⟨_, rfl, ?_⟩ | ((refine awp_cond (ty := ty) rfl (fun hc => ?_) (fun hc => ?_)) <;> (try simp only [nms, reduceCtorEq] at hc) <;> (try (exfalso; omega))) | refine awp_anyL 2 mixed rfl (by kernel_rfl) ?_)) | ((with_reducible show AOps _ _ _ _ _ _); (first | refine aops_nil ?_ | refine aops_go ty_ok rfl rfl sd ?_ | refine aops_gate ty_ok rfl rfl rfl sd ?_ | refine aops_callE (ty := ty) rfl rfl rfl rfl rfl rfl rfl (hc1) rfl ?_ | refine aops_callE (ty := ty) rfl rfl rfl rfl rfl rfl rfl (c_is_at _ e cls num true hi) rfl ?_ | refine aops_callE (ty := ty) rfl rfl rfl rfl rfl rfl rfl (hc2) rfl ?_ | refine aops_litE ty_ok rfl rfl rfl rfl rfl rfl rfl rfl rfl rfl rfl rfl ?_ | refine aops_litA ty_ok rfl rfl rfl rfl rfl rfl rfl rfl rfl rfl rfl rfl rfl rfl rfl rfl ?_ | refine aops_buildArr ty_ok rfl rfl rfl rfl rfl rfl rfl rfl rfl rfl ?_ | refine aops_indexArr ty_ok rfl rfl rfl rfl rfl rfl rfl rfl rfl rfl sd ?_ | refine aops_cutE ty_ok rfl rfl rfl rfl rfl rfl rfl rfl rfl sd rfl ?_ | ((fail_if_success (refine aops_known rfl ?_)); (refine aops_split ty_ok rfl rfl rfl rfl rfl rfl (fun hc => ⟨?_, ?_⟩) (fun hc => ⟨?_, ?_⟩)) <;> (try simp only [nms, reduceCtorEq] at hc) <;> (try (exfalso; omega)) <;> (try exact sd)))) | ((with_reducible show HeadT _ _ _ _ _ _ _ _ _ _); (first | refine head_end ?_ | refine head_goP ty_ok rfl rfl sd ?_ | refine head_gate ty_ok rfl rfl rfl sd ?_ | refine head_callE (ty := ty) rfl rfl rfl rfl rfl rfl rfl (hc1) rfl ?_ | refine head_callE (ty := ty) rfl rfl rfl rfl rfl rfl rfl (c_is_at _ e cls num true hi) rfl ?_ | refine head_callE (ty := ty) rfl rfl rfl rfl rfl rfl rfl (hc2) rfl ?_ | ((fail_if_success (refine head_known rfl ?_)); (refine head_split ty_ok rfl rfl rfl rfl (fun hc => ⟨?_, ?_⟩) (fun hc => ⟨?_, ?_⟩)) <;> (try simp only [nms, reduceCtorEq] at hc) <;> (try (exfalso; omega)) <;> (try exact sd)))) | ((fail_if_success (with_reducible show AWp _ _ _ _ _)); (fail_if_success (with_reducible show AOps _ _ _ _ _ _)); (fail_if_success (with_reducible show HeadT _ _ _ _ _ _ _ _ _ _)); (first | (show AWp _ _ _ _ _) | (show AOps _ _ _ _ _ _))))
        rfl
theorem c_parts_at (Γ : Env) (b : List UInt8) (cls num : Nat) (hb : b.length ≤ 1099511627) {v : Ex (List El)} (h : ptF b cls num = v) : ACalls Tryz.prog Γ 27 [.sl none (bys b), .int .i64 cls, .int .i64 num] (fun r => r = elsR v) := by
  subst h
  exact c_parts Γ b cls num hb
end Go.Proofs.YtmciaonjkkelnaaGreatDoor

/- Decode of package oid, walked by the abstract machine. -/
namespace Go.Proofs.YtmciaonjkkelnaaGreatDoor
open Go.Am
open Go.Lib (decDigits)
set_option linter.unusedSimpArgs false
set_option linter.unusedVariables false

theorem u8_and127 (x : UInt8) : bits .and .u8 (x.toNat : Int) 127 = ((x.toNat % 128 : Nat) : Int) := by
  have hx : x.toNat < 256 := x.toNat_lt
  have h1 := (bits_nat .u8 8 (by decide) (fun n h0 h1 => by rw [IntKind.wrap_u8]; omega) x.toNat 127 (by omega) (by omega)).1
  have h2 : x.toNat &&& 127 = x.toNat % 128 := Nat.and_two_pow_sub_one_eq_mod _ 7
  rw [h2] at h1
  exact h1
theorem u8_and128 (x : UInt8) : (bits .and .u8 (x.toNat : Int) 128 != 0) = decide (128 ≤ x.toNat) := by
  have hx : x.toNat < 256 := x.toNat_lt
  have h1 := (bits_nat .u8 8 (by decide) (fun n h0 h1 => by rw [IntKind.wrap_u8]; omega) x.toNat 128 (by omega) (by omega)).1
  have h2 : ∀ d : Fin 256, (((d.1 &&& 128 : Nat) : Int) != 0) = decide (128 ≤ d.1) := by decide +kernel
  have h3 := h2 ⟨x.toNat, hx⟩
  simp only at h3
  rw [← h3]
  exact congrArg (fun z : Int => z != 0) h1
theorem u64_step (n d : Nat) (hn : n ≤ 4294967295) (hd : d < 128) : bits .or .u64 (shft .shl .u64 (n : Int) 7) (d : Int) = ((n * 128 + d : Nat) : Int) := by
  have h0 : shft .shl .u64 (n : Int) 7 = ((n * 128 : Nat) : Int) := by
    show IntKind.u64.wrap ((n : Int) * 2 ^ (min (7 : Int).toNat 64)) = _
    rw [show (2 : Int) ^ (min (7 : Int).toNat 64) = 128 by decide, IntKind.wrap_u64]
    omega
  rw [h0]
  have h1 := (bits_nat .u64 64 (by decide) (fun n h0 h1 => by rw [IntKind.wrap_u64]; omega) (n * 128) d (by omega) (by omega)).2
  have h2 : (n * 128) ||| d = n * 128 + d := by
    have := Nat.two_pow_add_eq_or_of_lt (i := 7) (b := d) hd n
    rw [Nat.mul_comm] at this
    exact this.symm
  rw [h2] at h1
  exact h1
theorem u64s_app (x y : List Nat) : u64s (x ++ y) = u64s x ++ u64s y := by simp [u64s]
theorem u64_at {a : List Nat} {k : Nat} (h : k < a.length) : ((u64s a).getD (k : Int).toNat default).num = (a[k] : Int) := by
  rw [num_u64s, Int.toNat_natCast, List.getD_eq_getElem?_getD, List.getElem?_eq_getElem h]
  rfl
theorem by_at {c : List UInt8} {k : Nat} (h : k < c.length) : ((bys c).getD (k : Int).toNat default).num = (c[k].toNat : Int) := by
  rw [num_bys, Int.toNat_natCast, List.getD_eq_getElem?_getD, List.getElem?_eq_getElem h]
  rfl
theorem map_app_cons (o : Option (List Nat)) (ns : List Nat) (m : Nat) : (o.map fun l => m :: l).map (fun l => ns ++ l) = o.map (fun l => (ns ++ [m]) ++ l) := by
  cases o <;> simp

theorem isODecode : IsFn Tryz.prog 29 Tryz.f29 := ⟨Tryz.func29, by decide, rfl⟩
set_option maxHeartbeats 4000000 in
theorem c_odec (c : List UInt8) (hl : c.length ≤ 10000000) : ACalls Tryz.prog envL 29 [.sl none (bys c)] (fun r => r = .d (decOD c)) := by
  refine acalls_of ty_ok isODecode rfl rfl ?_
  repeat' (first | ((with_reducible show AWp _ _ _ _ _); (first | refine awp_seq ?_ | refine awp_block ?_ | refine awp_skip ?_ | refine awp_exit ?_ | refine awp_scope ?_ | refine awp_label ?_ | refine awp_run ty_ok rfl sd ?_ | refine awp_ret ⟨_, _, rfl, rfl, ?_⟩ | refine awp_ret ⟨_, rfl, ?_⟩ | ((refine awp_cond (ty := ty) rfl (fun hc => ?_) (fun hc => ?_)) <;> (try simp only [nms, reduceCtorEq] at hc) <;> (try (exfalso; omega))))) | ((with_reducible show AOps _ _ _ _ _ _); (first | refine aops_nil ?_ | refine aops_go ty_ok rfl rfl sd ?_ | refine aops_gate ty_ok rfl rfl rfl sd ?_ | refine aops_litE ty_ok rfl rfl rfl rfl rfl rfl rfl rfl rfl rfl rfl rfl ?_ | refine aops_cutE ty_ok rfl rfl rfl rfl rfl rfl rfl rfl rfl sd rfl ?_ | ((fail_if_success (refine aops_known rfl ?_)); (refine aops_split ty_ok rfl rfl rfl rfl rfl rfl (fun hc => ⟨?_, ?_⟩) (fun hc => ⟨?_, ?_⟩)) <;> (try simp only [nms, reduceCtorEq] at hc) <;> (try (exfalso; omega)) <;> (try exact sd)))) | ((fail_if_success (with_reducible show AWp _ _ _ _ _)); (fail_if_success (with_reducible show AOps _ _ _ _ _ _)); (first | (show AWp _ _ _ _ _) | (show AOps _ _ _ _ _ _))))
  refine awp_nilrow 4 79 rfl ?_
  refine awp_loopR (G := { p : Nat × Bool × Nat × List Nat // p.1 ≤ c.length ∧ dec7 false 0 c = (dec7 p.2.1 p.2.2.1 (c.drop p.1)).map (fun l => p.2.2.2 ++ l) ∧ p.2.2.1 ≤ 4294967295 ∧ p.2.2.2.length ≤ p.1 ∧ (∀ n ∈ p.2.2.2, n ≤ 4294967295) ∧ (p.2.1 = false → p.2.2.1 = 0) })
    (fun p => ⟨Tryz.f29.ntmps, [(4, .ref 0), (5, .d (.bool p.1.2.1)), (6, .d (.int .u64 p.1.2.2.1)), (15, .d (.sl none (bys c))), (16, .d (.int .i64 c.length)), (17, .d (.int .i64 p.1.1))], [(0, .row none 79 (u64s p.1.2.2.2))], 1⟩) (fun p => c.length - p.1.1) ⟨(0, false, 0, []), Nat.zero_le _, by simp, by simp, Nat.le_refl _, by simp, fun _ => rfl⟩ [(0, 0)]
    (SubR.mk' rfl rfl ⟨⟨_, rfl, rfl⟩, ⟨_, rfl, rfl⟩, ⟨_, rfl, rfl⟩, ⟨_, rfl, rfl⟩, ⟨_, rfl, congrArg (fun z : Nat => AV.d (Dat.int IntKind.i64 z)) (bys_len _)⟩, ⟨_, rfl, rfl⟩, trivial⟩ ⟨⟨_, _, rfl, rfl, rfl⟩, trivial⟩) ?_
  rintro ⟨⟨k, b, n, ns⟩, hk, hd, hn, hnl, hns, hb0⟩
  simp only at hk hd hn hnl hns hb0
  dsimp only
  rcases Nat.lt_or_ge k c.length with hkl | hkl
  · have hx := by_at hkl
    rw [List.drop_eq_getElem_cons hkl] at hd
    generalize hcc : c[k] = x at hx hd
    have hx256 : x.toNat < 256 := x.toNat_lt
    have e1 := u8_and127 x
    have e2 := u8_and128 x
    have e3 := u64_step n (x.toNat % 128) hn (by omega)
    rw [← hx] at e1 e2
    have hw : IntKind.u64.wrap ((x.toNat % 128 : Nat) : Int) = ((x.toNat % 128 : Nat) : Int) := by rw [IntKind.wrap_u64]; omega
    have hnv : bits .or .u64 (shft .shl .u64 (n : Int) 7) (IntKind.u64.wrap (bits .and .u8 ((bys c).getD (k : Int).toNat default).num 127)) = ((n * 128 + x.toNat % 128 : Nat) : Int) := by rw [e1, hw, e3]
    have bad : (¬ ((!b && decide (x = 128)) = false ∧ n * 128 + x.toNat % 128 ≤ 4294967295)) → decOD c = .tup [sD [], .int .i64 6] := by
      intro h
      have : dec7 false 0 c = none := by
        rw [hd, dec7]
        split
        · rename_i h1 h2 h3
          exact absurd ⟨h1, of_decide_eq_true h2⟩ h
        · rename_i h1 h2 h3
          exact absurd ⟨h1, of_decide_eq_true h2⟩ h
        · rfl
      simp only [decOD, decS, this]
    have hx128 : (x = 128) ↔ ((bys c).getD (k : Int).toNat default).num = 128 := by
      rw [hx]
      constructor
      · rintro rfl; rfl
      · intro h
        exact u8_of (by have : (128 : UInt8).toNat = 128 := rfl; omega)
    by_cases hA : (!b && decide (x = 128)) = false ∧ n * 128 + x.toNat % 128 ≤ 4294967295
    · obtain ⟨hA1, hA2⟩ := hA
      have hA1' : b = false → ¬ ((bys c).getD (k : Int).toNat default).num = 128 := by
        rintro rfl h
        rw [hx128.2 h] at hA1
        cases hA1
      have hd2 : decide (n * 128 + x.toNat % 128 ≤ 4294967295) = true := decide_eq_true hA2
      by_cases h128 : 128 ≤ x.toNat
      · have hd3 : decide (128 ≤ x.toNat) = true := decide_eq_true h128
        rw [hd3] at e2
        have e2' : ¬ bits .and .u8 ((bys c).getD (k : Int).toNat default).num 128 = 0 := by simpa using e2
        rw [dec7, hA1, hd2, hd3] at hd
        cases b with
        | true =>
          repeat' (first | ((with_reducible show AWp _ _ _ _ _); (first | refine awp_seq ?_ | refine awp_block ?_ | refine awp_skip ?_ | refine awp_exit ?_ | refine awp_scope ?_ | refine awp_label ?_ | refine awp_run ty_ok rfl sd ?_ | refine awp_ret ⟨_, _, rfl, rfl, ?_⟩ | refine awp_ret ⟨_, rfl, ?_⟩ | ((refine awp_cond (ty := ty) rfl (fun hc => ?_) (fun hc => ?_)) <;> (try simp only [nms, reduceCtorEq] at hc) <;> (try (exfalso; omega))))) | ((with_reducible show AOps _ _ _ _ _ _); (first | refine aops_nil ?_ | refine aops_go ty_ok rfl rfl sd ?_ | refine aops_gate ty_ok rfl rfl rfl sd ?_ | refine aops_litE ty_ok rfl rfl rfl rfl rfl rfl rfl rfl rfl rfl rfl rfl ?_ | refine aops_cutE ty_ok rfl rfl rfl rfl rfl rfl rfl rfl rfl sd rfl ?_ | ((fail_if_success (refine aops_known rfl ?_)); (refine aops_split ty_ok rfl rfl rfl rfl rfl rfl (fun hc => ⟨?_, ?_⟩) (fun hc => ⟨?_, ?_⟩)) <;> (try simp only [nms, reduceCtorEq] at hc) <;> (try (exfalso; omega)) <;> (try exact sd)))) | ((fail_if_success (with_reducible show AWp _ _ _ _ _)); (fail_if_success (with_reducible show AOps _ _ _ _ _ _)); (first | (show AWp _ _ _ _ _) | (show AOps _ _ _ _ _ _))))
          refine ⟨⟨(k + 1, true, n * 128 + x.toNat % 128, ns), hkl, hd, hA2, by simp only; omega, hns, fun h => by cases h⟩, [(0, 0)], SubR.mk' rfl rfl ⟨⟨_, rfl, rfl⟩, ⟨_, rfl, congrArg (fun z : Bool => AV.d (Dat.bool z)) e2⟩, ⟨_, rfl, congrArg (fun z : Int => AV.d (Dat.int IntKind.u64 z)) hnv⟩, ⟨_, rfl, rfl⟩, ⟨_, rfl, rfl⟩, ⟨_, rfl, rfl⟩, trivial⟩ ⟨⟨_, _, rfl, rfl, rfl⟩, trivial⟩, by simp only; omega⟩
        | false =>
          have hne := hA1' rfl
          repeat' (first | ((with_reducible show AWp _ _ _ _ _); (first | refine awp_seq ?_ | refine awp_block ?_ | refine awp_skip ?_ | refine awp_exit ?_ | refine awp_scope ?_ | refine awp_label ?_ | refine awp_run ty_ok rfl sd ?_ | refine awp_ret ⟨_, _, rfl, rfl, ?_⟩ | refine awp_ret ⟨_, rfl, ?_⟩ | ((refine awp_cond (ty := ty) rfl (fun hc => ?_) (fun hc => ?_)) <;> (try simp only [nms, reduceCtorEq] at hc) <;> (try (exfalso; omega))))) | ((with_reducible show AOps _ _ _ _ _ _); (first | refine aops_nil ?_ | refine aops_go ty_ok rfl rfl sd ?_ | refine aops_gate ty_ok rfl rfl rfl sd ?_ | refine aops_litE ty_ok rfl rfl rfl rfl rfl rfl rfl rfl rfl rfl rfl rfl ?_ | refine aops_cutE ty_ok rfl rfl rfl rfl rfl rfl rfl rfl rfl sd rfl ?_ | ((fail_if_success (refine aops_known rfl ?_)); (refine aops_split ty_ok rfl rfl rfl rfl rfl rfl (fun hc => ⟨?_, ?_⟩) (fun hc => ⟨?_, ?_⟩)) <;> (try simp only [nms, reduceCtorEq] at hc) <;> (try (exfalso; omega)) <;> (try exact sd)))) | ((fail_if_success (with_reducible show AWp _ _ _ _ _)); (fail_if_success (with_reducible show AOps _ _ _ _ _ _)); (first | (show AWp _ _ _ _ _) | (show AOps _ _ _ _ _ _))))
          refine ⟨⟨(k + 1, true, n * 128 + x.toNat % 128, ns), hkl, hd, hA2, by simp only; omega, hns, fun h => by cases h⟩, [(0, 0)], SubR.mk' rfl rfl ⟨⟨_, rfl, rfl⟩, ⟨_, rfl, congrArg (fun z : Bool => AV.d (Dat.bool z)) e2⟩, ⟨_, rfl, congrArg (fun z : Int => AV.d (Dat.int IntKind.u64 z)) hnv⟩, ⟨_, rfl, rfl⟩, ⟨_, rfl, rfl⟩, ⟨_, rfl, rfl⟩, trivial⟩ ⟨⟨_, _, rfl, rfl, rfl⟩, trivial⟩, by simp only; omega⟩
      · have hd3 : decide (128 ≤ x.toNat) = false := decide_eq_false h128
        rw [hd3] at e2
        have e2' : bits .and .u8 ((bys c).getD (k : Int).toNat default).num 128 = 0 := by simpa using e2
        rw [dec7, hA1, hd2, hd3] at hd
        simp only at hd
        rw [map_app_cons] at hd
        have hns' : ∀ m ∈ ns ++ [n * 128 + x.toNat % 128], m ≤ 4294967295 := by
          intro m hm
          rcases List.mem_append.1 hm with hm | hm
          · exact hns m hm
          · simp only [List.mem_singleton] at hm
            omega
        have hrow : u64s ns ++ [Dat.int .u64 (bits .or .u64 (shft .shl .u64 (n : Int) 7) (IntKind.u64.wrap (bits .and .u8 ((bys c).getD (k : Int).toNat default).num 127)))] = u64s (ns ++ [n * 128 + x.toNat % 128]) := by
          rw [hnv, u64s_app]
          rfl
        cases b with
        | true =>
          repeat' (first | ((with_reducible show AWp _ _ _ _ _); (first | refine awp_seq ?_ | refine awp_block ?_ | refine awp_skip ?_ | refine awp_exit ?_ | refine awp_scope ?_ | refine awp_label ?_ | refine awp_run ty_ok rfl sd ?_ | refine awp_ret ⟨_, _, rfl, rfl, ?_⟩ | refine awp_ret ⟨_, rfl, ?_⟩ | ((refine awp_cond (ty := ty) rfl (fun hc => ?_) (fun hc => ?_)) <;> (try simp only [nms, reduceCtorEq] at hc) <;> (try (exfalso; omega))))) | ((with_reducible show AOps _ _ _ _ _ _); (first | refine aops_nil ?_ | refine aops_go ty_ok rfl rfl sd ?_ | refine aops_gate ty_ok rfl rfl rfl sd ?_ | refine aops_litE ty_ok rfl rfl rfl rfl rfl rfl rfl rfl rfl rfl rfl rfl ?_ | refine aops_cutE ty_ok rfl rfl rfl rfl rfl rfl rfl rfl rfl sd rfl ?_ | ((fail_if_success (refine aops_known rfl ?_)); (refine aops_split ty_ok rfl rfl rfl rfl rfl rfl (fun hc => ⟨?_, ?_⟩) (fun hc => ⟨?_, ?_⟩)) <;> (try simp only [nms, reduceCtorEq] at hc) <;> (try (exfalso; omega)) <;> (try exact sd)))) | ((fail_if_success (with_reducible show AWp _ _ _ _ _)); (fail_if_success (with_reducible show AOps _ _ _ _ _ _)); (first | (show AWp _ _ _ _ _) | (show AOps _ _ _ _ _ _))))
          refine ⟨⟨(k + 1, false, 0, ns ++ [n * 128 + x.toNat % 128]), hkl, hd, by simp, by simp; omega, hns', fun _ => rfl⟩, [(2, 0)], SubR.mk' rfl rfl ⟨⟨_, rfl, rfl⟩, ⟨_, rfl, congrArg (fun z : Bool => AV.d (Dat.bool z)) e2⟩, ⟨_, rfl, rfl⟩, ⟨_, rfl, rfl⟩, ⟨_, rfl, rfl⟩, ⟨_, rfl, rfl⟩, trivial⟩ ⟨⟨_, _, rfl, rfl, congrArg (AO.row none 79) hrow⟩, trivial⟩, by simp only; omega⟩
        | false =>
          have hne := hA1' rfl
          repeat' (first | ((with_reducible show AWp _ _ _ _ _); (first | refine awp_seq ?_ | refine awp_block ?_ | refine awp_skip ?_ | refine awp_exit ?_ | refine awp_scope ?_ | refine awp_label ?_ | refine awp_run ty_ok rfl sd ?_ | refine awp_ret ⟨_, _, rfl, rfl, ?_⟩ | refine awp_ret ⟨_, rfl, ?_⟩ | ((refine awp_cond (ty := ty) rfl (fun hc => ?_) (fun hc => ?_)) <;> (try simp only [nms, reduceCtorEq] at hc) <;> (try (exfalso; omega))))) | ((with_reducible show AOps _ _ _ _ _ _); (first | refine aops_nil ?_ | refine aops_go ty_ok rfl rfl sd ?_ | refine aops_gate ty_ok rfl rfl rfl sd ?_ | refine aops_litE ty_ok rfl rfl rfl rfl rfl rfl rfl rfl rfl rfl rfl rfl ?_ | refine aops_cutE ty_ok rfl rfl rfl rfl rfl rfl rfl rfl rfl sd rfl ?_ | ((fail_if_success (refine aops_known rfl ?_)); (refine aops_split ty_ok rfl rfl rfl rfl rfl rfl (fun hc => ⟨?_, ?_⟩) (fun hc => ⟨?_, ?_⟩)) <;> (try simp only [nms, reduceCtorEq] at hc) <;> (try (exfalso; omega)) <;> (try exact sd)))) | ((fail_if_success (with_reducible show AWp _ _ _ _ _)); (fail_if_success (with_reducible show AOps _ _ _ _ _ _)); (first | (show AWp _ _ _ _ _) | (show AOps _ _ _ _ _ _))))
          refine ⟨⟨(k + 1, false, 0, ns ++ [n * 128 + x.toNat % 128]), hkl, hd, by simp, by simp; omega, hns', fun _ => rfl⟩, [(2, 0)], SubR.mk' rfl rfl ⟨⟨_, rfl, rfl⟩, ⟨_, rfl, congrArg (fun z : Bool => AV.d (Dat.bool z)) e2⟩, ⟨_, rfl, rfl⟩, ⟨_, rfl, rfl⟩, ⟨_, rfl, rfl⟩, ⟨_, rfl, rfl⟩, trivial⟩ ⟨⟨_, _, rfl, rfl, congrArg (AO.row none 79) hrow⟩, trivial⟩, by simp only; omega⟩
    · have hbad := bad hA
      cases b with
      | true =>
        have hbig : ¬ n * 128 + x.toNat % 128 ≤ 4294967295 := fun h => hA ⟨rfl, h⟩
        repeat' (first | ((with_reducible show AWp _ _ _ _ _); (first | refine awp_seq ?_ | refine awp_block ?_ | refine awp_skip ?_ | refine awp_exit ?_ | refine awp_scope ?_ | refine awp_label ?_ | refine awp_run ty_ok rfl sd ?_ | refine awp_ret ⟨_, _, rfl, rfl, ?_⟩ | refine awp_ret ⟨_, rfl, ?_⟩ | ((refine awp_cond (ty := ty) rfl (fun hc => ?_) (fun hc => ?_)) <;> (try simp only [nms, reduceCtorEq] at hc) <;> (try (exfalso; omega))))) | ((with_reducible show AOps _ _ _ _ _ _); (first | refine aops_nil ?_ | refine aops_go ty_ok rfl rfl sd ?_ | refine aops_gate ty_ok rfl rfl rfl sd ?_ | refine aops_litE ty_ok rfl rfl rfl rfl rfl rfl rfl rfl rfl rfl rfl rfl ?_ | refine aops_cutE ty_ok rfl rfl rfl rfl rfl rfl rfl rfl rfl sd rfl ?_ | ((fail_if_success (refine aops_known rfl ?_)); (refine aops_split ty_ok rfl rfl rfl rfl rfl rfl (fun hc => ⟨?_, ?_⟩) (fun hc => ⟨?_, ?_⟩)) <;> (try simp only [nms, reduceCtorEq] at hc) <;> (try (exfalso; omega)) <;> (try exact sd)))) | ((fail_if_success (with_reducible show AWp _ _ _ _ _)); (fail_if_success (with_reducible show AOps _ _ _ _ _ _)); (first | (show AWp _ _ _ _ _) | (show AOps _ _ _ _ _ _))))
        rw [hbad]
        rfl
      | false =>
        by_cases h8 : ((bys c).getD (k : Int).toNat default).num = 128
        · repeat' (first | ((with_reducible show AWp _ _ _ _ _); (first | refine awp_seq ?_ | refine awp_block ?_ | refine awp_skip ?_ | refine awp_exit ?_ | refine awp_scope ?_ | refine awp_label ?_ | refine awp_run ty_ok rfl sd ?_ | refine awp_ret ⟨_, _, rfl, rfl, ?_⟩ | refine awp_ret ⟨_, rfl, ?_⟩ | ((refine awp_cond (ty := ty) rfl (fun hc => ?_) (fun hc => ?_)) <;> (try simp only [nms, reduceCtorEq] at hc) <;> (try (exfalso; omega))))) | ((with_reducible show AOps _ _ _ _ _ _); (first | refine aops_nil ?_ | refine aops_go ty_ok rfl rfl sd ?_ | refine aops_gate ty_ok rfl rfl rfl sd ?_ | refine aops_litE ty_ok rfl rfl rfl rfl rfl rfl rfl rfl rfl rfl rfl rfl ?_ | refine aops_cutE ty_ok rfl rfl rfl rfl rfl rfl rfl rfl rfl sd rfl ?_ | ((fail_if_success (refine aops_known rfl ?_)); (refine aops_split ty_ok rfl rfl rfl rfl rfl rfl (fun hc => ⟨?_, ?_⟩) (fun hc => ⟨?_, ?_⟩)) <;> (try simp only [nms, reduceCtorEq] at hc) <;> (try (exfalso; omega)) <;> (try exact sd)))) | ((fail_if_success (with_reducible show AWp _ _ _ _ _)); (fail_if_success (with_reducible show AOps _ _ _ _ _ _)); (first | (show AWp _ _ _ _ _) | (show AOps _ _ _ _ _ _))))
          rw [hbad]
          rfl
        · have hbig : ¬ n * 128 + x.toNat % 128 ≤ 4294967295 := fun h => hA ⟨by
            have : ¬ x = 128 := fun e => h8 (hx128.1 e)
            simp [this], h⟩
          repeat' (first | ((with_reducible show AWp _ _ _ _ _); (first | refine awp_seq ?_ | refine awp_block ?_ | refine awp_skip ?_ | refine awp_exit ?_ | refine awp_scope ?_ | refine awp_label ?_ | refine awp_run ty_ok rfl sd ?_ | refine awp_ret ⟨_, _, rfl, rfl, ?_⟩ | refine awp_ret ⟨_, rfl, ?_⟩ | ((refine awp_cond (ty := ty) rfl (fun hc => ?_) (fun hc => ?_)) <;> (try simp only [nms, reduceCtorEq] at hc) <;> (try (exfalso; omega))))) | ((with_reducible show AOps _ _ _ _ _ _); (first | refine aops_nil ?_ | refine aops_go ty_ok rfl rfl sd ?_ | refine aops_gate ty_ok rfl rfl rfl sd ?_ | refine aops_litE ty_ok rfl rfl rfl rfl rfl rfl rfl rfl rfl rfl rfl rfl ?_ | refine aops_cutE ty_ok rfl rfl rfl rfl rfl rfl rfl rfl rfl sd rfl ?_ | ((fail_if_success (refine aops_known rfl ?_)); (refine aops_split ty_ok rfl rfl rfl rfl rfl rfl (fun hc => ⟨?_, ?_⟩) (fun hc => ⟨?_, ?_⟩)) <;> (try simp only [nms, reduceCtorEq] at hc) <;> (try (exfalso; omega)) <;> (try exact sd)))) | ((fail_if_success (with_reducible show AWp _ _ _ _ _)); (fail_if_success (with_reducible show AOps _ _ _ _ _ _)); (first | (show AWp _ _ _ _ _) | (show AOps _ _ _ _ _ _))))
          rw [hbad]
          rfl
  · have hke : k = c.length := by omega
    subst hke
    rw [List.drop_length] at hd
    cases b with
    | true =>
      have : decOD c = .tup [sD [], .int .i64 6] := by
        have : dec7 false 0 c = none := hd
        simp only [decOD, decS, this]
      repeat' (first | ((with_reducible show AWp _ _ _ _ _); (first | refine awp_seq ?_ | refine awp_block ?_ | refine awp_skip ?_ | refine awp_exit ?_ | refine awp_scope ?_ | refine awp_label ?_ | refine awp_run ty_ok rfl sd ?_ | refine awp_ret ⟨_, _, rfl, rfl, ?_⟩ | refine awp_ret ⟨_, rfl, ?_⟩ | ((refine awp_cond (ty := ty) rfl (fun hc => ?_) (fun hc => ?_)) <;> (try simp only [nms, reduceCtorEq] at hc) <;> (try (exfalso; omega))))) | ((with_reducible show AOps _ _ _ _ _ _); (first | refine aops_nil ?_ | refine aops_go ty_ok rfl rfl sd ?_ | refine aops_gate ty_ok rfl rfl rfl sd ?_ | refine aops_litE ty_ok rfl rfl rfl rfl rfl rfl rfl rfl rfl rfl rfl rfl ?_ | refine aops_cutE ty_ok rfl rfl rfl rfl rfl rfl rfl rfl rfl sd rfl ?_ | ((fail_if_success (refine aops_known rfl ?_)); (refine aops_split ty_ok rfl rfl rfl rfl rfl rfl (fun hc => ⟨?_, ?_⟩) (fun hc => ⟨?_, ?_⟩)) <;> (try simp only [nms, reduceCtorEq] at hc) <;> (try (exfalso; omega)) <;> (try exact sd)))) | ((fail_if_success (with_reducible show AWp _ _ _ _ _)); (fail_if_success (with_reducible show AOps _ _ _ _ _ _)); (first | (show AWp _ _ _ _ _) | (show AOps _ _ _ _ _ _))))
      rw [this]
      rfl
    | false =>
      have hd1 : dec7 false 0 c = some ns := by rw [hd]; simp [dec7]
      match ns, hd1, hns, hnl with
      | [], hd1, hns, hnl =>
        have : decOD c = .tup [sD [], .int .i64 6] := by simp only [decOD, decS, hd1]
        repeat' (first | ((with_reducible show AWp _ _ _ _ _); (first | refine awp_seq ?_ | refine awp_block ?_ | refine awp_skip ?_ | refine awp_exit ?_ | refine awp_scope ?_ | refine awp_label ?_ | refine awp_run ty_ok rfl sd ?_ | refine awp_ret ⟨_, _, rfl, rfl, ?_⟩ | refine awp_ret ⟨_, rfl, ?_⟩ | ((refine awp_cond (ty := ty) rfl (fun hc => ?_) (fun hc => ?_)) <;> (try simp only [nms, reduceCtorEq] at hc) <;> (try (exfalso; omega))))) | ((with_reducible show AOps _ _ _ _ _ _); (first | refine aops_nil ?_ | refine aops_go ty_ok rfl rfl sd ?_ | refine aops_gate ty_ok rfl rfl rfl sd ?_ | refine aops_litE ty_ok rfl rfl rfl rfl rfl rfl rfl rfl rfl rfl rfl rfl ?_ | refine aops_cutE ty_ok rfl rfl rfl rfl rfl rfl rfl rfl rfl sd rfl ?_ | ((fail_if_success (refine aops_known rfl ?_)); (refine aops_split ty_ok rfl rfl rfl rfl rfl rfl (fun hc => ⟨?_, ?_⟩) (fun hc => ⟨?_, ?_⟩)) <;> (try simp only [nms, reduceCtorEq] at hc) <;> (try (exfalso; omega)) <;> (try exact sd)))) | ((fail_if_success (with_reducible show AWp _ _ _ _ _)); (fail_if_success (with_reducible show AOps _ _ _ _ _ _)); (first | (show AWp _ _ _ _ _) | (show AOps _ _ _ _ _ _))))
        rw [this]
        rfl
      | m :: r, hd1, hns, hnl =>
        have hm := hns m (List.mem_cons_self ..)
        have hul : (u64s (m :: r)).length = r.length + 1 := by simp [u64s]
        have hx0 : ((u64s (m :: r)).getD (Int.toNat 0) default).num = m := rfl
        simp only [List.length_cons] at hnl
        have hq : IntKind.u64.wrap (((u64s (m :: r)).getD (Int.toNat 0) default).num.tdiv 40) = ((m / 40 : Nat) : Int) := by
          rw [hx0, Int.tdiv_eq_ediv_of_nonneg (by omega), IntKind.wrap_u64]
          omega
        have hroot : minI (IntKind.u64.wrap (((u64s (m :: r)).getD (Int.toNat 0) default).num.tdiv 40)) 2 = ((min (m / 40) 2 : Nat) : Int) := by
          rw [hq]
          unfold minI
          split <;> omega
        have hcut : cutL (u64s (m :: r)) (Int.toNat 1) (u64s (m :: r)).length = u64s r := by
          unfold cutL
          rw [List.take_length]
          rfl
        have hle := arcsOf_le m r hns
        have hri := arcsOf_right m r hm
        have htx := c_text (arcsOf m r) (by simp [arcsOf]; omega) hle
        rw [textD, hri] at htx
        have hres : decOD c = .tup [sD (textF (arcsOf m r)), .int .i64 0] := by simp only [decOD, decS, hd1]
        repeat' (first | ((with_reducible show AWp _ _ _ _ _); (first | refine awp_seq ?_ | refine awp_block ?_ | refine awp_skip ?_ | refine awp_exit ?_ | refine awp_scope ?_ | refine awp_label ?_ | refine awp_run ty_ok rfl sd ?_ | refine awp_ret ⟨_, _, rfl, rfl, ?_⟩ | refine awp_ret ⟨_, rfl, ?_⟩ | ((refine awp_cond (ty := ty) rfl (fun hc => ?_) (fun hc => ?_)) <;> (try simp only [nms, reduceCtorEq] at hc) <;> (try (exfalso; omega))))) | ((with_reducible show AOps _ _ _ _ _ _); (first | refine aops_nil ?_ | refine aops_go ty_ok rfl rfl sd ?_ | refine aops_gate ty_ok rfl rfl rfl sd ?_ | refine aops_litE ty_ok rfl rfl rfl rfl rfl rfl rfl rfl rfl rfl rfl rfl ?_ | refine aops_cutE ty_ok rfl rfl rfl rfl rfl rfl rfl rfl rfl sd rfl ?_ | ((fail_if_success (refine aops_known rfl ?_)); (refine aops_split ty_ok rfl rfl rfl rfl rfl rfl (fun hc => ⟨?_, ?_⟩) (fun hc => ⟨?_, ?_⟩)) <;> (try simp only [nms, reduceCtorEq] at hc) <;> (try (exfalso; omega)) <;> (try exact sd)))) | ((fail_if_success (with_reducible show AWp _ _ _ _ _)); (fail_if_success (with_reducible show AOps _ _ _ _ _ _)); (first | (show AWp _ _ _ _ _) | (show AOps _ _ _ _ _ _))))
        refine aops_freezeE [.ref 0] rfl ?_
        refine aops_asDat 66 rfl rfl rfl ?_
        repeat' (first | ((with_reducible show AWp _ _ _ _ _); (first | refine awp_seq ?_ | refine awp_block ?_ | refine awp_skip ?_ | refine awp_exit ?_ | refine awp_scope ?_ | refine awp_label ?_ | refine awp_run ty_ok rfl sd ?_ | refine awp_ret ⟨_, _, rfl, rfl, ?_⟩ | refine awp_ret ⟨_, rfl, ?_⟩ | ((refine awp_cond (ty := ty) rfl (fun hc => ?_) (fun hc => ?_)) <;> (try simp only [nms, reduceCtorEq] at hc) <;> (try (exfalso; omega))))) | ((with_reducible show AOps _ _ _ _ _ _); (first | refine aops_nil ?_ | refine aops_go ty_ok rfl rfl sd ?_ | refine aops_gate ty_ok rfl rfl rfl sd ?_ | refine aops_litE ty_ok rfl rfl rfl rfl rfl rfl rfl rfl rfl rfl rfl rfl ?_ | refine aops_cutE ty_ok rfl rfl rfl rfl rfl rfl rfl rfl rfl sd rfl ?_ | ((fail_if_success (refine aops_known rfl ?_)); (refine aops_split ty_ok rfl rfl rfl rfl rfl rfl (fun hc => ⟨?_, ?_⟩) (fun hc => ⟨?_, ?_⟩)) <;> (try simp only [nms, reduceCtorEq] at hc) <;> (try (exfalso; omega)) <;> (try exact sd)))) | ((fail_if_success (with_reducible show AWp _ _ _ _ _)); (fail_if_success (with_reducible show AOps _ _ _ _ _ _)); (first | (show AWp _ _ _ _ _) | (show AOps _ _ _ _ _ _))))
        refine awp_loopR (G := { j : Nat // j ≤ r.length }) (fun j => ⟨Tryz.f29.ntmps, [(10, .ref 0), (67, .d (.sl none (u64s r))), (68, .d (.int .i64 r.length)), (69, .d (.int .i64 j.1))], [(0, .row none 81 (u32s (arcsOf m (r.take j.1))))], 1⟩) (fun j => r.length - j.1) ⟨0, Nat.zero_le _⟩ [(1, 0)]
          (SubR.mk' rfl rfl ⟨⟨_, rfl, rfl⟩, ⟨_, rfl, congrArg (fun z => AV.d (Dat.sl none z)) hcut⟩, ⟨_, rfl, congrArg (fun z : Nat => AV.d (Dat.int IntKind.i64 z)) (by rw [hcut, u64s_len])⟩, ⟨_, rfl, rfl⟩, trivial⟩ ⟨⟨_, _, rfl, rfl, congrArg (AO.row none 81) (by
            rw [hroot, hx0]
            simp only [arcsOf, List.take_zero, u32s, List.map_cons, List.map_nil]
            rw [IntKind.wrap_u32, IntKind.wrap_u32, IntKind.wrap_u64, IntKind.wrap_u64]
            congr 2
            · omega
            · congr 2
              omega)⟩, trivial⟩) ?_
        rintro ⟨j, hj⟩
        dsimp only
        have hrl : (r.take j).length ≤ r.length := by rw [List.length_take]; omega
        have hal : (arcsOf m (r.take j)).length = (r.take j).length + 2 := rfl
        rcases Nat.lt_or_ge j r.length with hjl | hjl
        · have hnum := u64_at hjl
          have hrj := hns r[j] (by simp)
          repeat' (first | ((with_reducible show AWp _ _ _ _ _); (first | refine awp_seq ?_ | refine awp_block ?_ | refine awp_skip ?_ | refine awp_exit ?_ | refine awp_scope ?_ | refine awp_label ?_ | refine awp_run ty_ok rfl sd ?_ | refine awp_ret ⟨_, _, rfl, rfl, ?_⟩ | refine awp_ret ⟨_, rfl, ?_⟩ | ((refine awp_cond (ty := ty) rfl (fun hc => ?_) (fun hc => ?_)) <;> (try simp only [nms, reduceCtorEq] at hc) <;> (try (exfalso; omega))))) | ((with_reducible show AOps _ _ _ _ _ _); (first | refine aops_nil ?_ | refine aops_go ty_ok rfl rfl sd ?_ | refine aops_gate ty_ok rfl rfl rfl sd ?_ | refine aops_litE ty_ok rfl rfl rfl rfl rfl rfl rfl rfl rfl rfl rfl rfl ?_ | refine aops_cutE ty_ok rfl rfl rfl rfl rfl rfl rfl rfl rfl sd rfl ?_ | ((fail_if_success (refine aops_known rfl ?_)); (refine aops_split ty_ok rfl rfl rfl rfl rfl rfl (fun hc => ⟨?_, ?_⟩) (fun hc => ⟨?_, ?_⟩)) <;> (try simp only [nms, reduceCtorEq] at hc) <;> (try (exfalso; omega)) <;> (try exact sd)))) | ((fail_if_success (with_reducible show AWp _ _ _ _ _)); (fail_if_success (with_reducible show AOps _ _ _ _ _ _)); (first | (show AWp _ _ _ _ _) | (show AOps _ _ _ _ _ _))))
          refine ⟨⟨j + 1, hjl⟩, [(2, 0)], SubR.mk' rfl rfl ⟨⟨_, rfl, rfl⟩, ⟨_, rfl, rfl⟩, ⟨_, rfl, rfl⟩, ⟨_, rfl, rfl⟩, trivial⟩ ⟨⟨_, _, rfl, rfl, congrArg (AO.row none 81) ?_⟩, trivial⟩, by simp only; omega⟩
          rw [List.take_succ_eq_append_getElem hjl, hnum, wrap_u32 _ hrj, show arcsOf m (r.take j ++ [r[j]]) = arcsOf m (r.take j) ++ [r[j]] from rfl, u32s_app]
          rfl
        · have hje : j = r.length := by omega
          subst hje
          rw [List.take_length]
          repeat' (first | ((with_reducible show AWp _ _ _ _ _); (first | refine awp_seq ?_ | refine awp_block ?_ | refine awp_skip ?_ | refine awp_exit ?_ | refine awp_scope ?_ | refine awp_label ?_ | refine awp_run ty_ok rfl sd ?_ | refine awp_ret ⟨_, _, rfl, rfl, ?_⟩ | refine awp_ret ⟨_, rfl, ?_⟩ | ((refine awp_cond (ty := ty) rfl (fun hc => ?_) (fun hc => ?_)) <;> (try simp only [nms, reduceCtorEq] at hc) <;> (try (exfalso; omega))))) | ((with_reducible show AOps _ _ _ _ _ _); (first | refine aops_nil ?_ | refine aops_go ty_ok rfl rfl sd ?_ | refine aops_gate ty_ok rfl rfl rfl sd ?_ | refine aops_callE (ty := ty) rfl rfl rfl rfl rfl rfl rfl (htx) rfl ?_ | refine aops_litE ty_ok rfl rfl rfl rfl rfl rfl rfl rfl rfl rfl rfl rfl ?_ | refine aops_cutE ty_ok rfl rfl rfl rfl rfl rfl rfl rfl rfl sd rfl ?_ | ((fail_if_success (refine aops_known rfl ?_)); (refine aops_split ty_ok rfl rfl rfl rfl rfl rfl (fun hc => ⟨?_, ?_⟩) (fun hc => ⟨?_, ?_⟩)) <;> (try simp only [nms, reduceCtorEq] at hc) <;> (try (exfalso; omega)) <;> (try exact sd)))) | ((fail_if_success (with_reducible show AWp _ _ _ _ _)); (fail_if_success (with_reducible show AOps _ _ _ _ _ _)); (first | (show AWp _ _ _ _ _) | (show AOps _ _ _ _ _ _))))
          all_goals rw [hres]
end Go.Proofs.YtmciaonjkkelnaaGreatDoor

/- Lists of purposes: Parse. Walked by the abstract machine. -/
namespace Go.Proofs.YtmciaonjkkelnaaGreatDoor
open Go.Am
set_option linter.unusedSimpArgs false
set_option linter.unusedVariables false
-- withAmZ

/-- One purpose. -/
def usE (b : List UInt8) (e : El) : Ex (List UInt8) := match isB e.x 0 false 6 with
  | false => .bad 3 e.st
  | true => match decide ((decS (cut b e.bd e.en)).2 = 0) with
    | true => .ok (decS (cut b e.bd e.en)).1
    | false => .bad 6 e.bd
def usP (b : List UInt8) : Ex (List (List UInt8)) := match ptF b 0 16 with
  | .bad c o => .bad c o
  | .ok l => match mapX (usE b) l with
    | .bad c o => .bad c o
    | .ok [] => .bad 1 b.length
    | .ok (p :: r) => .ok (p :: r)
def usD : Ex (List (List UInt8)) → Res
  | .bad c o => .d (.tup [.sl none [], errD c o])
  | .ok l => .ownT none 9 (strs l) [errD 0 0]
theorem el_at {l : List El} {k : Nat} (h : k < l.length) : (els l).getD (k : Int).toNat default = elD l[k] := by
  rw [Int.toNat_natCast, List.getD_eq_getElem?_getD, els, List.getElem?_map, List.getElem?_eq_getElem h]
  rfl
theorem el_can {X : Dat} {e : El} (h : X = elD e) : X = .agg [.int .i64 (X.cell 0).num, .int .i64 (X.cell 1).num, .bool (X.cell 2).tru, .int .i64 (X.cell 3).num, .int .i64 (X.cell 4).num, .int .i64 (X.cell 5).num] := by
  rw [h]
  rfl
theorem c_odec_ok (b : List UInt8) {i j : Nat} (hj : j ≤ b.length) (hij : i ≤ j) (hl : b.length ≤ 10000000) (h : (decS (cut b i j)).2 = 0) : ACalls Tryz.prog envL 29 [.sl none (cutL (bys b) (i : Int).toNat (j : Int).toNat)] (fun r => r = .d (.tup [sD (decS (cut b i j)).1, .int .i64 0])) := by
  have h1 := c_odec (cut b i j) (by rw [cut_len _ _ _ hj]; omega)
  rw [decOD, h] at h1
  rw [cutL_bys]
  exact h1
theorem c_odec_bad (b : List UInt8) {i j : Nat} (hj : j ≤ b.length) (hij : i ≤ j) (hl : b.length ≤ 10000000) (h : ¬ (decS (cut b i j)).2 = 0) : ACalls Tryz.prog envL 29 [.sl none (cutL (bys b) (i : Int).toNat (j : Int).toNat)] (fun r => r = .d (.tup [sD [], .int .i64 6])) := by
  have h1 := c_odec (cut b i j) (by rw [cut_len _ _ _ hj]; omega)
  rcases decS_cases (cut b i j) with hd | ⟨s, _, _, hd, _⟩
  · rw [decOD, hd] at h1
    rw [cutL_bys]
    exact h1
  · rw [hd] at h
    exact absurd rfl h
theorem usE_ok {b : List UInt8} {e : El} {s : List UInt8} (h : usE b e = .ok s) : e.x = 6 ∧ oidV s = true ∧ encO s = cut b e.bd e.en := by
  unfold usE at h
  cases hi : isB e.x 0 false 6 with
  | false => rw [hi] at h; cases h
  | true =>
    rw [hi] at h
    simp only at h
    rcases decS_cases (cut b e.bd e.en) with hd | ⟨s', h1, h2, hd, _⟩
    · rw [hd] at h; cases h
    · rw [hd] at h
      cases h
      exact ⟨isB_oid.1 hi, h1, h2⟩
theorem usE_bad {b : List UInt8} {e : El} {c o : Nat} (h : usE b e = .bad c o) : 0 < c ∧ (o = e.st ∨ o = e.bd) := by
  unfold usE at h
  split at h
  · cases h; exact ⟨by omega, .inl rfl⟩
  · split at h
    · cases h
    · cases h; exact ⟨by omega, .inr rfl⟩
theorem mapX_bad {α β : Type} {f : α → Ex β} : ∀ {l : List α} {c o : Nat}, mapX f l = .bad c o → ∃ a ∈ l, f a = .bad c o
  | [], _, _, h => by cases h
  | a :: r, c, o, h => by
    rw [mapX] at h
    cases ha : f a with
    | bad c' o' =>
      rw [ha] at h
      cases h
      exact ⟨a, List.mem_cons_self .., ha⟩
    | ok x =>
      rw [ha] at h
      simp only at h
      cases hr : mapX f r with
      | bad c' o' =>
        rw [hr] at h
        cases h
        obtain ⟨y, hy, hf⟩ := mapX_bad hr
        exact ⟨y, List.mem_cons_of_mem _ hy, hf⟩
      | ok q => rw [hr] at h; cases h
theorem us_raw {b : List UInt8} {l : List (List UInt8)} (h : usP b = .ok l) : ∃ els, ptF b 0 16 = .ok els ∧ mapX (usE b) els = .ok l ∧ l ≠ [] := by
  unfold usP at h
  cases hp : ptF b 0 16 with
  | bad c o => rw [hp] at h; cases h
  | ok es =>
    rw [hp] at h
    simp only at h
    cases hm : mapX (usE b) es with
    | bad c o => rw [hm] at h; cases h
    | ok L =>
      rw [hm] at h
      match L, hm, h with
      | p :: r, hm, h =>
        cases h
        exact ⟨es, rfl, hm, by simp⟩
/-- What is parsed is valid, and its encoding are these bytes. -/
theorem us_ok3 {b : List UInt8} {l : List (List UInt8)} (h : usP b = .ok l) : usV l = true ∧ b = usF l ∧ (l.map objF).flatten.length ≤ 2147483647 := by
  obtain ⟨es, hp, hm, hne⟩ := us_raw h
  obtain ⟨x, ts, hx1, hx2, hx3, hg, hbe, hle⟩ := pt_ok hp
  have hx := isB_seq.1 hx1
  subst hx
  obtain ⟨hlen, hk⟩ := mapX_ok hm
  have hts : es.length = ts.length := by rw [hle, elsF_len]
  have key : ∀ k (h1 : k < l.length) (h2 : k < ts.length), ts[k] = ((6 : UInt8), encO l[k]) ∧ oidV l[k] = true := by
    intro k h1 h2
    have h3 : k < es.length := by omega
    obtain ⟨e, e1, e2, _, _, _, e3, _⟩ := pt_at (x := 48) (ts := ts) k h2
    have e4 : es[k] = e := by
      have h5 : es[k]? = some es[k] := List.getElem?_eq_getElem h3
      have h6 : es[k]? = some e := by rw [hle]; exact e1
      rw [h6] at h5
      simp only [Option.some.injEq] at h5
      exact h5.symm
    have h7 := hk k h3 h1
    rw [e4] at h7
    obtain ⟨a1, a2, a3⟩ := usE_ok h7
    rw [hbe, e3] at a3
    rw [e2] at a1
    exact ⟨Prod.ext a1 a3.symm, a2⟩
  have h1 : ts = l.map fun s => ((6 : UInt8), encO s) := by
    refine List.ext_getElem (by simp; omega) (fun k h1 h2 => ?_)
    rw [List.getElem_map]
    exact (key k (by omega) h1).1
  refine ⟨?_, ?_, by rw [objs_cat, ← h1]; exact hx3⟩
  · unfold usV
    rw [Bool.and_eq_true]
    refine ⟨by cases l with
      | nil => exact absurd rfl hne
      | cons p r => rfl, List.all_eq_true.2 fun s hs => ?_⟩
    obtain ⟨k, hk, rfl⟩ := List.getElem_of_mem hs
    exact (key k hk (by omega)).2
  · rw [usF, objs_cat, ← h1]
    exact hbe
theorem us_ok {b : List UInt8} {l : List (List UInt8)} (h : usP b = .ok l) : usV l = true ∧ b = usF l := ⟨(us_ok3 h).1, (us_ok3 h).2.1⟩
/-- An encoding is parsed as what it encodes. -/
theorem us_of {l : List (List UInt8)} (hv : usV l = true) (hl : (l.map objF).flatten.length ≤ 2147483647) : usP (usF l) = .ok l := by
  have hp := pt_of (b := usF l) (cls := 0) (num := 16) (x := 48) (ts := l.map fun s => ((6 : UInt8), encO s)) (by decide) (by decide) (by rw [← objs_cat]; exact hl) (goodO l hl) (by rw [usF, objs_cat])
  have hm : mapX (usE (usF l)) (elsF (hsz (catF (l.map fun s => ((6 : UInt8), encO s)))) (l.map fun s => ((6 : UInt8), encO s))) = .ok l := by
    refine mapX_of (by rw [elsF_len, List.length_map]) (fun k h h' => ?_)
    obtain ⟨e, e1, e2, _, _, _, e3, _⟩ := pt_at (x := 48) (ts := l.map fun s => ((6 : UInt8), encO s)) k (by simpa using h')
    have e4 := List.getElem?_eq_getElem h
    rw [e1] at e4
    simp only [Option.some.injEq] at e4
    rw [← e4]
    rw [List.getElem_map] at e2 e3
    rw [← objs_cat] at e3
    have e5 : cut (usF l) e.bd e.en = encO l[k] := e3
    have e6 := decS_encO (usV_all hv l[k] (List.getElem_mem h'))
    unfold usE
    rw [e2, e5, e6]
    simp only [show isB 6 0 false 6 = true from by decide, decide_true]
  unfold usP
  rw [hp]
  simp only
  rw [hm]
  cases l with
  | nil => cases hv
  | cons p r => rfl
theorem us_bad {b : List UInt8} {c o : Nat} (h : usP b = .bad c o) : 0 < c ∧ o ≤ b.length := by
  unfold usP at h
  cases hp : ptF b 0 16 with
  | bad c' o' =>
    rw [hp] at h
    cases h
    exact pt_bad hp
  | ok es =>
    rw [hp] at h
    simp only at h
    cases hm : mapX (usE b) es with
    | bad c' o' =>
      rw [hm] at h
      cases h
      obtain ⟨e, he, hf⟩ := mapX_bad hm
      have h2 := usE_bad hf
      obtain ⟨x, ts, _, _, _, _, hbe, hle⟩ := pt_ok hp
      obtain ⟨k, hk, rfl⟩ := List.getElem_of_mem he
      have hk2 : k < ts.length := by rwa [hle, elsF_len] at hk
      obtain ⟨e', e1, _, a1, a2, a3, _, _⟩ := pt_at (x := x) (ts := ts) k hk2
      have h5 : es[k]? = some es[k] := List.getElem?_eq_getElem hk
      have h6 : es[k]? = some e' := by rw [hle]; exact e1
      rw [h6] at h5
      simp only [Option.some.injEq] at h5
      rw [← hbe, h5] at a3
      rw [h5] at a1 a2
      omega
    | ok L =>
      rw [hm] at h
      match L, h with
      | [], h =>
        cases h
        exact ⟨by omega, by omega⟩
end Go.Proofs.YtmciaonjkkelnaaGreatDoor

/- Lists of extensions: what is parsed, what is marshalled, and how the two fit: plain. -/
namespace Go.Proofs.YtmciaonjkkelnaaGreatDoor
open Go.Am
set_option linter.unusedSimpArgs false
set_option linter.unusedVariables false

def xlV (l : List Ext) : Bool := !l.isEmpty && l.all exV && decide ((l.map (·.o)).Nodup)
def xlF (l : List Ext) : List UInt8 := putF 48 (l.map exF).flatten
def xlE (b : List UInt8) (e : El) : Ex Ext := match exP (cut b e.st e.en) with
  | .bad c o => .bad c (e.st + o)
  | .ok x => .ok x
def xlP (b : List UInt8) : Ex (List Ext) := match ptF b 0 16 with
  | .bad c o => .bad c o
  | .ok es => match mapX (xlE b) es with
    | .bad c o => .bad c o
    | .ok l => match xlV l with
      | true => .ok l
      | false => .bad 6 0
theorem catF_map (ts : List (UInt8 × List UInt8)) : catF ts = (ts.map fun t => putF t.1 t.2).flatten := by
  induction ts with
  | nil => rfl
  | cons t r ih => simp [catF, ih]
def exT (x : Ext) : UInt8 × List UInt8 := (48, catF (exB x))
theorem exs_cat (l : List Ext) : (l.map exF).flatten = catF (l.map exT) := by
  rw [catF_map, List.map_map]
  rfl
theorem xlV_all {l : List Ext} (h : xlV l = true) : ∀ x ∈ l, exV x = true := by
  unfold xlV at h
  rw [Bool.and_eq_true, Bool.and_eq_true] at h
  exact List.all_eq_true.1 h.1.2
theorem ex_in {l : List Ext} {x : Ext} (hx : x ∈ l) : (exF x).length ≤ (l.map exF).flatten.length := (List.sublist_flatten_of_mem (List.mem_map.2 ⟨x, hx, rfl⟩)).length_le
theorem exF_len (x : Ext) : (exF x).length = hsz (catF (exB x)) + (catF (exB x)).length := putF_len 48 (catF (exB x))
/-- What is parsed is valid, and its encoding are these bytes. -/
theorem xl_ok {b : List UInt8} {l : List Ext} (h : xlP b = .ok l) : xlV l = true ∧ b = xlF l ∧ (l.map exF).flatten.length ≤ 2147483647 := by
  unfold xlP at h
  cases hp : ptF b 0 16 with
  | bad c o => rw [hp] at h; cases h
  | ok es =>
    rw [hp] at h
    simp only at h
    cases hm : mapX (xlE b) es with
    | bad c o => rw [hm] at h; cases h
    | ok L =>
      rw [hm] at h
      simp only at h
      cases hv : xlV L with
      | false => rw [hv] at h; cases h
      | true =>
        rw [hv] at h
        cases h
        obtain ⟨ts, hb, E⟩ := seq_ok hp
        obtain ⟨hlen, hk⟩ := mapX_ok hm
        have hts := E.len
        have key : (l.map exF) = ts.map fun t => putF t.1 t.2 := by
          refine List.ext_getElem (by simp; omega) (fun k h1 h2 => ?_)
          rw [List.length_map] at h1 h2
          rw [List.getElem_map, List.getElem_map]
          have h3 := hk k (by omega) h1
          unfold xlE at h3
          cases hx : exP (cut b es[k].st es[k].en) with
          | bad c o => rw [hx] at h3; cases h3
          | ok x =>
            rw [hx] at h3
            simp only [Ex.ok.injEq] at h3
            rw [← h3, ← (ex_ok hx).2.1]
            exact E.whole k (by omega) h2
        have hf : (l.map exF).flatten = catF ts := by rw [key, ← catF_map]
        exact ⟨hv, by rw [xlF, hf]; exact hb, by rw [hf]; exact E.size⟩
/-- An encoding is parsed as what it encodes. -/
theorem xl_of {l : List Ext} (hv : xlV l = true) (hl : (l.map exF).flatten.length ≤ 2147483647) : xlP (xlF l) = .ok l := by
  have hg : ∀ t ∈ l.map exT, goodT t := by
    intro t ht
    obtain ⟨x, hx, rfl⟩ := List.mem_map.1 ht
    have h1 := ex_in hx
    have h2 := exF_len x
    refine ⟨by show (48 : UInt8).toNat % 32 ≠ 31; decide, ?_⟩
    show (catF (exB x)).length ≤ 2147483647
    omega
  obtain ⟨es, hp, E⟩ := seq_of (by rw [← exs_cat]; exact hl) hg
  have hb : xlF l = putF 48 (catF (l.map exT)) := by rw [xlF, exs_cat]
  rw [← hb] at hp E
  have hlen := E.len
  rw [List.length_map] at hlen
  have hm : mapX (xlE (xlF l)) es = .ok l := by
    refine mapX_of hlen.symm (fun k h h' => ?_)
    have h1 := E.whole k h (by simpa using h')
    rw [List.getElem_map] at h1
    have h2 : cut (xlF l) es[k].st es[k].en = exF l[k] := h1
    have hm := List.getElem_mem h'
    have h3 := ex_in hm
    have h4 := exF_len l[k]
    unfold xlE
    rw [h2, ex_of (xlV_all hv _ hm) (by omega)]
  unfold xlP
  rw [hp]
  simp only
  rw [hm]
  simp only
  rw [hv]
theorem xlE_bad {b : List UInt8} {e : El} (h1 : e.st ≤ e.bd ∧ e.bd ≤ e.en ∧ e.en ≤ b.length) {c o : Nat} (h : xlE b e = .bad c o) : 0 < c ∧ o ≤ b.length := by
  unfold xlE at h
  cases hx : exP (cut b e.st e.en) with
  | ok x => rw [hx] at h; cases h
  | bad c' o' =>
    rw [hx] at h
    cases h
    have := ex_bad hx
    rw [cut_len _ _ _ h1.2.2] at this
    omega
theorem xl_bad {b : List UInt8} {c o : Nat} (h : xlP b = .bad c o) : 0 < c ∧ o ≤ b.length := by
  unfold xlP at h
  cases hp : ptF b 0 16 with
  | bad c' o' =>
    rw [hp] at h
    cases h
    exact pt_bad hp
  | ok es =>
    rw [hp] at h
    simp only at h
    obtain ⟨ts, hb, E⟩ := seq_ok hp
    cases hm : mapX (xlE b) es with
    | bad c' o' =>
      rw [hm] at h
      cases h
      obtain ⟨e, he, hf⟩ := mapX_bad hm
      obtain ⟨k, hk, rfl⟩ := List.getElem_of_mem he
      exact xlE_bad (E.le k hk) hf
    | ok L =>
      rw [hm] at h
      simp only at h
      cases hv : xlV L with
      | true => rw [hv] at h; cases h
      | false =>
        rw [hv] at h
        cases h
        exact ⟨by omega, by omega⟩
theorem xl_inj {l m : List Ext} (hl : xlV l = true) (hm : xlV m = true) (hb : (xlF l).length ≤ 2147483647) (h : xlF l = xlF m) : l = m := by
  have h1 : (l.map exF).flatten.length ≤ 2147483647 := by rw [xlF, putF_len] at hb; omega
  have h2 : (m.map exF).flatten.length ≤ 2147483647 := by rw [h, xlF, putF_len] at hb; omega
  have h3 := xl_of hl h1
  rw [h, xl_of hm h2] at h3
  cases h3
  rfl
end Go.Proofs.YtmciaonjkkelnaaGreatDoor

/- Extensions: data, sizes, lists found, changed and shortened: plain. -/
namespace Go.Proofs.YtmciaonjkkelnaaGreatDoor
open Go.Am
set_option linter.unusedSimpArgs false
set_option linter.unusedVariables false

def xD (x : Ext) : Dat := .agg [sD x.o, .bool x.c, .sl none (bys x.v)]
def xsD (l : List Ext) : List Dat := l.map xD
def x0 : Ext := ⟨[], false, []⟩
theorem xs_len (l : List Ext) : (xsD l).length = l.length := by simp [xsD]
theorem xs_app (a b : List Ext) : xsD (a ++ b) = xsD a ++ xsD b := by simp [xsD]
theorem xs_at {l : List Ext} {k : Nat} (h : k < l.length) : (xsD l).getD (k : Int).toNat default = xD l[k] := by
  rw [Int.toNat_natCast, List.getD_eq_getElem?_getD, xsD, List.getElem?_map, List.getElem?_eq_getElem h]
  rfl
theorem x_can {X : Dat} {x : Ext} (h : X = xD x) : X = .agg [.str (X.cell 0).txt, .bool (X.cell 1).tru, .sl none (X.cell 2).els] := by
  rw [h]
  rfl
theorem exF_le (x : Ext) : (exF x).length ≤ 5 * x.o.length + x.v.length + 60 := by
  have h1 := encO_len x.o
  have h2 := exF_len x
  have h3 := hsz_le (catF (exB x))
  have h4 := putF_len 6 (encO x.o)
  have h5 := putF_len 4 x.v
  have h6 := hsz_le (encO x.o)
  have h7 := hsz_le x.v
  have h8 : (putF 1 [255]).length = 3 := by decide
  have h9 : (catF (exB x)).length ≤ (putF 6 (encO x.o)).length + 3 + (putF 4 x.v).length := by
    unfold exB
    cases x.c <;> simp [catF, h8] <;> omega
  omega
theorem exF_pos (x : Ext) : 0 < (exF x).length := by
  have h2 := exF_len x
  have h3 := hsz_ge (catF (exB x))
  omega
def fewX (x : Ext) : Bool := decide (x.o.length ≤ 200) && decide (x.v.length ≤ 1500)
theorem fewX_len {x : Ext} (h : fewX x = true) : x.o.length ≤ 200 ∧ x.v.length ≤ 1500 := by
  unfold fewX at h
  simpa using h
/-- The size of an extension whose encoding is short. -/
theorem ex_len {x : Ext} (hv : exV x = true) (hl : (exF x).length ≤ 16000) : x.o.length ≤ 200000 ∧ x.v.length ≤ 200000 := by
  have h2 := exF_len x
  have h4 := putF_len 6 (encO x.o)
  have h5 := putF_len 4 x.v
  have h9 : (putF 6 (encO x.o)).length + (putF 4 x.v).length ≤ (catF (exB x)).length := by
    unfold exB
    cases x.c <;> simp [catF] <;> omega
  have h10 : (encO x.o).length ≤ 16000 := by omega
  refine ⟨?_, by omega⟩
  have := decS_len (encO x.o)
  have h11 := decS_encO hv
  rw [h11] at this
  simp only at this
  omega
theorem ex_cat (x : Ext) (B : Nat) (h : 5 * x.o.length + x.v.length + 60 ≤ B) : (catF (exB x)).length ≤ B := by
  have h1 := exF_le x
  have h2 := exF_len x
  omega
/-- A list of extensions is small. -/
def sumX : List Ext → Nat
  | [] => 0
  | x :: r => x.o.length + x.v.length + sumX r
theorem sumX_app (a b : List Ext) : sumX (a ++ b) = sumX a + sumX b := by
  induction a with
  | nil => simp [sumX]
  | cons x r ih => simp [sumX, ih]; omega
def fewXs (l : List Ext) : Bool := decide (l.length ≤ 12) && decide (sumX (l.take 20) ≤ 3000)
theorem fewXs_len {l : List Ext} (h : fewXs l = true) : l.length ≤ 12 ∧ sumX l ≤ 3000 ∧ ∀ x ∈ l, x.o.length ≤ 3000 ∧ x.v.length ≤ 3000 := by
  unfold fewXs at h
  rw [Bool.and_eq_true, decide_eq_true_eq, decide_eq_true_eq] at h
  rw [List.take_of_length_le (by omega)] at h
  refine ⟨h.1, h.2, ?_⟩
  have key : ∀ l : List Ext, ∀ x ∈ l, x.o.length + x.v.length ≤ sumX l := by
    intro l
    induction l with
    | nil => intro x hx; cases hx
    | cons y r ih =>
      intro x hx
      rcases List.mem_cons.1 hx with rfl | hx
      · simp only [sumX]; omega
      · have := ih x hx
        simp only [sumX]; omega
  intro x hx
  have := key l x hx
  omega
theorem exs_le (l : List Ext) : (l.map exF).flatten.length ≤ 5 * sumX l + 60 * l.length := by
  induction l with
  | nil => simp [sumX]
  | cons x r ih =>
    have := exF_le x
    simp only [List.map_cons, List.flatten_cons, List.length_append, sumX, List.length_cons]
    omega
end Go.Proofs.YtmciaonjkkelnaaGreatDoor

/- A result that is a row of its own lies in new blocks only. No program. -/
namespace Go.Am
open Go.RowKit
set_option linter.unusedSimpArgs false
set_option linter.unusedVariables false

theorem flat_strs (l : List (List UInt8)) : FlatL (strs l) := by
  intro x hx y hy
  obtain ⟨b, _, rfl⟩ := List.mem_map.1 hx
  simp only [sD, Dat.cells, List.mem_singleton] at hy
  subst hy
  exact flat_str _
theorem own_out {w0 w : World} {pr : Nat → Bool} {ek : Option Nat} {e : TypeId} {xs : List Dat} {v : Value} (h : OwnRep w0 w pr ek e xs v) (hx : FlatL xs) : RepD w (fun b => decide (w0.heap.size ≤ b)) (.sl ek xs) v := by
  obtain ⟨vals, hown, hcr⟩ := h
  rcases hown.2 with ⟨hn, h0⟩ | ⟨g, cap, cur, hv, hb, hg, hnc, hcm, hcs, htake⟩
  · have : xs = [] := List.eq_nil_of_length_eq_zero h0
    subst this
    rw [hn]
    exact .nil ek
  · rw [hv]
    refine RepD.sl_mk rfl hnc hcm (fun _ => rfl) (fun x hx => ?_) (fun k x hk j y hj => ?_)
    · obtain ⟨k, hk⟩ := List.mem_iff_getElem?.1 hx
      exact (hcr k x hk).1
    · obtain ⟨hf, h2⟩ := hcr k x hk
      obtain ⟨u, hu, hr⟩ := h2 j y hj
      refine ⟨by simpa using hb, hf.one y (List.mem_of_getElem? hj), u, ?_, hx x (List.mem_of_getElem? hk) y (List.mem_of_getElem? hj) _ _ _ _ _ hr⟩
      have := hown.cells (g := g) (by rw [hv]; rfl) _ u hu
      rw [Addr.add_lit] at this
      simpa using this
theorem AFresh.of_ownT {P : Program} {Γ : Env} {f : FuncId} {args : List Dat} {ek : Option Nat} {e : TypeId} {xs rest : List Dat} (h : ACalls P Γ f args (fun r => r = .ownT ek e xs rest)) (hx : FlatL xs) (hr : ∀ x ∈ rest, FlatD x) : AFresh P Γ f args (fun y => y = .tup (.sl ek xs :: rest)) :=
  ⟨h.1, fun w pr vs h1 h2 h3 => (h.2 w pr vs h1 h2 h3).mono fun e w' ⟨v, r, a, b, c, d⟩ => by
    subst d
    obtain ⟨us, rfl, hs, ho, hq⟩ := c
    refine ⟨_, _, a, b, RepD.tup _ us (by simpa using hs) (fun j y hj => ?_), rfl⟩
    cases j with
    | zero =>
      simp only [List.getElem?_cons_zero, Option.some.injEq] at hj
      subst hj
      exact own_out ho hx
    | succ j =>
      simp only [List.getElem?_cons_succ] at hj
      exact hr y (List.mem_of_getElem? hj) _ _ _ _ _ (hq j y hj)⟩
section
variable {P : Program} {Γ : Env} {Q : Exit → St → Prop} {σ : St}
/-- A slot that names a frozen row holds a datum. -/
theorem aops_seen (t : Nat) {ops rest : List Oper} {i : Nat} {ek : Option Nat} {xs : List Dat} {sz nx : Nat} {tm : List (Nat × AV)} {ob : List (Nat × AO)} (h1 : σ.get t = some (.ref i)) (h2 : σ.obj i = some (.frz ek xs)) (hr : put' σ (some t) (.d (.sl ek xs)) = ⟨sz, tm, ob, nx⟩) (k : AOps P Γ ops Q rest ⟨sz, tm, ob, nx⟩) : AOps P Γ ops Q rest σ := fun C0 a C b e m => by
  rw [put'_eq] at hr
  refine k C0 a C b e ?_
  rw [← hr]
  refine ⟨m.defers, m.sz, m.nx, fun s x hs => ?_, m.ob, m.apart⟩
  simp only [St.get, St.put, look_cons] at hs
  split at hs
  · rename_i hst
    cases hs
    subst hst
    obtain ⟨ht, hrep⟩ := m.tm _ _ h1
    refine ⟨ht, ?_⟩
    have ho := m.ob _ _ h2
    cases hrep with
    | ref i hi v hv h1 =>
      rw [hv]
      exact .d ho.2
  · exact m.tm _ _ hs
theorem awp_seen (t : Nat) {c : Code} {i : Nat} {ek : Option Nat} {xs : List Dat} {sz nx : Nat} {tm : List (Nat × AV)} {ob : List (Nat × AO)} (h1 : σ.get t = some (.ref i)) (h2 : σ.obj i = some (.frz ek xs)) (hr : put' σ (some t) (.d (.sl ek xs)) = ⟨sz, tm, ob, nx⟩) (k : AWp P Γ c Q ⟨sz, tm, ob, nx⟩) : AWp P Γ c Q σ := fun C0 a C b e m => by
  rw [put'_eq] at hr
  refine k C0 a C b e ?_
  rw [← hr]
  refine ⟨m.defers, m.sz, m.nx, fun s x hs => ?_, m.ob, m.apart⟩
  simp only [St.get, St.put, look_cons] at hs
  split at hs
  · rename_i hst
    cases hs
    subst hst
    obtain ⟨ht, hrep⟩ := m.tm _ _ h1
    refine ⟨ht, ?_⟩
    have ho := m.ob _ _ h2
    cases hrep with
    | ref i hi v hv h1 =>
      rw [hv]
      exact .d ho.2
  · exact m.tm _ _ hs
end
end Go.Am

/- The abstract machine: maps that the walk itself has made: made, looked into, a new key put in. No program. -/
namespace Go.Am
open Go.RowKit
set_option linter.unusedSimpArgs false
set_option linter.unusedVariables false

def keyB : Dat → Dat → Option Bool
  | .int k a, .int k' b => match kindB k k' with
    | true => some (decide (a = b))
    | false => none
  | .str a, .str b => some (decide (a = b))
  | _, _ => none
def findM (k : Dat) : List (Dat × AV) → Option (Option AV)
  | [] => some none
  | (k', x) :: r => match keyB k k' with
    | some true => some (some x)
    | some false => findM k r
    | none => none
def keyT : TypeDesc → Dat → Bool
  | .string, .str _ => true
  | .int q, .int k _ => kindB k q
  | _, _ => false

theorem same_of {w : World} {pr : Nat → Bool} {d : TypeDesc} {k k' : Dat} {key key' : Value} {b : Bool} (hk : RepD w pr k key) (hk' : RepD w pr k' key') (ht : keyT d k = true) (h : keyB k k' = some b) : Instr.sameNow d key key' = some b := by
  unfold keyB at h
  split at h
  · split at h
    · rename_i hkk
      have := kindB_eq hkk
      subst this
      cases hk; cases hk'
      cases h
      unfold keyT at ht
      split at ht
      · rename_i he; cases he
      · simp only [Instr.sameNow, if_true]
        refine congrArg some ?_
        rw [Bool.eq_iff_iff, beq_iff_eq, decide_eq_true_eq]
      · cases ht
    · cases h
  · cases hk; cases hk'
    cases h
    unfold keyT at ht
    split at ht
    · simp only [Instr.sameNow]
      refine congrArg some ?_
      rw [Bool.eq_iff_iff, MapKept.bytes_beq, decide_eq_true_eq]
    · rename_i he; cases he
    · cases ht
  · cases h
theorem isKey_of {w : World} {pr : Nat → Bool} {d : TypeDesc} {k : Dat} {key : Value} (hk : RepD w pr k key) (ht : keyT d k = true) : MapKept.IsKey d key := by
  unfold keyT at ht
  split at ht
  · cases hk; exact True.intro
  · cases hk; exact kindB_eq ht
  · cases ht
theorem findM_sound {C : Ct} {d : TypeDesc} {k : Dat} {key : Value} (hk : RepD C.w C.pr k key) (ht : keyT d k = true) : ∀ {es : List (Dat × AV)} {en : List MapEntry} {i : Nat} {r : Option AV}, EntRep C es en → findM k es = some r →
    (r = none ∧ Instr.findNow d key en i = some none) ∨ ∃ x p v, r = some x ∧ Instr.findNow d key en i = some (some (p, v)) ∧ Rep C x v
  | [], en, i, r, hE, h => by
    have : en = [] := List.eq_nil_of_length_eq_zero hE.1
    subst this
    cases h
    exact .inl ⟨rfl, rfl⟩
  | (k', x) :: es, en, i, r, hE, h => by
    obtain ⟨e, he, hke, hxe⟩ := hE.2 0 k' x rfl
    match en, hE, he with
    | e' :: en, hE, he =>
      simp only [List.getElem?_cons_zero, Option.some.injEq] at he
      subst he
      unfold findM at h
      split at h
      · rename_i hb
        cases h
        exact .inr ⟨x, i, e'.val, rfl, by simp only [Instr.findNow, same_of hk hke ht hb], hxe⟩
      · rename_i hb
        have hE' : EntRep C es en := ⟨by have := hE.1; simpa using this, fun j k y hj => by simpa using hE.2 (j + 1) k y (by simpa using hj)⟩
        rcases findM_sound hk ht (i := i + 1) hE' h with ⟨h1, h2⟩ | ⟨y, p, v, h1, h2, h3⟩
        · exact .inl ⟨h1, by simp only [Instr.findNow, same_of hk hke ht hb]; exact h2⟩
        · exact .inr ⟨y, p, v, h1, by simp only [Instr.findNow, same_of hk hke ht hb]; exact h2, h3⟩
      · cases h

section
variable {P : Program} {Γ : Env} {Q : Exit → St → Prop} {σ : St} {ty : TypeId → Option TI}

/-- A new map. -/
theorem aops_mkmap {ops rest : List Oper} {o : Oper} {t : TypeId} {sz nx : Nat} {tm : List (Nat × AV)} {ob : List (Nat × AO)} (hw : wantedA ops σ o = some true) (hd : dstOk σ o.dst = true) (ho : o.op = .makeMap t none) (hr : addPut σ none (.map []) o.dst .ref = ⟨sz, tm, ob, nx⟩)
    (k : AOps P Γ ops Q rest ⟨sz, tm, ob, nx⟩) : AOps P Γ ops Q (o :: rest) σ :=
  aops_step hw fun C0 a C K R b e m hk => by
    rw [addPut_eq] at hr
    have hB := (b.evo e).B
    have hrun : (execOp a.eval o).run P C.w = .ok (.value (.map (some C.w.heap.size))) (C.w.alloc (.map #[] 0)) := by
      unfold execOp
      simp only [ho]
      exact run_value rfl
    have m' := m.new hB (.map #[] 0) (.map (some C.w.heap.size)) rfl (.map []) ⟨by simp [Ct.new], C.w.heap.size, #[], by simp [Ct.new], by simp [Ct.new], hB, heap_alloc_new C.w _, rfl, by simp⟩
    refine upon_value hrun (hk _ (C.new _ _ _) _ (m'.put (v := .map (some C.w.heap.size)) ?_ (dstOk_spec hd)) (e.trans (Ct.new_evo m.fresh hB _ _)) (by rw [hr]; exact k))
    exact .ref _ (by simp [Ct.new]) _ (by simp [Ct.new]) rfl

/-- What a look-up yields. -/
def lookR (zx : AV) : Bool → Option AV → AV
  | true, some x => .tup [x, .d (.bool true)]
  | true, none => .tup [zx, .d (.bool false)]
  | false, some x => x
  | false, none => zx
theorem rep_tup2 {C : Ct} {x y : AV} {v u : Value} (h : Rep C x v) (h' : Rep C y u) : Rep C (.tup [x, y]) (.tuple #[v, u]) :=
  .tup _ _ rfl fun j z hj => by
    match j, hj with
    | 0, hj => cases hj; exact h
    | 1, hj => cases hj; exact h'
theorem run_zero {t : TypeId} {j : TypeInfo} {z : Value} (hj : P.info? t = some j) (hz : j.zero = some z) (w : World) : (zeroValue t).run P w = .ok z w := by
  simp [zeroValue, typeInfo, hj, hz]
/-- A look-up in a map of the walk's own. -/
theorem aops_look (hT : TyOk P ty) {ops rest : List Oper} {o : Oper} {t kt et : TypeId} {x ix : Operand} {ok : Bool} {d : TypeDesc} {ei : TI} {zx : AV} {i : Nat} {es : List (Dat × AV)} {kd : Dat} {r : Option AV} {sz nx : Nat} {tm : List (Nat × AV)} {ob : List (Nat × AO)}
    (hw : wantedA ops σ o = some true) (hd : dstOk σ o.dst = true) (ho : o.op = .lookup t x ix ok) (ht : P.underlying t = some (.map kt et)) (hkt : P.underlying kt = some d) (he : ty et = some ei) (hzr : ∀ C, Rep C zx ei.zero)
    (hx : σ.ev ty t x = some (.ref i)) (hob : σ.obj i = some (.map es)) (hix : σ.ev ty kt ix = some (.d kd)) (hkd : keyT d kd = true) (hf : findM kd es = some r) (hr : put' σ o.dst (lookR zx ok r) = ⟨sz, tm, ob, nx⟩)
    (k : AOps P Γ ops Q rest ⟨sz, tm, ob, nx⟩) : AOps P Γ ops Q (o :: rest) σ :=
  aops_step hw fun C0 a C K R b e m hk => by
    rw [put'_eq] at hr
    obtain ⟨_, g, en, hρ, hp, hB, hg, hE⟩ := m.ob i _ hob
    have hm : a.eval x = .map (some g) := by
      have h := ev_sound m hx
      generalize a.eval x = v at h
      cases h with
      | ref i hi v hv h1 => rw [hv, hρ]
    have hkey := ev_sound m hix
    obtain ⟨key, hke⟩ : ∃ key, a.eval ix = key := ⟨_, rfl⟩
    rw [hke] at hkey
    have hkr : RepD C.w C.pr kd key := by cases hkey with | d h => exact h
    have hik := isKey_of hkr hkd
    obtain ⟨j, hj, _, _, hjz⟩ := hT.info _ _ he
    have hchk := fun e n => MapKept.run_checkKey (P := P) (w := C.w) hkt hik e n
    have fin : ∀ v, (Instr.lookup t (.map (some g)) key ok).run P C.w = .ok v C.w → Rep C (lookR zx ok r) v → o.wp P a C.w K R := by
      intro v hv hrep
      have hrun : (execOp a.eval o).run P C.w = .ok (.value v) C.w := by
        unfold execOp
        simp only [ho, hm, hke]
        exact run_value hv
      refine upon_value hrun (hk _ C _ (m.put hrep (dstOk_spec hd)) e (by rw [hr]; exact k))
    rcases findM_sound hkr hkd (i := 0) hE hf with ⟨h1, h2⟩ | ⟨y, p, v, h1, h2, h3⟩
    · subst h1
      have hfk := MapKept.run_findKey (P := P) (w := C.w) hkt h2
      refine fin (if ok then .tuple #[ei.zero, .bool false] else ei.zero) (by simp [Instr.lookup, run_underlying ht, MapKept.run_getObj_map hg, hchk, hfk, run_zero hj hjz, Result.andThen]) ?_
      cases ok with
      | true => exact rep_tup2 (hzr C) (.d (.bool false))
      | false => exact hzr C
    · subst h1
      have hfk := MapKept.run_findKey (P := P) (w := C.w) hkt h2
      refine fin (if ok then .tuple #[v, .bool true] else v) (by simp [Instr.lookup, run_underlying ht, MapKept.run_getObj_map hg, hchk, hfk, Result.andThen]) ?_
      cases ok with
      | true => exact rep_tup2 h3 (.d (.bool true))
      | false => exact h3

/-- One block of the walk's own has turned. -/
theorem turnW_evo {C : Ct} {g : Nat} {w' : World} (hp : C.pr g = false) (hB : C.B ≤ g) (h1 : w'.os = C.w.os) (h2 : w'.tape = C.w.tape) (h3 : w'.output = C.w.output) (h4 : w'.heap.size = C.w.heap.size) (h5 : ∀ b, b ≠ g → w'.heap[b]? = C.w.heap[b]?) : Evo C (C.turn w') :=
  ⟨h1, h2, h3, by simp [Ct.turn, h4], fun b _ hb => ⟨h5 b (fun h => by subst h; rw [hp] at hb; cases hb), hb⟩, fun _ h => h, fun _ _ => rfl, rfl, fun b hb => h5 b (by omega), fun _ _ => rfl⟩
theorem Models.turnW {a : Act} {C : Ct} (m : Models σ a C) {i g : Nat} {o o' : AO} {w' : World} (ho : σ.obj i = some o) (he : o.excl = true) (hg : blk (C.ρ i) = some g) (he' : o'.excl = true)
    (ev : Evo C (C.turn w')) (h5 : ∀ b, b ≠ g → w'.heap[b]? = C.w.heap[b]?) (hn : ORep (C.turn w') i o') : Models (σ.setO i o') a (C.turn w') := by
  refine ⟨m.defers, m.sz, m.nx, fun t x ht => ⟨(m.tm t x ht).1, (m.tm t x ht).2.mono ev⟩, fun j oj hj => ?_, fun j k oj ok g' hj hk hej hek hgj hgk => ?_⟩
  · rw [St.obj, St.setO, look_cons] at hj
    split at hj
    · rename_i e
      subst e
      cases hj
      exact hn
    · rename_i hne
      refine (m.ob j oj hj).mono ev (fun hej g' hg' => ⟨h5 g' (fun h => ?_), ((m.ob j oj hj).excl hej hg').2.1⟩)
      subst h
      exact hne (m.apart i j o oj g' ho hj he hej hg hg')
  · rw [St.obj, St.setO, look_cons] at hj hk
    have e1 : ∀ t, (C.turn w').ρ t = C.ρ t := fun _ => rfl
    rw [e1] at hgj hgk
    split at hj
    · rename_i e
      subst e
      split at hk
      · rename_i e; exact e
      · exact m.apart i k o ok g' ho hk he hek hgj hgk
    · split at hk
      · rename_i e
        subst e
        exact m.apart j i oj o g' hj ho hej he hgj hgk
      · exact m.apart j k oj ok g' hj hk hej hek hgj hgk

/-- A new key is put in. -/
theorem aops_mput {ops rest : List Oper} {o : Oper} {t kt et : TypeId} {x ix vx : Operand} {d : TypeDesc} {i : Nat} {es : List (Dat × AV)} {kd : Dat} {y : AV} {sz nx : Nat} {tm : List (Nat × AV)} {ob : List (Nat × AO)}
    (hw : wantedA ops σ o = some true) (hd : o.dst = none) (ho : o.op = .mapUpdate t x ix vx) (ht : P.underlying t = some (.map kt et)) (hkt : P.underlying kt = some d)
    (hx : σ.ev ty t x = some (.ref i)) (hob : σ.obj i = some (.map es)) (hix : σ.ev ty kt ix = some (.d kd)) (hkd : keyT d kd = true) (hf : findM kd es = some none) (hv : σ.ev ty et vx = some y) (hr : setO' σ i (.map (es ++ [(kd, y)])) = ⟨sz, tm, ob, nx⟩)
    (k : AOps P Γ ops Q rest ⟨sz, tm, ob, nx⟩) : AOps P Γ ops Q (o :: rest) σ :=
  aops_step hw fun C0 a C K R b e m hk => by
    rw [setO'_eq] at hr
    obtain ⟨hi, g, en, hρ, hp, hB, hg, hE⟩ := m.ob i _ hob
    have hm : a.eval x = .map (some g) := by
      have h := ev_sound m hx
      generalize a.eval x = v at h
      cases h with
      | ref i hi v hv h1 => rw [hv, hρ]
    have hkey := ev_sound m hix
    have hval := ev_sound m hv
    obtain ⟨key, hke⟩ : ∃ key, a.eval ix = key := ⟨_, rfl⟩
    rw [hke] at hkey
    have hkr : RepD C.w C.pr kd key := by cases hkey with | d h => exact h
    have hik := isKey_of hkr hkd
    have hchk := fun e n => MapKept.run_checkKey (P := P) (w := C.w) hkt hik e n
    rcases findM_sound hkr hkd (i := 0) hE hf with ⟨_, h2⟩ | ⟨y, p, v, h1, _, _⟩
    · have hfk := MapKept.run_findKey (P := P) (w := C.w) hkt h2
      let w' : World := { C.w with heap := C.w.heap.setIfInBounds g (.map (en.push ⟨key, a.eval vx, en.size⟩) (en.size + 1)) }
      have hrun : (execOp a.eval o).run P C.w = .ok .skip w' := by
        unfold execOp
        simp only [ho, hm, hke]
        simp [Instr.mapUpdate, run_underlying ht, MapKept.run_getObj_map hg, hchk, hfk, MapKept.run_setObj_map _ hg, Result.andThen, w']
      obtain ⟨s1, s2⟩ := MapKept.heap_set (o' := .map (en.push ⟨key, a.eval vx, en.size⟩) (en.size + 1)) hg
      have ev : Evo C (C.turn w') := turnW_evo hp hB rfl rfl rfl (by simp [w']) s2
      have hbl : blk (C.ρ i) = some g := by rw [hρ]; rfl
      have m' := m.turnW (o' := .map (es ++ [(kd, y)])) hob rfl hbl rfl ev s2 (by
        refine ⟨hi, g, en.push ⟨key, a.eval vx, en.size⟩, hρ, hp, hB, by rw [Array.size_push]; exact s1, ?_⟩
        refine ⟨by simp [hE.1], fun j k' x' hj => ?_⟩
        rw [List.getElem?_append] at hj
        split at hj
        · obtain ⟨q, q1, q2, q3⟩ := hE.2 j k' x' hj
          refine ⟨q, ?_, q2.mono ev.kept, q3.mono ev⟩
          rw [Array.toList_push, List.getElem?_append_left (List.getElem?_eq_some_iff.1 q1).1]
          exact q1
        · rename_i hge
          have hlt := (List.getElem?_eq_some_iff.1 hj).1
          have hz : j - es.length = 0 := by simpa using hlt
          rw [hz] at hj
          cases hj
          have hjl : j = en.toList.length := by rw [hE.1]; omega
          refine ⟨⟨key, a.eval vx, en.size⟩, by rw [Array.toList_push, hjl]; simp, hkr.mono ev.kept, hval.mono ev⟩)
      refine upon_skip hrun ?_
      rw [hd]
      exact hk a (C.turn w') _ m' (e.trans ev) (by rw [hr]; exact k)
    · cases h1
/-- A field of a struct that lies in a slot. -/
def fieldVal (fi : TI) (off : Nat) : AV → Option AV
  | .d (.agg cs) => match fi.agg with
    | false => match cs[off]? with
      | some y => some (.d y)
      | none => none
    | true => match Nat.ble (off + fi.size) cs.length with
      | true => some (.d (.agg ((cs.drop off).take fi.size)))
      | false => none
  | .agg cs => match fi.agg with
    | false => cs[off]?
    | true => match Nat.ble (off + fi.size) cs.length with
      | true => some (.agg ((cs.drop off).take fi.size))
      | false => none
  | _ => none
theorem cut_cells {α : Type} {cs : List α} {vs : Array Value} {off n j : Nat} {y : α} (hl : vs.size = cs.length) (hle : off + n ≤ cs.length) (hj : ((cs.drop off).take n)[j]? = some y) : cs[off + j]? = some y ∧ (vs.extract off (off + n)).getD j undef = vs.getD (off + j) undef := by
  have hlt := (List.getElem?_eq_some_iff.1 hj).1
  rw [List.length_take, List.length_drop] at hlt
  have hjn : j < n := by omega
  rw [List.getElem?_take, if_pos hjn, List.getElem?_drop] at hj
  refine ⟨hj, ?_⟩
  have h2 : off + j < vs.size := by omega
  simp [h2, show j < min (off + n) vs.size - off by omega]
theorem fieldVal_sound (hT : TyOk P ty) {t : TypeId} {fi : TI} (ht : ty t = some fi) {off : Nat} {y z : AV} (h : fieldVal fi off y = some z) {C : Ct} {v : Value} (hv : Rep C y v) : ∃ vs u, v = .agg vs ∧ (part t vs off).run P C.w = .ok u C.w ∧ Rep C z u := by
  have hagg := hT.run_agg ht C.w
  have hsize := hT.run_size ht C.w
  unfold fieldVal at h
  split at h
  · cases hv with
    | d h' =>
      cases h' with
      | agg cs vs hl h1 hr =>
        split at h
        · rename_i ha
          split at h
          · rename_i y hy
            cases h
            have hlt : off < vs.size := by rw [hl]; exact (List.getElem?_eq_some_iff.1 hy).1
            refine ⟨vs, vs.getD off undef, rfl, ?_, .d (hr off _ hy)⟩
            unfold part
            simp only [Sem.run_bind, hagg, ha, Result.andThen_ok]
            simp [hlt]
          · cases h
        · rename_i ha
          split at h
          · rename_i hb
            cases h
            have hle := Nat.le_of_ble_eq_true hb
            refine ⟨vs, .agg (vs.extract off (off + fi.size)), rfl, ?_, .d (.agg _ _ (by simp; omega) (fun y hy => h1 y (List.mem_of_mem_drop (List.mem_of_mem_take hy))) (fun j y hj => ?_))⟩
            · unfold part
              simp only [Sem.run_bind, hagg, ha, Result.andThen_ok, if_true, hsize, Sem.run_pure]
            · obtain ⟨e1, e2⟩ := cut_cells hl hle hj
              rw [e2]
              exact hr _ _ e1
          · cases h
  · cases hv with
    | agg cs vs hl h1 hr =>
      split at h
      · rename_i ha
        have hlt : off < vs.size := by rw [hl]; exact (List.getElem?_eq_some_iff.1 h).1
        refine ⟨vs, vs.getD off undef, rfl, ?_, hr off _ h⟩
        unfold part
        simp only [Sem.run_bind, hagg, ha, Result.andThen_ok]
        simp [hlt]
      · rename_i ha
        split at h
        · rename_i hb
          cases h
          have hle := Nat.le_of_ble_eq_true hb
          refine ⟨vs, .agg (vs.extract off (off + fi.size)), rfl, ?_, .agg _ _ (by simp; omega) (fun y hy => h1 y (List.mem_of_mem_drop (List.mem_of_mem_take hy))) (fun j y hj => ?_)⟩
          · unfold part
            simp only [Sem.run_bind, hagg, ha, Result.andThen_ok, if_true, hsize, Sem.run_pure]
          · obtain ⟨e1, e2⟩ := cut_cells hl hle hj
            rw [e2]
            exact hr _ _ e1
        · cases h
  · cases h
theorem aops_field (hT : TyOk P ty) {ops rest : List Oper} {o : Oper} {xt : TypeId} {x : Operand} {f : Nat} {si fi : TI} {fields : Array Field} {fd : Field} {y z : AV} {sz nx : Nat} {tm : List (Nat × AV)} {ob : List (Nat × AO)} (hw : wantedA ops σ o = some true) (hd : dstOk σ o.dst = true) (ho : o.op = .field xt x f)
    (hs : ty xt = some si) (hsd : si.desc = .struct fields) (hf : fields[f]? = some fd) (hfi : ty fd.type = some fi) (hx : σ.ev ty xt x = some y) (hv : fieldVal fi fd.offset y = some z) (hr : put' σ o.dst z = ⟨sz, tm, ob, nx⟩) (k : AOps P Γ ops Q rest ⟨sz, tm, ob, nx⟩) : AOps P Γ ops Q (o :: rest) σ :=
  aops_step hw fun C0 a C K R b e m hk => by
    rw [put'_eq] at hr
    obtain ⟨vs, u, hav, hpart, hrep⟩ := fieldVal_sound hT hfi hv (ev_sound m hx)
    have hu := hT.und _ _ hs
    rw [hsd] at hu
    have hrun : (execOp a.eval o).run P C.w = .ok (.value u) C.w := by
      unfold execOp
      simp only [ho]
      refine run_value ?_
      unfold Instr.field
      simp only [Sem.run_bind, run_underlying hu, Result.andThen_ok, hf, hav, asAgg, Sem.run_pure, hpart]
    exact upon_value hrun (hk _ C _ (m.put hrep (dstOk_spec hd)) e (by rw [hr]; exact k))
/-- A side proof; a fact of the context may be the same up to computing. -/
theorem sdm {q : Prop} (h : q := by first | (simp only [and_true, true_and]; done) | (simp only [and_true, true_and, szs, cns]; omega) | omega | ((repeat' (first | exact True.intro | apply And.intro)) <;> first | omega | (simp only [List.getElem_toArray, List.getElem_cons_zero, List.getElem_cons_succ, szs, cns]; omega) | assumption | (simp only [szs, cns]; omega))) : q := h
/-- A row that is handed over may be looked at as a datum. -/
theorem own_datum {w0 w : World} {pr : Nat → Bool} {ek : Option Nat} {e : TypeId} {xs : List Dat} {v : Value} (h : OwnRep w0 w pr ek e xs v) : RepD w (fun b => pr b || decide (w0.heap.size ≤ b)) (.sl ek xs) v := by
  obtain ⟨vals, hown, hcr⟩ := h
  rcases hown.2 with ⟨hn, h0⟩ | ⟨g, cap, cur, hv, hb, hg, hnc, hcm, hcs, htake⟩
  · have : xs = [] := List.eq_nil_of_length_eq_zero h0
    subst this
    rw [hn]
    exact .nil ek
  · rw [hv]
    refine RepD.sl_mk rfl hnc hcm (fun _ => rfl) (fun x hx => ?_) (fun k x hk j y hj => ?_)
    · obtain ⟨k, hk⟩ := List.mem_iff_getElem?.1 hx
      exact (hcr k x hk).1
    · obtain ⟨hf, h2⟩ := hcr k x hk
      obtain ⟨u, hu, hr⟩ := h2 j y hj
      refine ⟨by simp only [Bool.or_eq_true, decide_eq_true_eq]; exact .inr hb, hf.one y (List.mem_of_getElem? hj), u, ?_, hr.mono fun b _ hb => ⟨rfl, by simp only [Bool.and_eq_true] at hb; exact hb.1⟩⟩
      have := hown.cells (g := g) (by rw [hv]; rfl) _ u hu
      rw [Addr.add_lit] at this
      simpa using this
theorem ACalls.own_d {f : FuncId} {args : List Dat} {ek : Option Nat} {e : TypeId} {xs : List Dat} (h : ACalls P Γ f args (fun r => r = .own ek e xs)) : ACalls P Γ f args (fun r => r = .d (.sl ek xs)) :=
  ⟨h.1, fun w pr vs h1 h2 h3 => (h.2 w pr vs h1 h2 h3).mono fun e w' ⟨v, r, a, b, c, d⟩ => by
    subst d
    exact ⟨v, .d (.sl ek xs), a, b, own_datum c, rfl⟩⟩
theorem ACalls.ownT_d {f : FuncId} {args : List Dat} {ek : Option Nat} {e : TypeId} {xs rest : List Dat} (h : ACalls P Γ f args (fun r => r = .ownT ek e xs rest)) : ACalls P Γ f args (fun r => r = .d (.tup (.sl ek xs :: rest))) :=
  ⟨h.1, fun w pr vs h1 h2 h3 => (h.2 w pr vs h1 h2 h3).mono fun e w' ⟨v, r, a, b, c, d⟩ => by
    subst d
    obtain ⟨us, rfl, hs, ho, hq⟩ := c
    refine ⟨_, .d (.tup (.sl ek xs :: rest)), a, b, RepD.tup _ us (by simpa using hs) (fun j y hj => ?_), rfl⟩
    cases j with
    | zero =>
      simp only [List.getElem?_cons_zero, Option.some.injEq] at hj
      subst hj
      exact own_datum ho
    | succ j =>
      simp only [List.getElem?_cons_succ] at hj
      exact (hq j y hj).mono fun b _ hb => ⟨rfl, by simp only [Bool.and_eq_true] at hb; exact hb.1⟩⟩
/-- A callee that is walked in place falls off its end. -/
theorem back_nil {fn : Func} {K : List (Nat × AO) → Nat → AV → Prop} {ys : List AV} (h : resultA ty σ fn.results.toList = some ys) (k : K σ.ob σ.nx (packA ys)) : BackOk ty fn K .normal σ := ⟨ys, h, k⟩
end
end Go.Am

/- Extensions: booleans, Valid, Marshal and Parse. Walked by the abstract machine. -/
namespace Go.Proofs.YtmciaonjkkelnaaGreatDoor
open Go.Am
set_option linter.unusedSimpArgs false
set_option linter.unusedVariables false
-- withAmZ withAmMp

def booF (c : List UInt8) : Bool × Int := if c = [255] then (true, 0) else if c = [0] then (false, 0) else (false, 6)
theorem isBoolean : IsFn Tryz.prog 30 Tryz.f30 := ⟨Tryz.func30, by decide, rfl⟩
theorem c_boolean (Γ : Env) (c : List UInt8) : ACalls Tryz.prog Γ 30 [.sl none (bys c)] (fun r => r = .d (.tup [.bool (booF c).1, .int .i64 (booF c).2])) := by
  refine acalls_of ty_ok isBoolean rfl rfl ?_
  match c with
  | [] =>
    repeat' (first | ((with_reducible show AWp _ _ _ _ _); (first | refine awp_seq ?_ | refine awp_block ?_ | refine awp_skip ?_ | refine awp_exit ?_ | refine awp_scope ?_ | refine awp_label ?_ | refine awp_run ty_ok rfl sdm ?_ | refine awp_ret ⟨_, _, rfl, rfl, ?_⟩ | refine awp_ret ⟨_, rfl, ?_⟩ | ((refine awp_cond (ty := ty) rfl (fun hc => ?_) (fun hc => ?_)) <;> (try simp only [nms, reduceCtorEq] at hc) <;> (try (exfalso; omega))))) | ((with_reducible show AOps _ _ _ _ _ _); (first | refine aops_nil ?_ | refine aops_go ty_ok rfl rfl sdm ?_ | refine aops_gate ty_ok rfl rfl rfl sdm ?_ | refine aops_litE ty_ok rfl rfl rfl rfl rfl rfl rfl rfl rfl rfl rfl rfl ?_ | refine aops_litA ty_ok rfl rfl rfl rfl rfl rfl rfl rfl rfl rfl rfl rfl rfl rfl rfl rfl ?_ | refine aops_buildArr ty_ok rfl rfl rfl rfl rfl rfl rfl rfl rfl rfl ?_ | refine aops_indexArr ty_ok rfl rfl rfl rfl rfl rfl rfl rfl rfl rfl sdm ?_ | refine aops_field ty_ok rfl rfl rfl rfl rfl rfl rfl rfl rfl rfl ?_ | refine aops_cutE ty_ok rfl rfl rfl rfl rfl rfl rfl rfl rfl sdm rfl ?_ | ((fail_if_success (refine aops_known rfl ?_)); (refine aops_split ty_ok rfl rfl rfl rfl rfl rfl (fun hc => ⟨?_, ?_⟩) (fun hc => ⟨?_, ?_⟩)) <;> (try simp only [nms, reduceCtorEq] at hc) <;> (try (exfalso; omega)) <;> (try exact sdm)))) | ((fail_if_success (with_reducible show AWp _ _ _ _ _)); (fail_if_success (with_reducible show AOps _ _ _ _ _ _)); (first | (show AWp _ _ _ _ _) | (show AOps _ _ _ _ _ _))))
    rfl
  | [x] =>
    have h0 : ((bys [x]).getD (Int.toNat 0) default).num = (x.toNat : Int) := rfl
    have hx := u8_lt x
    by_cases h1 : x = 255
    · have h2 : x.toNat = 255 := by rw [h1]; rfl
      repeat' (first | ((with_reducible show AWp _ _ _ _ _); (first | refine awp_seq ?_ | refine awp_block ?_ | refine awp_skip ?_ | refine awp_exit ?_ | refine awp_scope ?_ | refine awp_label ?_ | refine awp_run ty_ok rfl sdm ?_ | refine awp_ret ⟨_, _, rfl, rfl, ?_⟩ | refine awp_ret ⟨_, rfl, ?_⟩ | ((refine awp_cond (ty := ty) rfl (fun hc => ?_) (fun hc => ?_)) <;> (try simp only [nms, reduceCtorEq] at hc) <;> (try (exfalso; omega))))) | ((with_reducible show AOps _ _ _ _ _ _); (first | refine aops_nil ?_ | refine aops_go ty_ok rfl rfl sdm ?_ | refine aops_gate ty_ok rfl rfl rfl sdm ?_ | refine aops_litE ty_ok rfl rfl rfl rfl rfl rfl rfl rfl rfl rfl rfl rfl ?_ | refine aops_litA ty_ok rfl rfl rfl rfl rfl rfl rfl rfl rfl rfl rfl rfl rfl rfl rfl rfl ?_ | refine aops_buildArr ty_ok rfl rfl rfl rfl rfl rfl rfl rfl rfl rfl ?_ | refine aops_indexArr ty_ok rfl rfl rfl rfl rfl rfl rfl rfl rfl rfl sdm ?_ | refine aops_field ty_ok rfl rfl rfl rfl rfl rfl rfl rfl rfl rfl ?_ | refine aops_cutE ty_ok rfl rfl rfl rfl rfl rfl rfl rfl rfl sdm rfl ?_ | ((fail_if_success (refine aops_known rfl ?_)); (refine aops_split ty_ok rfl rfl rfl rfl rfl rfl (fun hc => ⟨?_, ?_⟩) (fun hc => ⟨?_, ?_⟩)) <;> (try simp only [nms, reduceCtorEq] at hc) <;> (try (exfalso; omega)) <;> (try exact sdm)))) | ((fail_if_success (with_reducible show AWp _ _ _ _ _)); (fail_if_success (with_reducible show AOps _ _ _ _ _ _)); (first | (show AWp _ _ _ _ _) | (show AOps _ _ _ _ _ _))))
      rw [h0, h1]
      rfl
    · have h2 : x.toNat ≠ 255 := fun e => h1 (u8_ext e)
      by_cases h3 : x = 0
      · have h4 : x.toNat = 0 := by rw [h3]; rfl
        repeat' (first | ((with_reducible show AWp _ _ _ _ _); (first | refine awp_seq ?_ | refine awp_block ?_ | refine awp_skip ?_ | refine awp_exit ?_ | refine awp_scope ?_ | refine awp_label ?_ | refine awp_run ty_ok rfl sdm ?_ | refine awp_ret ⟨_, _, rfl, rfl, ?_⟩ | refine awp_ret ⟨_, rfl, ?_⟩ | ((refine awp_cond (ty := ty) rfl (fun hc => ?_) (fun hc => ?_)) <;> (try simp only [nms, reduceCtorEq] at hc) <;> (try (exfalso; omega))))) | ((with_reducible show AOps _ _ _ _ _ _); (first | refine aops_nil ?_ | refine aops_go ty_ok rfl rfl sdm ?_ | refine aops_gate ty_ok rfl rfl rfl sdm ?_ | refine aops_litE ty_ok rfl rfl rfl rfl rfl rfl rfl rfl rfl rfl rfl rfl ?_ | refine aops_litA ty_ok rfl rfl rfl rfl rfl rfl rfl rfl rfl rfl rfl rfl rfl rfl rfl rfl ?_ | refine aops_buildArr ty_ok rfl rfl rfl rfl rfl rfl rfl rfl rfl rfl ?_ | refine aops_indexArr ty_ok rfl rfl rfl rfl rfl rfl rfl rfl rfl rfl sdm ?_ | refine aops_field ty_ok rfl rfl rfl rfl rfl rfl rfl rfl rfl rfl ?_ | refine aops_cutE ty_ok rfl rfl rfl rfl rfl rfl rfl rfl rfl sdm rfl ?_ | ((fail_if_success (refine aops_known rfl ?_)); (refine aops_split ty_ok rfl rfl rfl rfl rfl rfl (fun hc => ⟨?_, ?_⟩) (fun hc => ⟨?_, ?_⟩)) <;> (try simp only [nms, reduceCtorEq] at hc) <;> (try (exfalso; omega)) <;> (try exact sdm)))) | ((fail_if_success (with_reducible show AWp _ _ _ _ _)); (fail_if_success (with_reducible show AOps _ _ _ _ _ _)); (first | (show AWp _ _ _ _ _) | (show AOps _ _ _ _ _ _))))
        rw [h0, h3]
        rfl
      · have h4 : x.toNat ≠ 0 := fun e => h3 (u8_ext e)
        repeat' (first | ((with_reducible show AWp _ _ _ _ _); (first | refine awp_seq ?_ | refine awp_block ?_ | refine awp_skip ?_ | refine awp_exit ?_ | refine awp_scope ?_ | refine awp_label ?_ | refine awp_run ty_ok rfl sdm ?_ | refine awp_ret ⟨_, _, rfl, rfl, ?_⟩ | refine awp_ret ⟨_, rfl, ?_⟩ | ((refine awp_cond (ty := ty) rfl (fun hc => ?_) (fun hc => ?_)) <;> (try simp only [nms, reduceCtorEq] at hc) <;> (try (exfalso; omega))))) | ((with_reducible show AOps _ _ _ _ _ _); (first | refine aops_nil ?_ | refine aops_go ty_ok rfl rfl sdm ?_ | refine aops_gate ty_ok rfl rfl rfl sdm ?_ | refine aops_litE ty_ok rfl rfl rfl rfl rfl rfl rfl rfl rfl rfl rfl rfl ?_ | refine aops_litA ty_ok rfl rfl rfl rfl rfl rfl rfl rfl rfl rfl rfl rfl rfl rfl rfl rfl ?_ | refine aops_buildArr ty_ok rfl rfl rfl rfl rfl rfl rfl rfl rfl rfl ?_ | refine aops_indexArr ty_ok rfl rfl rfl rfl rfl rfl rfl rfl rfl rfl sdm ?_ | refine aops_field ty_ok rfl rfl rfl rfl rfl rfl rfl rfl rfl rfl ?_ | refine aops_cutE ty_ok rfl rfl rfl rfl rfl rfl rfl rfl rfl sdm rfl ?_ | ((fail_if_success (refine aops_known rfl ?_)); (refine aops_split ty_ok rfl rfl rfl rfl rfl rfl (fun hc => ⟨?_, ?_⟩) (fun hc => ⟨?_, ?_⟩)) <;> (try simp only [nms, reduceCtorEq] at hc) <;> (try (exfalso; omega)) <;> (try exact sdm)))) | ((fail_if_success (with_reducible show AWp _ _ _ _ _)); (fail_if_success (with_reducible show AOps _ _ _ _ _ _)); (first | (show AWp _ _ _ _ _) | (show AOps _ _ _ _ _ _))))
        rw [booF, if_neg (by simp [h1]), if_neg (by simp [h3])]
  | x :: y :: r =>
    have hl : (bys (x :: y :: r)).length = r.length + 2 := by simp [bys_len]
    repeat' (first | ((with_reducible show AWp _ _ _ _ _); (first | refine awp_seq ?_ | refine awp_block ?_ | refine awp_skip ?_ | refine awp_exit ?_ | refine awp_scope ?_ | refine awp_label ?_ | refine awp_run ty_ok rfl sdm ?_ | refine awp_ret ⟨_, _, rfl, rfl, ?_⟩ | refine awp_ret ⟨_, rfl, ?_⟩ | ((refine awp_cond (ty := ty) rfl (fun hc => ?_) (fun hc => ?_)) <;> (try simp only [nms, reduceCtorEq] at hc) <;> (try (exfalso; omega))))) | ((with_reducible show AOps _ _ _ _ _ _); (first | refine aops_nil ?_ | refine aops_go ty_ok rfl rfl sdm ?_ | refine aops_gate ty_ok rfl rfl rfl sdm ?_ | refine aops_litE ty_ok rfl rfl rfl rfl rfl rfl rfl rfl rfl rfl rfl rfl ?_ | refine aops_litA ty_ok rfl rfl rfl rfl rfl rfl rfl rfl rfl rfl rfl rfl rfl rfl rfl rfl ?_ | refine aops_buildArr ty_ok rfl rfl rfl rfl rfl rfl rfl rfl rfl rfl ?_ | refine aops_indexArr ty_ok rfl rfl rfl rfl rfl rfl rfl rfl rfl rfl sdm ?_ | refine aops_field ty_ok rfl rfl rfl rfl rfl rfl rfl rfl rfl rfl ?_ | refine aops_cutE ty_ok rfl rfl rfl rfl rfl rfl rfl rfl rfl sdm rfl ?_ | ((fail_if_success (refine aops_known rfl ?_)); (refine aops_split ty_ok rfl rfl rfl rfl rfl rfl (fun hc => ⟨?_, ?_⟩) (fun hc => ⟨?_, ?_⟩)) <;> (try simp only [nms, reduceCtorEq] at hc) <;> (try (exfalso; omega)) <;> (try exact sdm)))) | ((fail_if_success (with_reducible show AWp _ _ _ _ _)); (fail_if_success (with_reducible show AOps _ _ _ _ _ _)); (first | (show AWp _ _ _ _ _) | (show AOps _ _ _ _ _ _))))
    rw [booF, if_neg (by simp), if_neg (by simp)]
theorem isFromBoolean : IsFn Tryz.prog 35 Tryz.f35 := ⟨Tryz.func35, by decide, rfl⟩
theorem c_frombool (Γ : Env) : ACalls Tryz.prog Γ 35 [.bool true] (fun r => r = .own none 5 (bys [255])) := by
  refine acalls_of ty_ok isFromBoolean rfl rfl ?_
  repeat' (first | ((with_reducible show AWp _ _ _ _ _); (first | refine awp_seq ?_ | refine awp_block ?_ | refine awp_skip ?_ | refine awp_exit ?_ | refine awp_scope ?_ | refine awp_label ?_ | refine awp_run ty_ok rfl sdm ?_ | refine awp_ret ⟨_, _, rfl, rfl, ?_⟩ | refine awp_ret ⟨_, rfl, ?_⟩ | ((refine awp_cond (ty := ty) rfl (fun hc => ?_) (fun hc => ?_)) <;> (try simp only [nms, reduceCtorEq] at hc) <;> (try (exfalso; omega))))) | ((with_reducible show AOps _ _ _ _ _ _); (first | refine aops_nil ?_ | refine aops_go ty_ok rfl rfl sdm ?_ | refine aops_gate ty_ok rfl rfl rfl sdm ?_ | refine aops_litE ty_ok rfl rfl rfl rfl rfl rfl rfl rfl rfl rfl rfl rfl ?_ | refine aops_litA ty_ok rfl rfl rfl rfl rfl rfl rfl rfl rfl rfl rfl rfl rfl rfl rfl rfl ?_ | refine aops_buildArr ty_ok rfl rfl rfl rfl rfl rfl rfl rfl rfl rfl ?_ | refine aops_indexArr ty_ok rfl rfl rfl rfl rfl rfl rfl rfl rfl rfl sdm ?_ | refine aops_field ty_ok rfl rfl rfl rfl rfl rfl rfl rfl rfl rfl ?_ | refine aops_cutE ty_ok rfl rfl rfl rfl rfl rfl rfl rfl rfl sdm rfl ?_ | ((fail_if_success (refine aops_known rfl ?_)); (refine aops_split ty_ok rfl rfl rfl rfl rfl rfl (fun hc => ⟨?_, ?_⟩) (fun hc => ⟨?_, ?_⟩)) <;> (try simp only [nms, reduceCtorEq] at hc) <;> (try (exfalso; omega)) <;> (try exact sdm)))) | ((fail_if_success (with_reducible show AWp _ _ _ _ _)); (fail_if_success (with_reducible show AOps _ _ _ _ _ _)); (first | (show AWp _ _ _ _ _) | (show AOps _ _ _ _ _ _))))
  rfl
theorem isXValid : IsFn Tryz.prog 16 Tryz.f16 := ⟨Tryz.func16, by decide, rfl⟩
theorem c_xvalid (x : Ext) (ho : x.o.length ≤ 100000000) : ACalls Tryz.prog envL 16 [xD x] (fun r => r = .d (.bool (exV x))) := by
  refine acalls_of ty_ok isXValid rfl rfl ?_
  have hc1 := c_ovalid x.o ho
  unfold sD at hc1
  unfold xD sD exV
  repeat' (first | ((with_reducible show AWp _ _ _ _ _); (first | refine awp_seq ?_ | refine awp_block ?_ | refine awp_skip ?_ | refine awp_exit ?_ | refine awp_scope ?_ | refine awp_label ?_ | refine awp_run ty_ok rfl sdm ?_ | refine awp_ret ⟨_, _, rfl, rfl, ?_⟩ | refine awp_ret ⟨_, rfl, ?_⟩ | ((refine awp_cond (ty := ty) rfl (fun hc => ?_) (fun hc => ?_)) <;> (try simp only [nms, reduceCtorEq] at hc) <;> (try (exfalso; omega))))) | ((with_reducible show AOps _ _ _ _ _ _); (first | refine aops_nil ?_ | refine aops_go ty_ok rfl rfl sdm ?_ | refine aops_gate ty_ok rfl rfl rfl sdm ?_ | refine aops_callE (ty := ty) rfl rfl rfl rfl rfl rfl rfl (hc1) rfl ?_ | refine aops_litE ty_ok rfl rfl rfl rfl rfl rfl rfl rfl rfl rfl rfl rfl ?_ | refine aops_litA ty_ok rfl rfl rfl rfl rfl rfl rfl rfl rfl rfl rfl rfl rfl rfl rfl rfl ?_ | refine aops_buildArr ty_ok rfl rfl rfl rfl rfl rfl rfl rfl rfl rfl ?_ | refine aops_indexArr ty_ok rfl rfl rfl rfl rfl rfl rfl rfl rfl rfl sdm ?_ | refine aops_field ty_ok rfl rfl rfl rfl rfl rfl rfl rfl rfl rfl ?_ | refine aops_cutE ty_ok rfl rfl rfl rfl rfl rfl rfl rfl rfl sdm rfl ?_ | ((fail_if_success (refine aops_known rfl ?_)); (refine aops_split ty_ok rfl rfl rfl rfl rfl rfl (fun hc => ⟨?_, ?_⟩) (fun hc => ⟨?_, ?_⟩)) <;> (try simp only [nms, reduceCtorEq] at hc) <;> (try (exfalso; omega)) <;> (try exact sdm)))) | ((fail_if_success (with_reducible show AWp _ _ _ _ _)); (fail_if_success (with_reducible show AOps _ _ _ _ _ _)); (first | (show AWp _ _ _ _ _) | (show AOps _ _ _ _ _ _))))
  rfl
theorem c_xvalid_at (x : Ext) (ho : x.o.length ≤ 100000000) {v : Bool} (h : exV x = v) : ACalls Tryz.prog envL 16 [xD x] (fun r => r = .d (.bool v)) := by
  subst h
  exact c_xvalid x ho
def exR (x : Ext) : Res := match exV x with
  | true => .ownT none 5 (bys (exF x)) [.int .i64 0]
  | false => .d (.tup [.sl none [], .int .i64 8])
theorem okF_of_bad {s : List UInt8} (h : oidV s = false) : okF s = none := by
  unfold oidV at h
  cases ho : okF s with
  | none => rfl
  | some a => rw [ho] at h; cases h
theorem isXMarshal : IsFn Tryz.prog 11 Tryz.f11 := ⟨Tryz.func11, by decide, rfl⟩
theorem isXWrap : IsFn Tryz.prog 33 Tryz.f33 := ⟨Tryz.func33, by decide, rfl⟩
set_option maxHeartbeats 2000000 in
theorem c_xmarshal (x : Ext) (ho : x.o.length ≤ 1000000) (hvl : x.v.length ≤ 1000000) : ACalls Tryz.prog envL 11 [xD x] (fun r => r = exR x) := by
  refine acalls_of ty_ok isXMarshal rfl rfl ?_
  have he := encO_len x.o
  have hcat := ex_cat x 6000060 (by omega)
  unfold exR
  cases hv : exV x with
  | false =>
    have hc1 := c_oenc_bad x.o (by omega) (okF_of_bad hv)
    unfold sD at hc1
    unfold xD sD
    repeat' (first | ((with_reducible show AWp _ _ _ _ _); (first | refine awp_seq ?_ | refine awp_block ?_ | refine awp_skip ?_ | refine awp_exit ?_ | refine awp_scope ?_ | refine awp_label ?_ | refine awp_run ty_ok rfl sdm ?_ | refine awp_ret ⟨_, _, rfl, rfl, ?_⟩ | refine awp_ret ⟨_, rfl, ?_⟩ | ((refine awp_cond (ty := ty) rfl (fun hc => ?_) (fun hc => ?_)) <;> (try simp only [nms, reduceCtorEq] at hc) <;> (try (exfalso; omega))))) | ((with_reducible show AOps _ _ _ _ _ _); (first | refine aops_nil ?_ | refine aops_go ty_ok rfl rfl sdm ?_ | refine aops_gate ty_ok rfl rfl rfl sdm ?_ | refine aops_callE (ty := ty) rfl rfl rfl rfl rfl rfl rfl (hc1) rfl ?_ | refine aops_litE ty_ok rfl rfl rfl rfl rfl rfl rfl rfl rfl rfl rfl rfl ?_ | refine aops_litA ty_ok rfl rfl rfl rfl rfl rfl rfl rfl rfl rfl rfl rfl rfl rfl rfl rfl ?_ | refine aops_buildArr ty_ok rfl rfl rfl rfl rfl rfl rfl rfl rfl rfl ?_ | refine aops_indexArr ty_ok rfl rfl rfl rfl rfl rfl rfl rfl rfl rfl sdm ?_ | refine aops_field ty_ok rfl rfl rfl rfl rfl rfl rfl rfl rfl rfl ?_ | refine aops_cutE ty_ok rfl rfl rfl rfl rfl rfl rfl rfl rfl sdm rfl ?_ | ((fail_if_success (refine aops_known rfl ?_)); (refine aops_split ty_ok rfl rfl rfl rfl rfl rfl (fun hc => ⟨?_, ?_⟩) (fun hc => ⟨?_, ?_⟩)) <;> (try simp only [nms, reduceCtorEq] at hc) <;> (try (exfalso; omega)) <;> (try exact sdm)))) | ((fail_if_success (with_reducible show AWp _ _ _ _ _)); (fail_if_success (with_reducible show AOps _ _ _ _ _ _)); (first | (show AWp _ _ _ _ _) | (show AOps _ _ _ _ _ _))))
    rfl
  | true =>
    have hc1 := c_oenc_okO x.o (by omega) hv
    have m3 : maxI (maxI (maxI 0 0) 0) 0 = 0 := rfl
    have m2 : maxI (maxI 0 0) 0 = 0 := rfl
    have hw1 := fun Γ => c_wrap Γ 0 6 false [encO x.o] (by omega) (by omega) (by simp) (by simp; omega)
    have hw2 := fun Γ => c_wrap Γ 0 1 false [[255]] (by omega) (by omega) (by simp) (by simp)
    have hw3 := fun Γ => c_wrap Γ 0 4 false [x.v] (by omega) (by omega) (by simp) (by simp; omega)
    unfold sD at hc1
    obtain ⟨o, c, v⟩ := x
    simp only at he hvl ho hc1 hw1 hw3
    unfold xD sD
    simp only
    cases c with
    | true =>
      have hs := c_sequence (envL.at 0) [putF (idB 0 false 6) [encO o].flatten, putF (idB 0 false 1) [[255]].flatten, putF (idB 0 false 4) [v].flatten] (by simp) (by simpa [exB, catF, idB] using Nat.le_trans hcat (by omega))
      repeat' (first | ((with_reducible show AWp _ _ _ _ _); (first | refine awp_seq ?_ | refine awp_block ?_ | refine awp_skip ?_ | refine awp_exit ?_ | refine awp_scope ?_ | refine awp_label ?_ | refine awp_run ty_ok rfl sdm ?_ | refine awp_ret ⟨_, _, rfl, rfl, ?_⟩ | refine awp_ret ⟨_, rfl, ?_⟩ | ((refine awp_cond (ty := ty) rfl (fun hc => ?_) (fun hc => ?_)) <;> (try simp only [nms, reduceCtorEq] at hc) <;> (try (exfalso; omega))))) | ((with_reducible show AOps _ _ _ _ _ _); (first | refine aops_nil ?_ | refine aops_go ty_ok rfl rfl sdm ?_ | refine aops_gate ty_ok rfl rfl rfl sdm ?_ | refine aops_callE (ty := ty) rfl rfl rfl rfl rfl rfl rfl (hc1) rfl ?_ | refine aops_callE (ty := ty) rfl rfl rfl rfl rfl rfl rfl (hw1 _) rfl ?_ | refine aops_callE (ty := ty) rfl rfl rfl rfl rfl rfl rfl (hw2 _) rfl ?_ | refine aops_callE (ty := ty) rfl rfl rfl rfl rfl rfl rfl (hw3 _) rfl ?_ | refine aops_callE (ty := ty) rfl rfl rfl rfl rfl rfl rfl (c_frombool _) rfl ?_ | refine aops_callE (ty := ty) rfl rfl rfl rfl rfl rfl rfl (hs) rfl ?_ | refine aops_inline ty_ok rfl rfl rfl rfl rfl rfl isXWrap rfl rfl ?_ | refine aops_litE ty_ok rfl rfl rfl rfl rfl rfl rfl rfl rfl rfl rfl rfl ?_ | refine aops_litA ty_ok rfl rfl rfl rfl rfl rfl rfl rfl rfl rfl rfl rfl rfl rfl rfl rfl ?_ | refine aops_buildArr ty_ok rfl rfl rfl rfl rfl rfl rfl rfl rfl rfl ?_ | refine aops_indexArr ty_ok rfl rfl rfl rfl rfl rfl rfl rfl rfl rfl sdm ?_ | refine aops_field ty_ok rfl rfl rfl rfl rfl rfl rfl rfl rfl rfl ?_ | refine aops_cutE ty_ok rfl rfl rfl rfl rfl rfl rfl rfl rfl sdm rfl ?_ | ((fail_if_success (refine aops_known rfl ?_)); (refine aops_split ty_ok rfl rfl rfl rfl rfl rfl (fun hc => ⟨?_, ?_⟩) (fun hc => ⟨?_, ?_⟩)) <;> (try simp only [nms, reduceCtorEq] at hc) <;> (try (exfalso; omega)) <;> (try exact sdm)))) | ((fail_if_success (with_reducible show AWp _ _ _ _ _)); (fail_if_success (with_reducible show AOps _ _ _ _ _ _)); (first | (show AWp _ _ _ _ _) | (show AOps _ _ _ _ _ _) | ((with_reducible show BackOk _ _ _ _ _); refine back_nil rfl ?_))))
      all_goals simp [exF, exB, catF, idB]
    | false =>
      have hs := c_sequence (envL.at 0) [putF (idB 0 false 6) [encO o].flatten, putF (idB 0 false 4) [v].flatten] (by simp) (by simpa [exB, catF, idB] using Nat.le_trans hcat (by omega))
      repeat' (first | ((with_reducible show AWp _ _ _ _ _); (first | refine awp_seq ?_ | refine awp_block ?_ | refine awp_skip ?_ | refine awp_exit ?_ | refine awp_scope ?_ | refine awp_label ?_ | refine awp_run ty_ok rfl sdm ?_ | refine awp_ret ⟨_, _, rfl, rfl, ?_⟩ | refine awp_ret ⟨_, rfl, ?_⟩ | ((refine awp_cond (ty := ty) rfl (fun hc => ?_) (fun hc => ?_)) <;> (try simp only [nms, reduceCtorEq] at hc) <;> (try (exfalso; omega))))) | ((with_reducible show AOps _ _ _ _ _ _); (first | refine aops_nil ?_ | refine aops_go ty_ok rfl rfl sdm ?_ | refine aops_gate ty_ok rfl rfl rfl sdm ?_ | refine aops_callE (ty := ty) rfl rfl rfl rfl rfl rfl rfl (hc1) rfl ?_ | refine aops_callE (ty := ty) rfl rfl rfl rfl rfl rfl rfl (hw1 _) rfl ?_ | refine aops_callE (ty := ty) rfl rfl rfl rfl rfl rfl rfl (hw3 _) rfl ?_ | refine aops_callE (ty := ty) rfl rfl rfl rfl rfl rfl rfl (hs) rfl ?_ | refine aops_inline ty_ok rfl rfl rfl rfl rfl rfl isXWrap rfl rfl ?_ | refine aops_litE ty_ok rfl rfl rfl rfl rfl rfl rfl rfl rfl rfl rfl rfl ?_ | refine aops_litA ty_ok rfl rfl rfl rfl rfl rfl rfl rfl rfl rfl rfl rfl rfl rfl rfl rfl ?_ | refine aops_buildArr ty_ok rfl rfl rfl rfl rfl rfl rfl rfl rfl rfl ?_ | refine aops_indexArr ty_ok rfl rfl rfl rfl rfl rfl rfl rfl rfl rfl sdm ?_ | refine aops_field ty_ok rfl rfl rfl rfl rfl rfl rfl rfl rfl rfl ?_ | refine aops_cutE ty_ok rfl rfl rfl rfl rfl rfl rfl rfl rfl sdm rfl ?_ | ((fail_if_success (refine aops_known rfl ?_)); (refine aops_split ty_ok rfl rfl rfl rfl rfl rfl (fun hc => ⟨?_, ?_⟩) (fun hc => ⟨?_, ?_⟩)) <;> (try simp only [nms, reduceCtorEq] at hc) <;> (try (exfalso; omega)) <;> (try exact sdm)))) | ((fail_if_success (with_reducible show AWp _ _ _ _ _)); (fail_if_success (with_reducible show AOps _ _ _ _ _ _)); (first | (show AWp _ _ _ _ _) | (show AOps _ _ _ _ _ _) | ((with_reducible show BackOk _ _ _ _ _); refine back_nil rfl ?_))))
      all_goals simp [exF, exB, catF, idB]
theorem c_xmarshal_ok (x : Ext) (ho : x.o.length ≤ 1000000) (hvl : x.v.length ≤ 1000000) (h : exV x = true) : ACalls Tryz.prog envL 11 [xD x] (fun r => r = .ownT none 5 (bys (exF x)) [.int .i64 0]) := by
  have := c_xmarshal x ho hvl
  rwa [exR, h] at this
theorem c_xmarshal_bad (x : Ext) (ho : x.o.length ≤ 1000000) (hvl : x.v.length ≤ 1000000) (h : exV x = false) : ACalls Tryz.prog envL 11 [xD x] (fun r => r = .d (.tup [.sl none [], .int .i64 8])) := by
  have := c_xmarshal x ho hvl
  rwa [exR, h] at this
def xpR : Ex Ext → Res
  | .bad c o => .d (.tup [xD x0, errD c o])
  | .ok x => .d (.tup [xD x, errD 0 0])
/-- What is known of an element in a list. -/
theorem el_facts {X : Dat} {e : El} (h : X = elD e) : X = .agg [.int .i64 (X.cell 0).num, .int .i64 (X.cell 1).num, .bool (X.cell 2).tru, .int .i64 (X.cell 3).num, .int .i64 (X.cell 4).num, .int .i64 (X.cell 5).num] ∧
    X.cell 3 = .int .i64 (X.cell 3).num ∧ X.cell 4 = .int .i64 (X.cell 4).num ∧ X.cell 5 = .int .i64 (X.cell 5).num ∧ (X.cell 3).num = e.st ∧ (X.cell 4).num = e.bd ∧ (X.cell 5).num = e.en := by
  subst h
  exact ⟨rfl, rfl, rfl, rfl, rfl, rfl, rfl⟩
theorem c_boo_at (Γ : Env) (b : List UInt8) {i j : Nat} {v : Bool} {n : Int} (h : booF (cut b i j) = (v, n)) : ACalls Tryz.prog Γ 30 [.sl none (cutL (bys b) (i : Int).toNat (j : Int).toNat)] (fun r => r = .d (.tup [.bool v, .int .i64 n])) := by
  have h1 := c_boolean Γ (cut b i j)
  rw [h] at h1
  rw [cutL_bys]
  exact h1
theorem c_clone_at (Γ : Env) (b : List UInt8) {i j : Nat} (hj : j ≤ b.length) (hb : b.length ≤ 1000000) : ACalls Tryz.prog Γ 31 [.sl none (cutL (bys b) (i : Int).toNat (j : Int).toNat)] (fun r => r = .own none 5 (bys (cut b i j))) := by
  rw [cutL_bys]
  exact c_clone Γ (cut b i j) (by rw [cut_len _ _ _ hj]; omega)
theorem cut_side (b : List UInt8) {i j : Nat} (h1 : i ≤ j) (h2 : j ≤ b.length) : (0 : Int) ≤ (i : Int) ∧ (i : Int) ≤ (j : Int) ∧ (j : Int) ≤ ((bys b).length : Int) := by
  rw [bys_len]
  omega
end Go.Proofs.YtmciaonjkkelnaaGreatDoor

/- Extensions: Parse. Walked by the abstract machine. -/
namespace Go.Proofs.YtmciaonjkkelnaaGreatDoor
open Go.Am
set_option linter.unusedSimpArgs false
set_option linter.unusedVariables false
-- withAmZ withAmMp

theorem isXParse : IsFn Tryz.prog 9 Tryz.f9 := ⟨Tryz.func9, by decide, rfl⟩
set_option maxHeartbeats 4000000 in
set_option maxRecDepth 100000 in
theorem c_xparse (b : List UInt8) (hb : b.length ≤ 1000000) : ACalls Tryz.prog envL 9 [.sl none (bys b)] (fun r => r = xpR (exP b)) := by
  refine acalls_of ty_ok isXParse rfl rfl ?_
  rw [exP]
  cases hp : ptF b 0 16 with
  | bad c o =>
    have hc1 := c_parts_at (envL.at 0) b 0 16 (by omega) hp
    have := pt_bad hp
    repeat' (first | ((with_reducible show AWp _ _ _ _ _); (first | refine awp_seq ?_ | refine awp_block ?_ | refine awp_skip ?_ | refine awp_exit ?_ | refine awp_scope ?_ | refine awp_label ?_ | refine awp_run ty_ok rfl sdm ?_ | refine awp_ret ⟨_, _, rfl, rfl, ?_⟩ | refine awp_ret ⟨_, rfl, ?_⟩ | ((refine awp_cond (ty := ty) rfl (fun hc => ?_) (fun hc => ?_)) <;> (try simp only [nms, reduceCtorEq] at hc) <;> (try (exfalso; omega))) | refine awp_anyS 3 2 ty_ok mixed rfl rfl rfl rfl rfl rfl rfl rfl rfl (by kernel_rfl) ?_)) | ((with_reducible show AOps _ _ _ _ _ _); (first | refine aops_nil ?_ | refine aops_go ty_ok rfl rfl sdm ?_ | refine aops_gate ty_ok rfl rfl rfl sdm ?_ | refine aops_callE (ty := ty) rfl rfl rfl rfl rfl rfl rfl (hc1) rfl ?_ | refine aops_litE ty_ok rfl rfl rfl rfl rfl rfl rfl rfl rfl rfl rfl rfl ?_ | refine aops_litA ty_ok rfl rfl rfl rfl rfl rfl rfl rfl rfl rfl rfl rfl rfl rfl rfl rfl ?_ | refine aops_buildArr ty_ok rfl rfl rfl rfl rfl rfl rfl rfl rfl rfl ?_ | refine aops_indexArr ty_ok rfl rfl rfl rfl rfl rfl rfl rfl rfl rfl sdm ?_ | refine aops_field ty_ok rfl rfl rfl rfl rfl rfl rfl rfl rfl rfl ?_ | refine aops_cutE ty_ok rfl rfl rfl rfl rfl rfl rfl rfl rfl sdm rfl ?_ | ((fail_if_success (refine aops_known rfl ?_)); (refine aops_split ty_ok rfl rfl rfl rfl rfl rfl (fun hc => ⟨?_, ?_⟩) (fun hc => ⟨?_, ?_⟩)) <;> (try simp only [nms, reduceCtorEq] at hc) <;> (try (exfalso; omega)) <;> (try exact sdm)))) | ((with_reducible show HeadT _ _ _ _ _ _ _ _ _ _); (first | refine head_end ?_ | refine head_goP ty_ok rfl rfl sdm ?_ | refine head_gate ty_ok rfl rfl rfl sdm ?_ | refine head_callE (ty := ty) rfl rfl rfl rfl rfl rfl rfl (hc1) rfl ?_ | ((fail_if_success (refine head_known rfl ?_)); (refine head_split ty_ok rfl rfl rfl rfl (fun hc => ⟨?_, ?_⟩) (fun hc => ⟨?_, ?_⟩)) <;> (try simp only [nms, reduceCtorEq] at hc) <;> (try (exfalso; omega)) <;> (try exact sdm)))) | ((fail_if_success (with_reducible show AWp _ _ _ _ _)); (fail_if_success (with_reducible show AOps _ _ _ _ _ _)); (fail_if_success (with_reducible show HeadT _ _ _ _ _ _ _ _ _ _)); (first | (show AWp _ _ _ _ _) | (show AOps _ _ _ _ _ _) | refine st_go rfl rfl rfl rfl rfl rfl rfl ?_)))
    rfl
  | ok l =>
    have hc1 := (c_parts_at (envL.at 0) b 0 16 (by omega) hp).ownT_d
    obtain ⟨ts, hbe, E⟩ := seq_ok hp
    match l, E, hp, hc1 with
    | [], E, hp, hc1 =>
      repeat' (first | ((with_reducible show AWp _ _ _ _ _); (first | refine awp_seq ?_ | refine awp_block ?_ | refine awp_skip ?_ | refine awp_exit ?_ | refine awp_scope ?_ | refine awp_label ?_ | refine awp_run ty_ok rfl sdm ?_ | refine awp_ret ⟨_, _, rfl, rfl, ?_⟩ | refine awp_ret ⟨_, rfl, ?_⟩ | ((refine awp_cond (ty := ty) rfl (fun hc => ?_) (fun hc => ?_)) <;> (try simp only [nms, reduceCtorEq] at hc) <;> (try (exfalso; omega))))) | ((with_reducible show AOps _ _ _ _ _ _); (first | refine aops_nil ?_ | refine aops_go ty_ok rfl rfl sdm ?_ | refine aops_gate ty_ok rfl rfl rfl sdm ?_ | refine aops_callE (ty := ty) rfl rfl rfl rfl rfl rfl rfl (hc1) rfl ?_ | refine aops_litE ty_ok rfl rfl rfl rfl rfl rfl rfl rfl rfl rfl rfl rfl ?_ | refine aops_litA ty_ok rfl rfl rfl rfl rfl rfl rfl rfl rfl rfl rfl rfl rfl rfl rfl rfl ?_ | refine aops_buildArr ty_ok rfl rfl rfl rfl rfl rfl rfl rfl rfl rfl ?_ | refine aops_indexArr ty_ok rfl rfl rfl rfl rfl rfl rfl rfl rfl rfl sdm ?_ | refine aops_field ty_ok rfl rfl rfl rfl rfl rfl rfl rfl rfl rfl ?_ | refine aops_cutE ty_ok rfl rfl rfl rfl rfl rfl rfl rfl rfl sdm rfl ?_ | ((fail_if_success (refine aops_known rfl ?_)); (refine aops_split ty_ok rfl rfl rfl rfl rfl rfl (fun hc => ⟨?_, ?_⟩) (fun hc => ⟨?_, ?_⟩)) <;> (try simp only [nms, reduceCtorEq] at hc) <;> (try (exfalso; omega)) <;> (try exact sdm)))) | ((fail_if_success (with_reducible show AWp _ _ _ _ _)); (fail_if_success (with_reducible show AOps _ _ _ _ _ _)); (first | (show AWp _ _ _ _ _) | (show AOps _ _ _ _ _ _))))
      rfl
    | [e], E, hp, hc1 =>
      repeat' (first | ((with_reducible show AWp _ _ _ _ _); (first | refine awp_seq ?_ | refine awp_block ?_ | refine awp_skip ?_ | refine awp_exit ?_ | refine awp_scope ?_ | refine awp_label ?_ | refine awp_run ty_ok rfl sdm ?_ | refine awp_ret ⟨_, _, rfl, rfl, ?_⟩ | refine awp_ret ⟨_, rfl, ?_⟩ | ((refine awp_cond (ty := ty) rfl (fun hc => ?_) (fun hc => ?_)) <;> (try simp only [nms, reduceCtorEq] at hc) <;> (try (exfalso; omega))))) | ((with_reducible show AOps _ _ _ _ _ _); (first | refine aops_nil ?_ | refine aops_go ty_ok rfl rfl sdm ?_ | refine aops_gate ty_ok rfl rfl rfl sdm ?_ | refine aops_callE (ty := ty) rfl rfl rfl rfl rfl rfl rfl (hc1) rfl ?_ | refine aops_litE ty_ok rfl rfl rfl rfl rfl rfl rfl rfl rfl rfl rfl rfl ?_ | refine aops_litA ty_ok rfl rfl rfl rfl rfl rfl rfl rfl rfl rfl rfl rfl rfl rfl rfl rfl ?_ | refine aops_buildArr ty_ok rfl rfl rfl rfl rfl rfl rfl rfl rfl rfl ?_ | refine aops_indexArr ty_ok rfl rfl rfl rfl rfl rfl rfl rfl rfl rfl sdm ?_ | refine aops_field ty_ok rfl rfl rfl rfl rfl rfl rfl rfl rfl rfl ?_ | refine aops_cutE ty_ok rfl rfl rfl rfl rfl rfl rfl rfl rfl sdm rfl ?_ | ((fail_if_success (refine aops_known rfl ?_)); (refine aops_split ty_ok rfl rfl rfl rfl rfl rfl (fun hc => ⟨?_, ?_⟩) (fun hc => ⟨?_, ?_⟩)) <;> (try simp only [nms, reduceCtorEq] at hc) <;> (try (exfalso; omega)) <;> (try exact sdm)))) | ((fail_if_success (with_reducible show AWp _ _ _ _ _)); (fail_if_success (with_reducible show AOps _ _ _ _ _ _)); (first | (show AWp _ _ _ _ _) | (show AOps _ _ _ _ _ _))))
      rfl
    | e :: f :: g :: h :: r, E, hp, hc1 =>
      have hl : (els (e :: f :: g :: h :: r)).length = r.length + 4 := by simp [els_len]
      repeat' (first | ((with_reducible show AWp _ _ _ _ _); (first | refine awp_seq ?_ | refine awp_block ?_ | refine awp_skip ?_ | refine awp_exit ?_ | refine awp_scope ?_ | refine awp_label ?_ | refine awp_run ty_ok rfl sdm ?_ | refine awp_ret ⟨_, _, rfl, rfl, ?_⟩ | refine awp_ret ⟨_, rfl, ?_⟩ | ((refine awp_cond (ty := ty) rfl (fun hc => ?_) (fun hc => ?_)) <;> (try simp only [nms, reduceCtorEq] at hc) <;> (try (exfalso; omega))))) | ((with_reducible show AOps _ _ _ _ _ _); (first | refine aops_nil ?_ | refine aops_go ty_ok rfl rfl sdm ?_ | refine aops_gate ty_ok rfl rfl rfl sdm ?_ | refine aops_callE (ty := ty) rfl rfl rfl rfl rfl rfl rfl (hc1) rfl ?_ | refine aops_litE ty_ok rfl rfl rfl rfl rfl rfl rfl rfl rfl rfl rfl rfl ?_ | refine aops_litA ty_ok rfl rfl rfl rfl rfl rfl rfl rfl rfl rfl rfl rfl rfl rfl rfl rfl ?_ | refine aops_buildArr ty_ok rfl rfl rfl rfl rfl rfl rfl rfl rfl rfl ?_ | refine aops_indexArr ty_ok rfl rfl rfl rfl rfl rfl rfl rfl rfl rfl sdm ?_ | refine aops_field ty_ok rfl rfl rfl rfl rfl rfl rfl rfl rfl rfl ?_ | refine aops_cutE ty_ok rfl rfl rfl rfl rfl rfl rfl rfl rfl sdm rfl ?_ | ((fail_if_success (refine aops_known rfl ?_)); (refine aops_split ty_ok rfl rfl rfl rfl rfl rfl (fun hc => ⟨?_, ?_⟩) (fun hc => ⟨?_, ?_⟩)) <;> (try simp only [nms, reduceCtorEq] at hc) <;> (try (exfalso; omega)) <;> (try exact sdm)))) | ((fail_if_success (with_reducible show AWp _ _ _ _ _)); (fail_if_success (with_reducible show AOps _ _ _ _ _ _)); (first | (show AWp _ _ _ _ _) | (show AOps _ _ _ _ _ _))))
      rfl
    | [e, f], E, hp, hc1 =>
      simp only
      obtain ⟨h1, h2, h3⟩ := E.le 0 (by simp)
      obtain ⟨h4, h5, h6⟩ := E.le 1 (by simp)
      simp only [List.getElem_cons_zero, List.getElem_cons_succ] at h1 h2 h3 h4 h5 h6
      obtain ⟨q1, q2, q3, q4, q5, q6, q7⟩ := el_facts (X := (els [e, f]).getD (Int.toNat 0) default) (e := e) rfl
      obtain ⟨p1, p2, p3, p4, p5, p6, p7⟩ := el_facts (X := (els [e, f]).getD (Int.toNat (((els [e, f]).length : Int) - 1)) default) (e := f) rfl
      have hl : (els [e, f]).length = 2 := rfl
      obtain ⟨k1, k2, k3⟩ := cut_side b h2 h3
      obtain ⟨k4, k5, k6⟩ := cut_side b h5 h6
      cases hi : isB e.x 0 false 6 with
      | false =>
        have hc2 := c_is_at (envL.at 0) e 0 6 false hi
        rw [exI, hi]
        repeat' (first | ((with_reducible show AWp _ _ _ _ _); (first | refine awp_seq ?_ | refine awp_block ?_ | refine awp_skip ?_ | refine awp_exit ?_ | refine awp_scope ?_ | refine awp_label ?_ | refine awp_run ty_ok rfl sdm ?_ | refine awp_ret ⟨_, _, rfl, rfl, ?_⟩ | refine awp_ret ⟨_, rfl, ?_⟩ | ((refine awp_cond (ty := ty) rfl (fun hc => ?_) (fun hc => ?_)) <;> (try simp only [nms, reduceCtorEq] at hc) <;> (try (exfalso; omega))))) | ((with_reducible show AOps _ _ _ _ _ _); (first | refine aops_nil ?_ | refine aops_go ty_ok rfl rfl sdm ?_ | refine aops_gate ty_ok rfl rfl rfl sdm ?_ | refine aops_callE (ty := ty) rfl rfl rfl rfl rfl rfl rfl (hc1) rfl ?_ | refine aops_callE (ty := ty) rfl rfl rfl rfl rfl rfl rfl (hc2) rfl ?_ | refine aops_litE ty_ok rfl rfl rfl rfl rfl rfl rfl rfl rfl rfl rfl rfl ?_ | refine aops_litA ty_ok rfl rfl rfl rfl rfl rfl rfl rfl rfl rfl rfl rfl rfl rfl rfl rfl ?_ | refine aops_buildArr ty_ok rfl rfl rfl rfl rfl rfl rfl rfl rfl rfl ?_ | refine aops_indexArr ty_ok rfl rfl rfl rfl rfl rfl rfl rfl rfl rfl sdm ?_ | refine aops_field ty_ok rfl rfl rfl rfl rfl rfl rfl rfl rfl rfl ?_ | refine aops_cutE ty_ok rfl rfl rfl rfl rfl rfl rfl rfl rfl sdm rfl ?_ | ((fail_if_success (refine aops_known rfl ?_)); (refine aops_split ty_ok rfl rfl rfl rfl rfl rfl (fun hc => ⟨?_, ?_⟩) (fun hc => ⟨?_, ?_⟩)) <;> (try simp only [nms, reduceCtorEq] at hc) <;> (try (exfalso; omega)) <;> (try exact sdm)))) | ((fail_if_success (with_reducible show AWp _ _ _ _ _)); (fail_if_success (with_reducible show AOps _ _ _ _ _ _)); (first | (show AWp _ _ _ _ _) | (show AOps _ _ _ _ _ _))))
        rfl
      | true =>
        have hc2 := c_is_at (envL.at 0) e 0 6 false hi
        rw [exI, hi]
        by_cases hd : (decS (cut b e.bd e.en)).2 = 0
        · have hc3 := c_odec_ok b h3 h2 (by omega) hd
          rw [decide_eq_true hd]
          simp only
          rw [exL]
          cases hk : isB f.x 0 false 4 with
          | false =>
            have hc4 := c_is_at (envL.at 0) f 0 4 false hk
            repeat' (first | ((with_reducible show AWp _ _ _ _ _); (first | refine awp_seq ?_ | refine awp_block ?_ | refine awp_skip ?_ | refine awp_exit ?_ | refine awp_scope ?_ | refine awp_label ?_ | refine awp_run ty_ok rfl sdm ?_ | refine awp_ret ⟨_, _, rfl, rfl, ?_⟩ | refine awp_ret ⟨_, rfl, ?_⟩ | ((refine awp_cond (ty := ty) rfl (fun hc => ?_) (fun hc => ?_)) <;> (try simp only [nms, reduceCtorEq] at hc) <;> (try (exfalso; omega))) | refine awp_anyL 15 mixed rfl (by kernel_rfl) ?_ | refine awp_anyS 5 4 ty_ok mixed rfl rfl rfl rfl rfl rfl rfl rfl rfl (by kernel_rfl) ?_)) | ((with_reducible show AOps _ _ _ _ _ _); (first | refine aops_nil ?_ | refine aops_go ty_ok rfl rfl sdm ?_ | refine aops_gate ty_ok rfl rfl rfl sdm ?_ | refine aops_callE (ty := ty) rfl rfl rfl rfl rfl rfl rfl (hc1) rfl ?_ | refine aops_callE (ty := ty) rfl rfl rfl rfl rfl rfl rfl (hc2) rfl ?_ | refine aops_callE (ty := ty) rfl rfl rfl rfl rfl rfl rfl (hc3) rfl ?_ | refine aops_callE (ty := ty) rfl rfl rfl rfl rfl rfl rfl (hc4) rfl ?_ | refine aops_litE ty_ok rfl rfl rfl rfl rfl rfl rfl rfl rfl rfl rfl rfl ?_ | refine aops_litA ty_ok rfl rfl rfl rfl rfl rfl rfl rfl rfl rfl rfl rfl rfl rfl rfl rfl ?_ | refine aops_buildArr ty_ok rfl rfl rfl rfl rfl rfl rfl rfl rfl rfl ?_ | refine aops_indexArr ty_ok rfl rfl rfl rfl rfl rfl rfl rfl rfl rfl sdm ?_ | refine aops_field ty_ok rfl rfl rfl rfl rfl rfl rfl rfl rfl rfl ?_ | refine aops_cutE ty_ok rfl rfl rfl rfl rfl rfl rfl rfl rfl sdm rfl ?_ | ((fail_if_success (refine aops_known rfl ?_)); (refine aops_split ty_ok rfl rfl rfl rfl rfl rfl (fun hc => ⟨?_, ?_⟩) (fun hc => ⟨?_, ?_⟩)) <;> (try simp only [nms, reduceCtorEq] at hc) <;> (try (exfalso; omega)) <;> (try exact sdm)))) | ((with_reducible show HeadT _ _ _ _ _ _ _ _ _ _); (first | refine head_end ?_ | refine head_goP ty_ok rfl rfl sdm ?_ | refine head_gate ty_ok rfl rfl rfl sdm ?_ | refine head_callE (ty := ty) rfl rfl rfl rfl rfl rfl rfl (hc1) rfl ?_ | refine head_callE (ty := ty) rfl rfl rfl rfl rfl rfl rfl (hc2) rfl ?_ | refine head_callE (ty := ty) rfl rfl rfl rfl rfl rfl rfl (hc3) rfl ?_ | refine head_callE (ty := ty) rfl rfl rfl rfl rfl rfl rfl (hc4) rfl ?_ | ((fail_if_success (refine head_known rfl ?_)); (refine head_split ty_ok rfl rfl rfl rfl (fun hc => ⟨?_, ?_⟩) (fun hc => ⟨?_, ?_⟩)) <;> (try simp only [nms, reduceCtorEq] at hc) <;> (try (exfalso; omega)) <;> (try exact sdm)))) | ((fail_if_success (with_reducible show AWp _ _ _ _ _)); (fail_if_success (with_reducible show AOps _ _ _ _ _ _)); (fail_if_success (with_reducible show HeadT _ _ _ _ _ _ _ _ _ _)); (first | (show AWp _ _ _ _ _) | (show AOps _ _ _ _ _ _) | refine st_go rfl rfl rfl rfl rfl rfl rfl ?_)))
            rfl
          | true =>
            have hc4 := c_is_at (envL.at 0) f 0 4 false hk
            repeat' (first | ((with_reducible show AWp _ _ _ _ _); (first | refine awp_seq ?_ | refine awp_block ?_ | refine awp_skip ?_ | refine awp_exit ?_ | refine awp_scope ?_ | refine awp_label ?_ | refine awp_run ty_ok rfl sdm ?_ | refine awp_ret ⟨_, _, rfl, rfl, ?_⟩ | refine awp_ret ⟨_, rfl, ?_⟩ | ((refine awp_cond (ty := ty) rfl (fun hc => ?_) (fun hc => ?_)) <;> (try simp only [nms, reduceCtorEq] at hc) <;> (try (exfalso; omega))) | refine awp_anyL 15 mixed rfl (by kernel_rfl) ?_)) | ((with_reducible show AOps _ _ _ _ _ _); (first | refine aops_nil ?_ | refine aops_go ty_ok rfl rfl sdm ?_ | refine aops_gate ty_ok rfl rfl rfl sdm ?_ | refine aops_callE (ty := ty) rfl rfl rfl rfl rfl rfl rfl (hc1) rfl ?_ | refine aops_callE (ty := ty) rfl rfl rfl rfl rfl rfl rfl (hc2) rfl ?_ | refine aops_callE (ty := ty) rfl rfl rfl rfl rfl rfl rfl (hc3) rfl ?_ | refine aops_callE (ty := ty) rfl rfl rfl rfl rfl rfl rfl (hc4) rfl ?_ | refine aops_callE (ty := ty) rfl rfl rfl rfl rfl rfl rfl (c_clone_at _ b h6 hb) rfl ?_ | refine aops_litE ty_ok rfl rfl rfl rfl rfl rfl rfl rfl rfl rfl rfl rfl ?_ | refine aops_litA ty_ok rfl rfl rfl rfl rfl rfl rfl rfl rfl rfl rfl rfl rfl rfl rfl rfl ?_ | refine aops_buildArr ty_ok rfl rfl rfl rfl rfl rfl rfl rfl rfl rfl ?_ | refine aops_indexArr ty_ok rfl rfl rfl rfl rfl rfl rfl rfl rfl rfl sdm ?_ | refine aops_field ty_ok rfl rfl rfl rfl rfl rfl rfl rfl rfl rfl ?_ | refine aops_cutE ty_ok rfl rfl rfl rfl rfl rfl rfl rfl rfl sdm rfl ?_ | ((fail_if_success (refine aops_known rfl ?_)); (refine aops_split ty_ok rfl rfl rfl rfl rfl rfl (fun hc => ⟨?_, ?_⟩) (fun hc => ⟨?_, ?_⟩)) <;> (try simp only [nms, reduceCtorEq] at hc) <;> (try (exfalso; omega)) <;> (try exact sdm)))) | ((with_reducible show HeadT _ _ _ _ _ _ _ _ _ _); (first | refine head_end ?_ | refine head_goP ty_ok rfl rfl sdm ?_ | refine head_gate ty_ok rfl rfl rfl sdm ?_ | refine head_callE (ty := ty) rfl rfl rfl rfl rfl rfl rfl (hc1) rfl ?_ | refine head_callE (ty := ty) rfl rfl rfl rfl rfl rfl rfl (hc2) rfl ?_ | refine head_callE (ty := ty) rfl rfl rfl rfl rfl rfl rfl (hc3) rfl ?_ | refine head_callE (ty := ty) rfl rfl rfl rfl rfl rfl rfl (hc4) rfl ?_ | refine head_callE (ty := ty) rfl rfl rfl rfl rfl rfl rfl (c_clone_at _ b h6 hb) rfl ?_ | ((fail_if_success (refine head_known rfl ?_)); (refine head_split ty_ok rfl rfl rfl rfl (fun hc => ⟨?_, ?_⟩) (fun hc => ⟨?_, ?_⟩)) <;> (try simp only [nms, reduceCtorEq] at hc) <;> (try (exfalso; omega)) <;> (try exact sdm)))) | ((fail_if_success (with_reducible show AWp _ _ _ _ _)); (fail_if_success (with_reducible show AOps _ _ _ _ _ _)); (fail_if_success (with_reducible show HeadT _ _ _ _ _ _ _ _ _ _)); (first | (show AWp _ _ _ _ _) | (show AOps _ _ _ _ _ _))))
            rfl
        · have hc3 := c_odec_bad b h3 h2 (by omega) hd
          rw [decide_eq_false hd]
          repeat' (first | ((with_reducible show AWp _ _ _ _ _); (first | refine awp_seq ?_ | refine awp_block ?_ | refine awp_skip ?_ | refine awp_exit ?_ | refine awp_scope ?_ | refine awp_label ?_ | refine awp_run ty_ok rfl sdm ?_ | refine awp_ret ⟨_, _, rfl, rfl, ?_⟩ | refine awp_ret ⟨_, rfl, ?_⟩ | ((refine awp_cond (ty := ty) rfl (fun hc => ?_) (fun hc => ?_)) <;> (try simp only [nms, reduceCtorEq] at hc) <;> (try (exfalso; omega))) | refine awp_anyL 15 mixed rfl (by kernel_rfl) ?_ | refine awp_anyS 8 7 ty_ok mixed rfl rfl rfl rfl rfl rfl rfl rfl rfl (by kernel_rfl) ?_)) | ((with_reducible show AOps _ _ _ _ _ _); (first | refine aops_nil ?_ | refine aops_go ty_ok rfl rfl sdm ?_ | refine aops_gate ty_ok rfl rfl rfl sdm ?_ | refine aops_callE (ty := ty) rfl rfl rfl rfl rfl rfl rfl (hc1) rfl ?_ | refine aops_callE (ty := ty) rfl rfl rfl rfl rfl rfl rfl (hc2) rfl ?_ | refine aops_callE (ty := ty) rfl rfl rfl rfl rfl rfl rfl (hc3) rfl ?_ | refine aops_litE ty_ok rfl rfl rfl rfl rfl rfl rfl rfl rfl rfl rfl rfl ?_ | refine aops_litA ty_ok rfl rfl rfl rfl rfl rfl rfl rfl rfl rfl rfl rfl rfl rfl rfl rfl ?_ | refine aops_buildArr ty_ok rfl rfl rfl rfl rfl rfl rfl rfl rfl rfl ?_ | refine aops_indexArr ty_ok rfl rfl rfl rfl rfl rfl rfl rfl rfl rfl sdm ?_ | refine aops_field ty_ok rfl rfl rfl rfl rfl rfl rfl rfl rfl rfl ?_ | refine aops_cutE ty_ok rfl rfl rfl rfl rfl rfl rfl rfl rfl sdm rfl ?_ | ((fail_if_success (refine aops_known rfl ?_)); (refine aops_split ty_ok rfl rfl rfl rfl rfl rfl (fun hc => ⟨?_, ?_⟩) (fun hc => ⟨?_, ?_⟩)) <;> (try simp only [nms, reduceCtorEq] at hc) <;> (try (exfalso; omega)) <;> (try exact sdm)))) | ((with_reducible show HeadT _ _ _ _ _ _ _ _ _ _); (first | refine head_end ?_ | refine head_goP ty_ok rfl rfl sdm ?_ | refine head_gate ty_ok rfl rfl rfl sdm ?_ | refine head_callE (ty := ty) rfl rfl rfl rfl rfl rfl rfl (hc1) rfl ?_ | refine head_callE (ty := ty) rfl rfl rfl rfl rfl rfl rfl (hc2) rfl ?_ | refine head_callE (ty := ty) rfl rfl rfl rfl rfl rfl rfl (hc3) rfl ?_ | ((fail_if_success (refine head_known rfl ?_)); (refine head_split ty_ok rfl rfl rfl rfl (fun hc => ⟨?_, ?_⟩) (fun hc => ⟨?_, ?_⟩)) <;> (try simp only [nms, reduceCtorEq] at hc) <;> (try (exfalso; omega)) <;> (try exact sdm)))) | ((fail_if_success (with_reducible show AWp _ _ _ _ _)); (fail_if_success (with_reducible show AOps _ _ _ _ _ _)); (fail_if_success (with_reducible show HeadT _ _ _ _ _ _ _ _ _ _)); (first | (show AWp _ _ _ _ _) | (show AOps _ _ _ _ _ _) | refine st_go rfl rfl rfl rfl rfl rfl rfl ?_)))
          rfl
    | [e, f, g], E, hp, hc1 =>
      simp only
      obtain ⟨h1, h2, h3⟩ := E.le 0 (by simp)
      obtain ⟨h4, h5, h6⟩ := E.le 1 (by simp)
      obtain ⟨h7, h8, h9⟩ := E.le 2 (by simp)
      simp only [List.getElem_cons_zero, List.getElem_cons_succ] at h1 h2 h3 h4 h5 h6 h7 h8 h9
      obtain ⟨q1, q2, q3, q4, q5, q6, q7⟩ := el_facts (X := (els [e, f, g]).getD (Int.toNat 0) default) (e := e) rfl
      obtain ⟨s1, s2, s3, s4, s5, s6, s7⟩ := el_facts (X := (els [e, f, g]).getD (Int.toNat 1) default) (e := f) rfl
      obtain ⟨p1, p2, p3, p4, p5, p6, p7⟩ := el_facts (X := (els [e, f, g]).getD (Int.toNat (((els [e, f, g]).length : Int) - 1)) default) (e := g) rfl
      have hl : (els [e, f, g]).length = 3 := rfl
      obtain ⟨k1, k2, k3⟩ := cut_side b h2 h3
      obtain ⟨k4, k5, k6⟩ := cut_side b h5 h6
      obtain ⟨k7, k8, k9⟩ := cut_side b h8 h9
      cases hi : isB e.x 0 false 6 with
      | false =>
        have hc2 := c_is_at (envL.at 0) e 0 6 false hi
        rw [exI, hi]
        repeat' (first | ((with_reducible show AWp _ _ _ _ _); (first | refine awp_seq ?_ | refine awp_block ?_ | refine awp_skip ?_ | refine awp_exit ?_ | refine awp_scope ?_ | refine awp_label ?_ | refine awp_run ty_ok rfl sdm ?_ | refine awp_ret ⟨_, _, rfl, rfl, ?_⟩ | refine awp_ret ⟨_, rfl, ?_⟩ | ((refine awp_cond (ty := ty) rfl (fun hc => ?_) (fun hc => ?_)) <;> (try simp only [nms, reduceCtorEq] at hc) <;> (try (exfalso; omega))))) | ((with_reducible show AOps _ _ _ _ _ _); (first | refine aops_nil ?_ | refine aops_go ty_ok rfl rfl sdm ?_ | refine aops_gate ty_ok rfl rfl rfl sdm ?_ | refine aops_callE (ty := ty) rfl rfl rfl rfl rfl rfl rfl (hc1) rfl ?_ | refine aops_callE (ty := ty) rfl rfl rfl rfl rfl rfl rfl (hc2) rfl ?_ | refine aops_litE ty_ok rfl rfl rfl rfl rfl rfl rfl rfl rfl rfl rfl rfl ?_ | refine aops_litA ty_ok rfl rfl rfl rfl rfl rfl rfl rfl rfl rfl rfl rfl rfl rfl rfl rfl ?_ | refine aops_buildArr ty_ok rfl rfl rfl rfl rfl rfl rfl rfl rfl rfl ?_ | refine aops_indexArr ty_ok rfl rfl rfl rfl rfl rfl rfl rfl rfl rfl sdm ?_ | refine aops_field ty_ok rfl rfl rfl rfl rfl rfl rfl rfl rfl rfl ?_ | refine aops_cutE ty_ok rfl rfl rfl rfl rfl rfl rfl rfl rfl sdm rfl ?_ | ((fail_if_success (refine aops_known rfl ?_)); (refine aops_split ty_ok rfl rfl rfl rfl rfl rfl (fun hc => ⟨?_, ?_⟩) (fun hc => ⟨?_, ?_⟩)) <;> (try simp only [nms, reduceCtorEq] at hc) <;> (try (exfalso; omega)) <;> (try exact sdm)))) | ((fail_if_success (with_reducible show AWp _ _ _ _ _)); (fail_if_success (with_reducible show AOps _ _ _ _ _ _)); (first | (show AWp _ _ _ _ _) | (show AOps _ _ _ _ _ _))))
        rfl
      | true =>
        have hc2 := c_is_at (envL.at 0) e 0 6 false hi
        rw [exI, hi]
        by_cases hd : (decS (cut b e.bd e.en)).2 = 0
        · have hc3 := c_odec_ok b h3 h2 (by omega) hd
          rw [decide_eq_true hd]
          simp only
          by_cases hv : cut b f.bd f.en = [255]
          · have hc5 := c_boo_at (envL.at 0) b (i := f.bd) (j := f.en) (v := true) (n := 0) (by rw [booF, if_pos hv])
            cases hif : isB f.x 0 false 1 with
            | false =>
              have hc6 := c_is_at (envL.at 0) f 0 1 false hif
              rw [exC, hif, Bool.false_and]
              repeat' (first | ((with_reducible show AWp _ _ _ _ _); (first | refine awp_seq ?_ | refine awp_block ?_ | refine awp_skip ?_ | refine awp_exit ?_ | refine awp_scope ?_ | refine awp_label ?_ | refine awp_run ty_ok rfl sdm ?_ | refine awp_ret ⟨_, _, rfl, rfl, ?_⟩ | refine awp_ret ⟨_, rfl, ?_⟩ | ((refine awp_cond (ty := ty) rfl (fun hc => ?_) (fun hc => ?_)) <;> (try simp only [nms, reduceCtorEq] at hc) <;> (try (exfalso; omega))) | refine awp_anyL 15 mixed rfl (by kernel_rfl) ?_ | refine awp_anyS 7 6 ty_ok mixed rfl rfl rfl rfl rfl rfl rfl rfl rfl (by kernel_rfl) ?_)) | ((with_reducible show AOps _ _ _ _ _ _); (first | refine aops_nil ?_ | refine aops_go ty_ok rfl rfl sdm ?_ | refine aops_gate ty_ok rfl rfl rfl sdm ?_ | refine aops_callE (ty := ty) rfl rfl rfl rfl rfl rfl rfl (hc1) rfl ?_ | refine aops_callE (ty := ty) rfl rfl rfl rfl rfl rfl rfl (hc2) rfl ?_ | refine aops_callE (ty := ty) rfl rfl rfl rfl rfl rfl rfl (hc3) rfl ?_ | refine aops_callE (ty := ty) rfl rfl rfl rfl rfl rfl rfl (hc5) rfl ?_ | refine aops_callE (ty := ty) rfl rfl rfl rfl rfl rfl rfl (hc6) rfl ?_ | refine aops_litE ty_ok rfl rfl rfl rfl rfl rfl rfl rfl rfl rfl rfl rfl ?_ | refine aops_litA ty_ok rfl rfl rfl rfl rfl rfl rfl rfl rfl rfl rfl rfl rfl rfl rfl rfl ?_ | refine aops_buildArr ty_ok rfl rfl rfl rfl rfl rfl rfl rfl rfl rfl ?_ | refine aops_indexArr ty_ok rfl rfl rfl rfl rfl rfl rfl rfl rfl rfl sdm ?_ | refine aops_field ty_ok rfl rfl rfl rfl rfl rfl rfl rfl rfl rfl ?_ | refine aops_cutE ty_ok rfl rfl rfl rfl rfl rfl rfl rfl rfl sdm rfl ?_ | ((fail_if_success (refine aops_known rfl ?_)); (refine aops_split ty_ok rfl rfl rfl rfl rfl rfl (fun hc => ⟨?_, ?_⟩) (fun hc => ⟨?_, ?_⟩)) <;> (try simp only [nms, reduceCtorEq] at hc) <;> (try (exfalso; omega)) <;> (try exact sdm)))) | ((with_reducible show HeadT _ _ _ _ _ _ _ _ _ _); (first | refine head_end ?_ | refine head_goP ty_ok rfl rfl sdm ?_ | refine head_gate ty_ok rfl rfl rfl sdm ?_ | refine head_callE (ty := ty) rfl rfl rfl rfl rfl rfl rfl (hc1) rfl ?_ | refine head_callE (ty := ty) rfl rfl rfl rfl rfl rfl rfl (hc2) rfl ?_ | refine head_callE (ty := ty) rfl rfl rfl rfl rfl rfl rfl (hc3) rfl ?_ | refine head_callE (ty := ty) rfl rfl rfl rfl rfl rfl rfl (hc5) rfl ?_ | refine head_callE (ty := ty) rfl rfl rfl rfl rfl rfl rfl (hc6) rfl ?_ | ((fail_if_success (refine head_known rfl ?_)); (refine head_split ty_ok rfl rfl rfl rfl (fun hc => ⟨?_, ?_⟩) (fun hc => ⟨?_, ?_⟩)) <;> (try simp only [nms, reduceCtorEq] at hc) <;> (try (exfalso; omega)) <;> (try exact sdm)))) | ((fail_if_success (with_reducible show AWp _ _ _ _ _)); (fail_if_success (with_reducible show AOps _ _ _ _ _ _)); (fail_if_success (with_reducible show HeadT _ _ _ _ _ _ _ _ _ _)); (first | (show AWp _ _ _ _ _) | (show AOps _ _ _ _ _ _) | refine st_go rfl rfl rfl rfl rfl rfl rfl ?_)))
              rfl
            | true =>
              have hc6 := c_is_at (envL.at 0) f 0 1 false hif
              rw [exC, hif, decide_eq_true hv, Bool.true_and]
              simp only
              rw [exL]
              cases hk : isB g.x 0 false 4 with
              | false =>
                have hc4 := c_is_at (envL.at 0) g 0 4 false hk
                repeat' (first | ((with_reducible show AWp _ _ _ _ _); (first | refine awp_seq ?_ | refine awp_block ?_ | refine awp_skip ?_ | refine awp_exit ?_ | refine awp_scope ?_ | refine awp_label ?_ | refine awp_run ty_ok rfl sdm ?_ | refine awp_ret ⟨_, _, rfl, rfl, ?_⟩ | refine awp_ret ⟨_, rfl, ?_⟩ | ((refine awp_cond (ty := ty) rfl (fun hc => ?_) (fun hc => ?_)) <;> (try simp only [nms, reduceCtorEq] at hc) <;> (try (exfalso; omega))) | refine awp_anyL 15 mixed rfl (by kernel_rfl) ?_ | refine awp_anyS 5 4 ty_ok mixed rfl rfl rfl rfl rfl rfl rfl rfl rfl (by kernel_rfl) ?_)) | ((with_reducible show AOps _ _ _ _ _ _); (first | refine aops_nil ?_ | refine aops_go ty_ok rfl rfl sdm ?_ | refine aops_gate ty_ok rfl rfl rfl sdm ?_ | refine aops_callE (ty := ty) rfl rfl rfl rfl rfl rfl rfl (hc1) rfl ?_ | refine aops_callE (ty := ty) rfl rfl rfl rfl rfl rfl rfl (hc2) rfl ?_ | refine aops_callE (ty := ty) rfl rfl rfl rfl rfl rfl rfl (hc3) rfl ?_ | refine aops_callE (ty := ty) rfl rfl rfl rfl rfl rfl rfl (hc5) rfl ?_ | refine aops_callE (ty := ty) rfl rfl rfl rfl rfl rfl rfl (hc6) rfl ?_ | refine aops_callE (ty := ty) rfl rfl rfl rfl rfl rfl rfl (hc4) rfl ?_ | refine aops_litE ty_ok rfl rfl rfl rfl rfl rfl rfl rfl rfl rfl rfl rfl ?_ | refine aops_litA ty_ok rfl rfl rfl rfl rfl rfl rfl rfl rfl rfl rfl rfl rfl rfl rfl rfl ?_ | refine aops_buildArr ty_ok rfl rfl rfl rfl rfl rfl rfl rfl rfl rfl ?_ | refine aops_indexArr ty_ok rfl rfl rfl rfl rfl rfl rfl rfl rfl rfl sdm ?_ | refine aops_field ty_ok rfl rfl rfl rfl rfl rfl rfl rfl rfl rfl ?_ | refine aops_cutE ty_ok rfl rfl rfl rfl rfl rfl rfl rfl rfl sdm rfl ?_ | ((fail_if_success (refine aops_known rfl ?_)); (refine aops_split ty_ok rfl rfl rfl rfl rfl rfl (fun hc => ⟨?_, ?_⟩) (fun hc => ⟨?_, ?_⟩)) <;> (try simp only [nms, reduceCtorEq] at hc) <;> (try (exfalso; omega)) <;> (try exact sdm)))) | ((with_reducible show HeadT _ _ _ _ _ _ _ _ _ _); (first | refine head_end ?_ | refine head_goP ty_ok rfl rfl sdm ?_ | refine head_gate ty_ok rfl rfl rfl sdm ?_ | refine head_callE (ty := ty) rfl rfl rfl rfl rfl rfl rfl (hc1) rfl ?_ | refine head_callE (ty := ty) rfl rfl rfl rfl rfl rfl rfl (hc2) rfl ?_ | refine head_callE (ty := ty) rfl rfl rfl rfl rfl rfl rfl (hc3) rfl ?_ | refine head_callE (ty := ty) rfl rfl rfl rfl rfl rfl rfl (hc5) rfl ?_ | refine head_callE (ty := ty) rfl rfl rfl rfl rfl rfl rfl (hc6) rfl ?_ | refine head_callE (ty := ty) rfl rfl rfl rfl rfl rfl rfl (hc4) rfl ?_ | ((fail_if_success (refine head_known rfl ?_)); (refine head_split ty_ok rfl rfl rfl rfl (fun hc => ⟨?_, ?_⟩) (fun hc => ⟨?_, ?_⟩)) <;> (try simp only [nms, reduceCtorEq] at hc) <;> (try (exfalso; omega)) <;> (try exact sdm)))) | ((fail_if_success (with_reducible show AWp _ _ _ _ _)); (fail_if_success (with_reducible show AOps _ _ _ _ _ _)); (fail_if_success (with_reducible show HeadT _ _ _ _ _ _ _ _ _ _)); (first | (show AWp _ _ _ _ _) | (show AOps _ _ _ _ _ _) | refine st_go rfl rfl rfl rfl rfl rfl rfl ?_)))
                rfl
              | true =>
                have hc4 := c_is_at (envL.at 0) g 0 4 false hk
                repeat' (first | ((with_reducible show AWp _ _ _ _ _); (first | refine awp_seq ?_ | refine awp_block ?_ | refine awp_skip ?_ | refine awp_exit ?_ | refine awp_scope ?_ | refine awp_label ?_ | refine awp_run ty_ok rfl sdm ?_ | refine awp_ret ⟨_, _, rfl, rfl, ?_⟩ | refine awp_ret ⟨_, rfl, ?_⟩ | ((refine awp_cond (ty := ty) rfl (fun hc => ?_) (fun hc => ?_)) <;> (try simp only [nms, reduceCtorEq] at hc) <;> (try (exfalso; omega))) | refine awp_anyL 15 mixed rfl (by kernel_rfl) ?_)) | ((with_reducible show AOps _ _ _ _ _ _); (first | refine aops_nil ?_ | refine aops_go ty_ok rfl rfl sdm ?_ | refine aops_gate ty_ok rfl rfl rfl sdm ?_ | refine aops_callE (ty := ty) rfl rfl rfl rfl rfl rfl rfl (hc1) rfl ?_ | refine aops_callE (ty := ty) rfl rfl rfl rfl rfl rfl rfl (hc2) rfl ?_ | refine aops_callE (ty := ty) rfl rfl rfl rfl rfl rfl rfl (hc3) rfl ?_ | refine aops_callE (ty := ty) rfl rfl rfl rfl rfl rfl rfl (hc5) rfl ?_ | refine aops_callE (ty := ty) rfl rfl rfl rfl rfl rfl rfl (hc6) rfl ?_ | refine aops_callE (ty := ty) rfl rfl rfl rfl rfl rfl rfl (hc4) rfl ?_ | refine aops_callE (ty := ty) rfl rfl rfl rfl rfl rfl rfl (c_clone_at _ b h9 hb) rfl ?_ | refine aops_litE ty_ok rfl rfl rfl rfl rfl rfl rfl rfl rfl rfl rfl rfl ?_ | refine aops_litA ty_ok rfl rfl rfl rfl rfl rfl rfl rfl rfl rfl rfl rfl rfl rfl rfl rfl ?_ | refine aops_buildArr ty_ok rfl rfl rfl rfl rfl rfl rfl rfl rfl rfl ?_ | refine aops_indexArr ty_ok rfl rfl rfl rfl rfl rfl rfl rfl rfl rfl sdm ?_ | refine aops_field ty_ok rfl rfl rfl rfl rfl rfl rfl rfl rfl rfl ?_ | refine aops_cutE ty_ok rfl rfl rfl rfl rfl rfl rfl rfl rfl sdm rfl ?_ | ((fail_if_success (refine aops_known rfl ?_)); (refine aops_split ty_ok rfl rfl rfl rfl rfl rfl (fun hc => ⟨?_, ?_⟩) (fun hc => ⟨?_, ?_⟩)) <;> (try simp only [nms, reduceCtorEq] at hc) <;> (try (exfalso; omega)) <;> (try exact sdm)))) | ((with_reducible show HeadT _ _ _ _ _ _ _ _ _ _); (first | refine head_end ?_ | refine head_goP ty_ok rfl rfl sdm ?_ | refine head_gate ty_ok rfl rfl rfl sdm ?_ | refine head_callE (ty := ty) rfl rfl rfl rfl rfl rfl rfl (hc1) rfl ?_ | refine head_callE (ty := ty) rfl rfl rfl rfl rfl rfl rfl (hc2) rfl ?_ | refine head_callE (ty := ty) rfl rfl rfl rfl rfl rfl rfl (hc3) rfl ?_ | refine head_callE (ty := ty) rfl rfl rfl rfl rfl rfl rfl (hc5) rfl ?_ | refine head_callE (ty := ty) rfl rfl rfl rfl rfl rfl rfl (hc6) rfl ?_ | refine head_callE (ty := ty) rfl rfl rfl rfl rfl rfl rfl (hc4) rfl ?_ | refine head_callE (ty := ty) rfl rfl rfl rfl rfl rfl rfl (c_clone_at _ b h9 hb) rfl ?_ | ((fail_if_success (refine head_known rfl ?_)); (refine head_split ty_ok rfl rfl rfl rfl (fun hc => ⟨?_, ?_⟩) (fun hc => ⟨?_, ?_⟩)) <;> (try simp only [nms, reduceCtorEq] at hc) <;> (try (exfalso; omega)) <;> (try exact sdm)))) | ((fail_if_success (with_reducible show AWp _ _ _ _ _)); (fail_if_success (with_reducible show AOps _ _ _ _ _ _)); (fail_if_success (with_reducible show HeadT _ _ _ _ _ _ _ _ _ _)); (first | (show AWp _ _ _ _ _) | (show AOps _ _ _ _ _ _))))
                rfl
          · rw [exC, decide_eq_false hv, Bool.and_false]
            simp only
            obtain ⟨n, hn⟩ : ∃ n, booF (cut b f.bd f.en) = (false, n) := by
              rw [booF, if_neg hv]
              split
              · exact ⟨0, rfl⟩
              · exact ⟨6, rfl⟩
            have hc5 := c_boo_at (envL.at 0) b (i := f.bd) (j := f.en) hn
            have hc6 := c_is (envL.at 0) f 0 1 false
            repeat' (first | ((with_reducible show AWp _ _ _ _ _); (first | refine awp_seq ?_ | refine awp_block ?_ | refine awp_skip ?_ | refine awp_exit ?_ | refine awp_scope ?_ | refine awp_label ?_ | refine awp_run ty_ok rfl sdm ?_ | refine awp_ret ⟨_, _, rfl, rfl, ?_⟩ | refine awp_ret ⟨_, rfl, ?_⟩ | ((refine awp_cond (ty := ty) rfl (fun hc => ?_) (fun hc => ?_)) <;> (try simp only [nms, reduceCtorEq] at hc) <;> (try (exfalso; omega))) | refine awp_anyL 15 mixed rfl (by kernel_rfl) ?_ | refine awp_anyS 7 6 ty_ok mixed rfl rfl rfl rfl rfl rfl rfl rfl rfl (by kernel_rfl) ?_)) | ((with_reducible show AOps _ _ _ _ _ _); (first | refine aops_nil ?_ | refine aops_go ty_ok rfl rfl sdm ?_ | refine aops_gate ty_ok rfl rfl rfl sdm ?_ | refine aops_callE (ty := ty) rfl rfl rfl rfl rfl rfl rfl (hc1) rfl ?_ | refine aops_callE (ty := ty) rfl rfl rfl rfl rfl rfl rfl (hc2) rfl ?_ | refine aops_callE (ty := ty) rfl rfl rfl rfl rfl rfl rfl (hc3) rfl ?_ | refine aops_callE (ty := ty) rfl rfl rfl rfl rfl rfl rfl (hc5) rfl ?_ | refine aops_callE (ty := ty) rfl rfl rfl rfl rfl rfl rfl (hc6) rfl ?_ | refine aops_litE ty_ok rfl rfl rfl rfl rfl rfl rfl rfl rfl rfl rfl rfl ?_ | refine aops_litA ty_ok rfl rfl rfl rfl rfl rfl rfl rfl rfl rfl rfl rfl rfl rfl rfl rfl ?_ | refine aops_buildArr ty_ok rfl rfl rfl rfl rfl rfl rfl rfl rfl rfl ?_ | refine aops_indexArr ty_ok rfl rfl rfl rfl rfl rfl rfl rfl rfl rfl sdm ?_ | refine aops_field ty_ok rfl rfl rfl rfl rfl rfl rfl rfl rfl rfl ?_ | refine aops_cutE ty_ok rfl rfl rfl rfl rfl rfl rfl rfl rfl sdm rfl ?_ | ((fail_if_success (refine aops_known rfl ?_)); (refine aops_split ty_ok rfl rfl rfl rfl rfl rfl (fun hc => ⟨?_, ?_⟩) (fun hc => ⟨?_, ?_⟩)) <;> (try simp only [nms, reduceCtorEq] at hc) <;> (try (exfalso; omega)) <;> (try exact sdm)))) | ((with_reducible show HeadT _ _ _ _ _ _ _ _ _ _); (first | refine head_end ?_ | refine head_goP ty_ok rfl rfl sdm ?_ | refine head_gate ty_ok rfl rfl rfl sdm ?_ | refine head_callE (ty := ty) rfl rfl rfl rfl rfl rfl rfl (hc1) rfl ?_ | refine head_callE (ty := ty) rfl rfl rfl rfl rfl rfl rfl (hc2) rfl ?_ | refine head_callE (ty := ty) rfl rfl rfl rfl rfl rfl rfl (hc3) rfl ?_ | refine head_callE (ty := ty) rfl rfl rfl rfl rfl rfl rfl (hc5) rfl ?_ | refine head_callE (ty := ty) rfl rfl rfl rfl rfl rfl rfl (hc6) rfl ?_ | ((fail_if_success (refine head_known rfl ?_)); (refine head_split ty_ok rfl rfl rfl rfl (fun hc => ⟨?_, ?_⟩) (fun hc => ⟨?_, ?_⟩)) <;> (try simp only [nms, reduceCtorEq] at hc) <;> (try (exfalso; omega)) <;> (try exact sdm)))) | ((fail_if_success (with_reducible show AWp _ _ _ _ _)); (fail_if_success (with_reducible show AOps _ _ _ _ _ _)); (fail_if_success (with_reducible show HeadT _ _ _ _ _ _ _ _ _ _)); (first | (show AWp _ _ _ _ _) | (show AOps _ _ _ _ _ _) | refine st_go rfl rfl rfl rfl rfl rfl rfl ?_)))
            all_goals rfl
        · have hc3 := c_odec_bad b h3 h2 (by omega) hd
          rw [decide_eq_false hd]
          repeat' (first | ((with_reducible show AWp _ _ _ _ _); (first | refine awp_seq ?_ | refine awp_block ?_ | refine awp_skip ?_ | refine awp_exit ?_ | refine awp_scope ?_ | refine awp_label ?_ | refine awp_run ty_ok rfl sdm ?_ | refine awp_ret ⟨_, _, rfl, rfl, ?_⟩ | refine awp_ret ⟨_, rfl, ?_⟩ | ((refine awp_cond (ty := ty) rfl (fun hc => ?_) (fun hc => ?_)) <;> (try simp only [nms, reduceCtorEq] at hc) <;> (try (exfalso; omega))) | refine awp_anyL 15 mixed rfl (by kernel_rfl) ?_ | refine awp_anyS 8 7 ty_ok mixed rfl rfl rfl rfl rfl rfl rfl rfl rfl (by kernel_rfl) ?_)) | ((with_reducible show AOps _ _ _ _ _ _); (first | refine aops_nil ?_ | refine aops_go ty_ok rfl rfl sdm ?_ | refine aops_gate ty_ok rfl rfl rfl sdm ?_ | refine aops_callE (ty := ty) rfl rfl rfl rfl rfl rfl rfl (hc1) rfl ?_ | refine aops_callE (ty := ty) rfl rfl rfl rfl rfl rfl rfl (hc2) rfl ?_ | refine aops_callE (ty := ty) rfl rfl rfl rfl rfl rfl rfl (hc3) rfl ?_ | refine aops_litE ty_ok rfl rfl rfl rfl rfl rfl rfl rfl rfl rfl rfl rfl ?_ | refine aops_litA ty_ok rfl rfl rfl rfl rfl rfl rfl rfl rfl rfl rfl rfl rfl rfl rfl rfl ?_ | refine aops_buildArr ty_ok rfl rfl rfl rfl rfl rfl rfl rfl rfl rfl ?_ | refine aops_indexArr ty_ok rfl rfl rfl rfl rfl rfl rfl rfl rfl rfl sdm ?_ | refine aops_field ty_ok rfl rfl rfl rfl rfl rfl rfl rfl rfl rfl ?_ | refine aops_cutE ty_ok rfl rfl rfl rfl rfl rfl rfl rfl rfl sdm rfl ?_ | ((fail_if_success (refine aops_known rfl ?_)); (refine aops_split ty_ok rfl rfl rfl rfl rfl rfl (fun hc => ⟨?_, ?_⟩) (fun hc => ⟨?_, ?_⟩)) <;> (try simp only [nms, reduceCtorEq] at hc) <;> (try (exfalso; omega)) <;> (try exact sdm)))) | ((with_reducible show HeadT _ _ _ _ _ _ _ _ _ _); (first | refine head_end ?_ | refine head_goP ty_ok rfl rfl sdm ?_ | refine head_gate ty_ok rfl rfl rfl sdm ?_ | refine head_callE (ty := ty) rfl rfl rfl rfl rfl rfl rfl (hc1) rfl ?_ | refine head_callE (ty := ty) rfl rfl rfl rfl rfl rfl rfl (hc2) rfl ?_ | refine head_callE (ty := ty) rfl rfl rfl rfl rfl rfl rfl (hc3) rfl ?_ | ((fail_if_success (refine head_known rfl ?_)); (refine head_split ty_ok rfl rfl rfl rfl (fun hc => ⟨?_, ?_⟩) (fun hc => ⟨?_, ?_⟩)) <;> (try simp only [nms, reduceCtorEq] at hc) <;> (try (exfalso; omega)) <;> (try exact sdm)))) | ((fail_if_success (with_reducible show AWp _ _ _ _ _)); (fail_if_success (with_reducible show AOps _ _ _ _ _ _)); (fail_if_success (with_reducible show HeadT _ _ _ _ _ _ _ _ _ _)); (first | (show AWp _ _ _ _ _) | (show AOps _ _ _ _ _ _) | refine st_go rfl rfl rfl rfl rfl rfl rfl ?_)))
          rfl
theorem c_xparse_at (b : List UInt8) (hb : b.length ≤ 1000000) {v : Ex Ext} (h : exP b = v) : ACalls Tryz.prog envL 9 [.sl none (bys b)] (fun r => r = xpR v) := by
  subst h
  exact c_xparse b hb
end Go.Proofs.YtmciaonjkkelnaaGreatDoor

/- Identifier and length octets, read by the reference. Walked by the abstract machine. -/
namespace Go.Proofs.YtmciaonjkkelnaaGreatDoor
open Go.Am
set_option linter.unusedSimpArgs false
set_option linter.unusedVariables false

theorem beF_zero (r : List UInt8) : beF ((0 : UInt8) :: r) = beF r := rfl
theorem u64_stepR (n x : Nat) (hn : n < 72057594037927936) (hx : x < 256) : IntKind.u64.wrap (IntKind.u64.wrap ((n : Int) * 256) + IntKind.u64.wrap (x : Int)) = ((n * 256 + x : Nat) : Int) := by
  rw [IntKind.wrap_u64, IntKind.wrap_u64, IntKind.wrap_u64]
  omega
theorem isRUint : IsFn Tryz.prog 130 Tryz.f130 := ⟨Tryz.func130, by decide, rfl⟩
set_option maxHeartbeats 1000000 in
theorem c_ruint (Γ : Env) (b : List UInt8) (hb : b.length ≤ 7) : ACalls Tryz.prog Γ 130 [.sl none (bys b)] (fun r => r = .d (.tup [.int .u64 (beF b), .bool true])) := by
  refine acalls_of ty_ok isRUint rfl rfl ?_
  repeat' (first | ((with_reducible show AWp _ _ _ _ _); (first | refine awp_seq ?_ | refine awp_block ?_ | refine awp_skip ?_ | refine awp_exit ?_ | refine awp_scope ?_ | refine awp_label ?_ | refine awp_run ty_ok rfl sd ?_ | refine awp_ret ⟨_, _, rfl, rfl, ?_⟩ | refine awp_ret ⟨_, rfl, ?_⟩ | ((refine awp_cond (ty := ty) rfl (fun hc => ?_) (fun hc => ?_)) <;> (try simp only [nms, reduceCtorEq] at hc) <;> (try (exfalso; omega))))) | ((with_reducible show AOps _ _ _ _ _ _); (first | refine aops_nil ?_ | refine aops_go ty_ok rfl rfl sd ?_ | refine aops_gate ty_ok rfl rfl rfl sd ?_ | refine aops_litE ty_ok rfl rfl rfl rfl rfl rfl rfl rfl rfl rfl rfl rfl ?_ | refine aops_cutE ty_ok rfl rfl rfl rfl rfl rfl rfl rfl rfl sd rfl ?_ | ((fail_if_success (refine aops_known rfl ?_)); (refine aops_split ty_ok rfl rfl rfl rfl rfl rfl (fun hc => ⟨?_, ?_⟩) (fun hc => ⟨?_, ?_⟩)) <;> (try simp only [nms, reduceCtorEq] at hc) <;> (try (exfalso; omega)) <;> (try exact sd)))) | ((fail_if_success (with_reducible show AWp _ _ _ _ _)); (fail_if_success (with_reducible show AOps _ _ _ _ _ _)); (first | (show AWp _ _ _ _ _) | (show AOps _ _ _ _ _ _))))
  refine awp_loopR (G := { c : List UInt8 // beF c = beF b ∧ c.length ≤ 7 }) (fun c => ⟨Tryz.f130.ntmps, [(0, .d (.sl none (bys c.1)))], [], 0⟩) (fun c => c.1.length) ⟨b, rfl, hb⟩ []
    (SubR.mk' rfl rfl ⟨⟨_, rfl, rfl⟩, trivial⟩ trivial) ?_
  rintro ⟨c, hc1, hc2⟩
  dsimp only
  have hfin : (c.headD 1).toNat ≠ 0 → AWp Tryz.prog (Γ.at 0) (Code.skip) (fun _ _ => True) ⟨0, [], [], 0⟩ := fun _ => awp_skip trivial
  by_cases hz : ∃ r, c = 0 :: r
  · obtain ⟨r, rfl⟩ := hz
    have h0 : ((bys ((0 : UInt8) :: r)).getD (Int.toNat 0) default).num = 0 := rfl
    repeat' (first | ((with_reducible show AWp _ _ _ _ _); (first | refine awp_seq ?_ | refine awp_block ?_ | refine awp_skip ?_ | refine awp_exit ?_ | refine awp_scope ?_ | refine awp_label ?_ | refine awp_run ty_ok rfl sd ?_ | refine awp_ret ⟨_, _, rfl, rfl, ?_⟩ | refine awp_ret ⟨_, rfl, ?_⟩ | ((refine awp_cond (ty := ty) rfl (fun hc => ?_) (fun hc => ?_)) <;> (try simp only [nms, reduceCtorEq] at hc) <;> (try (exfalso; omega))))) | ((with_reducible show AOps _ _ _ _ _ _); (first | refine aops_nil ?_ | refine aops_go ty_ok rfl rfl sd ?_ | refine aops_gate ty_ok rfl rfl rfl sd ?_ | refine aops_litE ty_ok rfl rfl rfl rfl rfl rfl rfl rfl rfl rfl rfl rfl ?_ | refine aops_cutE ty_ok rfl rfl rfl rfl rfl rfl rfl rfl rfl sd rfl ?_ | ((fail_if_success (refine aops_known rfl ?_)); (refine aops_split ty_ok rfl rfl rfl rfl rfl rfl (fun hc => ⟨?_, ?_⟩) (fun hc => ⟨?_, ?_⟩)) <;> (try simp only [nms, reduceCtorEq] at hc) <;> (try (exfalso; omega)) <;> (try exact sd)))) | ((fail_if_success (with_reducible show AWp _ _ _ _ _)); (fail_if_success (with_reducible show AOps _ _ _ _ _ _)); (first | (show AWp _ _ _ _ _) | (show AOps _ _ _ _ _ _))))
    refine ⟨⟨r, by rw [← hc1, beF_zero], by simp at hc2; omega⟩, [], SubR.mk' rfl rfl ⟨⟨_, rfl, congrArg (fun z => AV.d (Dat.sl none z)) ?_⟩, trivial⟩ trivial, by simp⟩
    rw [cutL_bys, bys_len]
    simp [cutB]
  · have h0 : c ≠ [] → ((bys c).getD (Int.toNat 0) default).num ≠ 0 := fun hne => by
      match c, hne with
      | x :: r, _ =>
        show (x.toNat : Int) ≠ 0
        intro h
        exact hz ⟨r, by rw [show x = 0 from u8_ext (by simpa using h)]⟩
    have hlo : c.length = 0 ∨ ((bys c).getD (Int.toNat 0) default).num ≠ 0 := by
      cases c with
      | nil => exact .inl rfl
      | cons x r => exact .inr (h0 (by simp))
    repeat' (first | ((with_reducible show AWp _ _ _ _ _); (first | refine awp_seq ?_ | refine awp_block ?_ | refine awp_skip ?_ | refine awp_exit ?_ | refine awp_scope ?_ | refine awp_label ?_ | refine awp_run ty_ok rfl sd ?_ | refine awp_ret ⟨_, _, rfl, rfl, ?_⟩ | refine awp_ret ⟨_, rfl, ?_⟩ | ((refine awp_cond (ty := ty) rfl (fun hc => ?_) (fun hc => ?_)) <;> (try simp only [nms, reduceCtorEq] at hc) <;> (try (exfalso; omega))))) | ((with_reducible show AOps _ _ _ _ _ _); (first | refine aops_nil ?_ | refine aops_go ty_ok rfl rfl sd ?_ | refine aops_gate ty_ok rfl rfl rfl sd ?_ | refine aops_litE ty_ok rfl rfl rfl rfl rfl rfl rfl rfl rfl rfl rfl rfl ?_ | refine aops_cutE ty_ok rfl rfl rfl rfl rfl rfl rfl rfl rfl sd rfl ?_ | ((fail_if_success (refine aops_known rfl ?_)); (refine aops_split ty_ok rfl rfl rfl rfl rfl rfl (fun hc => ⟨?_, ?_⟩) (fun hc => ⟨?_, ?_⟩)) <;> (try simp only [nms, reduceCtorEq] at hc) <;> (try (exfalso; omega)) <;> (try exact sd)))) | ((fail_if_success (with_reducible show AWp _ _ _ _ _)); (fail_if_success (with_reducible show AOps _ _ _ _ _ _)); (first | (show AWp _ _ _ _ _) | (show AOps _ _ _ _ _ _))))
    all_goals try (exfalso; omega)
    all_goals
      refine awp_loopR (G := { i : Nat // i ≤ c.length }) (fun i => ⟨Tryz.f130.ntmps, [(0, .d (.sl none (bys c))), (4, .d (.int .u64 (beF (c.take i.1)))), (5, .d (.int .i64 i.1))], [], 0⟩) (fun i => c.length - i.1) ⟨0, Nat.zero_le _⟩ []
        (SubR.mk' rfl rfl ⟨⟨_, rfl, rfl⟩, ⟨_, rfl, rfl⟩, ⟨_, rfl, rfl⟩, trivial⟩ trivial) ?_
      rintro ⟨i, hi⟩
      dsimp only
      rcases Nat.lt_or_ge i c.length with hil | hil
      · have hbt := beF_lt (c.take i)
        have hpw := Nat.pow_le_pow_right (n := 256) (by omega) (show (c.take i).length ≤ 7 by rw [List.length_take]; omega)
        have hel : ((bys c).getD (i : Int).toNat default).num = (c[i].toNat : Int) := byte_at c i hil
        have hxl := u8_lt c[i]
        repeat' (first | ((with_reducible show AWp _ _ _ _ _); (first | refine awp_seq ?_ | refine awp_block ?_ | refine awp_skip ?_ | refine awp_exit ?_ | refine awp_scope ?_ | refine awp_label ?_ | refine awp_run ty_ok rfl sd ?_ | refine awp_ret ⟨_, _, rfl, rfl, ?_⟩ | refine awp_ret ⟨_, rfl, ?_⟩ | ((refine awp_cond (ty := ty) rfl (fun hc => ?_) (fun hc => ?_)) <;> (try simp only [nms, reduceCtorEq] at hc) <;> (try (exfalso; omega))))) | ((with_reducible show AOps _ _ _ _ _ _); (first | refine aops_nil ?_ | refine aops_go ty_ok rfl rfl sd ?_ | refine aops_gate ty_ok rfl rfl rfl sd ?_ | refine aops_litE ty_ok rfl rfl rfl rfl rfl rfl rfl rfl rfl rfl rfl rfl ?_ | refine aops_cutE ty_ok rfl rfl rfl rfl rfl rfl rfl rfl rfl sd rfl ?_ | ((fail_if_success (refine aops_known rfl ?_)); (refine aops_split ty_ok rfl rfl rfl rfl rfl rfl (fun hc => ⟨?_, ?_⟩) (fun hc => ⟨?_, ?_⟩)) <;> (try simp only [nms, reduceCtorEq] at hc) <;> (try (exfalso; omega)) <;> (try exact sd)))) | ((fail_if_success (with_reducible show AWp _ _ _ _ _)); (fail_if_success (with_reducible show AOps _ _ _ _ _ _)); (first | (show AWp _ _ _ _ _) | (show AOps _ _ _ _ _ _))))
        all_goals refine ⟨⟨i + 1, hil⟩, [], SubR.mk' rfl rfl ⟨⟨_, rfl, rfl⟩, ⟨_, rfl, congrArg (fun z : Int => AV.d (Dat.int IntKind.u64 z)) ?_⟩, ⟨_, rfl, rfl⟩, trivial⟩ trivial, by simp only; omega⟩
        all_goals rw [hel, u64_stepR _ _ (by omega) hxl, List.take_succ_eq_append_getElem hil, beF_snoc]
      · have hie : i = c.length := by omega
        subst hie
        repeat' (first | ((with_reducible show AWp _ _ _ _ _); (first | refine awp_seq ?_ | refine awp_block ?_ | refine awp_skip ?_ | refine awp_exit ?_ | refine awp_scope ?_ | refine awp_label ?_ | refine awp_run ty_ok rfl sd ?_ | refine awp_ret ⟨_, _, rfl, rfl, ?_⟩ | refine awp_ret ⟨_, rfl, ?_⟩ | ((refine awp_cond (ty := ty) rfl (fun hc => ?_) (fun hc => ?_)) <;> (try simp only [nms, reduceCtorEq] at hc) <;> (try (exfalso; omega))))) | ((with_reducible show AOps _ _ _ _ _ _); (first | refine aops_nil ?_ | refine aops_go ty_ok rfl rfl sd ?_ | refine aops_gate ty_ok rfl rfl rfl sd ?_ | refine aops_litE ty_ok rfl rfl rfl rfl rfl rfl rfl rfl rfl rfl rfl rfl ?_ | refine aops_cutE ty_ok rfl rfl rfl rfl rfl rfl rfl rfl rfl sd rfl ?_ | ((fail_if_success (refine aops_known rfl ?_)); (refine aops_split ty_ok rfl rfl rfl rfl rfl rfl (fun hc => ⟨?_, ?_⟩) (fun hc => ⟨?_, ?_⟩)) <;> (try simp only [nms, reduceCtorEq] at hc) <;> (try (exfalso; omega)) <;> (try exact sd)))) | ((fail_if_success (with_reducible show AWp _ _ _ _ _)); (fail_if_success (with_reducible show AOps _ _ _ _ _ _)); (first | (show AWp _ _ _ _ _) | (show AOps _ _ _ _ _ _))))
        try rw [List.take_length, hc1]
def cmpB : List UInt8 → List UInt8 → Int
  | [], [] => 0
  | [], _ :: _ => -1
  | _ :: _, [] => 1
  | a :: x, b :: y => if a.toNat < b.toNat then -1 else if b.toNat < a.toNat then 1 else cmpB x y
theorem cmpB_zero : ∀ (x y : List UInt8), cmpB x y = 0 ↔ x = y
  | [], [] => by simp [cmpB]
  | [], _ :: _ => by simp [cmpB]
  | _ :: _, [] => by simp [cmpB]
  | a :: x, b :: y => by
    rw [cmpB]
    by_cases h1 : a.toNat < b.toNat
    · rw [if_pos h1]
      have : a ≠ b := fun e => by rw [e] at h1; omega
      simp [this]
    · rw [if_neg h1]
      by_cases h2 : b.toNat < a.toNat
      · rw [if_pos h2]
        have : a ≠ b := fun e => by rw [e] at h2; omega
        simp [this]
      · rw [if_neg h2, cmpB_zero x y, show a = b from u8_ext (by omega)]
        simp
theorem cmpB_drop {x y : List UInt8} {k : Nat} (hx : k < x.length) (hy : k < y.length) : cmpB (x.drop k) (y.drop k) = if x[k].toNat < y[k].toNat then -1 else if y[k].toNat < x[k].toNat then 1 else cmpB (x.drop (k + 1)) (y.drop (k + 1)) := by
  rw [List.drop_eq_getElem_cons hx, List.drop_eq_getElem_cons hy, cmpB]
theorem cmpB_end {x y : List UInt8} {k : Nat} (h : ¬ (k < x.length ∧ k < y.length)) (hx : k ≤ x.length) (hy : k ≤ y.length) : cmpB (x.drop k) (y.drop k) = if x.length < y.length then -1 else if y.length < x.length then 1 else 0 := by
  cases h1 : x.drop k with
  | nil =>
    have := List.drop_eq_nil_iff.1 h1
    cases h2 : y.drop k with
    | nil =>
      have := List.drop_eq_nil_iff.1 h2
      rw [if_neg (by omega), if_neg (by omega)]
      rfl
    | cons b r =>
      have : k < y.length := by
        apply Nat.lt_of_not_le
        intro hle
        rw [List.drop_eq_nil_iff.2 hle] at h2
        cases h2
      rw [if_pos (by omega)]
      rfl
  | cons a r =>
    have hkx : k < x.length := by
      apply Nat.lt_of_not_le
      intro hle
      rw [List.drop_eq_nil_iff.2 hle] at h1
      cases h1
    have h2 : y.drop k = [] := List.drop_eq_nil_iff.2 (by omega)
    rw [h2, if_neg (by omega), if_pos (by omega)]
    rfl
theorem isRCompare1 : IsFn Tryz.prog 131 Tryz.f131 := ⟨Tryz.func131, by decide, rfl⟩
set_option maxHeartbeats 1000000 in
theorem c_rcmp (Γ : Env) (x y : List UInt8) (hx : x.length ≤ 1099511627) : ACalls Tryz.prog Γ 131 [.sl none (bys x), .sl none (bys y)] (fun r => r = .d (.int .i64 (cmpB x y))) := by
  refine acalls_of ty_ok isRCompare1 rfl rfl ?_
  repeat' (first | ((with_reducible show AWp _ _ _ _ _); (first | refine awp_seq ?_ | refine awp_block ?_ | refine awp_skip ?_ | refine awp_exit ?_ | refine awp_scope ?_ | refine awp_label ?_ | refine awp_run ty_ok rfl sd ?_ | refine awp_ret ⟨_, _, rfl, rfl, ?_⟩ | refine awp_ret ⟨_, rfl, ?_⟩ | ((refine awp_cond (ty := ty) rfl (fun hc => ?_) (fun hc => ?_)) <;> (try simp only [nms, reduceCtorEq] at hc) <;> (try (exfalso; omega))))) | ((with_reducible show AOps _ _ _ _ _ _); (first | refine aops_nil ?_ | refine aops_go ty_ok rfl rfl sd ?_ | refine aops_gate ty_ok rfl rfl rfl sd ?_ | refine aops_litE ty_ok rfl rfl rfl rfl rfl rfl rfl rfl rfl rfl rfl rfl ?_ | refine aops_cutE ty_ok rfl rfl rfl rfl rfl rfl rfl rfl rfl sd rfl ?_ | ((fail_if_success (refine aops_known rfl ?_)); (refine aops_split ty_ok rfl rfl rfl rfl rfl rfl (fun hc => ⟨?_, ?_⟩) (fun hc => ⟨?_, ?_⟩)) <;> (try simp only [nms, reduceCtorEq] at hc) <;> (try (exfalso; omega)) <;> (try exact sd)))) | ((fail_if_success (with_reducible show AWp _ _ _ _ _)); (fail_if_success (with_reducible show AOps _ _ _ _ _ _)); (first | (show AWp _ _ _ _ _) | (show AOps _ _ _ _ _ _))))
  refine awp_loopR (G := { k : Nat // k ≤ x.length ∧ k ≤ y.length ∧ cmpB x y = cmpB (x.drop k) (y.drop k) }) (fun k => ⟨Tryz.f131.ntmps, [(0, .d (.sl none (bys x))), (1, .d (.sl none (bys y))), (5, .d (.int .i64 k.1))], [], 0⟩) (fun k => x.length - k.1) ⟨0, by simp⟩ []
      (SubR.mk' rfl rfl ⟨⟨_, rfl, rfl⟩, ⟨_, rfl, rfl⟩, ⟨_, rfl, rfl⟩, trivial⟩ trivial) ?_
  rintro ⟨k, hk1, hk2, hk3⟩
  dsimp only
  by_cases h : k < x.length ∧ k < y.length
  · have e1 := byte_at x k h.1
    have e2 := byte_at y k h.2
    rw [cmpB_drop h.1 h.2] at hk3
    repeat' (first | ((with_reducible show AWp _ _ _ _ _); (first | refine awp_seq ?_ | refine awp_block ?_ | refine awp_skip ?_ | refine awp_exit ?_ | refine awp_scope ?_ | refine awp_label ?_ | refine awp_run ty_ok rfl sd ?_ | refine awp_ret ⟨_, _, rfl, rfl, ?_⟩ | refine awp_ret ⟨_, rfl, ?_⟩ | ((refine awp_cond (ty := ty) rfl (fun hc => ?_) (fun hc => ?_)) <;> (try simp only [nms, reduceCtorEq] at hc) <;> (try (exfalso; omega))) | refine awp_anyL 8 mixed rfl (by kernel_rfl) ?_)) | ((with_reducible show AOps _ _ _ _ _ _); (first | refine aops_nil ?_ | refine aops_go ty_ok rfl rfl sd ?_ | refine aops_gate ty_ok rfl rfl rfl sd ?_ | refine aops_litE ty_ok rfl rfl rfl rfl rfl rfl rfl rfl rfl rfl rfl rfl ?_ | refine aops_cutE ty_ok rfl rfl rfl rfl rfl rfl rfl rfl rfl sd rfl ?_ | ((fail_if_success (refine aops_known rfl ?_)); (refine aops_split ty_ok rfl rfl rfl rfl rfl rfl (fun hc => ⟨?_, ?_⟩) (fun hc => ⟨?_, ?_⟩)) <;> (try simp only [nms, reduceCtorEq] at hc) <;> (try (exfalso; omega)) <;> (try exact sd)))) | ((with_reducible show HeadT _ _ _ _ _ _ _ _ _ _); (first | refine head_end ?_ | refine head_goP ty_ok rfl rfl sd ?_ | refine head_gate ty_ok rfl rfl rfl sd ?_ | ((fail_if_success (refine head_known rfl ?_)); (refine head_split ty_ok rfl rfl rfl rfl (fun hc => ⟨?_, ?_⟩) (fun hc => ⟨?_, ?_⟩)) <;> (try simp only [nms, reduceCtorEq] at hc) <;> (try (exfalso; omega)) <;> (try exact sd)))) | ((fail_if_success (with_reducible show AWp _ _ _ _ _)); (fail_if_success (with_reducible show AOps _ _ _ _ _ _)); (fail_if_success (with_reducible show HeadT _ _ _ _ _ _ _ _ _ _)); (first | (show AWp _ _ _ _ _) | (show AOps _ _ _ _ _ _))))
    · rw [hk3, if_pos (by omega)]
    · rw [hk3, if_neg (by omega), if_pos (by omega)]
    · rw [if_neg (by omega), if_neg (by omega)] at hk3
      exact ⟨⟨k + 1, h.1, h.2, hk3⟩, [], SubR.mk' rfl rfl ⟨⟨_, rfl, rfl⟩, ⟨_, rfl, rfl⟩, ⟨_, rfl, rfl⟩, trivial⟩ trivial, by simp only; omega⟩
  · rw [cmpB_end h hk1 hk2] at hk3
    repeat' (first | ((with_reducible show AWp _ _ _ _ _); (first | refine awp_seq ?_ | refine awp_block ?_ | refine awp_skip ?_ | refine awp_exit ?_ | refine awp_scope ?_ | refine awp_label ?_ | refine awp_run ty_ok rfl sd ?_ | refine awp_ret ⟨_, _, rfl, rfl, ?_⟩ | refine awp_ret ⟨_, rfl, ?_⟩ | ((refine awp_cond (ty := ty) rfl (fun hc => ?_) (fun hc => ?_)) <;> (try simp only [nms, reduceCtorEq] at hc) <;> (try (exfalso; omega))))) | ((with_reducible show AOps _ _ _ _ _ _); (first | refine aops_nil ?_ | refine aops_go ty_ok rfl rfl sd ?_ | refine aops_gate ty_ok rfl rfl rfl sd ?_ | refine aops_litE ty_ok rfl rfl rfl rfl rfl rfl rfl rfl rfl rfl rfl rfl ?_ | refine aops_cutE ty_ok rfl rfl rfl rfl rfl rfl rfl rfl rfl sd rfl ?_ | ((fail_if_success (refine aops_known rfl ?_)); (refine aops_split ty_ok rfl rfl rfl rfl rfl rfl (fun hc => ⟨?_, ?_⟩) (fun hc => ⟨?_, ?_⟩)) <;> (try simp only [nms, reduceCtorEq] at hc) <;> (try (exfalso; omega)) <;> (try exact sd)))) | ((fail_if_success (with_reducible show AWp _ _ _ _ _)); (fail_if_success (with_reducible show AOps _ _ _ _ _ _)); (first | (show AWp _ _ _ _ _) | (show AOps _ _ _ _ _ _))))
    all_goals first | (exfalso; omega) | skip
    all_goals rw [hk3]
    all_goals first | (rw [if_pos (by omega)]; done) | (rw [if_neg (by omega), if_pos (by omega)]; done) | (rw [if_neg (by omega), if_neg (by omega)]; done)

theorem tm32 (x : UInt8) : Int.tmod (IntKind.i64.wrap (x.toNat : Int)) 32 = ((x.toNat % 32 : Nat) : Int) := by
  rw [wrap_i64_nat _ (by have := u8_lt x; omega)]
  rfl
theorem td_nat (x : UInt8) (k : Nat) (hk : 0 < k) : IntKind.i64.wrap (Int.tdiv (IntKind.i64.wrap (x.toNat : Int)) (k : Int)) = ((x.toNat / k : Nat) : Int) := by
  have := u8_lt x
  have h2 : x.toNat / k ≤ x.toNat := Nat.div_le_self _ _
  rw [wrap_i64_nat _ (by omega), ← Int.ofNat_tdiv, wrap_i64_nat _ (by omega)]
theorem isRReadIdentifier : IsFn Tryz.prog 120 Tryz.f120 := ⟨Tryz.func120, by decide, rfl⟩
theorem c_rreadid (Γ : Env) (x : UInt8) : ACalls Tryz.prog Γ 120 [.int .u8 x.toNat] (fun r => r = .d (idD x)) := by
  refine acalls_of ty_ok isRReadIdentifier rfl rfl ?_
  have h1 := u8_lt x
  have h2 := tm32 x
  repeat' (first | ((with_reducible show AWp _ _ _ _ _); (first | refine awp_seq ?_ | refine awp_block ?_ | refine awp_skip ?_ | refine awp_exit ?_ | refine awp_scope ?_ | refine awp_label ?_ | refine awp_run ty_ok rfl sd ?_ | refine awp_ret ⟨_, _, rfl, rfl, ?_⟩ | refine awp_ret ⟨_, rfl, ?_⟩ | ((refine awp_cond (ty := ty) rfl (fun hc => ?_) (fun hc => ?_)) <;> (try simp only [nms, reduceCtorEq] at hc) <;> (try (exfalso; omega))))) | ((with_reducible show AOps _ _ _ _ _ _); (first | refine aops_nil ?_ | refine aops_go ty_ok rfl rfl sd ?_ | refine aops_gate ty_ok rfl rfl rfl sd ?_ | refine aops_litE ty_ok rfl rfl rfl rfl rfl rfl rfl rfl rfl rfl rfl rfl ?_ | refine aops_cutE ty_ok rfl rfl rfl rfl rfl rfl rfl rfl rfl sd rfl ?_ | ((fail_if_success (refine aops_known rfl ?_)); (refine aops_split ty_ok rfl rfl rfl rfl rfl rfl (fun hc => ⟨?_, ?_⟩) (fun hc => ⟨?_, ?_⟩)) <;> (try simp only [nms, reduceCtorEq] at hc) <;> (try (exfalso; omega)) <;> (try exact sd)))) | ((fail_if_success (with_reducible show AWp _ _ _ _ _)); (fail_if_success (with_reducible show AOps _ _ _ _ _ _)); (first | (show AWp _ _ _ _ _) | (show AOps _ _ _ _ _ _))))
  · rw [idD, if_pos (by omega)]
  · rw [idD, if_neg (by omega)]
    have e1 := td_nat x 64 (by omega)
    have e2 := td_nat x 32 (by omega)
    simp only [Int.cast_ofNat_Int] at e1 e2
    rw [e1, e2, h2, clsD, numD, conB]
    congr 6
    rw [Bool.eq_iff_iff, beq_iff_eq, decide_eq_true_eq, show Int.tmod ((x.toNat / 32 : Nat) : Int) 2 = ((x.toNat / 32 % 2 : Nat) : Int) from rfl]
    omega
/-- A length is minimal if it is written as it was read. -/
theorem rl_min {x : UInt8} {r : List UInt8} {k : Nat} (hx : x.toNat = k + 128) (hk : 1 ≤ k) (hk4 : k ≤ 4) (hr : k ≤ r.length) (hn : beF (r.take k) ≤ 2147483647) : lenB (beF (r.take k)) = (x :: r).take (1 + k) ↔ ¬ ((r.headD 0).toNat = 0 ∨ beF (r.take k) < 128 ∨ 2147483647 < beF (r.take k)) := by
  have hf : rlF (x :: r) = if (r.headD 0).toNat = 0 ∨ beF (r.take k) < 128 ∨ 2147483647 < beF (r.take k) then .bad 4 0 else .ok (beF (r.take k), 1 + k) := by
    rw [rlF, if_neg (by omega), if_neg (by omega), show x.toNat - 128 = k by omega, if_neg (by omega), show x.toNat - 127 = 1 + k by omega]
  constructor
  · intro h hc
    rw [if_pos hc] at hf
    have e : x :: r = lenB (beF (r.take k)) ++ (x :: r).drop (1 + k) := by rw [h, List.take_append_drop]
    rw [e, rl_put _ _ hn] at hf
    cases hf
  · intro hc
    rw [if_neg hc] at hf
    obtain ⟨h1, h2, h3⟩ := rl_inv hf
    have : (x :: r).take (1 + k) = (lenB (beF (r.take k)) ++ (x :: r).drop (1 + k)).take (1 + k) := by rw [← h3]
    rw [this, List.take_append_of_le_length (by omega)]
    exact (List.take_of_length_le (by omega)).symm

theorem isRReadLength : IsFn Tryz.prog 121 Tryz.f121 := ⟨Tryz.func121, by decide, rfl⟩
set_option maxHeartbeats 4000000 in
set_option maxRecDepth 100000 in
theorem c_rreadlen (Γ : Env) (b : List UInt8) (hb : b.length ≤ 1099511627) : ACalls Tryz.prog Γ 121 [.sl none (bys b)] (fun r => r = .d (rlD (rlF b))) := by
  refine acalls_of ty_ok isRReadLength rfl rfl ?_
  match b, hb with
  | [], _ =>
    repeat' (first | ((with_reducible show AWp _ _ _ _ _); (first | refine awp_seq ?_ | refine awp_block ?_ | refine awp_skip ?_ | refine awp_exit ?_ | refine awp_scope ?_ | refine awp_label ?_ | refine awp_run ty_ok rfl sd ?_ | refine awp_ret ⟨_, _, rfl, rfl, ?_⟩ | refine awp_ret ⟨_, rfl, ?_⟩ | ((refine awp_cond (ty := ty) rfl (fun hc => ?_) (fun hc => ?_)) <;> (try simp only [nms, reduceCtorEq] at hc) <;> (try (exfalso; omega))))) | ((with_reducible show AOps _ _ _ _ _ _); (first | refine aops_nil ?_ | refine aops_go ty_ok rfl rfl sd ?_ | refine aops_gate ty_ok rfl rfl rfl sd ?_ | refine aops_litE ty_ok rfl rfl rfl rfl rfl rfl rfl rfl rfl rfl rfl rfl ?_ | refine aops_cutE ty_ok rfl rfl rfl rfl rfl rfl rfl rfl rfl sd rfl ?_ | ((fail_if_success (refine aops_known rfl ?_)); (refine aops_split ty_ok rfl rfl rfl rfl rfl rfl (fun hc => ⟨?_, ?_⟩) (fun hc => ⟨?_, ?_⟩)) <;> (try simp only [nms, reduceCtorEq] at hc) <;> (try (exfalso; omega)) <;> (try exact sd)))) | ((fail_if_success (with_reducible show AWp _ _ _ _ _)); (fail_if_success (with_reducible show AOps _ _ _ _ _ _)); (first | (show AWp _ _ _ _ _) | (show AOps _ _ _ _ _ _))))
    rfl
  | x :: r, hb =>
    have hx := u8_lt x
    have h0 : ((bys (x :: r)).getD (Int.toNat 0) default).num = (x.toNat : Int) := rfl
    have hw : IntKind.i64.wrap ((bys (x :: r)).getD (Int.toNat 0) default).num = (x.toNat : Int) := wrap_i64_nat _ (by omega)
    simp only [List.length_cons] at hb
    rw [rlF]
    by_cases h1 : x.toNat < 128
    · rw [if_pos h1]
      repeat' (first | ((with_reducible show AWp _ _ _ _ _); (first | refine awp_seq ?_ | refine awp_block ?_ | refine awp_skip ?_ | refine awp_exit ?_ | refine awp_scope ?_ | refine awp_label ?_ | refine awp_run ty_ok rfl sd ?_ | refine awp_ret ⟨_, _, rfl, rfl, ?_⟩ | refine awp_ret ⟨_, rfl, ?_⟩ | ((refine awp_cond (ty := ty) rfl (fun hc => ?_) (fun hc => ?_)) <;> (try simp only [nms, reduceCtorEq] at hc) <;> (try (exfalso; omega))))) | ((with_reducible show AOps _ _ _ _ _ _); (first | refine aops_nil ?_ | refine aops_go ty_ok rfl rfl sd ?_ | refine aops_gate ty_ok rfl rfl rfl sd ?_ | refine aops_litE ty_ok rfl rfl rfl rfl rfl rfl rfl rfl rfl rfl rfl rfl ?_ | refine aops_cutE ty_ok rfl rfl rfl rfl rfl rfl rfl rfl rfl sd rfl ?_ | ((fail_if_success (refine aops_known rfl ?_)); (refine aops_split ty_ok rfl rfl rfl rfl rfl rfl (fun hc => ⟨?_, ?_⟩) (fun hc => ⟨?_, ?_⟩)) <;> (try simp only [nms, reduceCtorEq] at hc) <;> (try (exfalso; omega)) <;> (try exact sd)))) | ((fail_if_success (with_reducible show AWp _ _ _ _ _)); (fail_if_success (with_reducible show AOps _ _ _ _ _ _)); (first | (show AWp _ _ _ _ _) | (show AOps _ _ _ _ _ _))))
      rw [hw]
      rfl
    rw [if_neg h1]
    by_cases h2 : x.toNat = 128 ∨ 132 < x.toNat
    · rw [if_pos h2]
      repeat' (first | ((with_reducible show AWp _ _ _ _ _); (first | refine awp_seq ?_ | refine awp_block ?_ | refine awp_skip ?_ | refine awp_exit ?_ | refine awp_scope ?_ | refine awp_label ?_ | refine awp_run ty_ok rfl sd ?_ | refine awp_ret ⟨_, _, rfl, rfl, ?_⟩ | refine awp_ret ⟨_, rfl, ?_⟩ | ((refine awp_cond (ty := ty) rfl (fun hc => ?_) (fun hc => ?_)) <;> (try simp only [nms, reduceCtorEq] at hc) <;> (try (exfalso; omega))))) | ((with_reducible show AOps _ _ _ _ _ _); (first | refine aops_nil ?_ | refine aops_go ty_ok rfl rfl sd ?_ | refine aops_gate ty_ok rfl rfl rfl sd ?_ | refine aops_litE ty_ok rfl rfl rfl rfl rfl rfl rfl rfl rfl rfl rfl rfl ?_ | refine aops_cutE ty_ok rfl rfl rfl rfl rfl rfl rfl rfl rfl sd rfl ?_ | ((fail_if_success (refine aops_known rfl ?_)); (refine aops_split ty_ok rfl rfl rfl rfl rfl rfl (fun hc => ⟨?_, ?_⟩) (fun hc => ⟨?_, ?_⟩)) <;> (try simp only [nms, reduceCtorEq] at hc) <;> (try (exfalso; omega)) <;> (try exact sd)))) | ((fail_if_success (with_reducible show AWp _ _ _ _ _)); (fail_if_success (with_reducible show AOps _ _ _ _ _ _)); (first | (show AWp _ _ _ _ _) | (show AOps _ _ _ _ _ _))))
      all_goals rfl
    rw [if_neg h2]
    have hlen : (bys (x :: r)).length = r.length + 1 := by simp [bys_len]
    by_cases h3 : r.length < x.toNat - 128
    · rw [if_pos h3]
      repeat' (first | ((with_reducible show AWp _ _ _ _ _); (first | refine awp_seq ?_ | refine awp_block ?_ | refine awp_skip ?_ | refine awp_exit ?_ | refine awp_scope ?_ | refine awp_label ?_ | refine awp_run ty_ok rfl sd ?_ | refine awp_ret ⟨_, _, rfl, rfl, ?_⟩ | refine awp_ret ⟨_, rfl, ?_⟩ | ((refine awp_cond (ty := ty) rfl (fun hc => ?_) (fun hc => ?_)) <;> (try simp only [nms, reduceCtorEq] at hc) <;> (try (exfalso; omega))))) | ((with_reducible show AOps _ _ _ _ _ _); (first | refine aops_nil ?_ | refine aops_go ty_ok rfl rfl sd ?_ | refine aops_gate ty_ok rfl rfl rfl sd ?_ | refine aops_litE ty_ok rfl rfl rfl rfl rfl rfl rfl rfl rfl rfl rfl rfl ?_ | refine aops_cutE ty_ok rfl rfl rfl rfl rfl rfl rfl rfl rfl sd rfl ?_ | ((fail_if_success (refine aops_known rfl ?_)); (refine aops_split ty_ok rfl rfl rfl rfl rfl rfl (fun hc => ⟨?_, ?_⟩) (fun hc => ⟨?_, ?_⟩)) <;> (try simp only [nms, reduceCtorEq] at hc) <;> (try (exfalso; omega)) <;> (try exact sd)))) | ((fail_if_success (with_reducible show AWp _ _ _ _ _)); (fail_if_success (with_reducible show AOps _ _ _ _ _ _)); (first | (show AWp _ _ _ _ _) | (show AOps _ _ _ _ _ _))))
      rw [hlen]
      rfl
    rw [if_neg h3]
    obtain ⟨K, hK⟩ : ∃ K, x.toNat = K + 128 := ⟨x.toNat - 128, by omega⟩
    have hK2 : x.toNat - 128 = K := by omega
    have hwK : IntKind.i64.wrap ((bys (x :: r)).getD (Int.toNat 0) default).num - 128 = (K : Int) := by omega
    rw [hK2] at h3 ⊢
    have hbt := beF_lt (r.take K)
    have hpw := Nat.pow_le_pow_right (n := 256) (by omega) (show (r.take K).length ≤ 4 by rw [List.length_take]; omega)
    have hc1 := c_ruint (Γ.at 0) (r.take K) (by rw [List.length_take]; omega)
    have hcut1 : cutL (bys (x :: r)) (Int.toNat 1) (Int.toNat (1 + (IntKind.i64.wrap ((bys (x :: r)).getD (Int.toNat 0) default).num - 128))) = bys (r.take K) := by
      rw [hwK, cutL_bys, show (1 + (K : Int)).toNat = K + 1 by omega]
      simp [cutB]
    rw [← hcut1] at hc1
    by_cases h5 : beF (r.take K) ≤ 2147483647
    · have hc2 := c_rlen02 (Γ.at 0) (beF (r.take K)) h5
      rw [← wrap_i64_nat (beF (r.take K)) (by omega)] at hc2
      have hlb := lenB_len5 h5
      have hwn : IntKind.i64.wrap ((beF (r.take K) : Nat) : Int) = (beF (r.take K) : Int) := wrap_i64_nat _ (by omega)
      have hmin := rl_min hK (by omega) (by omega) (by omega) h5
      have hc3 := c_rcmp (Γ.at 0) (lenB (beF (r.take K))) ((x :: r).take (1 + K)) (by omega)
      have hcut2 : cutL (bys (x :: r)) 0 (Int.toNat (1 + (IntKind.i64.wrap ((bys (x :: r)).getD (Int.toNat 0) default).num - 128))) = bys ((x :: r).take (1 + K)) := by
        rw [hwK, cutL_bys, show (1 + (K : Int)).toNat = 1 + K by omega]
        simp [cutB]
      rw [← hcut2] at hc3
      have hz := cmpB_zero (lenB (beF (r.take K))) ((x :: r).take (1 + K))
      by_cases h4 : (r.headD 0).toNat = 0 ∨ beF (r.take K) < 128 ∨ 2147483647 < beF (r.take K)
      · rw [if_pos h4]
        have hne : cmpB (lenB (beF (r.take K))) ((x :: r).take (1 + K)) ≠ 0 := fun e => (hmin.1 (hz.1 e)) h4
        repeat' (first | ((with_reducible show AWp _ _ _ _ _); (first | refine awp_seq ?_ | refine awp_block ?_ | refine awp_skip ?_ | refine awp_exit ?_ | refine awp_scope ?_ | refine awp_label ?_ | refine awp_run ty_ok rfl sd ?_ | refine awp_ret ⟨_, _, rfl, rfl, ?_⟩ | refine awp_ret ⟨_, rfl, ?_⟩ | ((refine awp_cond (ty := ty) rfl (fun hc => ?_) (fun hc => ?_)) <;> (try simp only [nms, reduceCtorEq] at hc) <;> (try (exfalso; omega))))) | ((with_reducible show AOps _ _ _ _ _ _); (first | refine aops_nil ?_ | refine aops_go ty_ok rfl rfl sd ?_ | refine aops_gate ty_ok rfl rfl rfl sd ?_ | refine aops_callE (ty := ty) rfl rfl rfl rfl rfl rfl rfl (hc1) rfl ?_ | refine aops_callE (ty := ty) rfl rfl rfl rfl rfl rfl rfl (hc2) rfl ?_ | refine aops_callE (ty := ty) rfl rfl rfl rfl rfl rfl rfl (hc3) rfl ?_ | refine aops_litE ty_ok rfl rfl rfl rfl rfl rfl rfl rfl rfl rfl rfl rfl ?_ | refine aops_cutE ty_ok rfl rfl rfl rfl rfl rfl rfl rfl rfl sd rfl ?_ | ((fail_if_success (refine aops_known rfl ?_)); (refine aops_split ty_ok rfl rfl rfl rfl rfl rfl (fun hc => ⟨?_, ?_⟩) (fun hc => ⟨?_, ?_⟩)) <;> (try simp only [nms, reduceCtorEq] at hc) <;> (try (exfalso; omega)) <;> (try exact sd)))) | ((fail_if_success (with_reducible show AWp _ _ _ _ _)); (fail_if_success (with_reducible show AOps _ _ _ _ _ _)); (first | (show AWp _ _ _ _ _) | (show AOps _ _ _ _ _ _))))
        all_goals rfl
      · rw [if_neg h4]
        have he : cmpB (lenB (beF (r.take K))) ((x :: r).take (1 + K)) = 0 := hz.2 (hmin.2 h4)
        repeat' (first | ((with_reducible show AWp _ _ _ _ _); (first | refine awp_seq ?_ | refine awp_block ?_ | refine awp_skip ?_ | refine awp_exit ?_ | refine awp_scope ?_ | refine awp_label ?_ | refine awp_run ty_ok rfl sd ?_ | refine awp_ret ⟨_, _, rfl, rfl, ?_⟩ | refine awp_ret ⟨_, rfl, ?_⟩ | ((refine awp_cond (ty := ty) rfl (fun hc => ?_) (fun hc => ?_)) <;> (try simp only [nms, reduceCtorEq] at hc) <;> (try (exfalso; omega))))) | ((with_reducible show AOps _ _ _ _ _ _); (first | refine aops_nil ?_ | refine aops_go ty_ok rfl rfl sd ?_ | refine aops_gate ty_ok rfl rfl rfl sd ?_ | refine aops_callE (ty := ty) rfl rfl rfl rfl rfl rfl rfl (hc1) rfl ?_ | refine aops_callE (ty := ty) rfl rfl rfl rfl rfl rfl rfl (hc2) rfl ?_ | refine aops_callE (ty := ty) rfl rfl rfl rfl rfl rfl rfl (hc3) rfl ?_ | refine aops_litE ty_ok rfl rfl rfl rfl rfl rfl rfl rfl rfl rfl rfl rfl ?_ | refine aops_cutE ty_ok rfl rfl rfl rfl rfl rfl rfl rfl rfl sd rfl ?_ | ((fail_if_success (refine aops_known rfl ?_)); (refine aops_split ty_ok rfl rfl rfl rfl rfl rfl (fun hc => ⟨?_, ?_⟩) (fun hc => ⟨?_, ?_⟩)) <;> (try simp only [nms, reduceCtorEq] at hc) <;> (try (exfalso; omega)) <;> (try exact sd)))) | ((fail_if_success (with_reducible show AWp _ _ _ _ _)); (fail_if_success (with_reducible show AOps _ _ _ _ _ _)); (first | (show AWp _ _ _ _ _) | (show AOps _ _ _ _ _ _))))
        rw [hwn, hwK, show x.toNat - 127 = K + 1 by omega, show (1 : Int) + (K : Int) = ((K + 1 : Nat) : Int) by omega]
        rfl
    · rw [if_pos (by omega)]
      repeat' (first | ((with_reducible show AWp _ _ _ _ _); (first | refine awp_seq ?_ | refine awp_block ?_ | refine awp_skip ?_ | refine awp_exit ?_ | refine awp_scope ?_ | refine awp_label ?_ | refine awp_run ty_ok rfl sd ?_ | refine awp_ret ⟨_, _, rfl, rfl, ?_⟩ | refine awp_ret ⟨_, rfl, ?_⟩ | ((refine awp_cond (ty := ty) rfl (fun hc => ?_) (fun hc => ?_)) <;> (try simp only [nms, reduceCtorEq] at hc) <;> (try (exfalso; omega))))) | ((with_reducible show AOps _ _ _ _ _ _); (first | refine aops_nil ?_ | refine aops_go ty_ok rfl rfl sd ?_ | refine aops_gate ty_ok rfl rfl rfl sd ?_ | refine aops_callE (ty := ty) rfl rfl rfl rfl rfl rfl rfl (hc1) rfl ?_ | refine aops_litE ty_ok rfl rfl rfl rfl rfl rfl rfl rfl rfl rfl rfl rfl ?_ | refine aops_cutE ty_ok rfl rfl rfl rfl rfl rfl rfl rfl rfl sd rfl ?_ | ((fail_if_success (refine aops_known rfl ?_)); (refine aops_split ty_ok rfl rfl rfl rfl rfl rfl (fun hc => ⟨?_, ?_⟩) (fun hc => ⟨?_, ?_⟩)) <;> (try simp only [nms, reduceCtorEq] at hc) <;> (try (exfalso; omega)) <;> (try exact sd)))) | ((fail_if_success (with_reducible show AWp _ _ _ _ _)); (fail_if_success (with_reducible show AOps _ _ _ _ _ _)); (first | (show AWp _ _ _ _ _) | (show AOps _ _ _ _ _ _))))
      rfl
end Go.Proofs.YtmciaonjkkelnaaGreatDoor
