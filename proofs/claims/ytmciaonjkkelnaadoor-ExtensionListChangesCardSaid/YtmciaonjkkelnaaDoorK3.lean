/- Part 3 of the texts of this proof: an abstract machine for walks, the walks of the functions, plain laws. Each part says in its own first lines what is proved there. -/
import Derived.Test.YtmciaonjkkelnaaDoorK2
import Derived.Lib.Join
import Derived.LaidMore
import Derived.Lib.LaidTab
import Derived.MakeChecks
import Derived.Shelf.Strconv.Itoa3
import Derived.Shelf.Strings.Builder1
import Derived.Shelf.Strings.Builder2
import Derived.Shelf.Strings.OnBuilder
import Derived.Shelf.Strings.BuilderF
import Derived.Shelf.Strings.BuilderK
import Derived.Shelf.Strings.Builder2Cap
import Derived.Shelf.Strconv.Itoa0
import Derived.Shelf.Strconv.Itoa1
import Derived.Shelf.LaysM
import Derived.Shelf.Strconv.Itoa2
import Derived.Ground.MpProg
import Derived.Shelf.Pu.ParseUintPublic10
import Derived.Shelf.Pu.ErrVarParseUint
import Derived.Shelf.Strings.Search1
import Derived.Shelf.Strings.Search2
import Derived.Shelf.Strings.Search3
import Derived.Shelf.Strings.Count
import Derived.Shelf.Strings.Shaped
import Derived.Shelf.Strings.Split
import Derived.Shelf.Strings.SplitShaped
import Derived.Shelf.Unicode.DecodeSlow
import Derived.Shelf.Strings.BuilderCap
import Derived.Test.YtmciaonjkkelnaaDoorProg
import Derived.Lib.Walk
import Derived.Lib.ItoaMem
import Derived.BigCall
import Derived.BigGuard
import Derived.BigFrame
import Derived.Lib.AppendIntMem

/- Elements, read: functions of packages tlv and element. Walked by the abstract machine. -/
namespace Go.Proofs.YtmciaonjkkelnaaDoor
open Go.Am
set_option linter.unusedSimpArgs false
set_option linter.unusedVariables false

theorem u8_bits : ∀ n : Fin 256, bits .and .u8 (n.val : Int) 31 = ((n.val % 32 : Nat) : Int) ∧ bits .and .u8 (n.val : Int) 32 = ((n.val / 32 % 2 * 32 : Nat) : Int) ∧ shft .shr .u8 (n.val : Int) 6 = ((n.val / 64 : Nat) : Int) := by decide +kernel
theorem and31 (x : UInt8) : bits .and .u8 (x.toNat : Int) 31 = ((x.toNat % 32 : Nat) : Int) := (u8_bits ⟨x.toNat, u8_lt x⟩).1
theorem and32 (x : UInt8) : bits .and .u8 (x.toNat : Int) 32 = ((x.toNat / 32 % 2 * 32 : Nat) : Int) := (u8_bits ⟨x.toNat, u8_lt x⟩).2.1
theorem shr6 (x : UInt8) : shft .shr .u8 (x.toNat : Int) 6 = ((x.toNat / 64 : Nat) : Int) := (u8_bits ⟨x.toNat, u8_lt x⟩).2.2
/-- What an identifier octet says. -/
def idD (x : UInt8) : Dat := if x.toNat % 32 = 31 then .tup [.int .i64 0, .bool false, .int .i64 0, .int .i64 3] else .tup [clsD x, .bool (conB x), numD x, .int .i64 0]
theorem isReadIdentifier : IsFn Tryd.prog 93 Tryd.f93 := ⟨Tryd.func93, by decide, rfl⟩
theorem c_readid (Γ : Env) (x : UInt8) : ACalls Tryd.prog Γ 93 [.int .u8 x.toNat] (fun r => r = .d (idD x)) := by
  refine acalls_of ty_ok isReadIdentifier rfl rfl ?_
  have h1 := u8_lt x
  repeat' (first | ((with_reducible show AWp _ _ _ _ _); (first | refine awp_seq ?_ | refine awp_block ?_ | refine awp_skip ?_ | refine awp_exit ?_ | refine awp_scope ?_ | refine awp_label ?_ | refine awp_run ty_ok rfl sd ?_ | refine awp_ret ⟨_, _, rfl, rfl, ?_⟩ | refine awp_ret ⟨_, rfl, ?_⟩ | ((refine awp_cond (ty := ty) rfl (fun hc => ?_) (fun hc => ?_)) <;> (try simp only [nms, reduceCtorEq] at hc) <;> (try (exfalso; omega))))) | ((with_reducible show AOps _ _ _ _ _ _); (first | refine aops_nil ?_ | refine aops_go ty_ok rfl rfl sd ?_ | refine aops_gate ty_ok rfl rfl rfl sd ?_ | refine aops_litE ty_ok rfl rfl rfl rfl rfl rfl rfl rfl rfl rfl rfl rfl ?_ | refine aops_cutE ty_ok rfl rfl rfl rfl rfl rfl rfl rfl rfl sd rfl ?_ | ((fail_if_success (refine aops_known rfl ?_)); (refine aops_split ty_ok rfl rfl rfl rfl rfl rfl (fun hc => ⟨?_, ?_⟩) (fun hc => ⟨?_, ?_⟩)) <;> (try simp only [nms, reduceCtorEq] at hc) <;> (try (exfalso; omega)) <;> (try exact sd)))) | ((fail_if_success (with_reducible show AWp _ _ _ _ _)); (fail_if_success (with_reducible show AOps _ _ _ _ _ _)); (first | (show AWp _ _ _ _ _) | (show AOps _ _ _ _ _ _))))
  all_goals rw [and31] at hc
  · rw [idD, if_pos (by omega)]
  · rw [idD, if_neg (by omega), and31, and32, shr6, wrap_i64_nat _ (by omega), wrap_i64_nat _ (by omega), clsD, numD, conB]
    congr 6
    rcases (show x.toNat / 32 % 2 = 0 ∨ x.toNat / 32 % 2 = 1 by omega) with h | h <;> rw [h] <;> rfl
def errD (c o : Nat) : Dat := .agg [.int .i64 c, .int .i64 o]
def rlD : Ex (Nat × Nat) → Dat
  | .bad c o => .tup [.int .i64 0, .int .i64 0, errD c o]
  | .ok (n, s) => .tup [.int .i64 n, .int .i64 s, errD 0 0]
theorem isRLFail : IsFn Tryd.prog 109 Tryd.f109 := ⟨Tryd.func109, by decide, rfl⟩
theorem c_rlfail (Γ : Env) (c o : Nat) : ACalls Tryd.prog Γ 109 [.int .i64 c, .int .i64 o] (fun r => r = .d (.tup [.int .i64 0, .int .i64 0, errD c o])) := by
  refine acalls_of ty_ok isRLFail rfl rfl ?_
  repeat' (first | ((with_reducible show AWp _ _ _ _ _); (first | refine awp_seq ?_ | refine awp_block ?_ | refine awp_skip ?_ | refine awp_exit ?_ | refine awp_scope ?_ | refine awp_label ?_ | refine awp_run ty_ok rfl sd ?_ | refine awp_ret ⟨_, _, rfl, rfl, ?_⟩ | refine awp_ret ⟨_, rfl, ?_⟩ | ((refine awp_cond (ty := ty) rfl (fun hc => ?_) (fun hc => ?_)) <;> (try simp only [nms, reduceCtorEq] at hc) <;> (try (exfalso; omega))))) | ((with_reducible show AOps _ _ _ _ _ _); (first | refine aops_nil ?_ | refine aops_go ty_ok rfl rfl sd ?_ | refine aops_gate ty_ok rfl rfl rfl sd ?_ | refine aops_litE ty_ok rfl rfl rfl rfl rfl rfl rfl rfl rfl rfl rfl rfl ?_ | refine aops_cutE ty_ok rfl rfl rfl rfl rfl rfl rfl rfl rfl sd rfl ?_ | ((fail_if_success (refine aops_known rfl ?_)); (refine aops_split ty_ok rfl rfl rfl rfl rfl rfl (fun hc => ⟨?_, ?_⟩) (fun hc => ⟨?_, ?_⟩)) <;> (try simp only [nms, reduceCtorEq] at hc) <;> (try (exfalso; omega)) <;> (try exact sd)))) | ((fail_if_success (with_reducible show AWp _ _ _ _ _)); (fail_if_success (with_reducible show AOps _ _ _ _ _ _)); (first | (show AWp _ _ _ _ _) | (show AOps _ _ _ _ _ _))))
  rfl
theorem byte_at (l : List UInt8) (i : Nat) (h : i < l.length) : ((bys l).getD (i : Int).toNat default).num = (l[i].toNat : Int) := by
  rw [num_bys, Int.toNat_natCast, List.getD_eq_getElem?_getD, List.getElem?_eq_getElem h]
  rfl
theorem beF_snoc (l : List UInt8) (x : UInt8) : beF (l ++ [x]) = beF l * 256 + x.toNat := beT_snoc 0 l x
theorem beF_lt : ∀ (l : List UInt8), beF l < 256 ^ l.length := by
  intro l
  rcases List.eq_nil_or_concat l with h | ⟨q, m, h⟩
  · subst h; decide
  · subst h
    rw [List.concat_eq_append, beF_snoc]
    have := beF_lt q
    have := u8_lt m
    simp only [List.length_append, List.length_cons, List.length_nil, Nat.pow_succ, Nat.pow_zero]
    omega
  termination_by l => l.length
  decreasing_by subst h; simp
theorem shl_or (n x : Nat) (hn : n < 16777216) (hx : x < 256) : bits .or .i64 (shft .shl .i64 (n : Int) 8) (IntKind.i64.wrap (x : Int)) = ((n * 256 + x : Nat) : Int) := by
  have e1 : shft .shl .i64 (n : Int) 8 = ((n * 256 : Nat) : Int) := by
    show IntKind.i64.wrap ((n : Int) * 2 ^ (min (8 : Int).toNat IntKind.i64.bits)) = _
    rw [show (2 : Int) ^ (min (8 : Int).toNat IntKind.i64.bits) = 256 by decide, IntKind.wrap_i64]
    omega
  rw [e1, wrap_i64_nat x (by omega)]
  rw [(bits_nat .i64 62 (by decide) (fun n h0 h1 => by rw [IntKind.wrap_i64]; omega) _ _ (by omega) (by omega)).2]
  congr 1
  have := Nat.two_pow_add_eq_or_of_lt (i := 8) (b := x) (by omega) n
  rw [show 2 ^ 8 * n = n * 256 by omega] at this
  exact this.symm
theorem isReadLength : IsFn Tryd.prog 94 Tryd.f94 := ⟨Tryd.func94, by decide, rfl⟩
set_option maxHeartbeats 4000000 in
set_option maxRecDepth 100000 in
theorem c_readlen (Γ : Env) (b : List UInt8) (hb : b.length ≤ 1099511627776) : ACalls Tryd.prog Γ 94 [.sl none (bys b)] (fun r => r = .d (rlD (rlF b))) := by
  refine acalls_of ty_ok isReadLength rfl rfl ?_
  match b, hb with
  | [], _ =>
    repeat' (first | ((with_reducible show AWp _ _ _ _ _); (first | refine awp_seq ?_ | refine awp_block ?_ | refine awp_skip ?_ | refine awp_exit ?_ | refine awp_scope ?_ | refine awp_label ?_ | refine awp_run ty_ok rfl sd ?_ | refine awp_ret ⟨_, _, rfl, rfl, ?_⟩ | refine awp_ret ⟨_, rfl, ?_⟩ | ((refine awp_cond (ty := ty) rfl (fun hc => ?_) (fun hc => ?_)) <;> (try simp only [nms, reduceCtorEq] at hc) <;> (try (exfalso; omega))))) | ((with_reducible show AOps _ _ _ _ _ _); (first | refine aops_nil ?_ | refine aops_go ty_ok rfl rfl sd ?_ | refine aops_gate ty_ok rfl rfl rfl sd ?_ | refine aops_callE (ty := ty) rfl rfl rfl rfl rfl rfl rfl (c_rlfail _ 1 0) rfl ?_ | refine aops_litE ty_ok rfl rfl rfl rfl rfl rfl rfl rfl rfl rfl rfl rfl ?_ | refine aops_cutE ty_ok rfl rfl rfl rfl rfl rfl rfl rfl rfl sd rfl ?_ | ((fail_if_success (refine aops_known rfl ?_)); (refine aops_split ty_ok rfl rfl rfl rfl rfl rfl (fun hc => ⟨?_, ?_⟩) (fun hc => ⟨?_, ?_⟩)) <;> (try simp only [nms, reduceCtorEq] at hc) <;> (try (exfalso; omega)) <;> (try exact sd)))) | ((fail_if_success (with_reducible show AWp _ _ _ _ _)); (fail_if_success (with_reducible show AOps _ _ _ _ _ _)); (first | (show AWp _ _ _ _ _) | (show AOps _ _ _ _ _ _))))
    rfl
  | x :: r, hb =>
    have hx := u8_lt x
    have h0 : ((bys (x :: r)).getD (Int.toNat 0) default).num = (x.toNat : Int) := rfl
    have hw : IntKind.i64.wrap ((bys (x :: r)).getD (Int.toNat 0) default).num = (x.toNat : Int) := wrap_i64_nat _ (by omega)
    simp only [List.length_cons] at hb
    rw [rlF]
    by_cases h1 : x.toNat < 128
    · rw [if_pos h1]
      repeat' (first | ((with_reducible show AWp _ _ _ _ _); (first | refine awp_seq ?_ | refine awp_block ?_ | refine awp_skip ?_ | refine awp_exit ?_ | refine awp_scope ?_ | refine awp_label ?_ | refine awp_run ty_ok rfl sd ?_ | refine awp_ret ⟨_, _, rfl, rfl, ?_⟩ | refine awp_ret ⟨_, rfl, ?_⟩ | ((refine awp_cond (ty := ty) rfl (fun hc => ?_) (fun hc => ?_)) <;> (try simp only [nms, reduceCtorEq] at hc) <;> (try (exfalso; omega))))) | ((with_reducible show AOps _ _ _ _ _ _); (first | refine aops_nil ?_ | refine aops_go ty_ok rfl rfl sd ?_ | refine aops_gate ty_ok rfl rfl rfl sd ?_ | refine aops_litE ty_ok rfl rfl rfl rfl rfl rfl rfl rfl rfl rfl rfl rfl ?_ | refine aops_cutE ty_ok rfl rfl rfl rfl rfl rfl rfl rfl rfl sd rfl ?_ | ((fail_if_success (refine aops_known rfl ?_)); (refine aops_split ty_ok rfl rfl rfl rfl rfl rfl (fun hc => ⟨?_, ?_⟩) (fun hc => ⟨?_, ?_⟩)) <;> (try simp only [nms, reduceCtorEq] at hc) <;> (try (exfalso; omega)) <;> (try exact sd)))) | ((fail_if_success (with_reducible show AWp _ _ _ _ _)); (fail_if_success (with_reducible show AOps _ _ _ _ _ _)); (first | (show AWp _ _ _ _ _) | (show AOps _ _ _ _ _ _))))
      rw [hw]
      rfl
    rw [if_neg h1]
    by_cases h2 : x.toNat = 128 ∨ 132 < x.toNat
    · rw [if_pos h2]
      repeat' (first | ((with_reducible show AWp _ _ _ _ _); (first | refine awp_seq ?_ | refine awp_block ?_ | refine awp_skip ?_ | refine awp_exit ?_ | refine awp_scope ?_ | refine awp_label ?_ | refine awp_run ty_ok rfl sd ?_ | refine awp_ret ⟨_, _, rfl, rfl, ?_⟩ | refine awp_ret ⟨_, rfl, ?_⟩ | ((refine awp_cond (ty := ty) rfl (fun hc => ?_) (fun hc => ?_)) <;> (try simp only [nms, reduceCtorEq] at hc) <;> (try (exfalso; omega))))) | ((with_reducible show AOps _ _ _ _ _ _); (first | refine aops_nil ?_ | refine aops_go ty_ok rfl rfl sd ?_ | refine aops_gate ty_ok rfl rfl rfl sd ?_ | refine aops_callE (ty := ty) rfl rfl rfl rfl rfl rfl rfl (c_rlfail _ 4 0) rfl ?_ | refine aops_litE ty_ok rfl rfl rfl rfl rfl rfl rfl rfl rfl rfl rfl rfl ?_ | refine aops_cutE ty_ok rfl rfl rfl rfl rfl rfl rfl rfl rfl sd rfl ?_ | ((fail_if_success (refine aops_known rfl ?_)); (refine aops_split ty_ok rfl rfl rfl rfl rfl rfl (fun hc => ⟨?_, ?_⟩) (fun hc => ⟨?_, ?_⟩)) <;> (try simp only [nms, reduceCtorEq] at hc) <;> (try (exfalso; omega)) <;> (try exact sd)))) | ((fail_if_success (with_reducible show AWp _ _ _ _ _)); (fail_if_success (with_reducible show AOps _ _ _ _ _ _)); (first | (show AWp _ _ _ _ _) | (show AOps _ _ _ _ _ _))))
      all_goals rfl
    rw [if_neg h2]
    have hlen : (bys (x :: r)).length = r.length + 1 := by simp [bys_len]
    by_cases h3 : r.length < x.toNat - 128
    · rw [if_pos h3]
      have hf := c_rlfail (Γ.at 0) 1 (r.length + 1)
      rw [← hlen] at hf
      repeat' (first | ((with_reducible show AWp _ _ _ _ _); (first | refine awp_seq ?_ | refine awp_block ?_ | refine awp_skip ?_ | refine awp_exit ?_ | refine awp_scope ?_ | refine awp_label ?_ | refine awp_run ty_ok rfl sd ?_ | refine awp_ret ⟨_, _, rfl, rfl, ?_⟩ | refine awp_ret ⟨_, rfl, ?_⟩ | ((refine awp_cond (ty := ty) rfl (fun hc => ?_) (fun hc => ?_)) <;> (try simp only [nms, reduceCtorEq] at hc) <;> (try (exfalso; omega))))) | ((with_reducible show AOps _ _ _ _ _ _); (first | refine aops_nil ?_ | refine aops_go ty_ok rfl rfl sd ?_ | refine aops_gate ty_ok rfl rfl rfl sd ?_ | refine aops_callE (ty := ty) rfl rfl rfl rfl rfl rfl rfl (hf) rfl ?_ | refine aops_litE ty_ok rfl rfl rfl rfl rfl rfl rfl rfl rfl rfl rfl rfl ?_ | refine aops_cutE ty_ok rfl rfl rfl rfl rfl rfl rfl rfl rfl sd rfl ?_ | ((fail_if_success (refine aops_known rfl ?_)); (refine aops_split ty_ok rfl rfl rfl rfl rfl rfl (fun hc => ⟨?_, ?_⟩) (fun hc => ⟨?_, ?_⟩)) <;> (try simp only [nms, reduceCtorEq] at hc) <;> (try (exfalso; omega)) <;> (try exact sd)))) | ((fail_if_success (with_reducible show AWp _ _ _ _ _)); (fail_if_success (with_reducible show AOps _ _ _ _ _ _)); (first | (show AWp _ _ _ _ _) | (show AOps _ _ _ _ _ _))))
      rw [hlen]
      rfl
    rw [if_neg h3]
    obtain ⟨K, hK⟩ : ∃ K, x.toNat = K + 128 := ⟨x.toNat - 128, by omega⟩
    have hK2 : x.toNat - 128 = K := by omega
    have hwK : IntKind.i64.wrap ((bys (x :: r)).getD (Int.toNat 0) default).num - 128 = (K : Int) := by omega
    rw [hK2] at h3 ⊢
    repeat' (first | ((with_reducible show AWp _ _ _ _ _); (first | refine awp_seq ?_ | refine awp_block ?_ | refine awp_skip ?_ | refine awp_exit ?_ | refine awp_scope ?_ | refine awp_label ?_ | refine awp_run ty_ok rfl sd ?_ | refine awp_ret ⟨_, _, rfl, rfl, ?_⟩ | refine awp_ret ⟨_, rfl, ?_⟩ | ((refine awp_cond (ty := ty) rfl (fun hc => ?_) (fun hc => ?_)) <;> (try simp only [nms, reduceCtorEq] at hc) <;> (try (exfalso; omega))))) | ((with_reducible show AOps _ _ _ _ _ _); (first | refine aops_nil ?_ | refine aops_go ty_ok rfl rfl sd ?_ | refine aops_gate ty_ok rfl rfl rfl sd ?_ | refine aops_litE ty_ok rfl rfl rfl rfl rfl rfl rfl rfl rfl rfl rfl rfl ?_ | refine aops_cutE ty_ok rfl rfl rfl rfl rfl rfl rfl rfl rfl sd rfl ?_ | ((fail_if_success (refine aops_known rfl ?_)); (refine aops_split ty_ok rfl rfl rfl rfl rfl rfl (fun hc => ⟨?_, ?_⟩) (fun hc => ⟨?_, ?_⟩)) <;> (try simp only [nms, reduceCtorEq] at hc) <;> (try (exfalso; omega)) <;> (try exact sd)))) | ((fail_if_success (with_reducible show AWp _ _ _ _ _)); (fail_if_success (with_reducible show AOps _ _ _ _ _ _)); (first | (show AWp _ _ _ _ _) | (show AOps _ _ _ _ _ _))))
    refine awp_loopR (G := { i : Nat // i ≤ K }) (fun i => ⟨Tryd.f94.ntmps, [(0, .d (.sl none (bys (x :: r)))), (4, .ptr 0 0), (5, .fn 109 []), (6, .d (.int .i64 K)), (7, .d (.int .i64 (beF (r.take i.1)))), (8, .d (.int .i64 (i.1 + 1)))], [(0, .box 42 [.d (.int .i64 0), .d (.int .i64 0)])], 1⟩) (fun i => K - i.1) ⟨0, Nat.zero_le _⟩ [(0, 0)]
      (SubR.mk' rfl rfl ⟨⟨_, rfl, rfl⟩, ⟨_, rfl, rfl⟩, ⟨_, rfl, rfl⟩, ⟨_, rfl, congrArg (fun z : Int => AV.d (Dat.int IntKind.i64 z)) hwK⟩, ⟨_, rfl, rfl⟩, ⟨_, rfl, rfl⟩, trivial⟩ ⟨⟨_, _, rfl, rfl, rfl⟩, trivial⟩) ?_
    rintro ⟨i, hi⟩
    dsimp only
    rcases Nat.lt_or_ge i K with hik | hik
    · have hir : i < r.length := by omega
      have ht : r.take (i + 1) = r.take i ++ [r[i]] := List.take_succ_eq_append_getElem hir
      have hbt := beF_lt (r.take i)
      have hlt : (r.take i).length ≤ 3 := by rw [List.length_take]; omega
      have hpw := Nat.pow_le_pow_right (n := 256) (by omega) hlt
      have hel : ((bys (x :: r)).getD ((i : Int) + 1).toNat default).num = (r[i].toNat : Int) := by
        rw [num_bys, show ((i : Int) + 1).toNat = i + 1 by omega, List.getD_cons_succ, List.getD_eq_getElem?_getD, List.getElem?_eq_getElem hir]
        rfl
      repeat' (first | ((with_reducible show AWp _ _ _ _ _); (first | refine awp_seq ?_ | refine awp_block ?_ | refine awp_skip ?_ | refine awp_exit ?_ | refine awp_scope ?_ | refine awp_label ?_ | refine awp_run ty_ok rfl sd ?_ | refine awp_ret ⟨_, _, rfl, rfl, ?_⟩ | refine awp_ret ⟨_, rfl, ?_⟩ | ((refine awp_cond (ty := ty) rfl (fun hc => ?_) (fun hc => ?_)) <;> (try simp only [nms, reduceCtorEq] at hc) <;> (try (exfalso; omega))))) | ((with_reducible show AOps _ _ _ _ _ _); (first | refine aops_nil ?_ | refine aops_go ty_ok rfl rfl sd ?_ | refine aops_gate ty_ok rfl rfl rfl sd ?_ | refine aops_litE ty_ok rfl rfl rfl rfl rfl rfl rfl rfl rfl rfl rfl rfl ?_ | refine aops_cutE ty_ok rfl rfl rfl rfl rfl rfl rfl rfl rfl sd rfl ?_ | ((fail_if_success (refine aops_known rfl ?_)); (refine aops_split ty_ok rfl rfl rfl rfl rfl rfl (fun hc => ⟨?_, ?_⟩) (fun hc => ⟨?_, ?_⟩)) <;> (try simp only [nms, reduceCtorEq] at hc) <;> (try (exfalso; omega)) <;> (try exact sd)))) | ((fail_if_success (with_reducible show AWp _ _ _ _ _)); (fail_if_success (with_reducible show AOps _ _ _ _ _ _)); (first | (show AWp _ _ _ _ _) | (show AOps _ _ _ _ _ _))))
      refine ⟨⟨i + 1, hik⟩, [(0, 0)], SubR.mk' rfl rfl ⟨⟨_, rfl, rfl⟩, ⟨_, rfl, rfl⟩, ⟨_, rfl, rfl⟩, ⟨_, rfl, rfl⟩, ⟨_, rfl, congrArg (fun z : Int => AV.d (Dat.int IntKind.i64 z)) ?_⟩, ⟨_, rfl, rfl⟩, trivial⟩ ⟨⟨_, _, rfl, rfl, rfl⟩, trivial⟩, by simp only; omega⟩
      rw [hel, shl_or _ _ (by omega) (u8_lt _), ht, beF_snoc]
    · have hie : i = K := by omega
      subst hie
      have hbt := beF_lt (r.take i)
      have hpw := Nat.pow_le_pow_right (n := 256) (by omega) (show (r.take i).length ≤ 4 by rw [List.length_take]; omega)
      have h1' : ((bys (x :: r)).getD (Int.toNat 1) default).num = ((r.headD 0).toNat : Int) := by
        cases r with
        | nil => simp at h3; omega
        | cons y r => rfl
      by_cases h4 : (r.headD 0).toNat = 0 ∨ beF (r.take i) < 128 ∨ 2147483647 < beF (r.take i)
      · rw [if_pos h4]
        repeat' (first | ((with_reducible show AWp _ _ _ _ _); (first | refine awp_seq ?_ | refine awp_block ?_ | refine awp_skip ?_ | refine awp_exit ?_ | refine awp_scope ?_ | refine awp_label ?_ | refine awp_run ty_ok rfl sd ?_ | refine awp_ret ⟨_, _, rfl, rfl, ?_⟩ | refine awp_ret ⟨_, rfl, ?_⟩ | ((refine awp_cond (ty := ty) rfl (fun hc => ?_) (fun hc => ?_)) <;> (try simp only [nms, reduceCtorEq] at hc) <;> (try (exfalso; omega))))) | ((with_reducible show AOps _ _ _ _ _ _); (first | refine aops_nil ?_ | refine aops_go ty_ok rfl rfl sd ?_ | refine aops_gate ty_ok rfl rfl rfl sd ?_ | refine aops_callE (ty := ty) rfl rfl rfl rfl rfl rfl rfl (c_rlfail _ 4 0) rfl ?_ | refine aops_litE ty_ok rfl rfl rfl rfl rfl rfl rfl rfl rfl rfl rfl rfl ?_ | refine aops_cutE ty_ok rfl rfl rfl rfl rfl rfl rfl rfl rfl sd rfl ?_ | ((fail_if_success (refine aops_known rfl ?_)); (refine aops_split ty_ok rfl rfl rfl rfl rfl rfl (fun hc => ⟨?_, ?_⟩) (fun hc => ⟨?_, ?_⟩)) <;> (try simp only [nms, reduceCtorEq] at hc) <;> (try (exfalso; omega)) <;> (try exact sd)))) | ((fail_if_success (with_reducible show AWp _ _ _ _ _)); (fail_if_success (with_reducible show AOps _ _ _ _ _ _)); (first | (show AWp _ _ _ _ _) | (show AOps _ _ _ _ _ _))))
        all_goals rfl
      · rw [if_neg h4]
        repeat' (first | ((with_reducible show AWp _ _ _ _ _); (first | refine awp_seq ?_ | refine awp_block ?_ | refine awp_skip ?_ | refine awp_exit ?_ | refine awp_scope ?_ | refine awp_label ?_ | refine awp_run ty_ok rfl sd ?_ | refine awp_ret ⟨_, _, rfl, rfl, ?_⟩ | refine awp_ret ⟨_, rfl, ?_⟩ | ((refine awp_cond (ty := ty) rfl (fun hc => ?_) (fun hc => ?_)) <;> (try simp only [nms, reduceCtorEq] at hc) <;> (try (exfalso; omega))))) | ((with_reducible show AOps _ _ _ _ _ _); (first | refine aops_nil ?_ | refine aops_go ty_ok rfl rfl sd ?_ | refine aops_gate ty_ok rfl rfl rfl sd ?_ | refine aops_callE (ty := ty) rfl rfl rfl rfl rfl rfl rfl (c_rlfail _ 4 0) rfl ?_ | refine aops_litE ty_ok rfl rfl rfl rfl rfl rfl rfl rfl rfl rfl rfl rfl ?_ | refine aops_cutE ty_ok rfl rfl rfl rfl rfl rfl rfl rfl rfl sd rfl ?_ | ((fail_if_success (refine aops_known rfl ?_)); (refine aops_split ty_ok rfl rfl rfl rfl rfl rfl (fun hc => ⟨?_, ?_⟩) (fun hc => ⟨?_, ?_⟩)) <;> (try simp only [nms, reduceCtorEq] at hc) <;> (try (exfalso; omega)) <;> (try exact sd)))) | ((fail_if_success (with_reducible show AWp _ _ _ _ _)); (fail_if_success (with_reducible show AOps _ _ _ _ _ _)); (first | (show AWp _ _ _ _ _) | (show AOps _ _ _ _ _ _))))
        rw [show x.toNat - 127 = i + 1 by omega, show (1 : Int) + (i : Int) = ((i + 1 : Nat) : Int) by omega]
        rfl
/-! ### Headers -/
def hdrD (x : UInt8) (n s : Nat) : Dat := .agg [clsD x, numD x, .bool (conB x), .int .i64 n, .int .i64 s]
def hdr0 : Dat := .agg [.int .i64 0, .int .i64 0, .bool false, .int .i64 0, .int .i64 0]
def hdD : Ex (UInt8 × Nat × Nat) → Dat
  | .bad c o => .tup [hdr0, errD c o]
  | .ok (x, n, s) => .tup [hdrD x n s, errD 0 0]
theorem c_readid_bad (Γ : Env) (x : UInt8) (h : x.toNat % 32 = 31) : ACalls Tryd.prog Γ 93 [.int .u8 x.toNat] (fun r => r = .d (.tup [.int .i64 0, .bool false, .int .i64 0, .int .i64 3])) := (c_readid Γ x).mono fun r hr => by
  rw [hr, idD, if_pos h]
theorem c_readid_ok (Γ : Env) (x : UInt8) (h : ¬ x.toNat % 32 = 31) : ACalls Tryd.prog Γ 93 [.int .u8 x.toNat] (fun r => r = .d (.tup [clsD x, .bool (conB x), numD x, .int .i64 0])) := (c_readid Γ x).mono fun r hr => by
  rw [hr, idD, if_neg h]
theorem c_readlen_at (Γ : Env) (b : List UInt8) (hb : b.length ≤ 1099511627776) {v : Ex (Nat × Nat)} (h : rlF b = v) : ACalls Tryd.prog Γ 94 [.sl none (bys b)] (fun r => r = .d (rlD v)) := by
  subst h
  exact c_readlen Γ b hb
theorem cutB_eq (l : List UInt8) (i j : Nat) : cutB l i j = cut l i j := rfl
theorem isReadHeader : IsFn Tryd.prog 76 Tryd.f76 := ⟨Tryd.func76, by decide, rfl⟩
set_option maxHeartbeats 4000000 in
set_option maxRecDepth 100000 in
theorem c_readhd (Γ : Env) (b : List UInt8) (hb : b.length ≤ 1099511627776) : ACalls Tryd.prog Γ 76 [.sl none (bys b)] (fun r => r = .d (hdD (hdF b))) := by
  refine acalls_of ty_ok isReadHeader rfl rfl ?_
  match b, hb with
  | [], _ =>
    repeat' (first | ((with_reducible show AWp _ _ _ _ _); (first | refine awp_seq ?_ | refine awp_block ?_ | refine awp_skip ?_ | refine awp_exit ?_ | refine awp_scope ?_ | refine awp_label ?_ | refine awp_run ty_ok rfl sd ?_ | refine awp_ret ⟨_, _, rfl, rfl, ?_⟩ | refine awp_ret ⟨_, rfl, ?_⟩ | ((refine awp_cond (ty := ty) rfl (fun hc => ?_) (fun hc => ?_)) <;> (try simp only [nms, reduceCtorEq] at hc) <;> (try (exfalso; omega))))) | ((with_reducible show AOps _ _ _ _ _ _); (first | refine aops_nil ?_ | refine aops_go ty_ok rfl rfl sd ?_ | refine aops_gate ty_ok rfl rfl rfl sd ?_ | refine aops_litE ty_ok rfl rfl rfl rfl rfl rfl rfl rfl rfl rfl rfl rfl ?_ | refine aops_cutE ty_ok rfl rfl rfl rfl rfl rfl rfl rfl rfl sd rfl ?_ | ((fail_if_success (refine aops_known rfl ?_)); (refine aops_split ty_ok rfl rfl rfl rfl rfl rfl (fun hc => ⟨?_, ?_⟩) (fun hc => ⟨?_, ?_⟩)) <;> (try simp only [nms, reduceCtorEq] at hc) <;> (try (exfalso; omega)) <;> (try exact sd)))) | ((fail_if_success (with_reducible show AWp _ _ _ _ _)); (fail_if_success (with_reducible show AOps _ _ _ _ _ _)); (first | (show AWp _ _ _ _ _) | (show AOps _ _ _ _ _ _))))
    rfl
  | x :: r, hb =>
    have h0 : ((bys (x :: r)).getD (Int.toNat 0) default).num = (x.toNat : Int) := rfl
    simp only [List.length_cons] at hb
    rw [hdF]
    by_cases h1 : x.toNat % 32 = 31
    · rw [if_pos h1]
      have hc1 := c_readid_bad (Γ.at 0) x h1
      rw [← h0] at hc1
      repeat' (first | ((with_reducible show AWp _ _ _ _ _); (first | refine awp_seq ?_ | refine awp_block ?_ | refine awp_skip ?_ | refine awp_exit ?_ | refine awp_scope ?_ | refine awp_label ?_ | refine awp_run ty_ok rfl sd ?_ | refine awp_ret ⟨_, _, rfl, rfl, ?_⟩ | refine awp_ret ⟨_, rfl, ?_⟩ | ((refine awp_cond (ty := ty) rfl (fun hc => ?_) (fun hc => ?_)) <;> (try simp only [nms, reduceCtorEq] at hc) <;> (try (exfalso; omega))))) | ((with_reducible show AOps _ _ _ _ _ _); (first | refine aops_nil ?_ | refine aops_go ty_ok rfl rfl sd ?_ | refine aops_gate ty_ok rfl rfl rfl sd ?_ | refine aops_callE (ty := ty) rfl rfl rfl rfl rfl rfl rfl (hc1) rfl ?_ | refine aops_litE ty_ok rfl rfl rfl rfl rfl rfl rfl rfl rfl rfl rfl rfl ?_ | refine aops_cutE ty_ok rfl rfl rfl rfl rfl rfl rfl rfl rfl sd rfl ?_ | ((fail_if_success (refine aops_known rfl ?_)); (refine aops_split ty_ok rfl rfl rfl rfl rfl rfl (fun hc => ⟨?_, ?_⟩) (fun hc => ⟨?_, ?_⟩)) <;> (try simp only [nms, reduceCtorEq] at hc) <;> (try (exfalso; omega)) <;> (try exact sd)))) | ((fail_if_success (with_reducible show AWp _ _ _ _ _)); (fail_if_success (with_reducible show AOps _ _ _ _ _ _)); (first | (show AWp _ _ _ _ _) | (show AOps _ _ _ _ _ _))))
      rfl
    rw [if_neg h1]
    have hc1 := c_readid_ok (Γ.at 0) x h1
    rw [← h0] at hc1
    have hcut : cutL (bys (x :: r)) (Int.toNat 1) (bys (x :: r)).length = bys r := by rw [cutL_bys, bys_len]; simp [cutB]
    have hrb : ∀ c o, rlF r = .bad c o → (c = 1 ∨ c = 4) ∧ o ≤ r.length := fun c o h => rl_bad h
    have hrk : ∀ n s, rlF r = .ok (n, s) → s ≤ 9 := fun n s h => by have := (rl_inv h).2.1; have := lenB_len n; omega
    cases hr : rlF r with
    | bad c o =>
      have hc2 := c_readlen_at (Γ.at 0) r (by omega) hr
      rw [← hcut] at hc2
      have := hrb c o hr
      repeat' (first | ((with_reducible show AWp _ _ _ _ _); (first | refine awp_seq ?_ | refine awp_block ?_ | refine awp_skip ?_ | refine awp_exit ?_ | refine awp_scope ?_ | refine awp_label ?_ | refine awp_run ty_ok rfl sd ?_ | refine awp_ret ⟨_, _, rfl, rfl, ?_⟩ | refine awp_ret ⟨_, rfl, ?_⟩ | ((refine awp_cond (ty := ty) rfl (fun hc => ?_) (fun hc => ?_)) <;> (try simp only [nms, reduceCtorEq] at hc) <;> (try (exfalso; omega))) | refine awp_anyS 3 2 ty_ok mixed rfl rfl rfl rfl rfl rfl rfl rfl rfl (by kernel_rfl) ?_)) | ((with_reducible show AOps _ _ _ _ _ _); (first | refine aops_nil ?_ | refine aops_go ty_ok rfl rfl sd ?_ | refine aops_gate ty_ok rfl rfl rfl sd ?_ | refine aops_callE (ty := ty) rfl rfl rfl rfl rfl rfl rfl (hc1) rfl ?_ | refine aops_callE (ty := ty) rfl rfl rfl rfl rfl rfl rfl (hc2) rfl ?_ | refine aops_litE ty_ok rfl rfl rfl rfl rfl rfl rfl rfl rfl rfl rfl rfl ?_ | refine aops_cutE ty_ok rfl rfl rfl rfl rfl rfl rfl rfl rfl sd rfl ?_ | ((fail_if_success (refine aops_known rfl ?_)); (refine aops_split ty_ok rfl rfl rfl rfl rfl rfl (fun hc => ⟨?_, ?_⟩) (fun hc => ⟨?_, ?_⟩)) <;> (try simp only [nms, reduceCtorEq] at hc) <;> (try (exfalso; omega)) <;> (try exact sd)))) | ((with_reducible show HeadT _ _ _ _ _ _ _ _ _ _); (first | refine head_end ?_ | refine head_goP ty_ok rfl rfl sd ?_ | refine head_gate ty_ok rfl rfl rfl sd ?_ | refine head_callE (ty := ty) rfl rfl rfl rfl rfl rfl rfl (hc1) rfl ?_ | refine head_callE (ty := ty) rfl rfl rfl rfl rfl rfl rfl (hc2) rfl ?_ | ((fail_if_success (refine head_known rfl ?_)); (refine head_split ty_ok rfl rfl rfl rfl (fun hc => ⟨?_, ?_⟩) (fun hc => ⟨?_, ?_⟩)) <;> (try simp only [nms, reduceCtorEq] at hc) <;> (try (exfalso; omega)) <;> (try exact sd)))) | ((fail_if_success (with_reducible show AWp _ _ _ _ _)); (fail_if_success (with_reducible show AOps _ _ _ _ _ _)); (fail_if_success (with_reducible show HeadT _ _ _ _ _ _ _ _ _ _)); (first | (show AWp _ _ _ _ _) | (show AOps _ _ _ _ _ _) | refine st_go rfl rfl rfl rfl rfl rfl rfl ?_)))
      rfl
    | ok p =>
      obtain ⟨n, s⟩ := p
      have hc2 := c_readlen_at (Γ.at 0) r (by omega) hr
      rw [← hcut] at hc2
      have := hrk n s hr
      repeat' (first | ((with_reducible show AWp _ _ _ _ _); (first | refine awp_seq ?_ | refine awp_block ?_ | refine awp_skip ?_ | refine awp_exit ?_ | refine awp_scope ?_ | refine awp_label ?_ | refine awp_run ty_ok rfl sd ?_ | refine awp_ret ⟨_, _, rfl, rfl, ?_⟩ | refine awp_ret ⟨_, rfl, ?_⟩ | ((refine awp_cond (ty := ty) rfl (fun hc => ?_) (fun hc => ?_)) <;> (try simp only [nms, reduceCtorEq] at hc) <;> (try (exfalso; omega))) | refine awp_anyS 3 2 ty_ok mixed rfl rfl rfl rfl rfl rfl rfl rfl rfl (by kernel_rfl) ?_)) | ((with_reducible show AOps _ _ _ _ _ _); (first | refine aops_nil ?_ | refine aops_go ty_ok rfl rfl sd ?_ | refine aops_gate ty_ok rfl rfl rfl sd ?_ | refine aops_callE (ty := ty) rfl rfl rfl rfl rfl rfl rfl (hc1) rfl ?_ | refine aops_callE (ty := ty) rfl rfl rfl rfl rfl rfl rfl (hc2) rfl ?_ | refine aops_litE ty_ok rfl rfl rfl rfl rfl rfl rfl rfl rfl rfl rfl rfl ?_ | refine aops_cutE ty_ok rfl rfl rfl rfl rfl rfl rfl rfl rfl sd rfl ?_ | ((fail_if_success (refine aops_known rfl ?_)); (refine aops_split ty_ok rfl rfl rfl rfl rfl rfl (fun hc => ⟨?_, ?_⟩) (fun hc => ⟨?_, ?_⟩)) <;> (try simp only [nms, reduceCtorEq] at hc) <;> (try (exfalso; omega)) <;> (try exact sd)))) | ((with_reducible show HeadT _ _ _ _ _ _ _ _ _ _); (first | refine head_end ?_ | refine head_goP ty_ok rfl rfl sd ?_ | refine head_gate ty_ok rfl rfl rfl sd ?_ | refine head_callE (ty := ty) rfl rfl rfl rfl rfl rfl rfl (hc1) rfl ?_ | refine head_callE (ty := ty) rfl rfl rfl rfl rfl rfl rfl (hc2) rfl ?_ | ((fail_if_success (refine head_known rfl ?_)); (refine head_split ty_ok rfl rfl rfl rfl (fun hc => ⟨?_, ?_⟩) (fun hc => ⟨?_, ?_⟩)) <;> (try simp only [nms, reduceCtorEq] at hc) <;> (try (exfalso; omega)) <;> (try exact sd)))) | ((fail_if_success (with_reducible show AWp _ _ _ _ _)); (fail_if_success (with_reducible show AOps _ _ _ _ _ _)); (fail_if_success (with_reducible show HeadT _ _ _ _ _ _ _ _ _ _)); (first | (show AWp _ _ _ _ _) | (show AOps _ _ _ _ _ _) | refine st_go rfl rfl rfl rfl rfl rfl rfl ?_)))
      rfl

/-! ### Elements -/
def elD (e : El) : Dat := .agg [clsD e.x, numD e.x, .bool (conB e.x), .int .i64 e.st, .int .i64 e.bd, .int .i64 e.en]
def el0 : Dat := .agg [.int .i64 0, .int .i64 0, .bool false, .int .i64 0, .int .i64 0, .int .i64 0]
def exD : Ex El → Dat
  | .bad c o => .tup [el0, errD c o]
  | .ok e => .tup [elD e, errD 0 0]
theorem isNext : IsFn Tryd.prog 68 Tryd.f68 := ⟨Tryd.func68, by decide, rfl⟩
set_option maxHeartbeats 4000000 in
set_option maxRecDepth 100000 in
theorem c_next (Γ : Env) (b : List UInt8) (i j : Nat) (hb : b.length ≤ 1099511627776) (hij : i ≤ j) (hj : j ≤ b.length) : ACalls Tryd.prog Γ 68 [.sl none (bys b), .int .i64 i, .int .i64 j] (fun r => r = .d (exD (nxF b i j))) := by
  refine acalls_of ty_ok isNext rfl rfl ?_
  have hl := cut_len b i j hj
  have hc1 := c_readhd (Γ.at 0) (cut b i j) (by omega)
  have hcut : cutL (bys b) (i : Int).toNat (j : Int).toNat = bys (cut b i j) := by rw [cutL_bys, Int.toNat_natCast, Int.toNat_natCast]; rfl
  rw [← hcut] at hc1
  rw [nxF]
  cases hd : hdF (cut b i j) with
  | bad c o =>
    rw [hd] at hc1
    have := hd_bad hd
    repeat' (first | ((with_reducible show AWp _ _ _ _ _); (first | refine awp_seq ?_ | refine awp_block ?_ | refine awp_skip ?_ | refine awp_exit ?_ | refine awp_scope ?_ | refine awp_label ?_ | refine awp_run ty_ok rfl sd ?_ | refine awp_ret ⟨_, _, rfl, rfl, ?_⟩ | refine awp_ret ⟨_, rfl, ?_⟩ | ((refine awp_cond (ty := ty) rfl (fun hc => ?_) (fun hc => ?_)) <;> (try simp only [nms, reduceCtorEq] at hc) <;> (try (exfalso; omega))) | refine awp_anyS 3 2 ty_ok mixed rfl rfl rfl rfl rfl rfl rfl rfl rfl (by kernel_rfl) ?_)) | ((with_reducible show AOps _ _ _ _ _ _); (first | refine aops_nil ?_ | refine aops_go ty_ok rfl rfl sd ?_ | refine aops_gate ty_ok rfl rfl rfl sd ?_ | refine aops_callE (ty := ty) rfl rfl rfl rfl rfl rfl rfl (hc1) rfl ?_ | refine aops_litE ty_ok rfl rfl rfl rfl rfl rfl rfl rfl rfl rfl rfl rfl ?_ | refine aops_cutE ty_ok rfl rfl rfl rfl rfl rfl rfl rfl rfl sd rfl ?_ | ((fail_if_success (refine aops_known rfl ?_)); (refine aops_split ty_ok rfl rfl rfl rfl rfl rfl (fun hc => ⟨?_, ?_⟩) (fun hc => ⟨?_, ?_⟩)) <;> (try simp only [nms, reduceCtorEq] at hc) <;> (try (exfalso; omega)) <;> (try exact sd)))) | ((with_reducible show HeadT _ _ _ _ _ _ _ _ _ _); (first | refine head_end ?_ | refine head_goP ty_ok rfl rfl sd ?_ | refine head_gate ty_ok rfl rfl rfl sd ?_ | refine head_callE (ty := ty) rfl rfl rfl rfl rfl rfl rfl (hc1) rfl ?_ | ((fail_if_success (refine head_known rfl ?_)); (refine head_split ty_ok rfl rfl rfl rfl (fun hc => ⟨?_, ?_⟩) (fun hc => ⟨?_, ?_⟩)) <;> (try simp only [nms, reduceCtorEq] at hc) <;> (try (exfalso; omega)) <;> (try exact sd)))) | ((fail_if_success (with_reducible show AWp _ _ _ _ _)); (fail_if_success (with_reducible show AOps _ _ _ _ _ _)); (fail_if_success (with_reducible show HeadT _ _ _ _ _ _ _ _ _ _)); (first | (show AWp _ _ _ _ _) | (show AOps _ _ _ _ _ _) | refine st_go rfl rfl rfl rfl rfl rfl rfl ?_)))
    rfl
  | ok p =>
    obtain ⟨x, n, s⟩ := p
    rw [hd] at hc1
    obtain ⟨_, g1, g2, g3⟩ := hd_inv hd
    have g4 := lenB_len5 g1
    have g5 := congrArg List.length g3
    simp only [List.length_cons, List.length_append, List.length_drop] at g5
    by_cases h : j - i - s < n
    · simp only
      rw [if_pos h]
      repeat' (first | ((with_reducible show AWp _ _ _ _ _); (first | refine awp_seq ?_ | refine awp_block ?_ | refine awp_skip ?_ | refine awp_exit ?_ | refine awp_scope ?_ | refine awp_label ?_ | refine awp_run ty_ok rfl sd ?_ | refine awp_ret ⟨_, _, rfl, rfl, ?_⟩ | refine awp_ret ⟨_, rfl, ?_⟩ | ((refine awp_cond (ty := ty) rfl (fun hc => ?_) (fun hc => ?_)) <;> (try simp only [nms, reduceCtorEq] at hc) <;> (try (exfalso; omega))) | refine awp_anyS 3 2 ty_ok mixed rfl rfl rfl rfl rfl rfl rfl rfl rfl (by kernel_rfl) ?_)) | ((with_reducible show AOps _ _ _ _ _ _); (first | refine aops_nil ?_ | refine aops_go ty_ok rfl rfl sd ?_ | refine aops_gate ty_ok rfl rfl rfl sd ?_ | refine aops_callE (ty := ty) rfl rfl rfl rfl rfl rfl rfl (hc1) rfl ?_ | refine aops_litE ty_ok rfl rfl rfl rfl rfl rfl rfl rfl rfl rfl rfl rfl ?_ | refine aops_cutE ty_ok rfl rfl rfl rfl rfl rfl rfl rfl rfl sd rfl ?_ | ((fail_if_success (refine aops_known rfl ?_)); (refine aops_split ty_ok rfl rfl rfl rfl rfl rfl (fun hc => ⟨?_, ?_⟩) (fun hc => ⟨?_, ?_⟩)) <;> (try simp only [nms, reduceCtorEq] at hc) <;> (try (exfalso; omega)) <;> (try exact sd)))) | ((with_reducible show HeadT _ _ _ _ _ _ _ _ _ _); (first | refine head_end ?_ | refine head_goP ty_ok rfl rfl sd ?_ | refine head_gate ty_ok rfl rfl rfl sd ?_ | refine head_callE (ty := ty) rfl rfl rfl rfl rfl rfl rfl (hc1) rfl ?_ | ((fail_if_success (refine head_known rfl ?_)); (refine head_split ty_ok rfl rfl rfl rfl (fun hc => ⟨?_, ?_⟩) (fun hc => ⟨?_, ?_⟩)) <;> (try simp only [nms, reduceCtorEq] at hc) <;> (try (exfalso; omega)) <;> (try exact sd)))) | ((fail_if_success (with_reducible show AWp _ _ _ _ _)); (fail_if_success (with_reducible show AOps _ _ _ _ _ _)); (fail_if_success (with_reducible show HeadT _ _ _ _ _ _ _ _ _ _)); (first | (show AWp _ _ _ _ _) | (show AOps _ _ _ _ _ _) | refine st_go rfl rfl rfl rfl rfl rfl rfl ?_)))
      rfl
    · simp only
      rw [if_neg h]
      repeat' (first | ((with_reducible show AWp _ _ _ _ _); (first | refine awp_seq ?_ | refine awp_block ?_ | refine awp_skip ?_ | refine awp_exit ?_ | refine awp_scope ?_ | refine awp_label ?_ | refine awp_run ty_ok rfl sd ?_ | refine awp_ret ⟨_, _, rfl, rfl, ?_⟩ | refine awp_ret ⟨_, rfl, ?_⟩ | ((refine awp_cond (ty := ty) rfl (fun hc => ?_) (fun hc => ?_)) <;> (try simp only [nms, reduceCtorEq] at hc) <;> (try (exfalso; omega))) | refine awp_anyS 3 2 ty_ok mixed rfl rfl rfl rfl rfl rfl rfl rfl rfl (by kernel_rfl) ?_)) | ((with_reducible show AOps _ _ _ _ _ _); (first | refine aops_nil ?_ | refine aops_go ty_ok rfl rfl sd ?_ | refine aops_gate ty_ok rfl rfl rfl sd ?_ | refine aops_callE (ty := ty) rfl rfl rfl rfl rfl rfl rfl (hc1) rfl ?_ | refine aops_litE ty_ok rfl rfl rfl rfl rfl rfl rfl rfl rfl rfl rfl rfl ?_ | refine aops_cutE ty_ok rfl rfl rfl rfl rfl rfl rfl rfl rfl sd rfl ?_ | ((fail_if_success (refine aops_known rfl ?_)); (refine aops_split ty_ok rfl rfl rfl rfl rfl rfl (fun hc => ⟨?_, ?_⟩) (fun hc => ⟨?_, ?_⟩)) <;> (try simp only [nms, reduceCtorEq] at hc) <;> (try (exfalso; omega)) <;> (try exact sd)))) | ((with_reducible show HeadT _ _ _ _ _ _ _ _ _ _); (first | refine head_end ?_ | refine head_goP ty_ok rfl rfl sd ?_ | refine head_gate ty_ok rfl rfl rfl sd ?_ | refine head_callE (ty := ty) rfl rfl rfl rfl rfl rfl rfl (hc1) rfl ?_ | ((fail_if_success (refine head_known rfl ?_)); (refine head_split ty_ok rfl rfl rfl rfl (fun hc => ⟨?_, ?_⟩) (fun hc => ⟨?_, ?_⟩)) <;> (try simp only [nms, reduceCtorEq] at hc) <;> (try (exfalso; omega)) <;> (try exact sd)))) | ((fail_if_success (with_reducible show AWp _ _ _ _ _)); (fail_if_success (with_reducible show AOps _ _ _ _ _ _)); (fail_if_success (with_reducible show HeadT _ _ _ _ _ _ _ _ _ _)); (first | (show AWp _ _ _ _ _) | (show AOps _ _ _ _ _ _) | refine st_go rfl rfl rfl rfl rfl rfl rfl ?_)))
      rfl
theorem c_next_at (Γ : Env) (b : List UInt8) (i j : Nat) (hb : b.length ≤ 1099511627776) (hij : i ≤ j) (hj : j ≤ b.length) {v : Ex El} (h : nxF b i j = v) : ACalls Tryd.prog Γ 68 [.sl none (bys b), .int .i64 i, .int .i64 j] (fun r => r = .d (exD v)) := by
  subst h
  exact c_next Γ b i j hb hij hj
theorem isOne : IsFn Tryd.prog 55 Tryd.f55 := ⟨Tryd.func55, by decide, rfl⟩
set_option maxHeartbeats 4000000 in
set_option maxRecDepth 100000 in
theorem c_one (Γ : Env) (b : List UInt8) (hb : b.length ≤ 1099511627776) : ACalls Tryd.prog Γ 55 [.sl none (bys b)] (fun r => r = .d (exD (onF b))) := by
  refine acalls_of ty_ok isOne rfl rfl ?_
  rw [onF]
  cases hn : nxF b 0 b.length with
  | bad c o =>
    have hc1 := c_next_at (Γ.at 0) b 0 b.length hb (Nat.zero_le _) (Nat.le_refl _) hn
    rw [← bys_len b] at hc1
    have := nx_bad (Nat.zero_le _) (Nat.le_refl _) hn
    repeat' (first | ((with_reducible show AWp _ _ _ _ _); (first | refine awp_seq ?_ | refine awp_block ?_ | refine awp_skip ?_ | refine awp_exit ?_ | refine awp_scope ?_ | refine awp_label ?_ | refine awp_run ty_ok rfl sd ?_ | refine awp_ret ⟨_, _, rfl, rfl, ?_⟩ | refine awp_ret ⟨_, rfl, ?_⟩ | ((refine awp_cond (ty := ty) rfl (fun hc => ?_) (fun hc => ?_)) <;> (try simp only [nms, reduceCtorEq] at hc) <;> (try (exfalso; omega))) | refine awp_anyS 3 2 ty_ok mixed rfl rfl rfl rfl rfl rfl rfl rfl rfl (by kernel_rfl) ?_ | refine awp_anyS 5 4 ty_ok mixed rfl rfl rfl rfl rfl rfl rfl rfl rfl (by kernel_rfl) ?_)) | ((with_reducible show AOps _ _ _ _ _ _); (first | refine aops_nil ?_ | refine aops_go ty_ok rfl rfl sd ?_ | refine aops_gate ty_ok rfl rfl rfl sd ?_ | refine aops_callE (ty := ty) rfl rfl rfl rfl rfl rfl rfl (hc1) rfl ?_ | refine aops_litE ty_ok rfl rfl rfl rfl rfl rfl rfl rfl rfl rfl rfl rfl ?_ | refine aops_cutE ty_ok rfl rfl rfl rfl rfl rfl rfl rfl rfl sd rfl ?_ | ((fail_if_success (refine aops_known rfl ?_)); (refine aops_split ty_ok rfl rfl rfl rfl rfl rfl (fun hc => ⟨?_, ?_⟩) (fun hc => ⟨?_, ?_⟩)) <;> (try simp only [nms, reduceCtorEq] at hc) <;> (try (exfalso; omega)) <;> (try exact sd)))) | ((with_reducible show HeadT _ _ _ _ _ _ _ _ _ _); (first | refine head_end ?_ | refine head_goP ty_ok rfl rfl sd ?_ | refine head_gate ty_ok rfl rfl rfl sd ?_ | refine head_callE (ty := ty) rfl rfl rfl rfl rfl rfl rfl (hc1) rfl ?_ | ((fail_if_success (refine head_known rfl ?_)); (refine head_split ty_ok rfl rfl rfl rfl (fun hc => ⟨?_, ?_⟩) (fun hc => ⟨?_, ?_⟩)) <;> (try simp only [nms, reduceCtorEq] at hc) <;> (try (exfalso; omega)) <;> (try exact sd)))) | ((fail_if_success (with_reducible show AWp _ _ _ _ _)); (fail_if_success (with_reducible show AOps _ _ _ _ _ _)); (fail_if_success (with_reducible show HeadT _ _ _ _ _ _ _ _ _ _)); (first | (show AWp _ _ _ _ _) | (show AOps _ _ _ _ _ _) | refine st_go rfl rfl rfl rfl rfl rfl rfl ?_)))
    rfl
  | ok e =>
    have hc1 := c_next_at (Γ.at 0) b 0 b.length hb (Nat.zero_le _) (Nat.le_refl _) hn
    rw [← bys_len b] at hc1
    simp only
    by_cases h : e.en < b.length
    · rw [if_pos h]
      repeat' (first | ((with_reducible show AWp _ _ _ _ _); (first | refine awp_seq ?_ | refine awp_block ?_ | refine awp_skip ?_ | refine awp_exit ?_ | refine awp_scope ?_ | refine awp_label ?_ | refine awp_run ty_ok rfl sd ?_ | refine awp_ret ⟨_, _, rfl, rfl, ?_⟩ | refine awp_ret ⟨_, rfl, ?_⟩ | ((refine awp_cond (ty := ty) rfl (fun hc => ?_) (fun hc => ?_)) <;> (try simp only [nms, reduceCtorEq] at hc) <;> (try (exfalso; omega))) | refine awp_anyS 3 2 ty_ok mixed rfl rfl rfl rfl rfl rfl rfl rfl rfl (by kernel_rfl) ?_ | refine awp_anyS 5 4 ty_ok mixed rfl rfl rfl rfl rfl rfl rfl rfl rfl (by kernel_rfl) ?_)) | ((with_reducible show AOps _ _ _ _ _ _); (first | refine aops_nil ?_ | refine aops_go ty_ok rfl rfl sd ?_ | refine aops_gate ty_ok rfl rfl rfl sd ?_ | refine aops_callE (ty := ty) rfl rfl rfl rfl rfl rfl rfl (hc1) rfl ?_ | refine aops_litE ty_ok rfl rfl rfl rfl rfl rfl rfl rfl rfl rfl rfl rfl ?_ | refine aops_cutE ty_ok rfl rfl rfl rfl rfl rfl rfl rfl rfl sd rfl ?_ | ((fail_if_success (refine aops_known rfl ?_)); (refine aops_split ty_ok rfl rfl rfl rfl rfl rfl (fun hc => ⟨?_, ?_⟩) (fun hc => ⟨?_, ?_⟩)) <;> (try simp only [nms, reduceCtorEq] at hc) <;> (try (exfalso; omega)) <;> (try exact sd)))) | ((with_reducible show HeadT _ _ _ _ _ _ _ _ _ _); (first | refine head_end ?_ | refine head_goP ty_ok rfl rfl sd ?_ | refine head_gate ty_ok rfl rfl rfl sd ?_ | refine head_callE (ty := ty) rfl rfl rfl rfl rfl rfl rfl (hc1) rfl ?_ | ((fail_if_success (refine head_known rfl ?_)); (refine head_split ty_ok rfl rfl rfl rfl (fun hc => ⟨?_, ?_⟩) (fun hc => ⟨?_, ?_⟩)) <;> (try simp only [nms, reduceCtorEq] at hc) <;> (try (exfalso; omega)) <;> (try exact sd)))) | ((fail_if_success (with_reducible show AWp _ _ _ _ _)); (fail_if_success (with_reducible show AOps _ _ _ _ _ _)); (fail_if_success (with_reducible show HeadT _ _ _ _ _ _ _ _ _ _)); (first | (show AWp _ _ _ _ _) | (show AOps _ _ _ _ _ _) | refine st_go rfl rfl rfl rfl rfl rfl rfl ?_)))
      rfl
    · rw [if_neg h]
      repeat' (first | ((with_reducible show AWp _ _ _ _ _); (first | refine awp_seq ?_ | refine awp_block ?_ | refine awp_skip ?_ | refine awp_exit ?_ | refine awp_scope ?_ | refine awp_label ?_ | refine awp_run ty_ok rfl sd ?_ | refine awp_ret ⟨_, _, rfl, rfl, ?_⟩ | refine awp_ret ⟨_, rfl, ?_⟩ | ((refine awp_cond (ty := ty) rfl (fun hc => ?_) (fun hc => ?_)) <;> (try simp only [nms, reduceCtorEq] at hc) <;> (try (exfalso; omega))) | refine awp_anyS 3 2 ty_ok mixed rfl rfl rfl rfl rfl rfl rfl rfl rfl (by kernel_rfl) ?_ | refine awp_anyS 5 4 ty_ok mixed rfl rfl rfl rfl rfl rfl rfl rfl rfl (by kernel_rfl) ?_)) | ((with_reducible show AOps _ _ _ _ _ _); (first | refine aops_nil ?_ | refine aops_go ty_ok rfl rfl sd ?_ | refine aops_gate ty_ok rfl rfl rfl sd ?_ | refine aops_callE (ty := ty) rfl rfl rfl rfl rfl rfl rfl (hc1) rfl ?_ | refine aops_litE ty_ok rfl rfl rfl rfl rfl rfl rfl rfl rfl rfl rfl rfl ?_ | refine aops_cutE ty_ok rfl rfl rfl rfl rfl rfl rfl rfl rfl sd rfl ?_ | ((fail_if_success (refine aops_known rfl ?_)); (refine aops_split ty_ok rfl rfl rfl rfl rfl rfl (fun hc => ⟨?_, ?_⟩) (fun hc => ⟨?_, ?_⟩)) <;> (try simp only [nms, reduceCtorEq] at hc) <;> (try (exfalso; omega)) <;> (try exact sd)))) | ((with_reducible show HeadT _ _ _ _ _ _ _ _ _ _); (first | refine head_end ?_ | refine head_goP ty_ok rfl rfl sd ?_ | refine head_gate ty_ok rfl rfl rfl sd ?_ | refine head_callE (ty := ty) rfl rfl rfl rfl rfl rfl rfl (hc1) rfl ?_ | ((fail_if_success (refine head_known rfl ?_)); (refine head_split ty_ok rfl rfl rfl rfl (fun hc => ⟨?_, ?_⟩) (fun hc => ⟨?_, ?_⟩)) <;> (try simp only [nms, reduceCtorEq] at hc) <;> (try (exfalso; omega)) <;> (try exact sd)))) | ((fail_if_success (with_reducible show AWp _ _ _ _ _)); (fail_if_success (with_reducible show AOps _ _ _ _ _ _)); (fail_if_success (with_reducible show HeadT _ _ _ _ _ _ _ _ _ _)); (first | (show AWp _ _ _ _ _) | (show AOps _ _ _ _ _ _) | refine st_go rfl rfl rfl rfl rfl rfl rfl ?_)))
      rfl
theorem c_one_at (Γ : Env) (b : List UInt8) (hb : b.length ≤ 1099511627776) {v : Ex El} (h : onF b = v) : ACalls Tryd.prog Γ 55 [.sl none (bys b)] (fun r => r = .d (exD v)) := by
  subst h
  exact c_one Γ b hb
theorem isB_iff {x : UInt8} {cls num : Nat} {con : Bool} : isB x cls con num = true ↔ x.toNat / 64 = cls ∧ conB x = con ∧ x.toNat % 32 = num := by
  unfold isB conB
  rw [decide_eq_true_eq]
  cases con with
  | true => simp
  | false =>
    simp only [decide_eq_false_iff_not, Bool.false_eq_true, if_false]
    constructor
    · rintro ⟨h1, h2, h3⟩; exact ⟨h1, by omega, h3⟩
    · rintro ⟨h1, h2, h3⟩; exact ⟨h1, by omega, h3⟩
theorem isIs : IsFn Tryd.prog 42 Tryd.f42 := ⟨Tryd.func42, by decide, rfl⟩
set_option maxHeartbeats 4000000 in
theorem c_is (Γ : Env) (e : El) (cls num : Nat) (con : Bool) : ACalls Tryd.prog Γ 42 [elD e, .int .i64 cls, .bool con, .int .i64 num] (fun r => r = .d (.bool (isB e.x cls con num))) := by
  refine acalls_of ty_ok isIs rfl rfl ?_
  repeat' (first | ((with_reducible show AWp _ _ _ _ _); (first | refine awp_seq ?_ | refine awp_block ?_ | refine awp_skip ?_ | refine awp_exit ?_ | refine awp_scope ?_ | refine awp_label ?_ | refine awp_run ty_ok rfl sd ?_ | refine awp_ret ⟨_, _, rfl, rfl, ?_⟩ | refine awp_ret ⟨_, rfl, ?_⟩ | ((refine awp_cond (ty := ty) rfl (fun hc => ?_) (fun hc => ?_)) <;> (try simp only [nms, reduceCtorEq] at hc) <;> (try (exfalso; omega))))) | ((with_reducible show AOps _ _ _ _ _ _); (first | refine aops_nil ?_ | refine aops_go ty_ok rfl rfl sd ?_ | refine aops_gate ty_ok rfl rfl rfl sd ?_ | refine aops_litE ty_ok rfl rfl rfl rfl rfl rfl rfl rfl rfl rfl rfl rfl ?_ | refine aops_cutE ty_ok rfl rfl rfl rfl rfl rfl rfl rfl rfl sd rfl ?_ | ((fail_if_success (refine aops_known rfl ?_)); (refine aops_split ty_ok rfl rfl rfl rfl rfl rfl (fun hc => ⟨?_, ?_⟩) (fun hc => ⟨?_, ?_⟩)) <;> (try simp only [nms, reduceCtorEq] at hc) <;> (try (exfalso; omega)) <;> (try exact sd)))) | ((fail_if_success (with_reducible show AWp _ _ _ _ _)); (fail_if_success (with_reducible show AOps _ _ _ _ _ _)); (first | (show AWp _ _ _ _ _) | (show AOps _ _ _ _ _ _))))
  all_goals refine congrArg (fun b => Res.d (Dat.bool b)) ?_
  · rw [Bool.eq_iff_iff, isB_iff, beq_iff_eq]
    exact ⟨fun h => ⟨by omega, hc, by omega⟩, fun ⟨_, _, h⟩ => by omega⟩
  · symm
    rw [Bool.eq_false_iff, ne_eq, isB_iff]
    exact fun ⟨_, h, _⟩ => hc h
  · symm
    rw [Bool.eq_false_iff, ne_eq, isB_iff]
    exact fun ⟨h, _, _⟩ => hc (by omega)
theorem c_is_at (Γ : Env) (e : El) (cls num : Nat) (con : Bool) {v : Bool} (h : isB e.x cls con num = v) : ACalls Tryd.prog Γ 42 [elD e, .int .i64 cls, .bool con, .int .i64 num] (fun r => r = .d (.bool v)) := by
  subst h
  exact c_is Γ e cls num con
end Go.Proofs.YtmciaonjkkelnaaDoor

/- Functions of package cretulabase that the laws ask; named bits of a key usage. Walked by the abstract machine. -/
namespace Go.Proofs.YtmciaonjkkelnaaDoor
open Go.Am
set_option linter.unusedSimpArgs false
set_option linter.unusedVariables false

theorem c_bytes_eq (Γ : Env) (x y : List UInt8) (h : x = y) : ACalls Tryd.prog Γ 26 [.sl none (bys x), .sl none (bys y)] (fun r => r = .d (.bool true)) := by
  have := c_bytes Γ x y
  rwa [decide_eq_true h] at this
theorem c_bytes_at (Γ : Env) (x y : List UInt8) {v : Bool} (h : decide (x = y) = v) : ACalls Tryd.prog Γ 26 [.sl none (bys x), .sl none (bys y)] (fun r => r = .d (.bool v)) := by
  subst h
  exact c_bytes Γ x y
def witF (c o n : Int) : Bool := decide ((c = 0 ∧ o = 0) ∨ (c > 0 ∧ 0 ≤ o ∧ o ≤ n))
theorem isWithin : IsFn Tryd.prog 25 Tryd.f25 := ⟨Tryd.func25, by decide, rfl⟩
theorem c_within (Γ : Env) (c o n : Int) : ACalls Tryd.prog Γ 25 [.agg [.int .i64 c, .int .i64 o], .int .i64 n] (fun r => r = .d (.bool (witF c o n))) := by
  refine acalls_of ty_ok isWithin rfl rfl ?_
  repeat' (first | ((with_reducible show AWp _ _ _ _ _); (first | refine awp_seq ?_ | refine awp_block ?_ | refine awp_skip ?_ | refine awp_exit ?_ | refine awp_scope ?_ | refine awp_label ?_ | refine awp_run ty_ok rfl sd ?_ | refine awp_ret ⟨_, _, rfl, rfl, ?_⟩ | refine awp_ret ⟨_, rfl, ?_⟩ | ((refine awp_cond (ty := ty) rfl (fun hc => ?_) (fun hc => ?_)) <;> (try simp only [nms, reduceCtorEq] at hc) <;> (try (exfalso; omega))))) | ((with_reducible show AOps _ _ _ _ _ _); (first | refine aops_nil ?_ | refine aops_go ty_ok rfl rfl sd ?_ | refine aops_gate ty_ok rfl rfl rfl sd ?_ | refine aops_litE ty_ok rfl rfl rfl rfl rfl rfl rfl rfl rfl rfl rfl rfl ?_ | refine aops_cutE ty_ok rfl rfl rfl rfl rfl rfl rfl rfl rfl sd rfl ?_ | ((fail_if_success (refine aops_known rfl ?_)); (refine aops_split ty_ok rfl rfl rfl rfl rfl rfl (fun hc => ⟨?_, ?_⟩) (fun hc => ⟨?_, ?_⟩)) <;> (try simp only [nms, reduceCtorEq] at hc) <;> (try (exfalso; omega)) <;> (try exact sd)))) | ((fail_if_success (with_reducible show AWp _ _ _ _ _)); (fail_if_success (with_reducible show AOps _ _ _ _ _ _)); (first | (show AWp _ _ _ _ _) | (show AOps _ _ _ _ _ _))))
  all_goals refine congrArg (fun b => Res.d (Dat.bool b)) ?_
  all_goals unfold witF
  all_goals first | (symm; rw [decide_eq_false_iff_not]; omega) | skip
  · rw [Bool.eq_iff_iff, beq_iff_eq, decide_eq_true_eq]
    omega
  · rw [Bool.eq_iff_iff, decide_eq_true_eq, decide_eq_true_eq]
    omega
theorem str_at {l : List (List UInt8)} {k : Nat} (h : k < l.length) : ((strs l).getD (k : Int).toNat default).txt = bA l[k] := by
  rw [txt_strs, Int.toNat_natCast, List.getD_eq_getElem?_getD, List.getElem?_eq_getElem h]
  rfl
end Go.Proofs.YtmciaonjkkelnaaDoor

/- Functions of package bitstring, walked by the abstract machine. -/
namespace Go.Proofs.YtmciaonjkkelnaaDoor
open Go.Am
set_option linter.unusedSimpArgs false
set_option linter.unusedVariables false

def bitsD (x : List UInt8) (u : Int) : Dat := .agg [.sl none (bys x), .int .i64 u]
end Go.Proofs.YtmciaonjkkelnaaDoor

/- Encode and Decode of bit strings, walked by the abstract machine. -/
namespace Go.Proofs.YtmciaonjkkelnaaDoor
open Go.Am
set_option linter.unusedSimpArgs false
set_option linter.unusedVariables false

def encR (x : List UInt8) (u : Int) (r : Res) : Prop := (valF x u = true → r = .ownT none 5 (bys (UInt8.ofNat u.toNat :: x)) [.int .i64 0]) ∧ (valF x u = false → r = .d (.tup [.sl none [], .int .i64 8]))
def decD (c : List UInt8) : Dat := .tup [bitsD (decF c).1 (decF c).2.1, .int .i64 (decF c).2.2]
end Go.Proofs.YtmciaonjkkelnaaDoor

/- Len and At of bit strings, walked by the abstract machine. -/
namespace Go.Proofs.YtmciaonjkkelnaaDoor
open Go.Am
set_option linter.unusedSimpArgs false
set_option linter.unusedVariables false

end Go.Proofs.YtmciaonjkkelnaaDoor

/- At of the reference, members of sets, walked by the abstract machine. -/
namespace Go.Proofs.YtmciaonjkkelnaaDoor
open Go.Am
set_option linter.unusedSimpArgs false
set_option linter.unusedVariables false

end Go.Proofs.YtmciaonjkkelnaaDoor

/- At of the reference, Ints, walked by the abstract machine. -/
namespace Go.Proofs.YtmciaonjkkelnaaDoor
open Go.Am
set_option linter.unusedSimpArgs false
set_option linter.unusedVariables false

end Go.Proofs.YtmciaonjkkelnaaDoor

/- EncodeNamed, walked by the abstract machine. -/
namespace Go.Proofs.YtmciaonjkkelnaaDoor
open Go.Am
set_option linter.unusedSimpArgs false
set_option linter.unusedVariables false

def badF (n k : Int) : Bool := decide (k < 1 ∨ k > 32 ∨ n < 0 ∨ ¬ n.toNat < 2 ^ k.toNat)
def encNR (n k : Int) (r : Res) : Prop := (badF n k = true → r = .d (.tup [.sl none [], .int .i64 9])) ∧ (badF n k = false → memF n.toNat = [] → r = .ownT none 5 (bys [0]) [.int .i64 0]) ∧
  (badF n k = false → ∀ q m, memF n.toNat = q ++ [m] → r = .ownT none 5 (bys (outP (q ++ [m]) m)) [.int .i64 0])

end Go.Proofs.YtmciaonjkkelnaaDoor

/- EncodeNamed of the reference, walked by the abstract machine. -/
namespace Go.Proofs.YtmciaonjkkelnaaDoor
open Go.Am
set_option linter.unusedSimpArgs false
set_option linter.unusedVariables false

end Go.Proofs.YtmciaonjkkelnaaDoor

/- DecodeNamed, walked by the abstract machine. -/
namespace Go.Proofs.YtmciaonjkkelnaaDoor
open Go.Am
set_option linter.unusedSimpArgs false
set_option linter.unusedVariables false

def bitF (x : List UInt8) (u : Int) (i : Nat) : Bool := atF x u i
/-- The set of contents octets, and the code. -/
def dnF (c : List UInt8) (k : Int) : Int × Int := match decide (k < 1 ∨ k > 32) with
  | true => (0, 9)
  | false => match decide ((decF c).2.2 ≠ 0 ∨ lenF (decF c).1 (decF c).2.1 > k ∨ (lenF (decF c).1 (decF c).2.1 > 0 ∧ atF (decF c).1 (decF c).2.1 (lenF (decF c).1 (decF c).2.1 - 1) = false)) with
    | true => (0, 6)
    | false => ((setTo (bitF (decF c).1 (decF c).2.1) (lenF (decF c).1 (decF c).2.1).toNat : Int), 0)
end Go.Proofs.YtmciaonjkkelnaaDoor

/- DecodeNamed of the reference, walked by the abstract machine. -/
namespace Go.Proofs.YtmciaonjkkelnaaDoor
open Go.Am
set_option linter.unusedSimpArgs false
set_option linter.unusedVariables false

/-- The contents octets of a set. -/
def namF (S : Nat) : List UInt8 := match (memF S).getLast? with
  | none => [0]
  | some m => outP (memF S) m
def encRes (n k : Int) : Res := match badF n k with
  | true => .d (.tup [.sl none [], .int .i64 9])
  | false => .ownT none 5 (bys (namF n.toNat)) [.int .i64 0]
theorem encRes_of {n k : Int} {r : Res} (h : encNR n k r) : r = encRes n k := by
  unfold encRes
  cases hb : badF n k with
  | true => exact h.1 hb
  | false =>
    rcases List.eq_nil_or_concat (memF n.toNat) with he | ⟨q, m, he⟩
    · rw [h.2.1 hb he]
      simp [namF, he]
    · rw [List.concat_eq_append] at he
      rw [h.2.2 hb q m he]
      simp [namF, he]
def rdnF (c : List UInt8) (k : Int) : Int × Int := match decide (k < 1 ∨ k > 32) with
  | true => (0, 9)
  | false => match decide (namF (setTo (bitF (decF c).1 (decF c).2.1) k.toNat) = c) with
    | true => ((setTo (bitF (decF c).1 (decF c).2.1) k.toNat : Int), 0)
    | false => (0, 6)
end Go.Proofs.YtmciaonjkkelnaaDoor

/- Sets of named bits: contents octets and sets are one to one. Plain Lean over the functions of the walks. -/
namespace Go.Proofs.YtmciaonjkkelnaaDoor
open Go.Am
set_option linter.unusedSimpArgs false
set_option linter.unusedVariables false

theorem decF_cases (c : List UInt8) : decF c = ([], 0, 6) ∨ ∃ b x, c = b :: x ∧ valF x b.toNat = true ∧ decF c = (x, (b.toNat : Int), 0) := by
  cases c with
  | nil => exact .inl rfl
  | cons b x =>
    cases hv : valF x b.toNat with
    | false => exact .inl (by simp only [decF, hv])
    | true => exact .inr ⟨b, x, rfl, hv, by simp only [decF, hv]⟩
theorem rev_ind {P : List Nat → Prop} (h0 : P []) (hs : ∀ q m, P q → P (q ++ [m])) (l : List Nat) : P l := by
  have : ∀ n (l : List Nat), l.length = n → P l := by
    intro n
    induction n with
    | zero => intro l hl; rw [List.length_eq_zero_iff.1 hl]; exact h0
    | succ n ih =>
      intro l hl
      rcases List.eq_nil_or_concat l with rfl | ⟨q, m, rfl⟩
      · simp at hl
      · rw [List.concat_eq_append] at hl ⊢
        exact hs q m (ih q (by simpa using hl))
  exact this _ l rfl
theorem byteP_bit (ms : List Nat) : Inc ms → ∀ j k, k < 8 → (byteP ms j).testBit (7 - k) = decide (8 * j + k ∈ ms) := by
  induction ms using rev_ind with
  | h0 => intro _ j k _; simp [byteP_nil]
  | hs q m ih =>
    intro h j k hk
    obtain ⟨h1, h2⟩ := inc_snoc h
    rw [byteP_snoc]
    by_cases hj : m / 8 = j
    · subst hj
      rw [if_pos rfl, ← byteP_or q m h2, Nat.testBit_or, ih h1 _ k hk, Nat.testBit_two_pow]
      by_cases h3 : 8 * (m / 8) + k = m
      · have h4 : 7 - m % 8 = 7 - k := by omega
        simp [h3, h4]
      · have h4 : ¬ 7 - m % 8 = 7 - k := by omega
        simp [h3, h4]
    · have h3 : ¬ 8 * j + k = m := by omega
      rw [if_neg hj, Nat.add_zero, ih h1 j k hk]
      simp [h3]

/-- What is known of the contents octets of a set. -/
theorem nam_facts (S : Nat) (hS : S < 9223372036854775808) : ∃ x u L, decF (namF S) = (x, (u : Int), 0) ∧ lenF x (u : Int) = ((L : Nat) : Int) ∧ (∀ i : Nat, i < L → atF x (u : Int) (i : Int) = S.testBit i) ∧ S < 2 ^ L ∧ (0 < L → S.testBit (L - 1) = true) ∧ (∀ K, S < 2 ^ K → L ≤ K) ∧ x.length ≤ 10 ∧ (u : Int) ≤ 7 ∧ (0 : Int) ≤ u := by
  rcases List.eq_nil_or_concat (memF S) with he | ⟨q, m, he⟩
  · have h0 := memF_nil hS he
    subst h0
    refine ⟨[], 0, 0, by decide, by decide, by omega, by simp, by omega, by omega, by simp, by omega, by omega⟩
  · rw [List.concat_eq_append] at he
    have hn : namF S = outP (q ++ [m]) m := by simp [namF, he]
    have hinc : Inc (q ++ [m]) := by rw [← he]; exact memF_inc S
    have hv := outP_valid q m hinc
    have hcons : outP (q ++ [m]) m = UInt8.ofNat (7 - m % 8) :: (outP (q ++ [m]) m).tail := rfl
    have hu : ((UInt8.ofNat (7 - m % 8)).toNat : Int) = ((7 - m % 8 : Nat) : Int) := by
      simp [UInt8.toNat_ofNat']
      omega
    have hm : S.testBit m = true := by
      have : m ∈ memF S := by rw [he]; simp
      exact (List.mem_filter.1 this).2
    have hm64 : m < 64 := by
      have : m ∈ memF S := by rw [he]; simp
      exact List.mem_range.1 (List.mem_filter.1 this).1
    have htl : ((outP (q ++ [m]) m).tail).length = m / 8 + 1 := by simp [outP]
    have hlen : lenF (outP (q ++ [m]) m).tail ((7 - m % 8 : Nat) : Int) = ((m + 1 : Nat) : Int) := by
      rw [lenF, hv]
      simp only [htl]
      omega
    refine ⟨(outP (q ++ [m]) m).tail, ((7 - m % 8 : Nat) : Int), m + 1, ?_, hlen, ?_, (memF_last hS he).2, fun _ => by simpa using hm, fun K hK => ?_, by rw [htl]; omega, by omega, by omega⟩
    · rw [hn, hcons]
      simp only [decF, hu, hv, List.tail_cons]
    · intro i hi
      have h1 : ((i : Int) / 8).toNat = i / 8 := by omega
      have h2 : (7 - (i : Int) % 8).toNat = 7 - i % 8 := by omega
      have h3 : ((outP (q ++ [m]) m).tail).getD (i / 8) 0 = UInt8.ofNat (byteP (q ++ [m]) (i / 8)) := by
        have : i / 8 < m / 8 + 1 := by omega
        simp [outP, List.getElem?_map, List.getElem?_range, this]
      have h4 := byteP_lt _ hinc (i / 8)
      have h5 : (UInt8.ofNat (byteP (q ++ [m]) (i / 8))).toNat = byteP (q ++ [m]) (i / 8) := by
        simp [UInt8.toNat_ofNat']
        omega
      rw [atF, hlen, h1, h2, h3, h5, byteP_bit _ hinc _ _ (by omega), show 8 * (i / 8) + i % 8 = i by omega, ← he]
      have h6 : (0 : Int) ≤ i := by omega
      have h7 : (i : Int) < ((m + 1 : Nat) : Int) := by omega
      simp only [h6, h7, decide_true, Bool.true_and]
      rw [Bool.eq_iff_iff, decide_eq_true_eq]
      constructor
      · intro h; exact (List.mem_filter.1 h).2
      · intro h; exact mem_memF hS h
    · have h1 := (memF_last hS he).1
      rcases Nat.lt_or_ge m K with h2 | h2
      · omega
      · have := Nat.pow_le_pow_right (show 0 < 2 by omega) h2
        omega
theorem setTo_eq (f : Nat → Bool) (S k : Nat) (hS : S < 2 ^ k) (h : ∀ i, i < k → f i = S.testBit i) : setTo f k = S := by
  apply Nat.eq_of_testBit_eq
  intro i
  rw [setTo_bit]
  rcases Nat.lt_or_ge i k with hi | hi
  · simp [hi, h i hi]
  · have : ¬ i < k := by omega
    rw [Nat.testBit_lt_two_pow (Nat.lt_of_lt_of_le hS (Nat.pow_le_pow_right (by omega) hi))]
    simp [this]
theorem dnF_nam (S : Nat) (k : Int) (h1 : 1 ≤ k) (h2 : k ≤ 32) (hS : S < 2 ^ k.toNat) : dnF (namF S) k = ((S : Int), 0) := by
  have h63 : S < 9223372036854775808 := Nat.lt_of_lt_of_le hS (Nat.le_trans (Nat.pow_le_pow_right (by omega) (show k.toNat ≤ 32 by omega)) (by decide))
  obtain ⟨x, u, L, e1, e2, e3, e4, e5, e6, e7, e8, e9⟩ := nam_facts S h63
  have hL := e6 _ hS
  unfold dnF
  rw [e1]
  have hk : decide (k < 1 ∨ k > 32) = false := by simp; omega
  have hb : decide ((0 : Int) ≠ 0 ∨ lenF x u > k ∨ (lenF x u > 0 ∧ atF x u (lenF x u - 1) = false)) = false := by
    simp only [ne_eq, not_true_eq_false, false_or, decide_eq_false_iff_not, not_or, not_and, Bool.not_eq_false]
    rw [e2]
    refine ⟨by omega, fun h0 => ?_⟩
    have h3 : ((L : Int) - 1) = ((L - 1 : Nat) : Int) := by omega
    rw [h3, e3 _ (by omega)]
    exact e5 (by omega)
  simp only [hk, hb]
  rw [e2, Int.toNat_natCast, setTo_eq (bitF x u) S L e4 (fun i hi => e3 i hi)]

/-- The other way: what is decoded as a set has the contents octets of that set, and no others. -/
theorem dnF_ok (c : List UInt8) (k s : Int) (h : dnF c k = (s, 0)) : 1 ≤ k ∧ k ≤ 32 ∧ ∃ S : Nat, s = S ∧ S < 2 ^ k.toNat ∧ namF S = c ∧ setTo (bitF (decF c).1 (decF c).2.1) k.toNat = S := by
  unfold dnF at h
  cases hk : decide (k < 1 ∨ k > 32) with
  | true => rw [hk] at h; simp at h
  | false =>
    rw [hk] at h
    have hk' : 1 ≤ k ∧ k ≤ 32 := by simp at hk; omega
    refine ⟨hk'.1, hk'.2, ?_⟩
    rcases decF_cases c with hd | ⟨b, x, rfl, hv, hd⟩
    · rw [hd] at h
      simp at h
    rw [hd] at h ⊢
    simp only at h ⊢
    cases hb : decide ((0 : Int) ≠ 0 ∨ lenF x b.toNat > k ∨ (lenF x b.toNat > 0 ∧ atF x b.toNat (lenF x b.toNat - 1) = false)) with
    | true => rw [hb] at h; simp at h
    | false =>
      rw [hb] at h
      simp only [Prod.mk.injEq, and_true] at h
      simp only [ne_eq, not_true_eq_false, false_or, decide_eq_false_iff_not, not_or, not_and, Bool.not_eq_false] at hb
      obtain ⟨hb1, hb2⟩ := hb
      have hL0 := lenF_nonneg x b.toNat
      obtain ⟨L, hL⟩ := Int.eq_ofNat_of_zero_le hL0
      rw [hL] at h hb1 hb2
      simp only [Int.toNat_natCast] at h
      have hr := valF_range hv
      have hlx : (L : Int) = 8 * x.length - b.toNat := by rw [← hL, lenF, hv]
      have hlt := setTo_lt (bitF x b.toNat) L
      have hLk : L ≤ k.toNat := by omega
      have hbit : ∀ i : Nat, L ≤ i → bitF x b.toNat i = false := by
        intro i hi
        have : ¬ (i : Int) < (L : Int) := by omega
        simp [bitF, atF, hL, this]
      obtain ⟨S, hSd⟩ : ∃ S, S = setTo (bitF x b.toNat) L := ⟨_, rfl⟩
      rw [← hSd] at h hlt
      have hSb : ∀ i, S.testBit i = bitF x b.toNat i := by
        intro i
        rw [hSd, setTo_bit]
        rcases Nat.lt_or_ge i L with hi | hi
        · simp [hi]
        · have : ¬ i < L := by omega
          simp [this, hbit i hi]
      have hS63 : S < 9223372036854775808 := Nat.lt_of_lt_of_le hlt (Nat.le_trans (Nat.pow_le_pow_right (by omega) (show L ≤ 32 by omega)) (by decide))
      refine ⟨S, h.symm, Nat.lt_of_lt_of_le hlt (Nat.pow_le_pow_right (by omega) hLk), ?_, setTo_eq _ _ _ (Nat.lt_of_lt_of_le hlt (Nat.pow_le_pow_right (by omega) hLk)) (fun i _ => (hSb i).symm)⟩
      rcases Nat.eq_zero_or_pos L with h0 | h0
      · subst h0
        have hx0 : x = [] := by
          cases x with
          | nil => rfl
          | cons y x => simp at hlx; omega
        subst hx0
        have hb0 : b.toNat = 0 := by simp [valF] at hv; exact hv
        have hS0 : S = 0 := by simp at hlt; exact hlt
        have hbz : b = 0 := UInt8.toNat_inj.1 (by rw [hb0]; rfl)
        rw [hS0, hbz]
        decide
      · have hlast : S.testBit (L - 1) = true := by
          have := hb2 (by omega)
          rw [hSb, bitF, show ((L - 1 : Nat) : Int) = (L : Int) - 1 by omega]
          exact this
        rcases List.eq_nil_or_concat (memF S) with he | ⟨q, m, he⟩
        · have h1 := mem_memF hS63 hlast
          rw [he] at h1
          cases h1
        · rw [List.concat_eq_append] at he
          have hml := memF_last hS63 he
          have hm : m = L - 1 := by
            have h1 : m < L := (memF_lt hS63 he).2 hlt
            have h2 : L - 1 < m + 1 := by
              rcases Nat.lt_or_ge (L - 1) (m + 1) with h3 | h3
              · exact h3
              · rw [Nat.testBit_lt_two_pow (Nat.lt_of_lt_of_le hml.2 (Nat.pow_le_pow_right (by omega) h3))] at hlast
                cases hlast
            omega
          have hinc : Inc (q ++ [m]) := by rw [← he]; exact memF_inc S
          have hn : namF S = outP (q ++ [m]) m := by simp [namF, he]
          have hxl : x.length = m / 8 + 1 := by omega
          have hub : b.toNat = 7 - m % 8 := by omega
          rw [hn, outP]
          congr 1
          · rw [← hub]; simp
          · apply List.ext_getElem
            · simp [hxl]
            · intro j hj1 hj2
              simp only [List.getElem_map, List.getElem_range]
              have hbl := byteP_lt _ hinc j
              apply UInt8.toNat_inj.1
              rw [show (UInt8.ofNat (byteP (q ++ [m]) j)).toNat = byteP (q ++ [m]) j by simp [UInt8.toNat_ofNat']; omega]
              have hxj : x[j].toNat < 256 := x[j].toNat_lt
              apply Nat.eq_of_testBit_eq
              intro i
              rcases Nat.lt_or_ge i 8 with hi | hi
              · have e1 := byteP_bit _ hinc j (7 - i) (by omega)
                rw [show 7 - (7 - i) = i by omega] at e1
                rw [e1, ← he]
                have e2 : decide (8 * j + (7 - i) ∈ memF S) = S.testBit (8 * j + (7 - i)) := by
                  rw [Bool.eq_iff_iff, decide_eq_true_eq]
                  exact ⟨fun h => (List.mem_filter.1 h).2, fun h => mem_memF hS63 h⟩
                rw [e2, hSb, bitF, atF, hL]
                have e3 : (((8 * j + (7 - i) : Nat) : Int) / 8).toNat = j := by omega
                have e4 : (7 - ((8 * j + (7 - i) : Nat) : Int) % 8).toNat = i := by omega
                rw [e3, e4, List.getD_eq_getElem?_getD, List.getElem?_eq_getElem hj2]
                have e5 : (0 : Int) ≤ ((8 * j + (7 - i) : Nat) : Int) := by omega
                simp only [e5, decide_true, Bool.true_and, Option.getD_some]
                rcases Nat.lt_or_ge (8 * j + (7 - i)) L with h5 | h5
                · have : ((8 * j + (7 - i) : Nat) : Int) < (L : Int) := by omega
                  rw [decide_eq_true this, Bool.true_and]
                · have h6 : ¬ ((8 * j + (7 - i) : Nat) : Int) < (L : Int) := by omega
                  simp only [h6, decide_false, Bool.false_and]
                  -- an unused bit of the last octet
                  have h7 : j = x.length - 1 := by omega
                  have hv2 : x[j].toNat % 2 ^ b.toNat = 0 := by
                    cases x with
                    | nil => simp at hj2
                    | cons y x =>
                      simp only [valF, decide_eq_true_eq] at hv
                      have := hv.2.2
                      rw [List.getD_eq_getElem?_getD, List.getElem?_eq_getElem (by simp)] at this
                      simpa [h7] using this
                  have h8 : i < b.toNat := by omega
                  have h9 := Nat.testBit_mod_two_pow x[j].toNat b.toNat i
                  rw [hv2] at h9
                  simp [h8] at h9
                  exact h9.symm
              · rw [Nat.testBit_lt_two_pow (Nat.lt_of_lt_of_le hbl (Nat.le_trans (show 256 ≤ 2 ^ 8 by decide) (Nat.pow_le_pow_right (by omega) hi))),
                  Nat.testBit_lt_two_pow (Nat.lt_of_lt_of_le hxj (Nat.le_trans (show 256 ≤ 2 ^ 8 by decide) (Nat.pow_le_pow_right (by omega) hi)))]
theorem dnF_code (c : List UInt8) (k : Int) : (dnF c k).2 = 0 ∨ (dnF c k = (0, 9) ∧ (k < 1 ∨ k > 32)) ∨ (dnF c k = (0, 6) ∧ 1 ≤ k ∧ k ≤ 32) := by
  unfold dnF
  cases hk : decide (k < 1 ∨ k > 32) with
  | true => simp at hk; simp; omega
  | false =>
    simp at hk
    simp only
    split
    · right; right; exact ⟨rfl, by omega, by omega⟩
    · left; rfl
theorem rdnF_eq (c : List UInt8) (k : Int) : rdnF c k = dnF c k := by
  rcases dnF_code c k with h | ⟨h, hk⟩ | ⟨h, h1, h2⟩
  · obtain ⟨h1, h2, S, h3, h4, h5, h6⟩ := dnF_ok c k (dnF c k).1 (by rw [← h])
    have hk : decide (k < 1 ∨ k > 32) = false := by simp; omega
    unfold rdnF
    rw [hk]
    simp only [h6, h5, decide_true]
    rw [← h3, ← h]
  · rw [h]
    have hk : decide (k < 1 ∨ k > 32) = true := by simp; omega
    unfold rdnF
    rw [hk]
  · rw [h]
    have hk : decide (k < 1 ∨ k > 32) = false := by simp; omega
    unfold rdnF
    rw [hk]
    simp only
    cases hn : decide (namF (setTo (bitF (decF c).1 (decF c).2.1) k.toNat) = c) with
    | false => rfl
    | true =>
      simp only [decide_eq_true_eq] at hn
      have := dnF_nam (setTo (bitF (decF c).1 (decF c).2.1) k.toNat) k h1 h2 (setTo_lt _ _)
      rw [hn, h] at this
      simp at this
end Go.Proofs.YtmciaonjkkelnaaDoor

/- Key usages: functions of package usage and of its reference. Walked by the abstract machine. -/
namespace Go.Proofs.YtmciaonjkkelnaaDoor
open Go.Am
set_option linter.unusedSimpArgs false
set_option linter.unusedVariables false

theorem namF_len (S : Nat) (hS : S < 9223372036854775808) : (namF S).length ≤ 11 := by
  obtain ⟨x, u, L, e1, _, _, _, _, _, h7, _⟩ := nam_facts S hS
  cases h : namF S with
  | nil => simp
  | cons b y =>
    rcases decF_cases (namF S) with hd | ⟨b', y', h1, h2, h3⟩
    · rw [hd] at e1
      simp at e1
    · rw [h1] at h
      cases h
      rw [e1] at h3
      simp only [Prod.mk.injEq] at h3
      rw [← h3.1]
      simp only [List.length_cons]
      omega
def keyV (n : Int) : Bool := decide (1 ≤ n ∧ n ≤ 511)
theorem shr9 (n : Int) (h0 : 0 < n) (h1 : n ≤ 9223372036854775807) : shft .shr .i64 n 9 = 0 ↔ n ≤ 511 := by
  show Int.fdiv n (2 ^ (min (9 : Int).toNat IntKind.i64.bits)) = 0 ↔ _
  rw [show (2 : Int) ^ (min (9 : Int).toNat IntKind.i64.bits) = 512 by decide, Int.fdiv_eq_ediv_of_nonneg _ (by omega)]
  omega
theorem keyV_nat {n : Int} (h : keyV n = true) : ∃ S : Nat, n = S ∧ 1 ≤ S ∧ S ≤ 511 := by
  rw [keyV, decide_eq_true_eq] at h
  exact ⟨n.toNat, by omega, by omega, by omega⟩
theorem bad9 {S : Nat} (h1 : 1 ≤ S) (h : S ≤ 511) : badF S 9 = false := by
  rw [badF, decide_eq_false_iff_not]
  simp
  omega
/-- The encoding of a key usage. -/
def keyF (S : Nat) : List UInt8 := putF 3 (namF S)
def keyR (n : Int) : Res := match keyV n with
  | true => .ownT none 5 (bys (keyF n.toNat)) [.int .i64 0]
  | false => .d (.tup [.sl none [], .int .i64 8])
/-- A key usage, parsed. -/
def pkF (b : List UInt8) : Ex Nat := match onF b with
  | .bad c o => .bad c o
  | .ok e => match isB e.x 0 false 3 with
    | false => .bad 3 0
    | true => match dnF (cut b e.bd e.en) 9 with
      | (s, c) => if c ≠ 0 ∨ s = 0 then .bad 6 e.bd else .ok s.toNat
def pkD : Ex Nat → Dat
  | .bad c o => .tup [.int .i64 0, errD c o]
  | .ok S => .tup [.int .i64 S, errD 0 0]
theorem dn_nat (c : List UInt8) : ∃ (S : Nat) (e : Int), dnF c 9 = ((S : Int), e) := by
  rcases dnF_code c 9 with h | ⟨h, _⟩ | ⟨h, _⟩
  · obtain ⟨_, _, S, h1, _⟩ := dnF_ok c 9 (dnF c 9).1 (Prod.ext rfl h)
    exact ⟨S, (dnF c 9).2, Prod.ext h1 rfl⟩
  · exact ⟨0, 9, h⟩
  · exact ⟨0, 6, h⟩
end Go.Proofs.YtmciaonjkkelnaaDoor

/- Key usages: what is parsed and what is marshalled are one to one; the reference's ParseKey; Allows. -/
namespace Go.Proofs.YtmciaonjkkelnaaDoor
open Go.Am
set_option linter.unusedSimpArgs false
set_option linter.unusedVariables false

theorem pk_bad {b : List UInt8} {c o : Nat} (h : pkF b = .bad c o) : 0 < c ∧ o ≤ b.length := by
  unfold pkF at h
  cases ho : onF b with
  | bad c' o' =>
    rw [ho] at h
    cases h
    exact on_bad ho
  | ok e =>
    rw [ho] at h
    simp only at h
    obtain ⟨c', _, _, _, _, _, h6, h7⟩ := on_ok ho
    cases hi : isB e.x 0 false 3 with
    | false =>
      rw [hi] at h
      cases h
      exact ⟨by omega, by omega⟩
    | true =>
      rw [hi] at h
      simp only at h
      split at h
      · cases h
        exact ⟨by omega, by omega⟩
      · cases h
theorem pk_ok {b : List UInt8} {S : Nat} (h : pkF b = .ok S) : 1 ≤ S ∧ S ≤ 511 ∧ b = keyF S := by
  unfold pkF at h
  cases ho : onF b with
  | bad c' o' =>
    rw [ho] at h
    cases h
  | ok e =>
    rw [ho] at h
    simp only at h
    obtain ⟨c, h1, _, _, _, h5, h6, h7⟩ := on_ok ho
    cases hi : isB e.x 0 false 3 with
    | false =>
      rw [hi] at h
      cases h
    | true =>
      rw [hi] at h
      simp only at h
      split at h
      · cases h
      · rename_i hn
        cases h
        rw [h5] at hn ⊢
        have hz : (dnF c 9).2 = 0 := by
          apply Decidable.byContradiction
          intro hz
          exact hn (.inl hz)
        obtain ⟨_, _, S, g1, g2, g3, _⟩ := dnF_ok c 9 (dnF c 9).1 (Prod.ext rfl hz)
        have hS : (dnF c 9).1.toNat = S := by omega
        rw [hS]
        have g4 : S < 512 := g2
        have g5 : S ≠ 0 := by
          rintro rfl
          exact hn (.inr g1)
        refine ⟨by omega, by omega, ?_⟩
        rw [keyF, g3, h1, isB_bits.1 hi]
theorem pk_of {S : Nat} (h1 : 1 ≤ S) (h2 : S ≤ 511) : pkF (keyF S) = .ok S := by
  have hl := namF_len S (by omega)
  have ho := on_put (x := 3) (c := namF S) (by decide) (by omega)
  have hi : isB (3 : UInt8) 0 false 3 = true := by decide
  rw [pkF, keyF, ho]
  simp only [hi, put_cut]
  rw [dnF_nam S 9 (by omega) (by omega) (by show S < 512; omega)]
  simp only
  rw [if_neg (by omega), Int.toNat_natCast]
theorem key_inj {S T : Nat} (h1 : 1 ≤ S) (h2 : S ≤ 511) (h3 : 1 ≤ T) (h4 : T ≤ 511) (h : keyF S = keyF T) : S = T := by
  have e1 := pk_of h1 h2
  rw [h, pk_of h3 h4] at e1
  cases e1
  rfl
def rpkD : Ex Nat → Dat
  | .bad c o => .tup [.int .i64 0, .bool false]
  | .ok S => .tup [.int .i64 S, .bool true]
/-! ### Allows -/
def allB (u n : Nat) : Bool := (List.range 9).all fun i => !n.testBit i || u.testBit i
def allF (u n : Int) : Bool := keyV u && keyV n && allB u.toNat n.toNat
theorem andnot_zero (n u : Nat) (hn : n ≤ 511) (hu : u ≤ 511) : bits .andNot .i64 (n : Int) (u : Int) = 0 ↔ allB u n = true := by
  obtain ⟨a, ha⟩ : ∃ a, a = BitVec.ofInt 64 (n : Int) := ⟨_, rfl⟩
  obtain ⟨b, hb⟩ : ∃ b, b = BitVec.ofInt 64 (u : Int) := ⟨_, rfl⟩
  have h1 : a.toNat = n := by rw [ha]; simp [BitVec.toNat_ofInt]; omega
  have h2 : b.toNat = u := by rw [hb]; simp [BitVec.toNat_ofInt]; omega
  have hle : (a &&& ~~~b).toNat ≤ 511 := by
    rw [BitVec.toNat_and]
    exact Nat.le_trans Nat.and_le_left (by omega)
  have hbit : ∀ i, (a &&& ~~~b).toNat.testBit i = (n.testBit i && (decide (i < 64) && !u.testBit i)) := fun i => by
    rw [BitVec.testBit_toNat, BitVec.getLsbD_and, BitVec.getLsbD_not, ← BitVec.testBit_toNat, ← BitVec.testBit_toNat, h1, h2]
  have hz : bits .andNot .i64 (n : Int) (u : Int) = ((a &&& ~~~b).toNat : Int) := by
    subst ha; subst hb
    show IntKind.i64.wrap _ = _
    rw [IntKind.wrap_i64]
    have : ((BitVec.ofInt IntKind.i64.bits (n : Int) &&& ~~~BitVec.ofInt IntKind.i64.bits (u : Int)).toNat : Int) ≤ 511 := by
      have := hle
      exact Int.ofNat_le.2 this
    show (((BitVec.ofInt IntKind.i64.bits (n : Int) &&& ~~~BitVec.ofInt IntKind.i64.bits (u : Int)).toNat : Int) + 9223372036854775808) % 18446744073709551616 - 9223372036854775808 = ((BitVec.ofInt IntKind.i64.bits (n : Int) &&& ~~~BitVec.ofInt IntKind.i64.bits (u : Int)).toNat : Int)
    omega
  rw [hz, allB, List.all_eq_true]
  constructor
  · intro h i hi
    have h0 : (a &&& ~~~b).toNat = 0 := by omega
    have := hbit i
    rw [h0, Nat.zero_testBit] at this
    have hi9 : i < 9 := by simpa using hi
    rw [decide_eq_true (show i < 64 by omega)] at this
    cases hx : n.testBit i <;> cases hy : u.testBit i <;> simp_all
  · intro h
    have : (a &&& ~~~b).toNat = 0 := by
      apply Nat.eq_of_testBit_eq
      intro i
      rw [hbit, Nat.zero_testBit]
      rcases Nat.lt_or_ge i 9 with hi | hi
      · have := h i (by simpa using hi)
        cases hx : n.testBit i <;> cases hy : u.testBit i <;> simp_all
      · rw [Nat.testBit_lt_two_pow (Nat.lt_of_lt_of_le (show n < 2 ^ 9 by omega) (Nat.pow_le_pow_right (by omega) hi))]
        rfl
    omega
/-! ### Allows of the reference -/
def allT (k u n : Nat) : Bool := (List.range k).all fun i => !n.testBit i || u.testBit i
theorem allT_step (k u n : Nat) : allT (k + 1) u n = ((!n.testBit 0 || u.testBit 0) && allT k (u / 2) (n / 2)) := by
  unfold allT
  rw [List.range_succ_eq_map, List.all_cons, List.all_map]
  congr 2
  funext i
  simp only [Function.comp, Nat.testBit_succ]
theorem allB_T (u n : Nat) : allB u n = allT 9 u n := rfl
theorem tmod2 (n : Nat) : Int.tmod (n : Int) 2 = ((n % 2 : Nat) : Int) := rfl
theorem tdiv2 (n : Nat) (h : n ≤ 511) : IntKind.i64.wrap (Int.tdiv (n : Int) 2) = ((n / 2 : Nat) : Int) := by
  rw [Int.tdiv_eq_ediv_of_nonneg (by omega), IntKind.wrap_i64]
  omega
theorem bit0 (n : Nat) : n.testBit 0 = decide (n % 2 = 1) := by rw [Nat.testBit_zero]
end Go.Proofs.YtmciaonjkkelnaaDoor

/- Arcs and their numerals: plain Lean. No program. -/
namespace Go.Am
open Go.Lib (decDigits)
set_option linter.unusedSimpArgs false
set_option linter.unusedVariables false

def digB (c : UInt8) : Bool := decide (48 ≤ c.toNat ∧ c.toNat ≤ 57)
def dv (acc : Nat) : List UInt8 → Nat
  | [] => acc
  | c :: r => dv (acc * 10 + (c.toNat - 48)) r
theorem dv_ge : ∀ (l : List UInt8) (acc : Nat), acc ≤ dv acc l
  | [], acc => Nat.le_refl _
  | c :: r, acc => Nat.le_trans (by omega) (dv_ge r _)
theorem dv_app : ∀ (l : List UInt8) (acc : Nat) (c : UInt8), dv acc (l ++ [c]) = dv acc l * 10 + (c.toNat - 48)
  | [], acc, c => rfl
  | x :: r, acc, c => dv_app r _ c
theorem dec_small {n : Nat} (h : n < 10) : decDigits n = [UInt8.ofNat (48 + n)] := by rw [Lib.decDigits, dif_pos h]
theorem dec_big {n : Nat} (h : ¬ n < 10) : decDigits n = decDigits (n / 10) ++ [UInt8.ofNat (48 + n % 10)] := by rw [Lib.decDigits, dif_neg h]
theorem dig_nat {d : Nat} (h : d < 10) : (UInt8.ofNat (48 + d)).toNat = 48 + d := by
  simp [UInt8.toNat_ofNat']
  omega
theorem dec_dig (n : Nat) : ∀ c ∈ decDigits n, digB c = true := by
  induction n using Nat.strongRecOn with
  | _ n ih =>
    by_cases h : n < 10
    · rw [dec_small h]
      intro c hc
      simp only [List.mem_singleton] at hc
      subst hc
      simp only [digB, dig_nat h, decide_eq_true_eq]
      omega
    · rw [dec_big h]
      intro c hc
      rcases List.mem_append.1 hc with hc | hc
      · exact ih (n / 10) (by omega) c hc
      · simp only [List.mem_singleton] at hc
        subst hc
        simp only [digB, dig_nat (show n % 10 < 10 by omega), decide_eq_true_eq]
        omega
theorem dv_one (a : Nat) (c : UInt8) : dv a [c] = a * 10 + (c.toNat - 48) := rfl
theorem dv_single (n : Nat) (x : UInt8) (l : List UInt8) (hl : l = [x]) (h : x.toNat = 48 + n) : dv 0 l = n := by
  subst hl
  rw [dv_one, h]
  omega
theorem dv_snoc (k d : Nat) (l r : List UInt8) (x : UInt8) (hl : l = r ++ [x]) (hr : dv 0 r = k) (h : x.toNat = 48 + d) : dv 0 l = k * 10 + d := by
  subst hl
  rw [dv_app, hr, h]
  omega
theorem dec_dv (n : Nat) : dv 0 (decDigits n) = n := by
  induction n using Nat.strongRecOn with
  | _ n ih =>
    by_cases h : n < 10
    · exact dv_single n _ _ (dec_small h) (dig_nat h)
    · have := dv_snoc (n / 10) (n % 10) _ _ _ (dec_big h) (ih (n / 10) (by omega)) (dig_nat (show n % 10 < 10 by omega))
      omega
theorem dec_inj {m n : Nat} (h : decDigits m = decDigits n) : m = n := by rw [← dec_dv m, h, dec_dv]
theorem dec_ne (n : Nat) : decDigits n ≠ [] := by
  by_cases h : n < 10
  · rw [dec_small h]; simp
  · rw [dec_big h]; simp
theorem dec_len (k : Nat) : ∀ n, n < 10 ^ (k + 1) → (decDigits n).length ≤ k + 1 := by
  induction k with
  | zero =>
    intro n h
    rw [dec_small (by simpa using h)]
    exact Nat.le_refl _
  | succ k ih =>
    intro n h
    by_cases h1 : n < 10
    · rw [dec_small h1]
      exact Nat.succ_le_succ (Nat.zero_le _)
    · rw [dec_big h1]
      have h2 : n / 10 < 10 ^ (k + 1) := by
        rw [Nat.div_lt_iff_lt_mul (Nat.succ_pos 9), ← Nat.pow_succ]
        exact h
      have := ih (n / 10) h2
      rw [List.length_append, List.length_singleton]
      omega
theorem dec_len32 (n : Nat) (h : n ≤ 4294967295) : (decDigits n).length ≤ 10 := dec_len 9 n (Nat.lt_of_le_of_lt h (by decide))
theorem dec_len64 (n : Nat) (h : n < 18446744073709551616) : (decDigits n).length ≤ 20 := dec_len 19 n (Nat.lt_of_lt_of_le h (by decide))

/-- The value that is read from digits, as far as it fits. -/
def valD (acc : Nat) : List UInt8 → Option Nat
  | [] => some acc
  | c :: r => match digB c && decide (acc ≤ 4294967295) with
    | true => valD (acc * 10 + (c.toNat - 48)) r
    | false => none
theorem valD_dv : ∀ (l : List UInt8) (acc : Nat), (∀ c ∈ l, digB c = true) → dv acc l ≤ 4294967295 → valD acc l = some (dv acc l)
  | [], acc, _, _ => rfl
  | c :: r, acc, h, hM => by
    have h1 := h c (List.mem_cons_self ..)
    have h2 := dv_ge r (acc * 10 + (c.toNat - 48))
    have h3 : dv acc (c :: r) = dv (acc * 10 + (c.toNat - 48)) r := rfl
    have h4 : decide (acc ≤ 4294967295) = true := decide_eq_true (by omega)
    simp only [valD, h1, h4, Bool.and_self]
    exact valD_dv r _ (fun c hc => h c (List.mem_cons_of_mem _ hc)) (by omega)
theorem parse_dv : ∀ (l : List UInt8) (acc : Nat), (∀ c ∈ l, digB c = true) → dv acc l ≤ 4294967295 → Lib.parseUintM 4294967295 acc l = .ok (dv acc l)
  | [], acc, _, _ => rfl
  | c :: r, acc, h, hM => by
    have h1 := h c (List.mem_cons_self ..)
    have h2 := dv_ge r (acc * 10 + (c.toNat - 48))
    have h3 : dv acc (c :: r) = dv (acc * 10 + (c.toNat - 48)) r := rfl
    simp only [digB, decide_eq_true_eq] at h1
    unfold Lib.parseUintM
    rw [if_pos h1, if_neg (by omega), if_neg (by omega)]
    exact parse_dv r _ (fun c hc => h c (List.mem_cons_of_mem _ hc)) (by omega)
theorem parse_le : ∀ (l : List UInt8) (acc u : Nat), acc ≤ 4294967295 → Lib.parseUintM 4294967295 acc l = .ok u → u ≤ 4294967295
  | [], acc, u, h, hp => by
    simp only [Lib.parseUintM, Lib.NumEnd.ok.injEq] at hp
    omega
  | c :: r, acc, u, h, hp => by
    unfold Lib.parseUintM at hp
    split at hp
    · split at hp
      · cases hp
      · split at hp
        · cases hp
        · exact parse_le r _ u (by omega) hp
    · cases hp
theorem parse32_le {l : List UInt8} {u : Nat} (h : Lib.parseUintB 32 l = .ok u) : u ≤ 4294967295 := by
  unfold Lib.parseUintB at h
  split at h
  · cases h
  · exact parse_le l 0 u (by omega) h

/-- The arc whose numeral it is. -/
def arcF (p : List UInt8) : Option Nat := match valD 0 p with
  | some n => match decide (p ≠ []) && decide (n ≤ 4294967295) && decide (decDigits n = p) with
    | true => some n
    | false => none
  | none => none
theorem arcF_some {p : List UInt8} {n : Nat} : arcF p = some n ↔ n ≤ 4294967295 ∧ decDigits n = p := by
  constructor
  · intro h
    unfold arcF at h
    split at h
    · split at h
      · rename_i hb
        cases h
        simp only [Bool.and_eq_true, decide_eq_true_eq] at hb
        exact ⟨hb.1.2, hb.2⟩
      · cases h
    · cases h
  · rintro ⟨h1, rfl⟩
    unfold arcF
    rw [valD_dv _ 0 (dec_dig n) (by rw [dec_dv]; exact h1), dec_dv]
    have e1 : decide (decDigits n ≠ []) = true := decide_eq_true (dec_ne n)
    have e2 : decide (n ≤ 4294967295) = true := decide_eq_true h1
    simp only [e1, e2, decide_true, Bool.and_self]
theorem arcF_dec {n : Nat} (h : n ≤ 4294967295) : arcF (decDigits n) = some n := arcF_some.2 ⟨h, rfl⟩
theorem parse_dec {n : Nat} (h : n ≤ 4294967295) : Lib.parseUintB 32 (decDigits n) = .ok n := by
  unfold Lib.parseUintB
  rw [if_neg (dec_ne n)]
  have := parse_dv (decDigits n) 0 (dec_dig n) (by rw [dec_dv]; exact h)
  rwa [dec_dv] at this
theorem arcF_parse (p : List UInt8) : arcF p = match Lib.parseUintB 32 p with
    | .ok u => (match decide (decDigits u = p) with
      | true => some u
      | false => none)
    | _ => none := by
  cases h : arcF p with
  | some n =>
    obtain ⟨h1, h2⟩ := arcF_some.1 h
    rw [← h2, parse_dec h1]
    simp
  | none =>
    cases hp : Lib.parseUintB 32 p with
    | ok u =>
      simp only
      split
      · rename_i hd
        have := arcF_some.2 ⟨parse32_le hp, of_decide_eq_true hd⟩
        rw [h] at this
        cases this
      · rfl
    | _ => rfl

def rightF : List Nat → Bool
  | x :: y :: _ => (decide (x < 2) && decide (y < 40)) || (decide (x = 2) && decide (y ≤ 4294967215))
  | _ => false
/-- The arcs of a string. -/
def okF (s : List UInt8) : Option (List Nat) := match (splitL s).mapM arcF with
  | some a => match rightF a with
    | true => some a
    | false => none
  | none => none

theorem mapM_snoc {α β : Type} {f : α → Option β} : ∀ (l : List α) (x : α), (l ++ [x]).mapM f = match l.mapM f, f x with
    | some a, some b => some (a ++ [b])
    | _, _ => none
  | [], x => by
    simp only [List.nil_append, List.mapM_cons, List.mapM_nil]
    cases f x <;> rfl
  | y :: l, x => by
    simp only [List.cons_append, List.mapM_cons, mapM_snoc l x]
    cases f y with
    | none => rfl
    | some b =>
      cases l.mapM f with
      | none => rfl
      | some a => cases f x <;> rfl
theorem mapM_none_of {α β : Type} {f : α → Option β} : ∀ {l : List α} {x : α}, x ∈ l → f x = none → l.mapM f = none
  | y :: l, x, h, hf => by
    rw [List.mapM_cons]
    rcases List.mem_cons.1 h with rfl | h
    · rw [hf]; rfl
    · cases f y with
      | none => rfl
      | some b => rw [mapM_none_of h hf]; rfl
theorem mapM_arcs : ∀ {l : List (List UInt8)} {a : List Nat}, l.mapM arcF = some a → l = a.map decDigits ∧ ∀ n ∈ a, n ≤ 4294967295
  | [], a, h => by cases h; simp
  | p :: l, a, h => by
    rw [List.mapM_cons] at h
    cases hp : arcF p with
    | none => rw [hp] at h; cases h
    | some n =>
      cases hl : l.mapM arcF with
      | none => rw [hp, hl] at h; cases h
      | some b =>
        rw [hp, hl] at h
        cases h
        obtain ⟨h1, h2⟩ := mapM_arcs hl
        obtain ⟨h3, h4⟩ := arcF_some.1 hp
        refine ⟨by rw [h1, ← h4]; rfl, fun m hm => ?_⟩
        rcases List.mem_cons.1 hm with rfl | hm
        · exact h3
        · exact h2 m hm
theorem arcs_mapM : ∀ {a : List Nat}, (∀ n ∈ a, n ≤ 4294967295) → (a.map decDigits).mapM arcF = some a
  | [], _ => rfl
  | n :: a, h => by
    rw [List.map_cons, List.mapM_cons, arcF_dec (h n (List.mem_cons_self ..)), arcs_mapM (fun m hm => h m (List.mem_cons_of_mem _ hm))]
    rfl
theorem splitL_app {p : List UInt8} (h : ∀ c ∈ p, c ≠ 46) (r : List UInt8) : splitL (p ++ 46 :: r) = p :: splitL r := by
  induction p with
  | nil => simp [splitL]
  | cons c p ih =>
    have h1 : ¬ c = 46 := h c (List.mem_cons_self ..)
    simp only [List.cons_append, splitL, if_neg h1, ih (fun c hc => h c (List.mem_cons_of_mem _ hc))]
theorem splitL_one {p : List UInt8} (h : ∀ c ∈ p, c ≠ 46) : splitL p = [p] := by
  induction p with
  | nil => rfl
  | cons c p ih =>
    have h1 : ¬ c = 46 := h c (List.mem_cons_self ..)
    simp only [splitL, if_neg h1, ih (fun c hc => h c (List.mem_cons_of_mem _ hc))]
/-- Pieces with dots between them. -/
def joinD : List (List UInt8) → List UInt8
  | [] => []
  | [p] => p
  | p :: q :: r => p ++ 46 :: joinD (q :: r)
theorem splitL_joinD : ∀ {ps : List (List UInt8)}, ps ≠ [] → (∀ p ∈ ps, ∀ c ∈ p, c ≠ 46) → splitL (joinD ps) = ps
  | [], h, _ => absurd rfl h
  | [p], _, h => splitL_one (h p (List.mem_cons_self ..))
  | p :: q :: r, _, h => by
    rw [joinD, splitL_app (h p (List.mem_cons_self ..)), splitL_joinD (by simp) (fun x hx => h x (List.mem_cons_of_mem _ hx))]
theorem joinD_splitL (s : List UInt8) : joinD (splitL s) = s := by
  induction s with
  | nil => rfl
  | cons c r ih =>
    simp only [splitL]
    by_cases h : c = 46
    · subst h
      rw [if_pos rfl]
      cases hs : splitL r with
      | nil => exact absurd hs (splitL_ne r)
      | cons p ps =>
        rw [hs] at ih
        rw [joinD, ih]
        rfl
    · rw [if_neg h]
      cases hs : splitL r with
      | nil => exact absurd hs (splitL_ne r)
      | cons p ps =>
        rw [hs] at ih
        cases ps with
        | nil => simp only [joinD] at ih ⊢; rw [ih]
        | cons q qs => simp only [joinD] at ih ⊢; rw [← ih]; rfl
def textF (a : List Nat) : List UInt8 := joinD (a.map decDigits)
theorem dec_nodot (n : Nat) : ∀ c ∈ decDigits n, c ≠ 46 := by
  intro c hc h
  subst h
  have := dec_dig n 46 hc
  revert this
  decide
theorem okF_text {s : List UInt8} {a : List Nat} (h : okF s = some a) : textF a = s ∧ rightF a = true ∧ ∀ n ∈ a, n ≤ 4294967295 := by
  unfold okF at h
  split at h
  · rename_i b hb
    split at h
    · rename_i hr
      cases h
      obtain ⟨h1, h2⟩ := mapM_arcs hb
      exact ⟨by rw [textF, ← h1, joinD_splitL], hr, h2⟩
    · cases h
  · cases h
theorem text_okF {a : List Nat} (h : rightF a = true) (hn : ∀ n ∈ a, n ≤ 4294967295) : okF (textF a) = some a := by
  unfold okF textF
  rw [splitL_joinD (by
    intro he
    cases a with
    | nil => simp [rightF] at h
    | cons x r => simp at he) (fun p hp => by
    obtain ⟨n, _, rfl⟩ := List.mem_map.1 hp
    exact dec_nodot n), arcs_mapM hn]
  simp only [h]
theorem joinD_lib : ∀ (ps : List (List UInt8)), Lib.join ps [46] = joinD ps
  | [] => rfl
  | [p] => by simp [joinD, Lib.join]
  | p :: q :: r => by
    rw [joinD, ← joinD_lib (q :: r)]
    simp [Lib.join]
theorem joinD_len : ∀ (ps : List (List UInt8)) (b : Nat), (∀ p ∈ ps, p.length ≤ b) → (joinD ps).length ≤ ps.length * (b + 1)
  | [], b, _ => by simp [joinD]
  | [p], b, h => by have := h p (List.mem_cons_self ..); simp [joinD]; omega
  | p :: q :: r, b, h => by
    have h1 := h p (List.mem_cons_self ..)
    have h2 := joinD_len (q :: r) b (fun x hx => h x (List.mem_cons_of_mem _ hx))
    rw [joinD]
    simp only [List.length_append, List.length_cons] at h2 ⊢
    rw [Nat.add_mul]
    omega
theorem textF_len (a : List Nat) (h : ∀ n ∈ a, n ≤ 4294967295) : (textF a).length ≤ a.length * 11 := by
  have := joinD_len (a.map decDigits) 10 (fun p hp => by
    obtain ⟨n, hn, rfl⟩ := List.mem_map.1 hp
    exact dec_len32 n (h n hn))
  simpa [textF] using this
end Go.Am

/- What the listed variables of Go's library hold: an environment for the walks. -/
namespace Go.Proofs.YtmciaonjkkelnaaDoor
open Go.Am
set_option linter.unusedSimpArgs false
set_option linter.unusedVariables false

def theLaid := Rows.extensionFindsRow.laid
def LaidOk (w : World) : Prop := 3 ≤ w.heap.size ∧ Lib.TabIs Tryd.prog w "internal/strconv.uint64pow10" .u64 Lib.pow10Tab ∧ (∃ t p, w.var? Tryd.prog "strconv.ErrSyntax" = some #[.iface t p]) ∧ (∃ t p, w.var? Tryd.prog "strconv.ErrRange" = some #[.iface t p])
theorem var_stable {P : Program} {n : String} {g : Nat} (hg : P.globalNamed n = some g) {w w' : World} (h : w'.heap[g]? = w.heap[g]?) : w'.var? P n = w.var? P n := by
  simp only [World.var?, hg, Option.bind_some, h]
theorem var_lt {P : Program} {n : String} {g : Nat} {c : Array Value} (hg : P.globalNamed n = some g) {w : World} (h : w.var? P n = some c) : g < w.heap.size := by
  rcases Nat.lt_or_ge g w.heap.size with h1 | h1
  · exact h1
  · simp only [World.var?, hg, Option.bind_some, Array.getElem?_eq_none h1] at h
    cases h
def envL : Env where
  ok := LaidOk
  lim := 3
  lim_le := fun w h => h.1
  stable := fun w w' h _ _ hs hb => by
    refine ⟨Nat.le_trans h.1 hs, ?_, ?_, ?_⟩
    · have := h.2.1
      unfold Lib.TabIs at this ⊢
      rw [var_stable (g := 2) (by kernel_rfl) (hb 2 (by omega))]
      exact this
    · rw [var_stable (g := 0) (by kernel_rfl) (hb 0 (by omega))]
      exact h.2.2.1
    · rw [var_stable (g := 1) (by kernel_rfl) (hb 1 (by omega))]
      exact h.2.2.2
  L := 0
theorem iface_of {H : Type} {enc : TypeId × Value → H} {P : Program} {w : World} {t : TypeId} {ms : Array (String × TypeId)} {fuel : Nat} {cs : Array Value} {nm : String} {d : DataW H} {p : List MemPlace} (hi : P.underlying t = some (.interface ms))
    (h : DataW.trod enc P w 0 (fun _ => true) false fuel t cs.toList = some (.iface nm d, p)) : ∃ u v, cs = #[.iface u v] := by
  obtain ⟨cs⟩ := cs
  cases fuel with
  | zero => simp [DataW.trod] at h
  | succ n =>
    unfold DataW.trod at h
    rw [hi] at h
    split at h <;> simp_all
theorem laid_ok {W : World} (h : laidMetH Tryd.prog theLaid W) : LaidOk W := by
  unfold theLaid at h
  rw [MakeChecks.laidMetH_plain _ _ _ (by kernel_rfl)] at h
  obtain ⟨ps, hv, _⟩ := h
  obtain ⟨g1, t1, c1, f1, p1, q1, a1, b1, v1, d1, hv, _⟩ := hv
  obtain ⟨g2, t2, c2, f2, p2, q2, a2, b2, v2, d2, hv, _⟩ := hv
  obtain ⟨g3, t3, c3, f3, p3, q3, a3, b3, v3, d3, hv, _⟩ := hv
  obtain ⟨g4, t4, c4, f4, p4, q4, a4, b4, v4, d4, hv, _⟩ := hv
  obtain ⟨g5, t5, c5, f5, p5, q5, a5, b5, v5, d5, hv, _⟩ := hv
  obtain ⟨g6, t6, c6, f6, p6, q6, a6, b6, v6, d6, hv, _⟩ := hv
  have hi : Tryd.prog.underlying 97 = some (.interface _) := Tryd.underlying97
  refine ⟨?_, ?_, ?_, ?_⟩
  · have h1 := var_lt (show Tryd.prog.globalNamed "internal/strconv.uint64pow10" = some 2 by kernel_rfl) v3
    have h2 := var_lt (show Tryd.prog.globalNamed "strconv.ErrSyntax" = some 0 by kernel_rfl) v6
    have h3 := var_lt (show Tryd.prog.globalNamed "strconv.ErrRange" = some 1 by kernel_rfl) v5
    omega
  · obtain rfl := Option.some.inj ((show Tryd.prog.globalNamed "internal/strconv.uint64pow10" = some 2 by kernel_rfl).symm.trans a3)
    unfold Lib.TabIs
    have hT : (Tryd.prog.globals[2]?).map (·.type) = some 150 := by kernel_rfl
    obtain rfl := Option.some.inj (hT.symm.trans b3)
    rw [v3, ← Lib.cells_of_tab (zs := Lib.pow10Tab) Tryd.underlying150 Tryd.underlying89 (by kernel_rfl) (by kernel_rfl) d3]
  · obtain rfl := Option.some.inj ((show Tryd.prog.globalNamed "strconv.ErrSyntax" = some 0 by kernel_rfl).symm.trans a6)
    obtain rfl := Option.some.inj ((show (Tryd.prog.globals[0]?).map (·.type) = some 97 by kernel_rfl).symm.trans b6)
    obtain ⟨u, v, rfl⟩ := iface_of hi d6
    exact ⟨u, v, v6⟩
  · obtain rfl := Option.some.inj ((show Tryd.prog.globalNamed "strconv.ErrRange" = some 1 by kernel_rfl).symm.trans a5)
    obtain rfl := Option.some.inj ((show (Tryd.prog.globals[1]?).map (·.type) = some 97 by kernel_rfl).symm.trans b5)
    obtain ⟨u, v, rfl⟩ := iface_of hi d5
    exact ⟨u, v, v5⟩
theorem env_of {W : World} (h : laidMetH Tryd.prog theLaid W) : envL.ok W := laid_ok h
end Go.Proofs.YtmciaonjkkelnaaDoor

/- Contracts of functions of Go's library, laid at this dump by the kit's own tool (lay-shelf.mjs, lay-plain.mjs), those that are used. -/

namespace Go.Proofs
open Go.Shelf
def Tryd.lays156_ren : Go.Shelf.Ren := ⟨fun | 156 => 69 | 165 => 77 | 166 => 78 | 169 => 79 | 240 => 95 | 241 => 96 | 276 => 110 | 277 => 111 | n => n, fun | 31 => 94 | 9 => 9 | 3 => 3 | 4 => 4 | 0 => 0 | 20 => 20 | 72 => 117 | 76 => 119 | 70 => 115 | 37 => 25 | 75 => 97 | 127 => 139 | 164 => 155 | 5 => 5 | 80 => 121 | n => n, fun | n => n⟩
theorem Tryd.lays156 : Go.Proofs.Lays.n156 Tryd.prog Tryd.lays156_ren := {
  mixed := by kernel_rfl
  f156 := Tryd.func69.trans (congrArg some (by kernel_rfl))
  f165 := Tryd.func77.trans (congrArg some (by kernel_rfl))
  f166 := Tryd.func78.trans (congrArg some (by kernel_rfl))
  f169 := Tryd.func79.trans (congrArg some (by kernel_rfl))
  f240 := Tryd.func95.trans (congrArg some (by kernel_rfl))
  f241 := Tryd.func96.trans (congrArg some (by kernel_rfl))
  f276 := Tryd.func110.trans (congrArg some (by kernel_rfl))
  f277 := Tryd.func111.trans (congrArg some (by kernel_rfl))
  t0 := Tryd.underlying0
  a0 := Tryd.isAgg0
  z0 := Tryd.sizeOf0
  v0 := Tryd.zeroValue0
  t3 := Tryd.underlying3
  a3 := Tryd.isAgg3
  z3 := Tryd.sizeOf3
  v3 := Tryd.zeroValue3
  t4 := Tryd.underlying4
  a4 := Tryd.isAgg4
  z4 := Tryd.sizeOf4
  v4 := Tryd.zeroValue4
  t9 := Tryd.underlying9
  a9 := Tryd.isAgg9
  z9 := Tryd.sizeOf9
  v9 := Tryd.zeroValue9
  t20 := Tryd.underlying20
  a20 := Tryd.isAgg20
  z20 := Tryd.sizeOf20
  v20 := Tryd.zeroValue20
  t31 := Tryd.underlying94
  a31 := Tryd.isAgg94
  z31 := Tryd.sizeOf94
  v31 := Tryd.zeroValue94
  t37 := Tryd.underlying25
  a37 := Tryd.isAgg25
  z37 := Tryd.sizeOf25
  v37 := Tryd.zeroValue25
  t70 := Tryd.underlying115
  a70 := Tryd.isAgg115
  z70 := Tryd.sizeOf115
  v70 := Tryd.zeroValue115
  t72 := Tryd.underlying117
  a72 := Tryd.isAgg117
  z72 := Tryd.sizeOf117
  v72 := Tryd.zeroValue117
  t75 := Tryd.underlying97
  a75 := Tryd.isAgg97
  z75 := Tryd.sizeOf97
  v75 := Tryd.zeroValue97
  t76 := Tryd.underlying119
  a76 := Tryd.isAgg119
  z76 := Tryd.sizeOf119
  v76 := Tryd.zeroValue119
  t127 := Tryd.underlying139
  a127 := Tryd.isAgg139
  z127 := Tryd.sizeOf139
  v127 := Tryd.zeroValue139
  t164 := Tryd.underlying155
  a164 := Tryd.isAgg155
  z164 := Tryd.sizeOf155
  v164 := Tryd.zeroValue155 }
theorem Tryd.Builder_Extra_156 : Builder.Extra Tryd.prog Tryd.lays156_ren := {
  sizeBuilder := by kernel_rfl
  liesBuilder := by kernel_rfl
  t5 := Tryd.underlying5
  a5 := Tryd.isAgg5
  z5 := Tryd.sizeOf5
  v5 := Tryd.zeroValue5
  infoByte := by kernel_rfl
  cellsByte := by kernel_rfl
  sizeByte := by kernel_rfl
  neB5 := by decide }
open Go.RowKit in
theorem Tryd.strings_Join_none (a : Option Addr) (c : Nat) (sep : ByteArray) (w : World) :
    Calls Tryd.prog 69 #[.slice a 0 c, .string sep] w fun e w' => e = .returned (.string ⟨#[]⟩) ∧ w' = w := Any.strings_Join_none Tryd.lays156 Tryd.Builder_Extra_156 a c sep w
open Go.RowKit in
theorem Tryd.strings_Join (bk o c : Nat) (xs : List ByteArray) (sep : ByteArray) (w : World) (hcells : ∀ (j : Nat) x, xs[j]? = some x → w.cell? ⟨bk, o + j, none⟩ = some (.string x)) (hbk : bk < w.heap.size) (hN : xs.length ≤ 140737488355328) (hcap : xs.length ≤ c) (hlen : (Lib.join (xs.map (·.data.toList)) sep.data.toList).length ≤ 140737488355328) :
    Calls Tryd.prog 69 #[.slice (some ⟨bk, o, none⟩) xs.length c, .string sep] w fun e w' => e = .returned (.string ⟨(Lib.join (xs.map (·.data.toList)) sep.data.toList).toArray⟩) ∧ Below w.heap.size w w' := Any.strings_Join Tryd.lays156 Tryd.Builder_Extra_156 bk o c xs sep w hcells hbk hN hcap hlen
def Tryd.lays283_ren : Go.Shelf.Ren := ⟨fun | 283 => 89 | n => n, fun | 3 => 3 | 9 => 9 | 4 => 4 | n => n, fun | n => n⟩
theorem Tryd.lays283 : Go.Proofs.Lays.n283 Tryd.prog Tryd.lays283_ren := {
  mixed := by kernel_rfl
  f283 := Tryd.func89.trans (congrArg some (by kernel_rfl))
  t3 := Tryd.underlying3
  a3 := Tryd.isAgg3
  z3 := Tryd.sizeOf3
  v3 := Tryd.zeroValue3
  t4 := Tryd.underlying4
  a4 := Tryd.isAgg4
  z4 := Tryd.sizeOf4
  v4 := Tryd.zeroValue4
  t9 := Tryd.underlying9
  a9 := Tryd.isAgg9
  z9 := Tryd.sizeOf9
  v9 := Tryd.zeroValue9 }
open Go.Lib in
theorem Tryd.internal_strconv_small (i : Nat) (h : i < 100) (w : World) :
    Calls Tryd.prog 89 #[.int .i64 i] w fun e w' => e = .returned (.string ⟨(Lib.decDigits i).toArray⟩) ∧ w' = w := Any.internal_strconv_small Tryd.lays283 i h w
def Tryd.laysM284_ren : Go.Shelf.Ren := ⟨fun | 284 => 90 | 129 => 105 | 317 => 104 | 318 => 106 | n => n, fun | 53 => 89 | 3 => 3 | 212 => 150 | 0 => 0 | 4 => 4 | 46 => 81 | 5 => 5 | 9 => 9 | n => n, fun | 17 => 2 | n => n⟩
theorem Tryd.laysM284 : Go.Proofs.LaysM.n284 Tryd.prog Tryd.laysM284_ren := {
  mixed := by kernel_rfl
  f129 := Tryd.func105.trans (congrArg some (by kernel_rfl))
  f284 := Tryd.func90.trans (congrArg some (by kernel_rfl))
  f317 := Tryd.func104.trans (congrArg some (by kernel_rfl))
  f318 := Tryd.func106.trans (congrArg some (by kernel_rfl))
  t0 := Tryd.underlying0
  a0 := Tryd.isAgg0
  z0 := Tryd.sizeOf0
  v0 := Tryd.zeroValue0
  t3 := Tryd.underlying3
  a3 := Tryd.isAgg3
  z3 := Tryd.sizeOf3
  v3 := Tryd.zeroValue3
  t4 := Tryd.underlying4
  a4 := Tryd.isAgg4
  z4 := Tryd.sizeOf4
  v4 := Tryd.zeroValue4
  t5 := Tryd.underlying5
  a5 := Tryd.isAgg5
  z5 := Tryd.sizeOf5
  v5 := Tryd.zeroValue5
  t9 := Tryd.underlying9
  a9 := Tryd.isAgg9
  z9 := Tryd.sizeOf9
  v9 := Tryd.zeroValue9
  t46 := Tryd.underlying81
  a46 := Tryd.isAgg81
  z46 := Tryd.sizeOf81
  v46 := Tryd.zeroValue81
  t53 := Tryd.underlying89
  a53 := Tryd.isAgg89
  z53 := Tryd.sizeOf89
  v53 := Tryd.zeroValue89
  t212 := Tryd.underlying150
  a212 := Tryd.isAgg150
  z212 := Tryd.sizeOf150
  v212 := Tryd.zeroValue150
  g17 := by kernel_rfl
  i0 := by kernel_rfl
  i3 := by kernel_rfl
  i4 := by kernel_rfl
  i5 := by kernel_rfl
  i9 := by kernel_rfl
  i46 := by kernel_rfl
  i53 := by kernel_rfl
  i212 := by kernel_rfl
  m17 := by kernel_rfl }
open Go.Lib in
theorem Tryd.internal_strconv_numDigits (u : Nat) (h1 : 1 ≤ u) (h2 : u < 18446744073709551616) (w : World) (htab : Lib.TabIs Tryd.prog w "internal/strconv.uint64pow10" .u64 Lib.pow10Tab) :
    Calls Tryd.prog 90 #[.int .u64 u] w fun e w' => e = .returned (.int .i64 (Lib.nDigits u)) ∧ w' = w := Any.internal_strconv_numDigits Tryd.laysM284 u h1 h2 w htab
def Tryd.lays285_ren : Go.Shelf.Ren := ⟨fun | 285 => 91 | n => n, fun | 37 => 25 | 53 => 89 | 3 => 3 | 4 => 4 | 51 => 80 | 9 => 9 | 5 => 5 | 0 => 0 | n => n, fun | n => n⟩
theorem Tryd.lays285 : Go.Proofs.Lays.n285 Tryd.prog Tryd.lays285_ren := {
  mixed := by kernel_rfl
  f285 := Tryd.func91.trans (congrArg some (by kernel_rfl))
  t0 := Tryd.underlying0
  a0 := Tryd.isAgg0
  z0 := Tryd.sizeOf0
  v0 := Tryd.zeroValue0
  t3 := Tryd.underlying3
  a3 := Tryd.isAgg3
  z3 := Tryd.sizeOf3
  v3 := Tryd.zeroValue3
  t4 := Tryd.underlying4
  a4 := Tryd.isAgg4
  z4 := Tryd.sizeOf4
  v4 := Tryd.zeroValue4
  t5 := Tryd.underlying5
  a5 := Tryd.isAgg5
  z5 := Tryd.sizeOf5
  v5 := Tryd.zeroValue5
  t9 := Tryd.underlying9
  a9 := Tryd.isAgg9
  z9 := Tryd.sizeOf9
  v9 := Tryd.zeroValue9
  t37 := Tryd.underlying25
  a37 := Tryd.isAgg25
  z37 := Tryd.sizeOf25
  v37 := Tryd.zeroValue25
  t51 := Tryd.underlying80
  a51 := Tryd.isAgg80
  z51 := Tryd.sizeOf80
  v51 := Tryd.zeroValue80
  t53 := Tryd.underlying89
  a53 := Tryd.isAgg89
  z53 := Tryd.sizeOf89
  v53 := Tryd.zeroValue89 }
open Go.RowKit Go.Sort Go.Lib in
theorem Tryd.internal_strconv_formatBase10 (blk off cap : Nat) (u : Nat) (d : Array UInt8) (w : World) (hH : Holds (fun (b : UInt8) => Value.int .u8 (b.toNat : Int)) w blk off d) (hu : u < 10 ^ d.size) (hu64 : u < 18446744073709551616) (hsz : d.size < 4611686018427387904) :
    Calls Tryd.prog 91 #[.slice (some ⟨blk, off, none⟩) d.size cap, .int .u64 u] w fun e w' =>
      e = .returned (.tuple #[]) ∧ ∃ (n v' : Nat) (dk : Array UInt8), w' = (putRow (fun (b : UInt8) => Value.int .u8 (b.toNat : Int)) w blk off dk).drewN n ∧ FmtInv d.size u 0 v' dk := Any.internal_strconv_formatBase10 Tryd.lays285 blk off cap u d w hH hu hu64 hsz
def Tryd.laysPu14_ren : Go.Shelf.Ren := ⟨fun | 14 => 62 | 16 => 72 | 17 => 73 | 19 => 83 | 20 => 84 | 21 => 85 | 22 => 86 | 23 => 87 | 24 => 88 | 25 => 101 | 27 => 103 | 26 => 102 | 28 => 117 | 29 => 122 | 30 => 89 | 31 => 90 | 32 => 91 | 33 => 92 | 35 => 105 | 34 => 104 | 36 => 106 | 37 => 107 | 38 => 108 | 39 => 118 | 40 => 119 | n => n, fun | 9 => 9 | 3 => 3 | 22 => 89 | 24 => 97 | 25 => 98 | 4 => 4 | 34 => 124 | 5 => 5 | 36 => 81 | 37 => 25 | 0 => 0 | 39 => 126 | 21 => 21 | 44 => 146 | 47 => 139 | 50 => 160 | 48 => 158 | 2 => 2 | 52 => 130 | 55 => 133 | 59 => 150 | 60 => 80 | 20 => 20 | 61 => 151 | 65 => 169 | 66 => 170 | 67 => 121 | n => n, fun | 0 => 0 | 1 => 1 | 2 => 2 | 3 => 6 | 4 => 7 | n => n⟩
theorem Tryd.laysPu14 : Go.Proofs.LaysPu.n14 Tryd.prog Tryd.laysPu14_ren := {
  mixed := by kernel_rfl
  f14 := Tryd.func62.trans (congrArg some (by kernel_rfl))
  f16 := Tryd.func72.trans (congrArg some (by kernel_rfl))
  f17 := Tryd.func73.trans (congrArg some (by kernel_rfl))
  f19 := Tryd.func83.trans (congrArg some (by kernel_rfl))
  f20 := Tryd.func84.trans (congrArg some (by kernel_rfl))
  f21 := Tryd.func85.trans (congrArg some (by kernel_rfl))
  f22 := Tryd.func86.trans (congrArg some (by kernel_rfl))
  f23 := Tryd.func87.trans (congrArg some (by kernel_rfl))
  f24 := Tryd.func88.trans (congrArg some (by kernel_rfl))
  f25 := Tryd.func101.trans (congrArg some (by kernel_rfl))
  f26 := Tryd.func102.trans (congrArg some (by kernel_rfl))
  f27 := Tryd.func103.trans (congrArg some (by kernel_rfl))
  f28 := Tryd.func117.trans (congrArg some (by kernel_rfl))
  f29 := Tryd.func122.trans (congrArg some (by kernel_rfl))
  f30 := Tryd.func89.trans (congrArg some (by kernel_rfl))
  f31 := Tryd.func90.trans (congrArg some (by kernel_rfl))
  f32 := Tryd.func91.trans (congrArg some (by kernel_rfl))
  f33 := Tryd.func92.trans (congrArg some (by kernel_rfl))
  f34 := Tryd.func104.trans (congrArg some (by kernel_rfl))
  f35 := Tryd.func105.trans (congrArg some (by kernel_rfl))
  f36 := Tryd.func106.trans (congrArg some (by kernel_rfl))
  f37 := Tryd.func107.trans (congrArg some (by kernel_rfl))
  f38 := Tryd.func108.trans (congrArg some (by kernel_rfl))
  f39 := Tryd.func118.trans (congrArg some (by kernel_rfl))
  f40 := Tryd.func119.trans (congrArg some (by kernel_rfl))
  t0 := Tryd.underlying0
  a0 := Tryd.isAgg0
  z0 := Tryd.sizeOf0
  v0 := Tryd.zeroValue0
  i0 := by kernel_rfl
  t2 := Tryd.underlying2
  a2 := Tryd.isAgg2
  z2 := Tryd.sizeOf2
  v2 := Tryd.zeroValue2
  i2 := by kernel_rfl
  t3 := Tryd.underlying3
  a3 := Tryd.isAgg3
  z3 := Tryd.sizeOf3
  v3 := Tryd.zeroValue3
  i3 := by kernel_rfl
  t4 := Tryd.underlying4
  a4 := Tryd.isAgg4
  z4 := Tryd.sizeOf4
  v4 := Tryd.zeroValue4
  i4 := by kernel_rfl
  t5 := Tryd.underlying5
  a5 := Tryd.isAgg5
  z5 := Tryd.sizeOf5
  v5 := Tryd.zeroValue5
  i5 := by kernel_rfl
  t9 := Tryd.underlying9
  a9 := Tryd.isAgg9
  z9 := Tryd.sizeOf9
  v9 := Tryd.zeroValue9
  i9 := by kernel_rfl
  t20 := Tryd.underlying20
  a20 := Tryd.isAgg20
  z20 := Tryd.sizeOf20
  v20 := Tryd.zeroValue20
  i20 := by kernel_rfl
  t21 := Tryd.underlying21
  a21 := Tryd.isAgg21
  z21 := Tryd.sizeOf21
  v21 := Tryd.zeroValue21
  i21 := by kernel_rfl
  t22 := Tryd.underlying89
  a22 := Tryd.isAgg89
  z22 := Tryd.sizeOf89
  v22 := Tryd.zeroValue89
  i22 := by kernel_rfl
  t24 := Tryd.underlying97
  a24 := Tryd.isAgg97
  z24 := Tryd.sizeOf97
  v24 := Tryd.zeroValue97
  i24 := by kernel_rfl
  t25 := Tryd.underlying98
  a25 := Tryd.isAgg98
  z25 := Tryd.sizeOf98
  v25 := Tryd.zeroValue98
  i25 := by kernel_rfl
  t34 := Tryd.underlying124
  a34 := Tryd.isAgg124
  z34 := Tryd.sizeOf124
  v34 := Tryd.zeroValue124
  i34 := by kernel_rfl
  c34 := by kernel_rfl
  t36 := Tryd.underlying81
  a36 := Tryd.isAgg81
  z36 := Tryd.sizeOf81
  v36 := Tryd.zeroValue81
  i36 := by kernel_rfl
  t37 := Tryd.underlying25
  a37 := Tryd.isAgg25
  z37 := Tryd.sizeOf25
  v37 := Tryd.zeroValue25
  i37 := by kernel_rfl
  t39 := Tryd.underlying126
  a39 := Tryd.isAgg126
  z39 := Tryd.sizeOf126
  v39 := Tryd.zeroValue126
  i39 := by kernel_rfl
  t44 := Tryd.underlying146
  a44 := Tryd.isAgg146
  z44 := Tryd.sizeOf146
  v44 := Tryd.zeroValue146
  i44 := by kernel_rfl
  t47 := Tryd.underlying139
  a47 := Tryd.isAgg139
  z47 := Tryd.sizeOf139
  v47 := Tryd.zeroValue139
  i47 := by kernel_rfl
  t48 := Tryd.underlying158
  a48 := Tryd.isAgg158
  z48 := Tryd.sizeOf158
  v48 := Tryd.zeroValue158
  i48 := by kernel_rfl
  t50 := Tryd.underlying160
  a50 := Tryd.isAgg160
  z50 := Tryd.sizeOf160
  v50 := Tryd.zeroValue160
  i50 := by kernel_rfl
  t52 := Tryd.underlying130
  a52 := Tryd.isAgg130
  z52 := Tryd.sizeOf130
  v52 := Tryd.zeroValue130
  i52 := by kernel_rfl
  t55 := Tryd.underlying133
  a55 := Tryd.isAgg133
  z55 := Tryd.sizeOf133
  v55 := Tryd.zeroValue133
  i55 := by kernel_rfl
  t59 := Tryd.underlying150
  a59 := Tryd.isAgg150
  z59 := Tryd.sizeOf150
  v59 := Tryd.zeroValue150
  i59 := by kernel_rfl
  t60 := Tryd.underlying80
  a60 := Tryd.isAgg80
  z60 := Tryd.sizeOf80
  v60 := Tryd.zeroValue80
  i60 := by kernel_rfl
  t61 := Tryd.underlying151
  a61 := Tryd.isAgg151
  z61 := Tryd.sizeOf151
  t65 := Tryd.underlying169
  a65 := Tryd.isAgg169
  z65 := Tryd.sizeOf169
  v65 := Tryd.zeroValue169
  i65 := by kernel_rfl
  t66 := Tryd.underlying170
  a66 := Tryd.isAgg170
  z66 := Tryd.sizeOf170
  v66 := Tryd.zeroValue170
  i66 := by kernel_rfl
  t67 := Tryd.underlying121
  a67 := Tryd.isAgg121
  z67 := Tryd.sizeOf121
  v67 := Tryd.zeroValue121
  i67 := by kernel_rfl
  g0 := by kernel_rfl
  m0 := by kernel_rfl
  g1 := by kernel_rfl
  m1 := by kernel_rfl
  g2 := by kernel_rfl
  m2 := by kernel_rfl
  g3 := by kernel_rfl
  m3 := by kernel_rfl
  g4 := by kernel_rfl
  m4 := by kernel_rfl }
open Go.RowKit in
theorem Tryd.strconv_ParseUint_10_at32_ok (s : ByteArray) (hmax : s.size ≤ 9223372036854775806) (u : Nat) (h : Lib.parseUintB 32 s.data.toList = .ok u) (w : World) :
    Calls Tryd.prog 62 #[.string s, .int .i64 10, .int .i64 32] w fun e w' => e = .returned (.tuple #[.int .u64 u, .nilIface]) ∧ (w' = w ∨ w' = Lib.bytesWorld w 5 s) := Any.strconv_ParseUint_10_at32_ok Tryd.laysPu14 s hmax u h w
open Go.RowKit in
theorem Tryd.strconv_ParseUint_10_at32_syntax_var (s : ByteArray) (hlim : s.size ≤ 281474976710656) (h : Lib.parseUintB 32 s.data.toList = Lib.parseUintB 32 []) (tp : TypeId) (p : Value) (w : World) (hvar : w.var? Tryd.prog "strconv.ErrSyntax" = some #[.iface tp p]) :
    Calls Tryd.prog 62 #[.string s, .int .i64 10, .int .i64 32] w fun e w' => ∃ N, e = .returned (.tuple #[.int .u64 0, .iface 126 (.pointer (some ⟨N, 0, none⟩))]) ∧ w.heap.size ≤ N ∧ w'.heap[N]? = some (.cells #[.string ⟨#[80, 97, 114, 115, 101, 85, 105, 110, 116]⟩, .string s, .iface tp p] 146 (0, 0)) ∧ Below w.heap.size w w' := Any.strconv_ParseUint_10_at32_syntax_var Tryd.laysPu14 s hlim h tp p w hvar
open Go.RowKit in
theorem Tryd.strconv_ParseUint_10_at32_range_var (s : ByteArray) (hlim : s.size ≤ 281474976710656) (h : Lib.parseUintB 32 s.data.toList = .range) (tp : TypeId) (p : Value) (w : World) (hvar : w.var? Tryd.prog "strconv.ErrRange" = some #[.iface tp p]) :
    Calls Tryd.prog 62 #[.string s, .int .i64 10, .int .i64 32] w fun e w' => ∃ N, e = .returned (.tuple #[.int .u64 4294967295, .iface 126 (.pointer (some ⟨N, 0, none⟩))]) ∧ w.heap.size ≤ N ∧ w'.heap[N]? = some (.cells #[.string ⟨#[80, 97, 114, 115, 101, 85, 105, 110, 116]⟩, .string s, .iface tp p] 146 (0, 0)) ∧ Below w.heap.size w w' := Any.strconv_ParseUint_10_at32_range_var Tryd.laysPu14 s hlim h tp p w hvar
def Tryd.lays143_ren : Go.Shelf.Ren := ⟨fun | 143 => 82 | 219 => 100 | 217 => 113 | 225 => 114 | 224 => 115 | 267 => 116 | 266 => 120 | 314 => 121 | n => n, fun | 9 => 9 | 3 => 3 | 4 => 4 | 5 => 5 | 46 => 81 | 146 => 166 | 51 => 80 | n => n, fun | 1 => 3 | n => n⟩
theorem Tryd.lays143 : Go.Proofs.Lays.n143 Tryd.prog Tryd.lays143_ren := {
  mixed := by kernel_rfl
  f143 := Tryd.func82.trans (congrArg some (by kernel_rfl))
  f217 := Tryd.func113.trans (congrArg some (by kernel_rfl))
  f219 := Tryd.func100.trans (congrArg some (by kernel_rfl))
  f224 := Tryd.func115.trans (congrArg some (by kernel_rfl))
  f225 := Tryd.func114.trans (congrArg some (by kernel_rfl))
  f266 := Tryd.func120.trans (congrArg some (by kernel_rfl))
  f267 := Tryd.func116.trans (congrArg some (by kernel_rfl))
  f314 := Tryd.func121.trans (congrArg some (by kernel_rfl))
  t3 := Tryd.underlying3
  a3 := Tryd.isAgg3
  z3 := Tryd.sizeOf3
  v3 := Tryd.zeroValue3
  t4 := Tryd.underlying4
  a4 := Tryd.isAgg4
  z4 := Tryd.sizeOf4
  v4 := Tryd.zeroValue4
  t5 := Tryd.underlying5
  a5 := Tryd.isAgg5
  z5 := Tryd.sizeOf5
  v5 := Tryd.zeroValue5
  t9 := Tryd.underlying9
  a9 := Tryd.isAgg9
  z9 := Tryd.sizeOf9
  v9 := Tryd.zeroValue9
  t46 := Tryd.underlying81
  a46 := Tryd.isAgg81
  z46 := Tryd.sizeOf81
  v46 := Tryd.zeroValue81
  t51 := Tryd.underlying80
  a51 := Tryd.isAgg80
  z51 := Tryd.sizeOf80
  v51 := Tryd.zeroValue80
  t146 := Tryd.underlying166
  a146 := Tryd.isAgg166
  z146 := Tryd.sizeOf166
  v146 := Tryd.zeroValue166
  g1 := by kernel_rfl }
open Go.RowKit Go.Lib in
theorem Tryd.strings_Index_one (s : ByteArray) (c : UInt8) (w : World) :
    Calls Tryd.prog 82 #[.string s, .string ⟨#[c]⟩] w fun e w' => e = .returned (.int .i64 (Lib.indexByte s.data.toList c)) ∧ w' = w := Any.strings_Index_one Tryd.lays143 s c w
def Tryd.lays138_ren : Go.Shelf.Ren := ⟨fun | 138 => 81 | 195 => 97 | 218 => 99 | 143 => 82 | 219 => 100 | 217 => 113 | 225 => 114 | 224 => 115 | 267 => 116 | 266 => 120 | 314 => 121 | n => n, fun | 9 => 9 | 3 => 3 | 4 => 4 | 5 => 5 | 0 => 0 | 46 => 81 | 146 => 166 | 51 => 80 | n => n, fun | 1 => 3 | n => n⟩
theorem Tryd.lays138 : Go.Proofs.Lays.n138 Tryd.prog Tryd.lays138_ren := {
  mixed := by kernel_rfl
  f138 := Tryd.func81.trans (congrArg some (by kernel_rfl))
  f143 := Tryd.func82.trans (congrArg some (by kernel_rfl))
  f195 := Tryd.func97.trans (congrArg some (by kernel_rfl))
  f217 := Tryd.func113.trans (congrArg some (by kernel_rfl))
  f218 := Tryd.func99.trans (congrArg some (by kernel_rfl))
  f219 := Tryd.func100.trans (congrArg some (by kernel_rfl))
  f224 := Tryd.func115.trans (congrArg some (by kernel_rfl))
  f225 := Tryd.func114.trans (congrArg some (by kernel_rfl))
  f266 := Tryd.func120.trans (congrArg some (by kernel_rfl))
  f267 := Tryd.func116.trans (congrArg some (by kernel_rfl))
  f314 := Tryd.func121.trans (congrArg some (by kernel_rfl))
  t0 := Tryd.underlying0
  a0 := Tryd.isAgg0
  z0 := Tryd.sizeOf0
  v0 := Tryd.zeroValue0
  t3 := Tryd.underlying3
  a3 := Tryd.isAgg3
  z3 := Tryd.sizeOf3
  v3 := Tryd.zeroValue3
  t4 := Tryd.underlying4
  a4 := Tryd.isAgg4
  z4 := Tryd.sizeOf4
  v4 := Tryd.zeroValue4
  t5 := Tryd.underlying5
  a5 := Tryd.isAgg5
  z5 := Tryd.sizeOf5
  v5 := Tryd.zeroValue5
  t9 := Tryd.underlying9
  a9 := Tryd.isAgg9
  z9 := Tryd.sizeOf9
  v9 := Tryd.zeroValue9
  t46 := Tryd.underlying81
  a46 := Tryd.isAgg81
  z46 := Tryd.sizeOf81
  v46 := Tryd.zeroValue81
  t51 := Tryd.underlying80
  a51 := Tryd.isAgg80
  z51 := Tryd.sizeOf80
  v51 := Tryd.zeroValue80
  t146 := Tryd.underlying166
  a146 := Tryd.isAgg166
  z146 := Tryd.sizeOf166
  v146 := Tryd.zeroValue166
  g1 := by kernel_rfl }
open Go.RowKit Go.Lib in
theorem Tryd.strings_Count_one (s : ByteArray) (c : UInt8) (w : World) :
    Calls Tryd.prog 81 #[.string s, .string ⟨#[c]⟩] w fun e w' => e = .returned (.int .i64 (Lib.countByte s.data.toList c)) ∧ w' = w := Any.strings_Count_one Tryd.lays138 s c w
end Go.Proofs

/- Functions of Go's library that package oid calls, as contracts on data. -/
namespace Go.Proofs.YtmciaonjkkelnaaDoor
open Go.Am Go.RowKit Go.Sort
set_option linter.unusedSimpArgs false
set_option linter.unusedVariables false

theorem two_args {w : World} {pr : Nat → Bool} {vs : Array Value} {x y : Dat} (h1 : vs.size = [x, y].length) (h2 : ∀ (j : Nat) (z : Dat), [x, y][j]? = some z → RepD w pr z (vs.getD j undef)) : ∃ a b, vs = #[a, b] ∧ RepD w pr x a ∧ RepD w pr y b := by
  obtain ⟨l⟩ := vs
  match l, h1 with
  | [a, b], _ => exact ⟨a, b, rfl, by simpa using h2 0 x rfl, by simpa using h2 1 y rfl⟩
theorem three_args {w : World} {pr : Nat → Bool} {vs : Array Value} {x y u : Dat} (h1 : vs.size = [x, y, u].length) (h2 : ∀ (j : Nat) (z : Dat), [x, y, u][j]? = some z → RepD w pr z (vs.getD j undef)) : ∃ a b c, vs = #[a, b, c] ∧ RepD w pr x a ∧ RepD w pr y b ∧ RepD w pr u c := by
  obtain ⟨l⟩ := vs
  match l, h1 with
  | [a, b, c], _ => exact ⟨a, b, c, rfl, by simpa using h2 0 x rfl, by simpa using h2 1 y rfl, by simpa using h2 2 u rfl⟩

theorem isIndex : IsFn Tryd.prog 82 Tryd.f82 := ⟨Tryd.func82, by decide, rfl⟩
theorem isCount : IsFn Tryd.prog 81 Tryd.f81 := ⟨Tryd.func81, by decide, rfl⟩
theorem c_index (Γ : Env) (l : List UInt8) : ACalls Tryd.prog Γ 82 [sD l, sD [46]] (fun r => r = .d (.int .i64 (Lib.indexByte l 46))) := by
  refine ⟨⟨_, isIndex⟩, fun w pr vs hok hs hr => ?_⟩
  obtain ⟨a, b, rfl, h1, h2⟩ := two_args hs hr
  cases h1; cases h2
  refine (Tryd.strings_Index_one (bA l) 46 w).mono fun e w' ⟨he, hw⟩ => ?_
  subst hw
  exact ⟨_, .d (.int .i64 (Lib.indexByte l 46)), by rw [he, bA_list], Below.refl _ _, .int _ _, rfl⟩
theorem c_count (Γ : Env) (l : List UInt8) : ACalls Tryd.prog Γ 81 [sD l, sD [46]] (fun r => r = .d (.int .i64 (Lib.countByte l 46))) := by
  refine ⟨⟨_, isCount⟩, fun w pr vs hok hs hr => ?_⟩
  obtain ⟨a, b, rfl, h1, h2⟩ := two_args hs hr
  cases h1; cases h2
  refine (Tryd.strings_Count_one (bA l) 46 w).mono fun e w' ⟨he, hw⟩ => ?_
  subst hw
  exact ⟨_, .d (.int .i64 (Lib.countByte l 46)), by rw [he, bA_list], Below.refl _ _, .int _ _, rfl⟩

/-! ### ParseUint -/
def parR (l : List UInt8) (r : Res) : Prop := match Lib.parseUintB 32 l with
  | .ok u => r = .d (.tup [.int .u64 u, .nilIf])
  | .range => r = .d (.tup [.int .u64 4294967295, .someIf])
  | _ => r = .d (.tup [.int .u64 0, .someIf])
theorem tup2 {w : World} {pr : Nat → Bool} {x y : Dat} {a b : Value} (h1 : RepD w pr x a) (h2 : RepD w pr y b) : RepD w pr (.tup [x, y]) (.tuple #[a, b]) := by
  refine .tup _ _ rfl fun j z hj => ?_
  match j, hj with
  | 0, hj => simp at hj; subst hj; simpa using h1
  | 1, hj => simp at hj; subst hj; simpa using h2
theorem isParseUint : IsFn Tryd.prog 62 Tryd.f62 := ⟨Tryd.func62, by decide, rfl⟩
theorem c_parse (l : List UInt8) (hl : l.length ≤ 1099511627776) : ACalls Tryd.prog envL 62 [sD l, .int .i64 10, .int .i64 32] (parR l) := by
  refine ⟨⟨_, isParseUint⟩, fun w pr vs hok hs hr => ?_⟩
  obtain ⟨a, b, c, rfl, h1, h2, h3⟩ := three_args hs hr
  cases h1; cases h2; cases h3
  have hok' : LaidOk w := hok
  obtain ⟨_, _, ⟨t1, p1, v1⟩, t2, p2, v2⟩ := hok'
  have hsz := bA_size l
  have hli := bA_list l
  cases hp : Lib.parseUintB 32 l with
  | ok u =>
    refine (Tryd.strconv_ParseUint_10_at32_ok (bA l) (by omega) u (by rw [hli]; exact hp) w).mono fun e w' ⟨he, hw⟩ => ?_
    refine ⟨_, .d (.tup [.int .u64 u, .nilIf]), he, ?_, tup2 (.int _ _) .nilIf, by simp only [parR, hp]⟩
    rcases hw with rfl | rfl
    · exact Below.refl _ _
    · exact Lib.bytesWorld_below _ _ _
  | range =>
    refine (Tryd.strconv_ParseUint_10_at32_range_var (bA l) (by omega) (by rw [hli]; exact hp) t2 p2 w v2).mono fun e w' ⟨N, he, _, _, hb⟩ => ?_
    exact ⟨_, .d (.tup [.int .u64 4294967295, .someIf]), he, hb, tup2 (.int _ _) (.someIf _ _), by simp only [parR, hp]⟩
  | _ =>
    refine (Tryd.strconv_ParseUint_10_at32_syntax_var (bA l) (by omega) (by rw [hli]; exact hp) t1 p1 w v1).mono fun e w' ⟨N, he, _, _, hb⟩ => ?_
    exact ⟨_, .d (.tup [.int .u64 0, .someIf]), he, hb, tup2 (.int _ _) (.someIf _ _), by simp only [parR, hp]⟩

def joinL (l : List (List UInt8)) : List UInt8 := Lib.join l [46]
end Go.Proofs.YtmciaonjkkelnaaDoor

/- FormatUint at base 10, walked in the kit's own way; after the shelf's FormatInt. -/
namespace Go.Proofs.YtmciaonjkkelnaaDoor
open Go.Am Go.RowKit Go.Sort
set_option linter.unusedSimpArgs false
set_option linter.unusedVariables false

set_option maxHeartbeats 1600000 in
set_option maxRecDepth 100000 in
theorem fmt_small (i : Nat) (hi : i < 100) (w : World) : Calls Tryd.prog 74 #[.int .u64 i, .int .i64 10] w fun e w' => e = .returned (.string ⟨(Lib.decDigits i).toArray⟩) ∧ w' = w := by
  have hi2 : (i : Int) < 100 := by omega
  go_enter Tryd.func74, Tryd.ntmps74
  go_wp2_with (go_at_call 89; refine (Tryd.internal_strconv_small i hi _).mono ?_; rintro e w' ⟨rfl, rfl⟩)
  go_ret
  exact ⟨rfl, rfl⟩

set_option maxHeartbeats 6400000 in
set_option maxRecDepth 100000 in
theorem fmt_big (u : Nat) (hu : 100 ≤ u) (hu64 : u < 18446744073709551616) (w : World) (htab : Lib.TabIs Tryd.prog w "internal/strconv.uint64pow10" .u64 Lib.pow10Tab) :
    Calls Tryd.prog 74 #[.int .u64 u, .int .i64 10] w fun e w' => e = .returned (.string ⟨(Lib.decDigits u).toArray⟩) ∧ ∃ k os, w' = grow (w.drewN k) os := by
  have hu1 : 1 ≤ u := by omega
  have hnd20 : Lib.nDigits u ≤ 20 := by have := Lib.numDigits_eq u hu1 hu64; split at this <;> omega
  have hal : Tryd.prog.arrayLen 130 = 24 := by simp [Program.arrayLen, Tryd.underlying130]
  have hsl1 : ∀ W, (Instr.sliceAt 130 (.pointer (some ⟨w.heap.size, 0, none⟩)) none (some (.int .i64 (Lib.nDigits u : Int))) none).run Tryd.prog W = .ok (.slice (some ⟨w.heap.size, 0, none⟩) (Lib.nDigits u) 24) W := fun W => by
    rw [run_sliceAt_array_h W 130 ⟨w.heap.size, 0, none⟩ (by simp [Program.arrayLen, Program.elem, Tryd.underlying130]) .i64 (Lib.nDigits u : Int) (by omega) (by rw [hal]; omega)]
    go_simp
  have hH0 : Holds (fun (b : UInt8) => Value.int .u8 (b.toNat : Int)) (w.alloc (.cells Lib.zeros24 130)) w.heap.size 0 (Array.replicate (Lib.nDigits u) 0) := fun j hj => by
    have hj' : j < Lib.nDigits u := by simpa using hj
    refine ⟨?_, World.frozen?_alloc_new _ _ _ _⟩
    rw [World.cell?_alloc_new, Lib.zeros24_at _ (by omega), getElem!_pos _ j hj]
    simp
  have hfmt := Tryd.internal_strconv_formatBase10 w.heap.size 0 24 u (Array.replicate (Lib.nDigits u) 0) (w.alloc (.cells Lib.zeros24 130)) hH0 (by rw [Array.size_replicate]; exact Lib.lt_pow_nDigits u) hu64 (by rw [Array.size_replicate]; omega)
  rw [Array.size_replicate] at hfmt
  have HH0 := Lib.hid hH0
  clear hH0 hal
  have hb3 : ¬ (u : Int) < 100 := by omega
  go_enter Tryd.func74, Tryd.ntmps74
  go_wp2_with (first
    | (go_at_call 90; refine (Tryd.internal_strconv_numDigits u hu1 hu64 _ (Lib.tabIs_alloc htab _)).mono ?_; rintro e w' ⟨rfl, rfl⟩))
  go_at_call 91
  refine hfmt.mono ?_
  rintro e w' ⟨rfl, k, v', dk, rfl, hF⟩
  have hcv : (convert 25 9 (.slice (some ⟨w.heap.size, 0, none⟩) (Lib.nDigits u) 24)).run Tryd.prog ((putRow (fun (b : UInt8) => Value.int .u8 (b.toNat : Int)) (w.alloc (.cells Lib.zeros24 130)) w.heap.size 0 dk).drewN k) = .ok (.string ⟨(Lib.decDigits u).toArray⟩) ((putRow (fun (b : UInt8) => Value.int .u8 (b.toNat : Int)) (w.alloc (.cells Lib.zeros24 130)) w.heap.size 0 dk).drewN k) := by
    have h := run_convert_bytes_back (P := Tryd.prog) ((putRow (fun (b : UInt8) => Value.int .u8 (b.toNat : Int)) (w.alloc (.cells Lib.zeros24 130)) w.heap.size 0 dk).drewN k) 25 9 5 ⟨w.heap.size, 0, none⟩ 24 (Lib.decDigits u) Tryd.underlying25 Tryd.underlying5 Tryd.underlying9 (fun j hj => by
      rw [Lib.row_is_numeral hF j hj, Lib.add_plain, World.cell?_drewN]
      exact cell?_putRow (fun (b : UInt8) => Value.int .u8 (b.toNat : Int)) _ w.heap.size 0 _ dk HH0.out (by rw [hF.size, Array.size_replicate]) j (by rw [hF.size]; rw [Lib.decDigits_length] at hj; exact hj))
    rw [Lib.decDigits_length] at h
    exact h
  go_wp2
  go_ret
  refine ⟨rfl, k, ?_⟩
  rw [alloc_eq_grow]
  obtain ⟨os', _, e⟩ := putRow_grow_new (fun (b : UInt8) => Value.int .u8 (b.toNat : Int)) w #[.cells Lib.zeros24 130] w.heap.size 0 dk (Nat.le_refl _)
  exact ⟨os', by rw [e]; rfl⟩
theorem isFormatUintI : IsFn Tryd.prog 74 Tryd.f74 := ⟨Tryd.func74, by decide, rfl⟩
theorem c_formatI (u : Nat) (hu : u < 18446744073709551616) : ACalls Tryd.prog envL 74 [.int .u64 u, .int .i64 10] (fun r => r = .d (sD (Lib.decDigits u))) := by
  refine ⟨⟨_, isFormatUintI⟩, fun w pr vs hok hs hr => ?_⟩
  obtain ⟨a, b, rfl, h1, h2⟩ := two_args hs hr
  cases h1; cases h2
  by_cases h : u < 100
  · refine (fmt_small u h w).mono fun e w' ⟨he, hw⟩ => ?_
    subst hw
    exact ⟨_, .d (sD (Lib.decDigits u)), he, Below.refl _ _, .str _, rfl⟩
  · have hok' : LaidOk w := hok
    refine (fmt_big u (by omega) hu w hok'.2.1).mono fun e w' ⟨he, k, os, hw⟩ => ?_
    subst hw
    exact ⟨_, .d (sD (Lib.decDigits u)), he, Lib.below_grow _ _ (Nat.le_refl _) _ _, .str _, rfl⟩
theorem isFormatUint : IsFn Tryd.prog 63 Tryd.f63 := ⟨Tryd.func63, by decide, rfl⟩
theorem c_format (u : Nat) (hu : u < 18446744073709551616) : ACalls Tryd.prog envL 63 [.int .u64 u, .int .i64 10] (fun r => r = .d (sD (Lib.decDigits u))) := by
  refine acalls_of ty_ok isFormatUint rfl rfl ?_
  repeat' (first | ((with_reducible show AWp _ _ _ _ _); (first | refine awp_seq ?_ | refine awp_block ?_ | refine awp_skip ?_ | refine awp_exit ?_ | refine awp_scope ?_ | refine awp_label ?_ | refine awp_run ty_ok rfl sd ?_ | refine awp_ret ⟨_, _, rfl, rfl, ?_⟩ | refine awp_ret ⟨_, rfl, ?_⟩ | ((refine awp_cond (ty := ty) rfl (fun hc => ?_) (fun hc => ?_)) <;> (try simp only [nms, reduceCtorEq] at hc) <;> (try (exfalso; omega))))) | ((with_reducible show AOps _ _ _ _ _ _); (first | refine aops_nil ?_ | refine aops_go ty_ok rfl rfl sd ?_ | refine aops_gate ty_ok rfl rfl rfl sd ?_ | refine aops_callE (ty := ty) rfl rfl rfl rfl rfl rfl rfl (c_formatI u hu) rfl ?_ | refine aops_litE ty_ok rfl rfl rfl rfl rfl rfl rfl rfl rfl rfl rfl rfl ?_ | refine aops_cutE ty_ok rfl rfl rfl rfl rfl rfl rfl rfl rfl sd rfl ?_ | ((fail_if_success (refine aops_known rfl ?_)); (refine aops_split ty_ok rfl rfl rfl rfl rfl rfl (fun hc => ⟨?_, ?_⟩) (fun hc => ⟨?_, ?_⟩)) <;> (try simp only [nms, reduceCtorEq] at hc) <;> (try (exfalso; omega)) <;> (try exact sd)))) | ((fail_if_success (with_reducible show AWp _ _ _ _ _)); (fail_if_success (with_reducible show AOps _ _ _ _ _ _)); (first | (show AWp _ _ _ _ _) | (show AOps _ _ _ _ _ _))))
  rfl
end Go.Proofs.YtmciaonjkkelnaaDoor

/- strings.Split at a dot, walked by the abstract machine. -/
namespace Go.Proofs.YtmciaonjkkelnaaDoor
open Go.Am
set_option linter.unusedSimpArgs false
set_option linter.unusedVariables false

theorem minI_le {a b : Int} (h : a ≤ b) : minI a b = a := by
  unfold minI
  split <;> omega
theorem strs_app (x y : List (List UInt8)) : strs (x ++ y) = strs x ++ strs y := by simp [strs]
theorem c_index_at (Γ : Env) (l : List UInt8) (m : Nat) (h : Lib.indexByte l 46 = m) : ACalls Tryd.prog Γ 82 [sD l, sD [46]] (fun r => r = .d (.int .i64 m)) := (c_index Γ l).mono fun r hr => by rw [hr, h]
theorem isGenSplit : IsFn Tryd.prog 71 Tryd.f71 := ⟨Tryd.func71, by decide, rfl⟩
set_option maxHeartbeats 1000000 in
theorem c_gensplit (Γ : Env) (l : List UInt8) (hl : l.length ≤ 1000000000) : ACalls Tryd.prog Γ 71 [sD l, sD [46], .int .i64 0, .int .i64 (-1)] (fun r => r = .own none 9 (strs (splitL l))) := by
  refine acalls_of ty_ok isGenSplit rfl rfl ?_
  have hlen := splitL_len l
  have hc2 := count_le l
  have hm : minI ((Lib.countByte l 46 : Int) + 1) (((bA l).size : Int) + 1) = (Lib.countByte l 46 : Int) + 1 := minI_le (by rw [bA_size]; omega)
  repeat' (first | ((with_reducible show AWp _ _ _ _ _); (first | refine awp_seq ?_ | refine awp_block ?_ | refine awp_skip ?_ | refine awp_exit ?_ | refine awp_scope ?_ | refine awp_label ?_ | refine awp_run ty_ok rfl sd ?_ | refine awp_ret ⟨_, _, rfl, rfl, ?_⟩ | refine awp_ret ⟨_, rfl, ?_⟩ | ((refine awp_cond (ty := ty) rfl (fun hc => ?_) (fun hc => ?_)) <;> (try simp only [nms, reduceCtorEq] at hc) <;> (try (exfalso; omega))))) | ((with_reducible show AOps _ _ _ _ _ _); (first | refine aops_nil ?_ | refine aops_go ty_ok rfl rfl sd ?_ | refine aops_gate ty_ok rfl rfl rfl sd ?_ | refine aops_callE (ty := ty) rfl rfl rfl rfl rfl rfl rfl (c_count _ l) rfl ?_ | refine aops_litE ty_ok rfl rfl rfl rfl rfl rfl rfl rfl rfl rfl rfl rfl ?_ | refine aops_cutE ty_ok rfl rfl rfl rfl rfl rfl rfl rfl rfl sd rfl ?_ | ((fail_if_success (refine aops_known rfl ?_)); (refine aops_split ty_ok rfl rfl rfl rfl rfl rfl (fun hc => ⟨?_, ?_⟩) (fun hc => ⟨?_, ?_⟩)) <;> (try simp only [nms, reduceCtorEq] at hc) <;> (try (exfalso; omega)) <;> (try exact sd)))) | ((fail_if_success (with_reducible show AWp _ _ _ _ _)); (fail_if_success (with_reducible show AOps _ _ _ _ _ _)); (first | (show AWp _ _ _ _ _) | (show AOps _ _ _ _ _ _))))
  · exact absurd (congrArg ByteArray.size hc) (by decide)
  · rw [hm]
    repeat' (first | ((with_reducible show AWp _ _ _ _ _); (first | refine awp_seq ?_ | refine awp_block ?_ | refine awp_skip ?_ | refine awp_exit ?_ | refine awp_scope ?_ | refine awp_label ?_ | refine awp_run ty_ok rfl sd ?_ | refine awp_ret ⟨_, _, rfl, rfl, ?_⟩ | refine awp_ret ⟨_, rfl, ?_⟩ | ((refine awp_cond (ty := ty) rfl (fun hc => ?_) (fun hc => ?_)) <;> (try simp only [nms, reduceCtorEq] at hc) <;> (try (exfalso; omega))))) | ((with_reducible show AOps _ _ _ _ _ _); (first | refine aops_nil ?_ | refine aops_go ty_ok rfl rfl sd ?_ | refine aops_gate ty_ok rfl rfl rfl sd ?_ | refine aops_callE (ty := ty) rfl rfl rfl rfl rfl rfl rfl (c_count _ l) rfl ?_ | refine aops_litE ty_ok rfl rfl rfl rfl rfl rfl rfl rfl rfl rfl rfl rfl ?_ | refine aops_cutE ty_ok rfl rfl rfl rfl rfl rfl rfl rfl rfl sd rfl ?_ | ((fail_if_success (refine aops_known rfl ?_)); (refine aops_split ty_ok rfl rfl rfl rfl rfl rfl (fun hc => ⟨?_, ?_⟩) (fun hc => ⟨?_, ?_⟩)) <;> (try simp only [nms, reduceCtorEq] at hc) <;> (try (exfalso; omega)) <;> (try exact sd)))) | ((fail_if_success (with_reducible show AWp _ _ _ _ _)); (fail_if_success (with_reducible show AOps _ _ _ _ _ _)); (first | (show AWp _ _ _ _ _) | (show AOps _ _ _ _ _ _))))
    obtain ⟨N, hN⟩ : ∃ N, N = Lib.countByte l 46 := ⟨_, rfl⟩
    rw [← hN] at hlen hc2
    refine awp_loopR (G := { p : Nat × List UInt8 // p.1 ≤ N ∧ splitL p.2 = (splitL l).drop p.1 ∧ p.2.length ≤ l.length }) (fun p => ⟨Tryd.f71.ntmps, [(0, .d (sD p.1.2)), (1, .d (sD [46])), (2, .d (.int .i64 0)), (3, .d (.int .i64 N)), (9, .ref 0), (10, .d (.int .i64 p.1.1))], [(0, .row none 9 (strs ((splitL l).take p.1.1 ++ List.replicate (N + 1 - p.1.1) [])))], 1⟩) (fun p => N - p.1.1) ⟨(0, l), Nat.zero_le _, rfl, Nat.le_refl _⟩ [(0, 0)]
      (SubR.mk' rfl rfl ⟨⟨_, rfl, rfl⟩, ⟨_, rfl, rfl⟩, ⟨_, rfl, rfl⟩, ⟨_, rfl, congrArg (fun z : Int => AV.d (Dat.int IntKind.i64 z)) (by rw [hN]; omega)⟩, ⟨_, rfl, rfl⟩, ⟨_, rfl, rfl⟩, trivial⟩ ⟨⟨_, _, rfl, rfl, congrArg (AO.row none 9) (by
        rw [← hN]
        simp only [strs, List.take_zero, List.nil_append, List.map_replicate]
        rfl)⟩, trivial⟩) ?_
    rintro ⟨⟨i, s⟩, hi, hsp, hsl⟩
    simp only at hi hsp hsl
    have hsc := splitL_len s
    rw [hsp, List.length_drop] at hsc
    rcases Nat.lt_or_ge i N with hiN | hiN
    · rcases index_spec s with ⟨_, h2, _⟩ | ⟨m, h1, h2, h3, h4⟩
      · omega
      have hidx := c_index_at (Γ.at 0) s m h1
      have hrl : (strs ((splitL l).take i ++ List.replicate (N + 1 - i) [])).length = N + 1 := by
        simp [strs]
        omega
      repeat' (first | ((with_reducible show AWp _ _ _ _ _); (first | refine awp_seq ?_ | refine awp_block ?_ | refine awp_skip ?_ | refine awp_exit ?_ | refine awp_scope ?_ | refine awp_label ?_ | refine awp_run ty_ok rfl sd ?_ | refine awp_ret ⟨_, _, rfl, rfl, ?_⟩ | refine awp_ret ⟨_, rfl, ?_⟩ | ((refine awp_cond (ty := ty) rfl (fun hc => ?_) (fun hc => ?_)) <;> (try simp only [nms, reduceCtorEq] at hc) <;> (try (exfalso; omega))))) | ((with_reducible show AOps _ _ _ _ _ _); (first | refine aops_nil ?_ | refine aops_go ty_ok rfl rfl sd ?_ | refine aops_gate ty_ok rfl rfl rfl sd ?_ | refine aops_callE (ty := ty) rfl rfl rfl rfl rfl rfl rfl (hidx) rfl ?_ | refine aops_litE ty_ok rfl rfl rfl rfl rfl rfl rfl rfl rfl rfl rfl rfl ?_ | refine aops_cutE ty_ok rfl rfl rfl rfl rfl rfl rfl rfl rfl sd rfl ?_ | ((fail_if_success (refine aops_known rfl ?_)); (refine aops_split ty_ok rfl rfl rfl rfl rfl rfl (fun hc => ⟨?_, ?_⟩) (fun hc => ⟨?_, ?_⟩)) <;> (try simp only [nms, reduceCtorEq] at hc) <;> (try (exfalso; omega)) <;> (try exact sd)))) | ((fail_if_success (with_reducible show AWp _ _ _ _ _)); (fail_if_success (with_reducible show AOps _ _ _ _ _ _)); (first | (show AWp _ _ _ _ _) | (show AOps _ _ _ _ _ _))))
      have hd1 := splitL_len (s.drop (m + 1))
      have hnext : splitL (s.drop (m + 1)) = (splitL l).drop (i + 1) := by
        rw [← List.drop_drop (l := splitL l), ← hsp, h4, List.drop_one, List.tail_cons]
      have hget : (splitL l)[i]'(by omega) = s.take m := by
        have : (splitL s)[0]? = (splitL l)[i]? := by rw [hsp, List.getElem?_drop, Nat.add_zero]
        rw [h4] at this
        simp at this
        rw [List.getElem?_eq_getElem (by omega)] at this
        exact (Option.some.inj this).symm
      refine ⟨⟨(i + 1, s.drop (m + 1)), by omega, hnext, by simp; omega⟩, [(0, 0)], SubR.mk' rfl rfl ⟨⟨_, rfl, congrArg AV.d ?_⟩, ⟨_, rfl, rfl⟩, ⟨_, rfl, rfl⟩, ⟨_, rfl, rfl⟩, ⟨_, rfl, rfl⟩, ⟨_, rfl, rfl⟩, trivial⟩ ⟨⟨_, _, rfl, rfl, congrArg (AO.row none 9) ?_⟩, trivial⟩, by simp only; omega⟩
      · show Dat.str ((bA s).extract ((m : Int) + ((bA [46]).size : Nat)).toNat (bA s).size) = sD (s.drop (m + 1))
        rw [bA_ext, bA_size, bA_size]
        have : ((m : Int) + (([46] : List UInt8).length : Nat)).toNat = m + 1 := by simp
        rw [this]
        simp [cutL, sD]
      · show (strs ((splitL l).take i ++ List.replicate (N + 1 - i) [])).set (i : Int).toNat (Dat.str ((bA s).extract 0 ((m : Int) + 0).toNat)) = strs ((splitL l).take (i + 1) ++ List.replicate (N + 1 - (i + 1)) [])
        have e1 : (i : Int).toNat = i := by omega
        have e2 : ((m : Int) + 0).toNat = m := by omega
        rw [bA_ext, e1, e2, List.take_succ_eq_append_getElem (by omega), hget, show N + 1 - i = (N + 1 - (i + 1)) + 1 by omega, List.replicate_succ]
        have hti : ((splitL l).take i).length = i := by simp; omega
        simp only [strs, List.map_append, List.map_cons, List.map_nil, List.append_assoc, List.cons_append, List.nil_append]
        rw [List.set_append_right _ _ (by simp; omega)]
        simp [hti, cutL, sD, show min i (splitL l).length = i by omega]
    · have hie : i = N := by omega
      subst hie
      have hrl : (strs ((splitL l).take i ++ List.replicate (i + 1 - i) [])).length = i + 1 := by
        simp [strs]
        omega
      dsimp only
      repeat' (first | ((with_reducible show AWp _ _ _ _ _); (first | refine awp_seq ?_ | refine awp_block ?_ | refine awp_skip ?_ | refine awp_exit ?_ | refine awp_scope ?_ | refine awp_label ?_ | refine awp_run ty_ok rfl sd ?_ | refine awp_ret ⟨_, _, rfl, rfl, ?_⟩ | refine awp_ret ⟨_, rfl, ?_⟩ | ((refine awp_cond (ty := ty) rfl (fun hc => ?_) (fun hc => ?_)) <;> (try simp only [nms, reduceCtorEq] at hc) <;> (try (exfalso; omega))))) | ((with_reducible show AOps _ _ _ _ _ _); (first | refine aops_nil ?_ | refine aops_go ty_ok rfl rfl sd ?_ | refine aops_gate ty_ok rfl rfl rfl sd ?_ | refine aops_callE (ty := ty) rfl rfl rfl rfl rfl rfl rfl (c_count _ l) rfl ?_ | refine aops_litE ty_ok rfl rfl rfl rfl rfl rfl rfl rfl rfl rfl rfl rfl ?_ | refine aops_cutE ty_ok rfl rfl rfl rfl rfl rfl rfl rfl rfl sd rfl ?_ | ((fail_if_success (refine aops_known rfl ?_)); (refine aops_split ty_ok rfl rfl rfl rfl rfl rfl (fun hc => ⟨?_, ?_⟩) (fun hc => ⟨?_, ?_⟩)) <;> (try simp only [nms, reduceCtorEq] at hc) <;> (try (exfalso; omega)) <;> (try exact sd)))) | ((fail_if_success (with_reducible show AWp _ _ _ _ _)); (fail_if_success (with_reducible show AOps _ _ _ _ _ _)); (first | (show AWp _ _ _ _ _) | (show AOps _ _ _ _ _ _))))
      have hrow : (strs ((splitL l).take i ++ List.replicate (i + 1 - i) [])).set (i : Int).toNat (sD s) = strs (splitL l) := by
        have e1 : (i : Int).toNat = i := by omega
        have hs1 : [s] = (splitL l).drop i := by
          have hc0 : Lib.countByte s 46 = 0 := by omega
          rcases index_spec s with ⟨_, _, h3⟩ | ⟨m, _, _, h3, _⟩
          · rw [← hsp, h3]
          · omega
        have hti : ((splitL l).take i).length = i := by simp; omega
        rw [e1, show i + 1 - i = 1 by omega]
        conv => rhs; rw [← List.take_append_drop i (splitL l), ← hs1]
        simp only [strs, List.map_append, List.map_cons, List.map_nil, List.replicate_one]
        rw [List.set_append_right _ _ (by simp; omega)]
        simp [show min i (splitL l).length = i by omega]
      rw [hrow]
      repeat' (first | ((with_reducible show AWp _ _ _ _ _); (first | refine awp_seq ?_ | refine awp_block ?_ | refine awp_skip ?_ | refine awp_exit ?_ | refine awp_scope ?_ | refine awp_label ?_ | refine awp_run ty_ok rfl sd ?_ | refine awp_ret ⟨_, _, rfl, rfl, ?_⟩ | refine awp_ret ⟨_, rfl, ?_⟩ | ((refine awp_cond (ty := ty) rfl (fun hc => ?_) (fun hc => ?_)) <;> (try simp only [nms, reduceCtorEq] at hc) <;> (try (exfalso; omega))))) | ((with_reducible show AOps _ _ _ _ _ _); (first | refine aops_nil ?_ | refine aops_go ty_ok rfl rfl sd ?_ | refine aops_gate ty_ok rfl rfl rfl sd ?_ | refine aops_callE (ty := ty) rfl rfl rfl rfl rfl rfl rfl (c_count _ l) rfl ?_ | refine aops_litE ty_ok rfl rfl rfl rfl rfl rfl rfl rfl rfl rfl rfl rfl ?_ | refine aops_cutE ty_ok rfl rfl rfl rfl rfl rfl rfl rfl rfl sd rfl ?_ | ((fail_if_success (refine aops_known rfl ?_)); (refine aops_split ty_ok rfl rfl rfl rfl rfl rfl (fun hc => ⟨?_, ?_⟩) (fun hc => ⟨?_, ?_⟩)) <;> (try simp only [nms, reduceCtorEq] at hc) <;> (try (exfalso; omega)) <;> (try exact sd)))) | ((fail_if_success (with_reducible show AWp _ _ _ _ _)); (fail_if_success (with_reducible show AOps _ _ _ _ _ _)); (first | (show AWp _ _ _ _ _) | (show AOps _ _ _ _ _ _))))
      have : ((i : Int) + 1).toNat = (strs (splitL l)).length := by simp [strs]; omega
      rw [this, List.take_length]
theorem isSplit : IsFn Tryd.prog 61 Tryd.f61 := ⟨Tryd.func61, by decide, rfl⟩
theorem c_split (Γ : Env) (l : List UInt8) (hl : l.length ≤ 1000000000) : ACalls Tryd.prog Γ 61 [sD l, sD [46]] (fun r => r = .own none 9 (strs (splitL l))) := by
  refine acalls_of ty_ok isSplit rfl rfl ?_
  repeat' (first | ((with_reducible show AWp _ _ _ _ _); (first | refine awp_seq ?_ | refine awp_block ?_ | refine awp_skip ?_ | refine awp_exit ?_ | refine awp_scope ?_ | refine awp_label ?_ | refine awp_run ty_ok rfl sd ?_ | refine awp_ret ⟨_, _, rfl, rfl, ?_⟩ | refine awp_ret ⟨_, rfl, ?_⟩ | ((refine awp_cond (ty := ty) rfl (fun hc => ?_) (fun hc => ?_)) <;> (try simp only [nms, reduceCtorEq] at hc) <;> (try (exfalso; omega))))) | ((with_reducible show AOps _ _ _ _ _ _); (first | refine aops_nil ?_ | refine aops_go ty_ok rfl rfl sd ?_ | refine aops_gate ty_ok rfl rfl rfl sd ?_ | refine aops_callE (ty := ty) rfl rfl rfl rfl rfl rfl rfl (c_gensplit _ l hl) rfl ?_ | refine aops_litE ty_ok rfl rfl rfl rfl rfl rfl rfl rfl rfl rfl rfl rfl ?_ | refine aops_cutE ty_ok rfl rfl rfl rfl rfl rfl rfl rfl rfl sd rfl ?_ | ((fail_if_success (refine aops_known rfl ?_)); (refine aops_split ty_ok rfl rfl rfl rfl rfl rfl (fun hc => ⟨?_, ?_⟩) (fun hc => ⟨?_, ?_⟩)) <;> (try simp only [nms, reduceCtorEq] at hc) <;> (try (exfalso; omega)) <;> (try exact sd)))) | ((fail_if_success (with_reducible show AWp _ _ _ _ _)); (fail_if_success (with_reducible show AOps _ _ _ _ _ _)); (first | (show AWp _ _ _ _ _) | (show AOps _ _ _ _ _ _))))
  all_goals rfl
end Go.Proofs.YtmciaonjkkelnaaDoor

/- Functions of package oid and of its reference: right, digits, number. Walked by the abstract machine. -/
namespace Go.Proofs.YtmciaonjkkelnaaDoor
open Go.Am
open Go.Lib (decDigits)
set_option linter.unusedSimpArgs false
set_option linter.unusedVariables false

theorem isRight : IsFn Tryd.prog 64 Tryd.f64 := ⟨Tryd.func64, by decide, rfl⟩
theorem c_right (Γ : Env) (a : List Nat) : ACalls Tryd.prog Γ 64 [.sl none (u32s a)] (fun r => r = .d (.bool (rightF a))) := by
  refine acalls_of ty_ok isRight rfl rfl ?_
  match a with
  | [] =>
    repeat' (first | ((with_reducible show AWp _ _ _ _ _); (first | refine awp_seq ?_ | refine awp_block ?_ | refine awp_skip ?_ | refine awp_exit ?_ | refine awp_scope ?_ | refine awp_label ?_ | refine awp_run ty_ok rfl sd ?_ | refine awp_ret ⟨_, _, rfl, rfl, ?_⟩ | refine awp_ret ⟨_, rfl, ?_⟩ | ((refine awp_cond (ty := ty) rfl (fun hc => ?_) (fun hc => ?_)) <;> (try simp only [nms, reduceCtorEq] at hc) <;> (try (exfalso; omega))))) | ((with_reducible show AOps _ _ _ _ _ _); (first | refine aops_nil ?_ | refine aops_go ty_ok rfl rfl sd ?_ | refine aops_gate ty_ok rfl rfl rfl sd ?_ | refine aops_litE ty_ok rfl rfl rfl rfl rfl rfl rfl rfl rfl rfl rfl rfl ?_ | refine aops_cutE ty_ok rfl rfl rfl rfl rfl rfl rfl rfl rfl sd rfl ?_ | ((fail_if_success (refine aops_known rfl ?_)); (refine aops_split ty_ok rfl rfl rfl rfl rfl rfl (fun hc => ⟨?_, ?_⟩) (fun hc => ⟨?_, ?_⟩)) <;> (try simp only [nms, reduceCtorEq] at hc) <;> (try (exfalso; omega)) <;> (try exact sd)))) | ((fail_if_success (with_reducible show AWp _ _ _ _ _)); (fail_if_success (with_reducible show AOps _ _ _ _ _ _)); (first | (show AWp _ _ _ _ _) | (show AOps _ _ _ _ _ _))))
    all_goals first | rfl | (simp_all [u32s, Dat.num, rightF]; done) | (simp_all [u32s, Dat.num, rightF]; omega)
  | [x] =>
    repeat' (first | ((with_reducible show AWp _ _ _ _ _); (first | refine awp_seq ?_ | refine awp_block ?_ | refine awp_skip ?_ | refine awp_exit ?_ | refine awp_scope ?_ | refine awp_label ?_ | refine awp_run ty_ok rfl sd ?_ | refine awp_ret ⟨_, _, rfl, rfl, ?_⟩ | refine awp_ret ⟨_, rfl, ?_⟩ | ((refine awp_cond (ty := ty) rfl (fun hc => ?_) (fun hc => ?_)) <;> (try simp only [nms, reduceCtorEq] at hc) <;> (try (exfalso; omega))))) | ((with_reducible show AOps _ _ _ _ _ _); (first | refine aops_nil ?_ | refine aops_go ty_ok rfl rfl sd ?_ | refine aops_gate ty_ok rfl rfl rfl sd ?_ | refine aops_litE ty_ok rfl rfl rfl rfl rfl rfl rfl rfl rfl rfl rfl rfl ?_ | refine aops_cutE ty_ok rfl rfl rfl rfl rfl rfl rfl rfl rfl sd rfl ?_ | ((fail_if_success (refine aops_known rfl ?_)); (refine aops_split ty_ok rfl rfl rfl rfl rfl rfl (fun hc => ⟨?_, ?_⟩) (fun hc => ⟨?_, ?_⟩)) <;> (try simp only [nms, reduceCtorEq] at hc) <;> (try (exfalso; omega)) <;> (try exact sd)))) | ((fail_if_success (with_reducible show AWp _ _ _ _ _)); (fail_if_success (with_reducible show AOps _ _ _ _ _ _)); (first | (show AWp _ _ _ _ _) | (show AOps _ _ _ _ _ _))))
    all_goals first | rfl | (simp_all [u32s, Dat.num, rightF]; done) | (simp_all [u32s, Dat.num, rightF]; omega)
  | x :: y :: t =>
    have hl : (u32s (x :: y :: t)).length = t.length + 2 := by simp [u32s]
    have hx : ((u32s (x :: y :: t)).getD (Int.toNat 0) default).num = x := rfl
    have hy : ((u32s (x :: y :: t)).getD (Int.toNat 1) default).num = y := rfl
    repeat' (first | ((with_reducible show AWp _ _ _ _ _); (first | refine awp_seq ?_ | refine awp_block ?_ | refine awp_skip ?_ | refine awp_exit ?_ | refine awp_scope ?_ | refine awp_label ?_ | refine awp_run ty_ok rfl sd ?_ | refine awp_ret ⟨_, _, rfl, rfl, ?_⟩ | refine awp_ret ⟨_, rfl, ?_⟩ | ((refine awp_cond (ty := ty) rfl (fun hc => ?_) (fun hc => ?_)) <;> (try simp only [nms, reduceCtorEq] at hc) <;> (try (exfalso; omega))))) | ((with_reducible show AOps _ _ _ _ _ _); (first | refine aops_nil ?_ | refine aops_go ty_ok rfl rfl sd ?_ | refine aops_gate ty_ok rfl rfl rfl sd ?_ | refine aops_litE ty_ok rfl rfl rfl rfl rfl rfl rfl rfl rfl rfl rfl rfl ?_ | refine aops_cutE ty_ok rfl rfl rfl rfl rfl rfl rfl rfl rfl sd rfl ?_ | ((fail_if_success (refine aops_known rfl ?_)); (refine aops_split ty_ok rfl rfl rfl rfl rfl rfl (fun hc => ⟨?_, ?_⟩) (fun hc => ⟨?_, ?_⟩)) <;> (try simp only [nms, reduceCtorEq] at hc) <;> (try (exfalso; omega)) <;> (try exact sd)))) | ((fail_if_success (with_reducible show AWp _ _ _ _ _)); (fail_if_success (with_reducible show AOps _ _ _ _ _ _)); (first | (show AWp _ _ _ _ _) | (show AOps _ _ _ _ _ _))))
    all_goals simp only [hx, hy, Int.not_lt, Int.not_le] at *
    all_goals first | (exfalso; omega) | skip
    all_goals simp only [Res.d.injEq, Dat.bool.injEq, rightF]
    all_goals first | (simp; omega) | (rw [Bool.eq_iff_iff]; simp; omega)

theorem isRRight : IsFn Tryd.prog 59 Tryd.f59 := ⟨Tryd.func59, by decide, rfl⟩
theorem c_rright (Γ : Env) (a : List Nat) : ACalls Tryd.prog Γ 59 [.sl none (u32s a)] (fun r => r = .d (.bool (rightF a))) := by
  refine acalls_of ty_ok isRRight rfl rfl ?_
  match a with
  | [] =>
    repeat' (first | ((with_reducible show AWp _ _ _ _ _); (first | refine awp_seq ?_ | refine awp_block ?_ | refine awp_skip ?_ | refine awp_exit ?_ | refine awp_scope ?_ | refine awp_label ?_ | refine awp_run ty_ok rfl sd ?_ | refine awp_ret ⟨_, _, rfl, rfl, ?_⟩ | refine awp_ret ⟨_, rfl, ?_⟩ | ((refine awp_cond (ty := ty) rfl (fun hc => ?_) (fun hc => ?_)) <;> (try simp only [nms, reduceCtorEq] at hc) <;> (try (exfalso; omega))))) | ((with_reducible show AOps _ _ _ _ _ _); (first | refine aops_nil ?_ | refine aops_go ty_ok rfl rfl sd ?_ | refine aops_gate ty_ok rfl rfl rfl sd ?_ | refine aops_litE ty_ok rfl rfl rfl rfl rfl rfl rfl rfl rfl rfl rfl rfl ?_ | refine aops_cutE ty_ok rfl rfl rfl rfl rfl rfl rfl rfl rfl sd rfl ?_ | ((fail_if_success (refine aops_known rfl ?_)); (refine aops_split ty_ok rfl rfl rfl rfl rfl rfl (fun hc => ⟨?_, ?_⟩) (fun hc => ⟨?_, ?_⟩)) <;> (try simp only [nms, reduceCtorEq] at hc) <;> (try (exfalso; omega)) <;> (try exact sd)))) | ((fail_if_success (with_reducible show AWp _ _ _ _ _)); (fail_if_success (with_reducible show AOps _ _ _ _ _ _)); (first | (show AWp _ _ _ _ _) | (show AOps _ _ _ _ _ _))))
    all_goals first | rfl | (simp_all [u32s, Dat.num, rightF]; done) | (simp_all [u32s, Dat.num, rightF]; omega)
  | [x] =>
    repeat' (first | ((with_reducible show AWp _ _ _ _ _); (first | refine awp_seq ?_ | refine awp_block ?_ | refine awp_skip ?_ | refine awp_exit ?_ | refine awp_scope ?_ | refine awp_label ?_ | refine awp_run ty_ok rfl sd ?_ | refine awp_ret ⟨_, _, rfl, rfl, ?_⟩ | refine awp_ret ⟨_, rfl, ?_⟩ | ((refine awp_cond (ty := ty) rfl (fun hc => ?_) (fun hc => ?_)) <;> (try simp only [nms, reduceCtorEq] at hc) <;> (try (exfalso; omega))))) | ((with_reducible show AOps _ _ _ _ _ _); (first | refine aops_nil ?_ | refine aops_go ty_ok rfl rfl sd ?_ | refine aops_gate ty_ok rfl rfl rfl sd ?_ | refine aops_litE ty_ok rfl rfl rfl rfl rfl rfl rfl rfl rfl rfl rfl rfl ?_ | refine aops_cutE ty_ok rfl rfl rfl rfl rfl rfl rfl rfl rfl sd rfl ?_ | ((fail_if_success (refine aops_known rfl ?_)); (refine aops_split ty_ok rfl rfl rfl rfl rfl rfl (fun hc => ⟨?_, ?_⟩) (fun hc => ⟨?_, ?_⟩)) <;> (try simp only [nms, reduceCtorEq] at hc) <;> (try (exfalso; omega)) <;> (try exact sd)))) | ((fail_if_success (with_reducible show AWp _ _ _ _ _)); (fail_if_success (with_reducible show AOps _ _ _ _ _ _)); (first | (show AWp _ _ _ _ _) | (show AOps _ _ _ _ _ _))))
    all_goals first | rfl | (simp_all [u32s, Dat.num, rightF]; done) | (simp_all [u32s, Dat.num, rightF]; omega)
  | x :: y :: t =>
    have hl : (u32s (x :: y :: t)).length = t.length + 2 := by simp [u32s]
    have hx : ((u32s (x :: y :: t)).getD (Int.toNat 0) default).num = x := rfl
    have hy : ((u32s (x :: y :: t)).getD (Int.toNat 1) default).num = y := rfl
    repeat' (first | ((with_reducible show AWp _ _ _ _ _); (first | refine awp_seq ?_ | refine awp_block ?_ | refine awp_skip ?_ | refine awp_exit ?_ | refine awp_scope ?_ | refine awp_label ?_ | refine awp_run ty_ok rfl sd ?_ | refine awp_ret ⟨_, _, rfl, rfl, ?_⟩ | refine awp_ret ⟨_, rfl, ?_⟩ | ((refine awp_cond (ty := ty) rfl (fun hc => ?_) (fun hc => ?_)) <;> (try simp only [nms, reduceCtorEq] at hc) <;> (try (exfalso; omega))))) | ((with_reducible show AOps _ _ _ _ _ _); (first | refine aops_nil ?_ | refine aops_go ty_ok rfl rfl sd ?_ | refine aops_gate ty_ok rfl rfl rfl sd ?_ | refine aops_litE ty_ok rfl rfl rfl rfl rfl rfl rfl rfl rfl rfl rfl rfl ?_ | refine aops_cutE ty_ok rfl rfl rfl rfl rfl rfl rfl rfl rfl sd rfl ?_ | ((fail_if_success (refine aops_known rfl ?_)); (refine aops_split ty_ok rfl rfl rfl rfl rfl rfl (fun hc => ⟨?_, ?_⟩) (fun hc => ⟨?_, ?_⟩)) <;> (try simp only [nms, reduceCtorEq] at hc) <;> (try (exfalso; omega)) <;> (try exact sd)))) | ((fail_if_success (with_reducible show AWp _ _ _ _ _)); (fail_if_success (with_reducible show AOps _ _ _ _ _ _)); (first | (show AWp _ _ _ _ _) | (show AOps _ _ _ _ _ _))))
    all_goals simp only [hx, hy, Int.not_lt, Int.not_le] at *
    all_goals first | (exfalso; omega) | skip
    all_goals simp only [Res.d.injEq, Dat.bool.injEq, rightF]
    all_goals first | (simp; omega) | (rw [Bool.eq_iff_iff]; simp; omega)
end Go.Proofs.YtmciaonjkkelnaaDoor

/- digits and number of the reference, walked by the abstract machine. -/
namespace Go.Proofs.YtmciaonjkkelnaaDoor
open Go.Am
open Go.Lib (decDigits)
set_option linter.unusedSimpArgs false
set_option linter.unusedVariables false

theorem wrap_u64 (n : Nat) (h : n < 18446744073709551616) : IntKind.u64.wrap (n : Int) = n := by rw [IntKind.wrap_u64]; omega
theorem dig_cut (d : Nat) (h : d < 10) : ByteArray.extract ⟨#[48, 49, 50, 51, 52, 53, 54, 55, 56, 57]⟩ d (d + 1) = bA [UInt8.ofNat (48 + d)] := by
  have : ∀ d : Fin 10, ByteArray.extract ⟨#[48, 49, 50, 51, 52, 53, 54, 55, 56, 57]⟩ d.1 (d.1 + 1) = bA [UInt8.ofNat (48 + d.1)] := by decide
  exact this ⟨d, h⟩
theorem isDigits : IsFn Tryd.prog 70 Tryd.f70 := ⟨Tryd.func70, by decide, rfl⟩
theorem c_digits (Γ : Env) (n : Nat) (hn : n < 18446744073709551616) : ACalls Tryd.prog Γ 70 [.int .u64 n] (fun r => r = .d (sD (decDigits n))) := by
  induction n using Nat.strongRecOn with
  | _ n ih =>
    have htm : (n : Int).tmod 10 = ((n % 10 : Nat) : Int) := by rw [Int.tmod_eq_emod_of_nonneg (by omega)]; omega
    have hw1 : IntKind.u64.wrap (((n % 10 : Nat) : Int) + 1) = ((n % 10 + 1 : Nat) : Int) := by rw [IntKind.wrap_u64]; omega
    have hq : IntKind.u64.wrap ((n : Int).tdiv 10) = ((n / 10 : Nat) : Int) := by rw [Int.tdiv_eq_ediv_of_nonneg (by omega), IntKind.wrap_u64]; omega
    have hcut := dig_cut (n % 10) (by omega)
    refine acalls_of ty_ok isDigits rfl rfl ?_
    repeat' (first | ((with_reducible show AWp _ _ _ _ _); (first | refine awp_seq ?_ | refine awp_block ?_ | refine awp_skip ?_ | refine awp_exit ?_ | refine awp_scope ?_ | refine awp_label ?_ | refine awp_run ty_ok rfl sd ?_ | refine awp_ret ⟨_, _, rfl, rfl, ?_⟩ | refine awp_ret ⟨_, rfl, ?_⟩ | ((refine awp_cond (ty := ty) rfl (fun hc => ?_) (fun hc => ?_)) <;> (try simp only [nms, reduceCtorEq] at hc) <;> (try (exfalso; omega))))) | ((with_reducible show AOps _ _ _ _ _ _); (first | refine aops_nil ?_ | refine aops_go ty_ok rfl rfl sd ?_ | refine aops_gate ty_ok rfl rfl rfl sd ?_ | refine aops_litE ty_ok rfl rfl rfl rfl rfl rfl rfl rfl rfl rfl rfl rfl ?_ | refine aops_cutE ty_ok rfl rfl rfl rfl rfl rfl rfl rfl rfl sd rfl ?_ | ((fail_if_success (refine aops_known rfl ?_)); (refine aops_split ty_ok rfl rfl rfl rfl rfl rfl (fun hc => ⟨?_, ?_⟩) (fun hc => ⟨?_, ?_⟩)) <;> (try simp only [nms, reduceCtorEq] at hc) <;> (try (exfalso; omega)) <;> (try exact sd)))) | ((fail_if_success (with_reducible show AWp _ _ _ _ _)); (fail_if_success (with_reducible show AOps _ _ _ _ _ _)); (first | (show AWp _ _ _ _ _) | (show AOps _ _ _ _ _ _))))
    refine awp_run ty_ok rfl ?_ ?_
    · simp only [and_true, true_and, htm, hw1]
      have : ByteArray.size ⟨#[48, 49, 50, 51, 52, 53, 54, 55, 56, 57]⟩ = 10 := rfl
      rw [this]
      omega
    simp only [htm, hw1, Int.toNat_natCast, hcut]
    by_cases h : n < 10
    · repeat' (first | ((with_reducible show AWp _ _ _ _ _); (first | refine awp_seq ?_ | refine awp_block ?_ | refine awp_skip ?_ | refine awp_exit ?_ | refine awp_scope ?_ | refine awp_label ?_ | refine awp_run ty_ok rfl sd ?_ | refine awp_ret ⟨_, _, rfl, rfl, ?_⟩ | refine awp_ret ⟨_, rfl, ?_⟩ | ((refine awp_cond (ty := ty) rfl (fun hc => ?_) (fun hc => ?_)) <;> (try simp only [nms, reduceCtorEq] at hc) <;> (try (exfalso; omega))))) | ((with_reducible show AOps _ _ _ _ _ _); (first | refine aops_nil ?_ | refine aops_go ty_ok rfl rfl sd ?_ | refine aops_gate ty_ok rfl rfl rfl sd ?_ | refine aops_litE ty_ok rfl rfl rfl rfl rfl rfl rfl rfl rfl rfl rfl rfl ?_ | refine aops_cutE ty_ok rfl rfl rfl rfl rfl rfl rfl rfl rfl sd rfl ?_ | ((fail_if_success (refine aops_known rfl ?_)); (refine aops_split ty_ok rfl rfl rfl rfl rfl rfl (fun hc => ⟨?_, ?_⟩) (fun hc => ⟨?_, ?_⟩)) <;> (try simp only [nms, reduceCtorEq] at hc) <;> (try (exfalso; omega)) <;> (try exact sd)))) | ((fail_if_success (with_reducible show AWp _ _ _ _ _)); (fail_if_success (with_reducible show AOps _ _ _ _ _ _)); (first | (show AWp _ _ _ _ _) | (show AOps _ _ _ _ _ _))))
      rw [dec_small h, show n % 10 = n by omega]
      rfl
    · have hih := ih (n / 10) (by omega) (by omega)
      rw [← hq] at hih
      have hl := dec_len64 (n / 10) (by omega)
      repeat' (first | ((with_reducible show AWp _ _ _ _ _); (first | refine awp_seq ?_ | refine awp_block ?_ | refine awp_skip ?_ | refine awp_exit ?_ | refine awp_scope ?_ | refine awp_label ?_ | refine awp_run ty_ok rfl sd ?_ | refine awp_ret ⟨_, _, rfl, rfl, ?_⟩ | refine awp_ret ⟨_, rfl, ?_⟩ | ((refine awp_cond (ty := ty) rfl (fun hc => ?_) (fun hc => ?_)) <;> (try simp only [nms, reduceCtorEq] at hc) <;> (try (exfalso; omega))))) | ((with_reducible show AOps _ _ _ _ _ _); (first | refine aops_nil ?_ | refine aops_go ty_ok rfl rfl sd ?_ | refine aops_gate ty_ok rfl rfl rfl sd ?_ | refine aops_callE (ty := ty) rfl rfl rfl rfl rfl rfl rfl (hih) rfl ?_ | refine aops_litE ty_ok rfl rfl rfl rfl rfl rfl rfl rfl rfl rfl rfl rfl ?_ | refine aops_cutE ty_ok rfl rfl rfl rfl rfl rfl rfl rfl rfl sd rfl ?_ | ((fail_if_success (refine aops_known rfl ?_)); (refine aops_split ty_ok rfl rfl rfl rfl rfl rfl (fun hc => ⟨?_, ?_⟩) (fun hc => ⟨?_, ?_⟩)) <;> (try simp only [nms, reduceCtorEq] at hc) <;> (try (exfalso; omega)) <;> (try exact sd)))) | ((fail_if_success (with_reducible show AWp _ _ _ _ _)); (fail_if_success (with_reducible show AOps _ _ _ _ _ _)); (first | (show AWp _ _ _ _ _) | (show AOps _ _ _ _ _ _))))
      rw [dec_big h]
      simp only [sD, ← bA_app]

def numV (p : List UInt8) : Int := match valD 0 p with
  | some n => n
  | none => 0
theorem valD_le : ∀ (l : List UInt8) (acc : Nat), acc ≤ 42949672959 → ∀ n, valD acc l = some n → n ≤ 42949672959
  | [], acc, h, n, hn => by cases hn; exact h
  | c :: r, acc, h, n, hn => by
    unfold valD at hn
    split at hn
    · rename_i hb
      simp only [digB, Bool.and_eq_true, decide_eq_true_eq] at hb
      exact valD_le r _ (by omega) n hn
    · cases hn
theorem isNumber : IsFn Tryd.prog 58 Tryd.f58 := ⟨Tryd.func58, by decide, rfl⟩
set_option maxHeartbeats 1000000 in
theorem c_number (Γ : Env) (l : List UInt8) (hl : l.length ≤ 1000000000) : ACalls Tryd.prog Γ 58 [sD l] (fun r => r = .d (.tup [.int .u64 (numV l), .bool (arcF l).isSome])) := by
  refine acalls_of ty_ok isNumber rfl rfl ?_
  repeat' (first | ((with_reducible show AWp _ _ _ _ _); (first | refine awp_seq ?_ | refine awp_block ?_ | refine awp_skip ?_ | refine awp_exit ?_ | refine awp_scope ?_ | refine awp_label ?_ | refine awp_run ty_ok rfl sd ?_ | refine awp_ret ⟨_, _, rfl, rfl, ?_⟩ | refine awp_ret ⟨_, rfl, ?_⟩ | ((refine awp_cond (ty := ty) rfl (fun hc => ?_) (fun hc => ?_)) <;> (try simp only [nms, reduceCtorEq] at hc) <;> (try (exfalso; omega))))) | ((with_reducible show AOps _ _ _ _ _ _); (first | refine aops_nil ?_ | refine aops_go ty_ok rfl rfl sd ?_ | refine aops_gate ty_ok rfl rfl rfl sd ?_ | refine aops_litE ty_ok rfl rfl rfl rfl rfl rfl rfl rfl rfl rfl rfl rfl ?_ | refine aops_cutE ty_ok rfl rfl rfl rfl rfl rfl rfl rfl rfl sd rfl ?_ | ((fail_if_success (refine aops_known rfl ?_)); (refine aops_split ty_ok rfl rfl rfl rfl rfl rfl (fun hc => ⟨?_, ?_⟩) (fun hc => ⟨?_, ?_⟩)) <;> (try simp only [nms, reduceCtorEq] at hc) <;> (try (exfalso; omega)) <;> (try exact sd)))) | ((fail_if_success (with_reducible show AWp _ _ _ _ _)); (fail_if_success (with_reducible show AOps _ _ _ _ _ _)); (first | (show AWp _ _ _ _ _) | (show AOps _ _ _ _ _ _))))
  refine awp_loopR (G := { p : Nat × Nat // p.1 ≤ l.length ∧ valD 0 l = valD p.2 (l.drop p.1) ∧ p.2 ≤ 42949672959 }) (fun p => ⟨Tryd.f58.ntmps, [(0, .d (sD l)), (4, .d (.int .u64 p.1.2)), (5, .d (.int .i64 p.1.1))], [], 0⟩) (fun p => l.length - p.1.1) ⟨(0, 0), Nat.zero_le _, rfl, by decide⟩ []
    (SubR.mk' rfl rfl ⟨⟨_, rfl, rfl⟩, ⟨_, rfl, rfl⟩, ⟨_, rfl, rfl⟩, trivial⟩ trivial) ?_
  rintro ⟨⟨i, acc⟩, hi, hv, hacc⟩
  simp only at hi hv hacc
  dsimp only
  rcases Nat.lt_or_ge i l.length with hil | hil
  · have hci : ((bA l).data.toList.getD (i : Int).toNat 0) = l[i] := by
      rw [bA_list, Int.toNat_natCast, List.getD_eq_getElem?_getD, List.getElem?_eq_getElem hil]
      rfl
    rw [List.drop_eq_getElem_cons hil] at hv
    generalize hcc : l[i] = c at hci hv
    have hc256 : c.toNat < 256 := c.toNat_lt
    have none_of : ¬ (48 ≤ c.toNat ∧ c.toNat ≤ 57 ∧ acc ≤ 4294967295) → numV l = 0 ∧ arcF l = none := by
      intro h
      have : valD 0 l = none := by
        rw [hv, valD]
        have : (digB c && decide (acc ≤ 4294967295)) = false := by
          rw [Bool.eq_false_iff]
          intro hb
          simp only [digB, Bool.and_eq_true, decide_eq_true_eq] at hb
          omega
        rw [this]
      simp only [numV, arcF, this, and_self]
    repeat' (first | ((with_reducible show AWp _ _ _ _ _); (first | refine awp_seq ?_ | refine awp_block ?_ | refine awp_skip ?_ | refine awp_exit ?_ | refine awp_scope ?_ | refine awp_label ?_ | refine awp_run ty_ok rfl sd ?_ | refine awp_ret ⟨_, _, rfl, rfl, ?_⟩ | refine awp_ret ⟨_, rfl, ?_⟩ | ((refine awp_cond (ty := ty) rfl (fun hc => ?_) (fun hc => ?_)) <;> (try simp only [nms, reduceCtorEq] at hc) <;> (try (exfalso; omega))))) | ((with_reducible show AOps _ _ _ _ _ _); (first | refine aops_nil ?_ | refine aops_go ty_ok rfl rfl sd ?_ | refine aops_gate ty_ok rfl rfl rfl sd ?_ | refine aops_litE ty_ok rfl rfl rfl rfl rfl rfl rfl rfl rfl rfl rfl rfl ?_ | refine aops_cutE ty_ok rfl rfl rfl rfl rfl rfl rfl rfl rfl sd rfl ?_ | ((fail_if_success (refine aops_known rfl ?_)); (refine aops_split ty_ok rfl rfl rfl rfl rfl rfl (fun hc => ⟨?_, ?_⟩) (fun hc => ⟨?_, ?_⟩)) <;> (try simp only [nms, reduceCtorEq] at hc) <;> (try (exfalso; omega)) <;> (try exact sd)))) | ((fail_if_success (with_reducible show AWp _ _ _ _ _)); (fail_if_success (with_reducible show AOps _ _ _ _ _ _)); (first | (show AWp _ _ _ _ _) | (show AOps _ _ _ _ _ _))))
    all_goals simp only [hci] at *
    · obtain ⟨e1, e2⟩ := none_of (by omega)
      rw [e1, e2]
      rfl
    · obtain ⟨e1, e2⟩ := none_of (by omega)
      rw [e1, e2]
      rfl
    · obtain ⟨e1, e2⟩ := none_of (by omega)
      rw [e1, e2]
      rfl
    · have hd : (digB c && decide (acc ≤ 4294967295)) = true := by
        simp only [digB, Bool.and_eq_true, decide_eq_true_eq]
        omega
      rw [valD, hd] at hv
      refine ⟨⟨(i + 1, acc * 10 + (c.toNat - 48)), by omega, hv, by omega⟩, [], SubR.mk' rfl rfl ⟨⟨_, rfl, rfl⟩, ⟨_, rfl, congrArg (fun z : Int => AV.d (Dat.int IntKind.u64 z)) ?_⟩, ⟨_, rfl, rfl⟩, trivial⟩ trivial, by simp only; omega⟩
      simp only [hci]
      rw [IntKind.wrap_u64, IntKind.wrap_u64, IntKind.wrap_u64, IntKind.wrap_u8]
      omega
  · have hie : i = l.length := by omega
    subst hie
    rw [List.drop_length, valD] at hv
    have hn : numV l = acc := by simp only [numV, hv]
    have ha : arcF l = match decide (l ≠ []) && decide (acc ≤ 4294967295) && decide (decDigits acc = l) with
      | true => some acc
      | false => none := by
      unfold arcF
      rw [hv]
      try rfl
    repeat' (first | ((with_reducible show AWp _ _ _ _ _); (first | refine awp_seq ?_ | refine awp_block ?_ | refine awp_skip ?_ | refine awp_exit ?_ | refine awp_scope ?_ | refine awp_label ?_ | refine awp_run ty_ok rfl sd ?_ | refine awp_ret ⟨_, _, rfl, rfl, ?_⟩ | refine awp_ret ⟨_, rfl, ?_⟩ | ((refine awp_cond (ty := ty) rfl (fun hc => ?_) (fun hc => ?_)) <;> (try simp only [nms, reduceCtorEq] at hc) <;> (try (exfalso; omega))))) | ((with_reducible show AOps _ _ _ _ _ _); (first | refine aops_nil ?_ | refine aops_go ty_ok rfl rfl sd ?_ | refine aops_gate ty_ok rfl rfl rfl sd ?_ | refine aops_callE (ty := ty) rfl rfl rfl rfl rfl rfl rfl (c_digits _ acc (by omega)) rfl ?_ | refine aops_litE ty_ok rfl rfl rfl rfl rfl rfl rfl rfl rfl rfl rfl rfl ?_ | refine aops_cutE ty_ok rfl rfl rfl rfl rfl rfl rfl rfl rfl sd rfl ?_ | ((fail_if_success (refine aops_known rfl ?_)); (refine aops_split ty_ok rfl rfl rfl rfl rfl rfl (fun hc => ⟨?_, ?_⟩) (fun hc => ⟨?_, ?_⟩)) <;> (try simp only [nms, reduceCtorEq] at hc) <;> (try (exfalso; omega)) <;> (try exact sd)))) | ((fail_if_success (with_reducible show AWp _ _ _ _ _)); (fail_if_success (with_reducible show AOps _ _ _ _ _ _)); (first | (show AWp _ _ _ _ _) | (show AOps _ _ _ _ _ _))))
    · rename_i h1
      have hl0 : l ≠ [] := by
        intro h
        subst h
        simp [bA] at *
      rw [hn, ha]
      have e1 : decide (l ≠ []) = true := decide_eq_true hl0
      have e2 : decide (acc ≤ 4294967295) = true := decide_eq_true (by omega)
      simp only [e1, e2, Bool.true_and, bA_inj]
      by_cases h : decDigits acc = l <;> simp [h]
    · rw [hn, ha]
      have e2 : decide (acc ≤ 4294967295) = false := decide_eq_false (by omega)
      simp only [e2, Bool.and_false, Bool.false_and]
      rfl
    · have hl0 : l = [] := by
        have := congrArg ByteArray.size hc
        rw [bA_size] at this
        exact List.length_eq_zero_iff.1 this
      rw [hn, ha]
      have e1 : decide (l ≠ []) = false := by simp [hl0]
      simp only [e1, Bool.false_and]
      rfl
end Go.Proofs.YtmciaonjkkelnaaDoor

/- Arcs, Valid of package oid and of its reference, walked by the abstract machine. -/
namespace Go.Proofs.YtmciaonjkkelnaaDoor
open Go.Am
open Go.Lib (decDigits)
set_option linter.unusedSimpArgs false
set_option linter.unusedVariables false

theorem c_parse_ok (l : List UInt8) (hl : l.length ≤ 1000000000) (u : Nat) (h : Lib.parseUintB 32 l = .ok u) : ACalls Tryd.prog envL 62 [sD l, .int .i64 10, .int .i64 32] (fun r => r = .d (.tup [.int .u64 u, .nilIf])) := (c_parse l (by omega)).mono fun r hr => by
  simpa only [parR, h] using hr
theorem c_parse_syn (l : List UInt8) (hl : l.length ≤ 1000000000) (h : Lib.parseUintB 32 l = Lib.parseUintB 32 []) : ACalls Tryd.prog envL 62 [sD l, .int .i64 10, .int .i64 32] (fun r => r = .d (.tup [.int .u64 0, .someIf])) := (c_parse l (by omega)).mono fun r hr => by
  unfold parR at hr
  rw [h] at hr
  exact hr
theorem c_parse_rng (l : List UInt8) (hl : l.length ≤ 1000000000) (h : Lib.parseUintB 32 l = .range) : ACalls Tryd.prog envL 62 [sD l, .int .i64 10, .int .i64 32] (fun r => r = .d (.tup [.int .u64 4294967295, .someIf])) := (c_parse l (by omega)).mono fun r hr => by
  simpa only [parR, h] using hr
def arcsD (l : List UInt8) : Dat := match okF l with
  | some a => .tup [.sl none (u32s a), .int .i64 0]
  | none => .tup [.sl none [], .int .i64 11]
theorem u32s_app (x y : List Nat) : u32s (x ++ y) = u32s x ++ u32s y := by simp [u32s]
theorem wrap_u32 (n : Nat) (h : n ≤ 4294967295) : IntKind.u32.wrap (n : Int) = n := by rw [IntKind.wrap_u32]; omega
theorem okF_none_of {l p : List UInt8} (hm : p ∈ splitL l) (h : arcF p = none) : okF l = none := by
  unfold okF
  rw [mapM_none_of hm h]
theorem isArcs : IsFn Tryd.prog 50 Tryd.f50 := ⟨Tryd.func50, by decide, rfl⟩
set_option maxHeartbeats 1000000 in
theorem c_arcs (l : List UInt8) (hl : l.length ≤ 100000000) : ACalls Tryd.prog envL 50 [sD l] (fun r => r = .d (arcsD l)) := by
  refine acalls_of ty_ok isArcs rfl rfl ?_
  have hlen := splitL_len l
  have hcl := count_le l
  have hpl := splitL_drop l
  repeat' (first | ((with_reducible show AWp _ _ _ _ _); (first | refine awp_seq ?_ | refine awp_block ?_ | refine awp_skip ?_ | refine awp_exit ?_ | refine awp_scope ?_ | refine awp_label ?_ | refine awp_run ty_ok rfl sd ?_ | refine awp_ret ⟨_, _, rfl, rfl, ?_⟩ | refine awp_ret ⟨_, rfl, ?_⟩ | ((refine awp_cond (ty := ty) rfl (fun hc => ?_) (fun hc => ?_)) <;> (try simp only [nms, reduceCtorEq] at hc) <;> (try (exfalso; omega))))) | ((with_reducible show AOps _ _ _ _ _ _); (first | refine aops_nil ?_ | refine aops_go ty_ok rfl rfl sd ?_ | refine aops_gate ty_ok rfl rfl rfl sd ?_ | refine aops_callE (ty := ty) rfl rfl rfl rfl rfl rfl rfl (c_split _ l (by omega)) rfl ?_ | refine aops_litE ty_ok rfl rfl rfl rfl rfl rfl rfl rfl rfl rfl rfl rfl ?_ | refine aops_cutE ty_ok rfl rfl rfl rfl rfl rfl rfl rfl rfl sd rfl ?_ | ((fail_if_success (refine aops_known rfl ?_)); (refine aops_split ty_ok rfl rfl rfl rfl rfl rfl (fun hc => ⟨?_, ?_⟩) (fun hc => ⟨?_, ?_⟩)) <;> (try simp only [nms, reduceCtorEq] at hc) <;> (try (exfalso; omega)) <;> (try exact sd)))) | ((fail_if_success (with_reducible show AWp _ _ _ _ _)); (fail_if_success (with_reducible show AOps _ _ _ _ _ _)); (first | (show AWp _ _ _ _ _) | (show AOps _ _ _ _ _ _))))
  refine awp_nilrow 4 80 rfl ?_
  refine awp_loopR (G := { p : Nat × List Nat // p.1 ≤ (splitL l).length ∧ ((splitL l).take p.1).mapM arcF = some p.2 ∧ p.2.length = p.1 }) (fun p => ⟨Tryd.f50.ntmps, [(4, .ref 1), (10, .ref 0), (11, .d (.int .i64 (splitL l).length)), (12, .d (.int .i64 p.1.1))], [(0, .row none 9 (strs (splitL l))), (1, .row none 80 (u32s p.1.2))], 2⟩) (fun p => (splitL l).length - p.1.1) ⟨(0, []), Nat.zero_le _, rfl, rfl⟩ [(0, 0), (1, 1)]
    (SubR.mk' rfl rfl ⟨⟨_, rfl, rfl⟩, ⟨_, rfl, rfl⟩, ⟨_, rfl, congrArg (fun z : Nat => AV.d (Dat.int IntKind.i64 z)) (strs_len _)⟩, ⟨_, rfl, rfl⟩, trivial⟩ ⟨⟨_, _, rfl, rfl, rfl⟩, ⟨_, _, rfl, rfl, rfl⟩, trivial⟩) ?_
  rintro ⟨⟨k, a⟩, hk, ha, hal⟩
  simp only at hk ha hal
  dsimp only
  rcases Nat.lt_or_ge k (splitL l).length with hkl | hkl
  · obtain ⟨p, hp⟩ : ∃ p, p = (splitL l)[k] := ⟨_, rfl⟩
    have hmem : p ∈ splitL l := by rw [hp]; exact List.getElem_mem _
    have htx : ((strs (splitL l)).getD (k : Int).toNat default).txt = bA p := by
      rw [txt_strs, Int.toNat_natCast, List.getD_eq_getElem?_getD, List.getElem?_eq_getElem hkl, hp]
      rfl
    have hplen := hpl p hmem
    have hsnoc : ((splitL l).take (k + 1)).mapM arcF = match arcF p with
        | some n => some (a ++ [n])
        | none => none := by
      rw [List.take_succ_eq_append_getElem hkl, mapM_snoc, ha, ← hp]
      cases arcF p <;> rfl
    have hap := arcF_parse p
    cases hpu : Lib.parseUintB 32 p with
    | ok u =>
      have hu := parse32_le hpu
      have hc1 := c_parse_ok p (by omega) u hpu
      rw [hpu] at hap
      simp only at hap
      unfold sD at hc1
      rw [← htx] at hc1
      repeat' (first | ((with_reducible show AWp _ _ _ _ _); (first | refine awp_seq ?_ | refine awp_block ?_ | refine awp_skip ?_ | refine awp_exit ?_ | refine awp_scope ?_ | refine awp_label ?_ | refine awp_run ty_ok rfl sd ?_ | refine awp_ret ⟨_, _, rfl, rfl, ?_⟩ | refine awp_ret ⟨_, rfl, ?_⟩ | ((refine awp_cond (ty := ty) rfl (fun hc => ?_) (fun hc => ?_)) <;> (try simp only [nms, reduceCtorEq] at hc) <;> (try (exfalso; omega))))) | ((with_reducible show AOps _ _ _ _ _ _); (first | refine aops_nil ?_ | refine aops_go ty_ok rfl rfl sd ?_ | refine aops_gate ty_ok rfl rfl rfl sd ?_ | refine aops_callE (ty := ty) rfl rfl rfl rfl rfl rfl rfl (hc1) rfl ?_ | refine aops_callE (ty := ty) rfl rfl rfl rfl rfl rfl rfl (c_format u (by omega)) rfl ?_ | refine aops_litE ty_ok rfl rfl rfl rfl rfl rfl rfl rfl rfl rfl rfl rfl ?_ | refine aops_cutE ty_ok rfl rfl rfl rfl rfl rfl rfl rfl rfl sd rfl ?_ | ((fail_if_success (refine aops_known rfl ?_)); (refine aops_split ty_ok rfl rfl rfl rfl rfl rfl (fun hc => ⟨?_, ?_⟩) (fun hc => ⟨?_, ?_⟩)) <;> (try simp only [nms, reduceCtorEq] at hc) <;> (try (exfalso; omega)) <;> (try exact sd)))) | ((fail_if_success (with_reducible show AWp _ _ _ _ _)); (fail_if_success (with_reducible show AOps _ _ _ _ _ _)); (first | (show AWp _ _ _ _ _) | (show AOps _ _ _ _ _ _))))
      · rw [htx, bA_inj] at hc
        have : arcF p = none := by rw [hap, decide_eq_false hc]
        rw [arcsD, okF_none_of hmem this]
        rfl
      · rw [htx, bA_inj] at hc
        rw [decide_eq_true hc] at hap
        rw [hap] at hsnoc
        refine ⟨⟨(k + 1, a ++ [u]), hkl, hsnoc, by simp [hal]⟩, [(0, 0), (3, 1)], SubR.mk' rfl rfl ⟨⟨_, rfl, rfl⟩, ⟨_, rfl, rfl⟩, ⟨_, rfl, rfl⟩, ⟨_, rfl, rfl⟩, trivial⟩ ⟨⟨_, _, rfl, rfl, rfl⟩, ⟨_, _, rfl, rfl, congrArg (AO.row none 80) ?_⟩, trivial⟩, by simp only; omega⟩
        rw [u32s_app, wrap_u32 u hu]
        rfl
    | range =>
      have hc1 := c_parse_rng p (by omega) hpu
      rw [hpu] at hap
      simp only at hap
      unfold sD at hc1
      rw [← htx] at hc1
      repeat' (first | ((with_reducible show AWp _ _ _ _ _); (first | refine awp_seq ?_ | refine awp_block ?_ | refine awp_skip ?_ | refine awp_exit ?_ | refine awp_scope ?_ | refine awp_label ?_ | refine awp_run ty_ok rfl sd ?_ | refine awp_ret ⟨_, _, rfl, rfl, ?_⟩ | refine awp_ret ⟨_, rfl, ?_⟩ | ((refine awp_cond (ty := ty) rfl (fun hc => ?_) (fun hc => ?_)) <;> (try simp only [nms, reduceCtorEq] at hc) <;> (try (exfalso; omega))))) | ((with_reducible show AOps _ _ _ _ _ _); (first | refine aops_nil ?_ | refine aops_go ty_ok rfl rfl sd ?_ | refine aops_gate ty_ok rfl rfl rfl sd ?_ | refine aops_callE (ty := ty) rfl rfl rfl rfl rfl rfl rfl (hc1) rfl ?_ | refine aops_litE ty_ok rfl rfl rfl rfl rfl rfl rfl rfl rfl rfl rfl rfl ?_ | refine aops_cutE ty_ok rfl rfl rfl rfl rfl rfl rfl rfl rfl sd rfl ?_ | ((fail_if_success (refine aops_known rfl ?_)); (refine aops_split ty_ok rfl rfl rfl rfl rfl rfl (fun hc => ⟨?_, ?_⟩) (fun hc => ⟨?_, ?_⟩)) <;> (try simp only [nms, reduceCtorEq] at hc) <;> (try (exfalso; omega)) <;> (try exact sd)))) | ((fail_if_success (with_reducible show AWp _ _ _ _ _)); (fail_if_success (with_reducible show AOps _ _ _ _ _ _)); (first | (show AWp _ _ _ _ _) | (show AOps _ _ _ _ _ _))))
      rw [arcsD, okF_none_of hmem hap]
      rfl
    | _ =>
      have hc1 := c_parse_syn p (by omega) hpu
      rw [hpu] at hap
      simp only at hap
      unfold sD at hc1
      rw [← htx] at hc1
      repeat' (first | ((with_reducible show AWp _ _ _ _ _); (first | refine awp_seq ?_ | refine awp_block ?_ | refine awp_skip ?_ | refine awp_exit ?_ | refine awp_scope ?_ | refine awp_label ?_ | refine awp_run ty_ok rfl sd ?_ | refine awp_ret ⟨_, _, rfl, rfl, ?_⟩ | refine awp_ret ⟨_, rfl, ?_⟩ | ((refine awp_cond (ty := ty) rfl (fun hc => ?_) (fun hc => ?_)) <;> (try simp only [nms, reduceCtorEq] at hc) <;> (try (exfalso; omega))))) | ((with_reducible show AOps _ _ _ _ _ _); (first | refine aops_nil ?_ | refine aops_go ty_ok rfl rfl sd ?_ | refine aops_gate ty_ok rfl rfl rfl sd ?_ | refine aops_callE (ty := ty) rfl rfl rfl rfl rfl rfl rfl (hc1) rfl ?_ | refine aops_litE ty_ok rfl rfl rfl rfl rfl rfl rfl rfl rfl rfl rfl rfl ?_ | refine aops_cutE ty_ok rfl rfl rfl rfl rfl rfl rfl rfl rfl sd rfl ?_ | ((fail_if_success (refine aops_known rfl ?_)); (refine aops_split ty_ok rfl rfl rfl rfl rfl rfl (fun hc => ⟨?_, ?_⟩) (fun hc => ⟨?_, ?_⟩)) <;> (try simp only [nms, reduceCtorEq] at hc) <;> (try (exfalso; omega)) <;> (try exact sd)))) | ((fail_if_success (with_reducible show AWp _ _ _ _ _)); (fail_if_success (with_reducible show AOps _ _ _ _ _ _)); (first | (show AWp _ _ _ _ _) | (show AOps _ _ _ _ _ _))))
      rw [arcsD, okF_none_of hmem hap]
      rfl
  · have hke : k = (splitL l).length := by omega
    subst hke
    rw [List.take_length] at ha
    repeat' (first | ((with_reducible show AWp _ _ _ _ _); (first | refine awp_seq ?_ | refine awp_block ?_ | refine awp_skip ?_ | refine awp_exit ?_ | refine awp_scope ?_ | refine awp_label ?_ | refine awp_run ty_ok rfl sd ?_ | refine awp_ret ⟨_, _, rfl, rfl, ?_⟩ | refine awp_ret ⟨_, rfl, ?_⟩ | ((refine awp_cond (ty := ty) rfl (fun hc => ?_) (fun hc => ?_)) <;> (try simp only [nms, reduceCtorEq] at hc) <;> (try (exfalso; omega))))) | ((with_reducible show AOps _ _ _ _ _ _); (first | refine aops_nil ?_ | refine aops_go ty_ok rfl rfl sd ?_ | refine aops_gate ty_ok rfl rfl rfl sd ?_ | refine aops_callE (ty := ty) rfl rfl rfl rfl rfl rfl rfl (c_right _ a) rfl ?_ | refine aops_litE ty_ok rfl rfl rfl rfl rfl rfl rfl rfl rfl rfl rfl rfl ?_ | refine aops_cutE ty_ok rfl rfl rfl rfl rfl rfl rfl rfl rfl sd rfl ?_ | ((fail_if_success (refine aops_known rfl ?_)); (refine aops_split ty_ok rfl rfl rfl rfl rfl rfl (fun hc => ⟨?_, ?_⟩) (fun hc => ⟨?_, ?_⟩)) <;> (try simp only [nms, reduceCtorEq] at hc) <;> (try (exfalso; omega)) <;> (try exact sd)))) | ((fail_if_success (with_reducible show AWp _ _ _ _ _)); (fail_if_success (with_reducible show AOps _ _ _ _ _ _)); (first | (show AWp _ _ _ _ _) | (show AOps _ _ _ _ _ _))))
    · have : okF l = none := by
        unfold okF
        rw [ha]
        simp only [hc]
      rw [arcsD, this]
      rfl
    · have : okF l = some a := by
        unfold okF
        rw [ha]
        simp only [hc]
      rw [arcsD, this]

/-- Is it the string of an object identifier? -/
def oidV (l : List UInt8) : Bool := (okF l).isSome
theorem isOValid : IsFn Tryd.prog 60 Tryd.f60 := ⟨Tryd.func60, by decide, rfl⟩
theorem c_ovalid (l : List UInt8) (hl : l.length ≤ 100000000) : ACalls Tryd.prog envL 60 [sD l] (fun r => r = .d (.bool (oidV l))) := by
  refine acalls_of ty_ok isOValid rfl rfl ?_
  have hA := c_arcs l hl
  unfold oidV
  cases h : okF l with
  | none =>
    rw [arcsD, h] at hA
    repeat' (first | ((with_reducible show AWp _ _ _ _ _); (first | refine awp_seq ?_ | refine awp_block ?_ | refine awp_skip ?_ | refine awp_exit ?_ | refine awp_scope ?_ | refine awp_label ?_ | refine awp_run ty_ok rfl sd ?_ | refine awp_ret ⟨_, _, rfl, rfl, ?_⟩ | refine awp_ret ⟨_, rfl, ?_⟩ | ((refine awp_cond (ty := ty) rfl (fun hc => ?_) (fun hc => ?_)) <;> (try simp only [nms, reduceCtorEq] at hc) <;> (try (exfalso; omega))))) | ((with_reducible show AOps _ _ _ _ _ _); (first | refine aops_nil ?_ | refine aops_go ty_ok rfl rfl sd ?_ | refine aops_gate ty_ok rfl rfl rfl sd ?_ | refine aops_callE (ty := ty) rfl rfl rfl rfl rfl rfl rfl (hA) rfl ?_ | refine aops_litE ty_ok rfl rfl rfl rfl rfl rfl rfl rfl rfl rfl rfl rfl ?_ | refine aops_cutE ty_ok rfl rfl rfl rfl rfl rfl rfl rfl rfl sd rfl ?_ | ((fail_if_success (refine aops_known rfl ?_)); (refine aops_split ty_ok rfl rfl rfl rfl rfl rfl (fun hc => ⟨?_, ?_⟩) (fun hc => ⟨?_, ?_⟩)) <;> (try simp only [nms, reduceCtorEq] at hc) <;> (try (exfalso; omega)) <;> (try exact sd)))) | ((fail_if_success (with_reducible show AWp _ _ _ _ _)); (fail_if_success (with_reducible show AOps _ _ _ _ _ _)); (first | (show AWp _ _ _ _ _) | (show AOps _ _ _ _ _ _))))
    all_goals rfl
  | some a =>
    rw [arcsD, h] at hA
    repeat' (first | ((with_reducible show AWp _ _ _ _ _); (first | refine awp_seq ?_ | refine awp_block ?_ | refine awp_skip ?_ | refine awp_exit ?_ | refine awp_scope ?_ | refine awp_label ?_ | refine awp_run ty_ok rfl sd ?_ | refine awp_ret ⟨_, _, rfl, rfl, ?_⟩ | refine awp_ret ⟨_, rfl, ?_⟩ | ((refine awp_cond (ty := ty) rfl (fun hc => ?_) (fun hc => ?_)) <;> (try simp only [nms, reduceCtorEq] at hc) <;> (try (exfalso; omega))))) | ((with_reducible show AOps _ _ _ _ _ _); (first | refine aops_nil ?_ | refine aops_go ty_ok rfl rfl sd ?_ | refine aops_gate ty_ok rfl rfl rfl sd ?_ | refine aops_callE (ty := ty) rfl rfl rfl rfl rfl rfl rfl (hA) rfl ?_ | refine aops_litE ty_ok rfl rfl rfl rfl rfl rfl rfl rfl rfl rfl rfl rfl ?_ | refine aops_cutE ty_ok rfl rfl rfl rfl rfl rfl rfl rfl rfl sd rfl ?_ | ((fail_if_success (refine aops_known rfl ?_)); (refine aops_split ty_ok rfl rfl rfl rfl rfl rfl (fun hc => ⟨?_, ?_⟩) (fun hc => ⟨?_, ?_⟩)) <;> (try simp only [nms, reduceCtorEq] at hc) <;> (try (exfalso; omega)) <;> (try exact sd)))) | ((fail_if_success (with_reducible show AWp _ _ _ _ _)); (fail_if_success (with_reducible show AOps _ _ _ _ _ _)); (first | (show AWp _ _ _ _ _) | (show AOps _ _ _ _ _ _))))
    all_goals rfl
end Go.Proofs.YtmciaonjkkelnaaDoor

/- Arcs of the reference; Text of both; same. Walked by the abstract machine. -/
namespace Go.Proofs.YtmciaonjkkelnaaDoor
open Go.Am
open Go.Lib (decDigits)
set_option linter.unusedSimpArgs false
set_option linter.unusedVariables false

theorem c_number_ok (Γ : Env) (p : List UInt8) (hp : p.length ≤ 1000000000) (n : Nat) (h : arcF p = some n) : ACalls Tryd.prog Γ 58 [sD p] (fun r => r = .d (.tup [.int .u64 n, .bool true])) := (c_number Γ p hp).mono fun r hr => by
  have hv : numV p = n := by
    unfold arcF at h
    unfold numV
    cases hv : valD 0 p with
    | none => rw [hv] at h; cases h
    | some m =>
      rw [hv] at h
      simp only at h ⊢
      split at h
      · cases h; rfl
      · cases h
  rw [hr, hv, h]
  rfl
theorem c_number_bad (Γ : Env) (p : List UInt8) (hp : p.length ≤ 1000000000) (h : arcF p = none) : ACalls Tryd.prog Γ 58 [sD p] (fun r => r = .d (.tup [.int .u64 (numV p), .bool false])) := (c_number Γ p hp).mono fun r hr => by
  rw [hr, h]
  rfl
theorem isRArcs : IsFn Tryd.prog 48 Tryd.f48 := ⟨Tryd.func48, by decide, rfl⟩
set_option maxHeartbeats 2000000 in
theorem c_rarcs (Γ : Env) (l : List UInt8) (hl : l.length ≤ 100000000) : ACalls Tryd.prog Γ 48 [sD l] (fun r => r = .d (arcsD l)) := by
  refine acalls_of ty_ok isRArcs rfl rfl ?_
  repeat' (first | ((with_reducible show AWp _ _ _ _ _); (first | refine awp_seq ?_ | refine awp_block ?_ | refine awp_skip ?_ | refine awp_exit ?_ | refine awp_scope ?_ | refine awp_label ?_ | refine awp_run ty_ok rfl sd ?_ | refine awp_ret ⟨_, _, rfl, rfl, ?_⟩ | refine awp_ret ⟨_, rfl, ?_⟩ | ((refine awp_cond (ty := ty) rfl (fun hc => ?_) (fun hc => ?_)) <;> (try simp only [nms, reduceCtorEq] at hc) <;> (try (exfalso; omega))))) | ((with_reducible show AOps _ _ _ _ _ _); (first | refine aops_nil ?_ | refine aops_go ty_ok rfl rfl sd ?_ | refine aops_gate ty_ok rfl rfl rfl sd ?_ | refine aops_litE ty_ok rfl rfl rfl rfl rfl rfl rfl rfl rfl rfl rfl rfl ?_ | refine aops_cutE ty_ok rfl rfl rfl rfl rfl rfl rfl rfl rfl sd rfl ?_ | ((fail_if_success (refine aops_known rfl ?_)); (refine aops_split ty_ok rfl rfl rfl rfl rfl rfl (fun hc => ⟨?_, ?_⟩) (fun hc => ⟨?_, ?_⟩)) <;> (try simp only [nms, reduceCtorEq] at hc) <;> (try (exfalso; omega)) <;> (try exact sd)))) | ((fail_if_success (with_reducible show AWp _ _ _ _ _)); (fail_if_success (with_reducible show AOps _ _ _ _ _ _)); (first | (show AWp _ _ _ _ _) | (show AOps _ _ _ _ _ _))))
  refine awp_nilrow 4 80 rfl ?_
  refine awp_loopR (G := { p : Nat × Nat × List Nat // p.2.2.length ≤ p.2.1 ∧ ((p.2.1 ≤ l.length ∧ p.1 ≤ p.2.1 ∧ (∀ c ∈ (l.drop p.1).take (p.2.1 - p.1), c ≠ 46) ∧ ∃ done, splitL l = done ++ splitL (l.drop p.1) ∧ done.mapM arcF = some p.2.2) ∨ (p.2.1 = l.length + 1 ∧ (splitL l).mapM arcF = some p.2.2)) })
    (fun p => ⟨Tryd.f48.ntmps, [(0, .d (sD l)), (4, .ref 0), (5, .d (.int .i64 p.1.1)), (6, .d (.int .i64 p.1.2.1))], [(0, .row none 80 (u32s p.1.2.2))], 1⟩) (fun p => l.length + 1 - p.1.2.1) ⟨(0, 0, []), Nat.le_refl _, .inl ⟨Nat.zero_le _, Nat.le_refl _, by simp, [], rfl, rfl⟩⟩ [(0, 0)]
    (SubR.mk' rfl rfl ⟨⟨_, rfl, rfl⟩, ⟨_, rfl, rfl⟩, ⟨_, rfl, rfl⟩, ⟨_, rfl, rfl⟩, trivial⟩ ⟨⟨_, _, rfl, rfl, rfl⟩, trivial⟩) ?_
  rintro ⟨⟨f, i, a⟩, hal, hinv⟩
  simp only at hal hinv
  dsimp only
  rcases hinv with ⟨hi, hfi, hnd, done, hdone, hda⟩ | ⟨hi, hfin⟩
  · obtain ⟨p, hp⟩ : ∃ p, p = (l.drop f).take (i - f) := ⟨_, rfl⟩
    rw [← hp] at hnd
    have hplen : p.length = i - f := by rw [hp]; simp; omega
    have hcut : (bA l).extract (f : Int).toNat (i : Int).toNat = bA p := by
      rw [bA_ext, Int.toNat_natCast, Int.toNat_natCast, hp, cutL, List.drop_take]
    have hmem : ∀ r, splitL (l.drop f) = p :: r → p ∈ splitL l := by
      intro r hr
      rw [hdone, hr]
      simp
    rcases Nat.lt_or_ge i l.length with hil | hil
    · have hci : ((bA l).data.toList.getD (i : Int).toNat 0) = l[i] := by
        rw [bA_list, Int.toNat_natCast, List.getD_eq_getElem?_getD, List.getElem?_eq_getElem hil]
        rfl
      by_cases hdot : l[i] = 46
      · have hsp : splitL (l.drop f) = p :: splitL (l.drop (i + 1)) := by
          have : l.drop f = p ++ 46 :: l.drop (i + 1) := by
            rw [hp, ← hdot, ← List.drop_eq_getElem_cons hil]
            conv => lhs; rw [← List.take_append_drop (i - f) (l.drop f), List.drop_drop]
            rw [show f + (i - f) = i by omega]
          rw [this, splitL_app hnd]
        have hd46 : ((((bA l).data.toList.getD (i : Int).toNat 0).toNat : Int) != 46) = false := by rw [hci, hdot]; rfl
        cases hap : arcF p with
        | none =>
          have hc1 := c_number_bad (Γ.at 0) p (by omega) hap
          unfold sD at hc1
          rw [← hcut] at hc1
          repeat' (first | ((with_reducible show AWp _ _ _ _ _); (first | refine awp_seq ?_ | refine awp_block ?_ | refine awp_skip ?_ | refine awp_exit ?_ | refine awp_scope ?_ | refine awp_label ?_ | refine awp_run ty_ok rfl sd ?_ | refine awp_ret ⟨_, _, rfl, rfl, ?_⟩ | refine awp_ret ⟨_, rfl, ?_⟩ | ((refine awp_cond (ty := ty) rfl (fun hc => ?_) (fun hc => ?_)) <;> (try simp only [nms, reduceCtorEq] at hc) <;> (try (exfalso; omega))))) | ((with_reducible show AOps _ _ _ _ _ _); (first | refine aops_nil ?_ | refine aops_go ty_ok rfl rfl sd ?_ | refine aops_gate ty_ok rfl rfl rfl sd ?_ | refine aops_callE (ty := ty) rfl rfl rfl rfl rfl rfl rfl (hc1) rfl ?_ | refine aops_litE ty_ok rfl rfl rfl rfl rfl rfl rfl rfl rfl rfl rfl rfl ?_ | refine aops_cutE ty_ok rfl rfl rfl rfl rfl rfl rfl rfl rfl sd rfl ?_ | ((fail_if_success (refine aops_known rfl ?_)); (refine aops_split ty_ok rfl rfl rfl rfl rfl rfl (fun hc => ⟨?_, ?_⟩) (fun hc => ⟨?_, ?_⟩)) <;> (try simp only [nms, reduceCtorEq] at hc) <;> (try (exfalso; omega)) <;> (try exact sd)))) | ((fail_if_success (with_reducible show AWp _ _ _ _ _)); (fail_if_success (with_reducible show AOps _ _ _ _ _ _)); (first | (show AWp _ _ _ _ _) | (show AOps _ _ _ _ _ _))))
          all_goals first | (exfalso; rw [hci, hdot] at hc; exact hc rfl) | skip
          rw [arcsD, okF_none_of (hmem _ hsp) hap]
          rfl
        | some n =>
          have hc1 := c_number_ok (Γ.at 0) p (by omega) n hap
          have hn := (arcF_some.1 hap).1
          unfold sD at hc1
          rw [← hcut] at hc1
          repeat' (first | ((with_reducible show AWp _ _ _ _ _); (first | refine awp_seq ?_ | refine awp_block ?_ | refine awp_skip ?_ | refine awp_exit ?_ | refine awp_scope ?_ | refine awp_label ?_ | refine awp_run ty_ok rfl sd ?_ | refine awp_ret ⟨_, _, rfl, rfl, ?_⟩ | refine awp_ret ⟨_, rfl, ?_⟩ | ((refine awp_cond (ty := ty) rfl (fun hc => ?_) (fun hc => ?_)) <;> (try simp only [nms, reduceCtorEq] at hc) <;> (try (exfalso; omega))))) | ((with_reducible show AOps _ _ _ _ _ _); (first | refine aops_nil ?_ | refine aops_go ty_ok rfl rfl sd ?_ | refine aops_gate ty_ok rfl rfl rfl sd ?_ | refine aops_callE (ty := ty) rfl rfl rfl rfl rfl rfl rfl (hc1) rfl ?_ | refine aops_litE ty_ok rfl rfl rfl rfl rfl rfl rfl rfl rfl rfl rfl rfl ?_ | refine aops_cutE ty_ok rfl rfl rfl rfl rfl rfl rfl rfl rfl sd rfl ?_ | ((fail_if_success (refine aops_known rfl ?_)); (refine aops_split ty_ok rfl rfl rfl rfl rfl rfl (fun hc => ⟨?_, ?_⟩) (fun hc => ⟨?_, ?_⟩)) <;> (try simp only [nms, reduceCtorEq] at hc) <;> (try (exfalso; omega)) <;> (try exact sd)))) | ((fail_if_success (with_reducible show AWp _ _ _ _ _)); (fail_if_success (with_reducible show AOps _ _ _ _ _ _)); (first | (show AWp _ _ _ _ _) | (show AOps _ _ _ _ _ _))))
          all_goals first | (exfalso; rw [hci, hdot] at hc; exact hc rfl) | skip
          refine ⟨⟨(i + 1, i + 1, a ++ [n]), by simp; omega, .inl ⟨hil, Nat.le_refl _, by simp, done ++ [p], ?_, ?_⟩⟩, [(2, 0)], SubR.mk' rfl rfl ⟨⟨_, rfl, rfl⟩, ⟨_, rfl, rfl⟩, ⟨_, rfl, rfl⟩, ⟨_, rfl, rfl⟩, trivial⟩ ⟨⟨_, _, rfl, rfl, congrArg (AO.row none 80) ?_⟩, trivial⟩, by simp only; omega⟩
          · rw [hdone, hsp]; simp
          · rw [mapM_snoc, hda, hap]
          · rw [u32s_app, wrap_u32 n hn]
            rfl
      · repeat' (first | ((with_reducible show AWp _ _ _ _ _); (first | refine awp_seq ?_ | refine awp_block ?_ | refine awp_skip ?_ | refine awp_exit ?_ | refine awp_scope ?_ | refine awp_label ?_ | refine awp_run ty_ok rfl sd ?_ | refine awp_ret ⟨_, _, rfl, rfl, ?_⟩ | refine awp_ret ⟨_, rfl, ?_⟩ | ((refine awp_cond (ty := ty) rfl (fun hc => ?_) (fun hc => ?_)) <;> (try simp only [nms, reduceCtorEq] at hc) <;> (try (exfalso; omega))))) | ((with_reducible show AOps _ _ _ _ _ _); (first | refine aops_nil ?_ | refine aops_go ty_ok rfl rfl sd ?_ | refine aops_gate ty_ok rfl rfl rfl sd ?_ | refine aops_litE ty_ok rfl rfl rfl rfl rfl rfl rfl rfl rfl rfl rfl rfl ?_ | refine aops_cutE ty_ok rfl rfl rfl rfl rfl rfl rfl rfl rfl sd rfl ?_ | ((fail_if_success (refine aops_known rfl ?_)); (refine aops_split ty_ok rfl rfl rfl rfl rfl rfl (fun hc => ⟨?_, ?_⟩) (fun hc => ⟨?_, ?_⟩)) <;> (try simp only [nms, reduceCtorEq] at hc) <;> (try (exfalso; omega)) <;> (try exact sd)))) | ((fail_if_success (with_reducible show AWp _ _ _ _ _)); (fail_if_success (with_reducible show AOps _ _ _ _ _ _)); (first | (show AWp _ _ _ _ _) | (show AOps _ _ _ _ _ _))))
        all_goals first | (exfalso; rw [hci] at hc; exact hdot (UInt8.toNat_inj.1 (by have h2 : ((46 : UInt8).toNat) = 46 := rfl; omega))) | skip
        refine ⟨⟨(f, i + 1, a), by simp; omega, .inl ⟨hil, by simp only; omega, ?_, done, hdone, hda⟩⟩, [(0, 0)], SubR.mk' rfl rfl ⟨⟨_, rfl, rfl⟩, ⟨_, rfl, rfl⟩, ⟨_, rfl, rfl⟩, ⟨_, rfl, rfl⟩, trivial⟩ ⟨⟨_, _, rfl, rfl, rfl⟩, trivial⟩, by simp only; omega⟩
        intro c hcm
        simp only at hcm
        rw [show i + 1 - f = (i - f) + 1 by omega, List.take_succ_eq_append_getElem (by simp; omega), ← hp] at hcm
        rcases List.mem_append.1 hcm with h | h
        · exact hnd c h
        · simp only [List.mem_singleton, List.getElem_drop] at h
          rw [h]
          have : f + (i - f) = i := by omega
          simpa only [this] using hdot
    · have hie : i = l.length := by omega
      subst hie
      have hpd : l.drop f = p := by
        rw [hp, List.take_of_length_le (by simp)]
      have hsp : splitL (l.drop f) = [p] := by rw [hpd]; exact splitL_one hnd
      cases hap : arcF p with
      | none =>
        have hc1 := c_number_bad (Γ.at 0) p (by omega) hap
        unfold sD at hc1
        rw [← hcut] at hc1
        repeat' (first | ((with_reducible show AWp _ _ _ _ _); (first | refine awp_seq ?_ | refine awp_block ?_ | refine awp_skip ?_ | refine awp_exit ?_ | refine awp_scope ?_ | refine awp_label ?_ | refine awp_run ty_ok rfl sd ?_ | refine awp_ret ⟨_, _, rfl, rfl, ?_⟩ | refine awp_ret ⟨_, rfl, ?_⟩ | ((refine awp_cond (ty := ty) rfl (fun hc => ?_) (fun hc => ?_)) <;> (try simp only [nms, reduceCtorEq] at hc) <;> (try (exfalso; omega))))) | ((with_reducible show AOps _ _ _ _ _ _); (first | refine aops_nil ?_ | refine aops_go ty_ok rfl rfl sd ?_ | refine aops_gate ty_ok rfl rfl rfl sd ?_ | refine aops_callE (ty := ty) rfl rfl rfl rfl rfl rfl rfl (hc1) rfl ?_ | refine aops_litE ty_ok rfl rfl rfl rfl rfl rfl rfl rfl rfl rfl rfl rfl ?_ | refine aops_cutE ty_ok rfl rfl rfl rfl rfl rfl rfl rfl rfl sd rfl ?_ | ((fail_if_success (refine aops_known rfl ?_)); (refine aops_split ty_ok rfl rfl rfl rfl rfl rfl (fun hc => ⟨?_, ?_⟩) (fun hc => ⟨?_, ?_⟩)) <;> (try simp only [nms, reduceCtorEq] at hc) <;> (try (exfalso; omega)) <;> (try exact sd)))) | ((fail_if_success (with_reducible show AWp _ _ _ _ _)); (fail_if_success (with_reducible show AOps _ _ _ _ _ _)); (first | (show AWp _ _ _ _ _) | (show AOps _ _ _ _ _ _))))
        rw [arcsD, okF_none_of (hmem _ hsp) hap]
        rfl
      | some n =>
        have hc1 := c_number_ok (Γ.at 0) p (by omega) n hap
        have hn := (arcF_some.1 hap).1
        unfold sD at hc1
        rw [← hcut] at hc1
        repeat' (first | ((with_reducible show AWp _ _ _ _ _); (first | refine awp_seq ?_ | refine awp_block ?_ | refine awp_skip ?_ | refine awp_exit ?_ | refine awp_scope ?_ | refine awp_label ?_ | refine awp_run ty_ok rfl sd ?_ | refine awp_ret ⟨_, _, rfl, rfl, ?_⟩ | refine awp_ret ⟨_, rfl, ?_⟩ | ((refine awp_cond (ty := ty) rfl (fun hc => ?_) (fun hc => ?_)) <;> (try simp only [nms, reduceCtorEq] at hc) <;> (try (exfalso; omega))))) | ((with_reducible show AOps _ _ _ _ _ _); (first | refine aops_nil ?_ | refine aops_go ty_ok rfl rfl sd ?_ | refine aops_gate ty_ok rfl rfl rfl sd ?_ | refine aops_callE (ty := ty) rfl rfl rfl rfl rfl rfl rfl (hc1) rfl ?_ | refine aops_litE ty_ok rfl rfl rfl rfl rfl rfl rfl rfl rfl rfl rfl rfl ?_ | refine aops_cutE ty_ok rfl rfl rfl rfl rfl rfl rfl rfl rfl sd rfl ?_ | ((fail_if_success (refine aops_known rfl ?_)); (refine aops_split ty_ok rfl rfl rfl rfl rfl rfl (fun hc => ⟨?_, ?_⟩) (fun hc => ⟨?_, ?_⟩)) <;> (try simp only [nms, reduceCtorEq] at hc) <;> (try (exfalso; omega)) <;> (try exact sd)))) | ((fail_if_success (with_reducible show AWp _ _ _ _ _)); (fail_if_success (with_reducible show AOps _ _ _ _ _ _)); (first | (show AWp _ _ _ _ _) | (show AOps _ _ _ _ _ _))))
        refine ⟨⟨(l.length + 1, l.length + 1, a ++ [n]), by simp; omega, .inr ⟨rfl, ?_⟩⟩, [(2, 0)], SubR.mk' rfl rfl ⟨⟨_, rfl, rfl⟩, ⟨_, rfl, rfl⟩, ⟨_, rfl, rfl⟩, ⟨_, rfl, rfl⟩, trivial⟩ ⟨⟨_, _, rfl, rfl, congrArg (AO.row none 80) ?_⟩, trivial⟩, by simp only; omega⟩
        · rw [hdone, hsp, mapM_snoc, hda, hap]
        · rw [u32s_app, wrap_u32 n hn]
          rfl
  · subst hi
    repeat' (first | ((with_reducible show AWp _ _ _ _ _); (first | refine awp_seq ?_ | refine awp_block ?_ | refine awp_skip ?_ | refine awp_exit ?_ | refine awp_scope ?_ | refine awp_label ?_ | refine awp_run ty_ok rfl sd ?_ | refine awp_ret ⟨_, _, rfl, rfl, ?_⟩ | refine awp_ret ⟨_, rfl, ?_⟩ | ((refine awp_cond (ty := ty) rfl (fun hc => ?_) (fun hc => ?_)) <;> (try simp only [nms, reduceCtorEq] at hc) <;> (try (exfalso; omega))))) | ((with_reducible show AOps _ _ _ _ _ _); (first | refine aops_nil ?_ | refine aops_go ty_ok rfl rfl sd ?_ | refine aops_gate ty_ok rfl rfl rfl sd ?_ | refine aops_callE (ty := ty) rfl rfl rfl rfl rfl rfl rfl (c_rright _ a) rfl ?_ | refine aops_litE ty_ok rfl rfl rfl rfl rfl rfl rfl rfl rfl rfl rfl rfl ?_ | refine aops_cutE ty_ok rfl rfl rfl rfl rfl rfl rfl rfl rfl sd rfl ?_ | ((fail_if_success (refine aops_known rfl ?_)); (refine aops_split ty_ok rfl rfl rfl rfl rfl rfl (fun hc => ⟨?_, ?_⟩) (fun hc => ⟨?_, ?_⟩)) <;> (try simp only [nms, reduceCtorEq] at hc) <;> (try (exfalso; omega)) <;> (try exact sd)))) | ((fail_if_success (with_reducible show AWp _ _ _ _ _)); (fail_if_success (with_reducible show AOps _ _ _ _ _ _)); (first | (show AWp _ _ _ _ _) | (show AOps _ _ _ _ _ _))))
    · have : okF l = none := by
        unfold okF
        rw [hfin]
        simp only [hc]
      rw [arcsD, this]
      rfl
    · have : okF l = some a := by
        unfold okF
        rw [hfin]
        simp only [hc]
      rw [arcsD, this]
theorem isRValid : IsFn Tryd.prog 34 Tryd.f34 := ⟨Tryd.func34, by decide, rfl⟩
theorem c_rovalid (Γ : Env) (l : List UInt8) (hl : l.length ≤ 100000000) : ACalls Tryd.prog Γ 34 [sD l] (fun r => r = .d (.bool (oidV l))) := by
  refine acalls_of ty_ok isRValid rfl rfl ?_
  have hA := c_rarcs Γ l hl
  unfold oidV
  cases h : okF l with
  | none =>
    rw [arcsD, h] at hA
    repeat' (first | ((with_reducible show AWp _ _ _ _ _); (first | refine awp_seq ?_ | refine awp_block ?_ | refine awp_skip ?_ | refine awp_exit ?_ | refine awp_scope ?_ | refine awp_label ?_ | refine awp_run ty_ok rfl sd ?_ | refine awp_ret ⟨_, _, rfl, rfl, ?_⟩ | refine awp_ret ⟨_, rfl, ?_⟩ | ((refine awp_cond (ty := ty) rfl (fun hc => ?_) (fun hc => ?_)) <;> (try simp only [nms, reduceCtorEq] at hc) <;> (try (exfalso; omega))))) | ((with_reducible show AOps _ _ _ _ _ _); (first | refine aops_nil ?_ | refine aops_go ty_ok rfl rfl sd ?_ | refine aops_gate ty_ok rfl rfl rfl sd ?_ | refine aops_callE (ty := ty) rfl rfl rfl rfl rfl rfl rfl (hA) rfl ?_ | refine aops_litE ty_ok rfl rfl rfl rfl rfl rfl rfl rfl rfl rfl rfl rfl ?_ | refine aops_cutE ty_ok rfl rfl rfl rfl rfl rfl rfl rfl rfl sd rfl ?_ | ((fail_if_success (refine aops_known rfl ?_)); (refine aops_split ty_ok rfl rfl rfl rfl rfl rfl (fun hc => ⟨?_, ?_⟩) (fun hc => ⟨?_, ?_⟩)) <;> (try simp only [nms, reduceCtorEq] at hc) <;> (try (exfalso; omega)) <;> (try exact sd)))) | ((fail_if_success (with_reducible show AWp _ _ _ _ _)); (fail_if_success (with_reducible show AOps _ _ _ _ _ _)); (first | (show AWp _ _ _ _ _) | (show AOps _ _ _ _ _ _))))
    all_goals rfl
  | some a =>
    rw [arcsD, h] at hA
    repeat' (first | ((with_reducible show AWp _ _ _ _ _); (first | refine awp_seq ?_ | refine awp_block ?_ | refine awp_skip ?_ | refine awp_exit ?_ | refine awp_scope ?_ | refine awp_label ?_ | refine awp_run ty_ok rfl sd ?_ | refine awp_ret ⟨_, _, rfl, rfl, ?_⟩ | refine awp_ret ⟨_, rfl, ?_⟩ | ((refine awp_cond (ty := ty) rfl (fun hc => ?_) (fun hc => ?_)) <;> (try simp only [nms, reduceCtorEq] at hc) <;> (try (exfalso; omega))))) | ((with_reducible show AOps _ _ _ _ _ _); (first | refine aops_nil ?_ | refine aops_go ty_ok rfl rfl sd ?_ | refine aops_gate ty_ok rfl rfl rfl sd ?_ | refine aops_callE (ty := ty) rfl rfl rfl rfl rfl rfl rfl (hA) rfl ?_ | refine aops_litE ty_ok rfl rfl rfl rfl rfl rfl rfl rfl rfl rfl rfl rfl ?_ | refine aops_cutE ty_ok rfl rfl rfl rfl rfl rfl rfl rfl rfl sd rfl ?_ | ((fail_if_success (refine aops_known rfl ?_)); (refine aops_split ty_ok rfl rfl rfl rfl rfl rfl (fun hc => ⟨?_, ?_⟩) (fun hc => ⟨?_, ?_⟩)) <;> (try simp only [nms, reduceCtorEq] at hc) <;> (try (exfalso; omega)) <;> (try exact sd)))) | ((fail_if_success (with_reducible show AWp _ _ _ _ _)); (fail_if_success (with_reducible show AOps _ _ _ _ _ _)); (first | (show AWp _ _ _ _ _) | (show AOps _ _ _ _ _ _))))
    all_goals rfl
end Go.Proofs.YtmciaonjkkelnaaDoor

/- strings.Join at a dot, as a contract on data. -/
namespace Go.Proofs.YtmciaonjkkelnaaDoor
open Go.Am Go.RowKit Go.Sort
set_option linter.unusedSimpArgs false
set_option linter.unusedVariables false

/-! ### Join -/
theorem isJoin : IsFn Tryd.prog 69 Tryd.f69 := ⟨Tryd.func69, by decide, rfl⟩
theorem c_join (Γ : Env) (l : List (List UInt8)) (h1 : l.length ≤ 1099511627776) (h2 : (joinL l).length ≤ 1099511627776) : ACalls Tryd.prog Γ 69 [.sl none (strs l), sD [46]] (fun r => r = .d (sD (joinL l))) := by
  refine ⟨⟨_, isJoin⟩, fun w pr vs hok hs hr => ?_⟩
  obtain ⟨a, b, rfl, h3, h4⟩ := two_args hs hr
  cases h4
  rcases h3.sl_inv with ⟨rfl, hx⟩ | ⟨bk, off, spot, cap, rfl, hc, hm, hsp, hf, hcell⟩
  · have : l = [] := by simpa [strs] using hx
    subst this
    refine (Tryd.strings_Join_none none 0 (bA [46]) w).mono fun e w' ⟨he, hw⟩ => ?_
    subst hw
    exact ⟨_, .d (sD (joinL [])), he, Below.refl _ _, .str _, rfl⟩
  · cases l with
    | nil =>
      refine (Tryd.strings_Join_none (some ⟨bk, off, spot⟩) cap (bA [46]) w).mono fun e w' ⟨he, hw⟩ => ?_
      subst hw
      exact ⟨_, .d (sD (joinL [])), he, Below.refl _ _, .str _, rfl⟩
    | cons p ps =>
      have hsp0 := hsp (by simp [strs])
      subst hsp0
      have hcells : ∀ (j : Nat) x, ((p :: ps).map bA)[j]? = some x → w.cell? ⟨bk, off + j, none⟩ = some (.string x) := by
        intro j x hj
        rw [List.getElem?_map] at hj
        obtain ⟨q, hq, rfl⟩ := Option.map_eq_some_iff.1 hj
        have hk : (strs (p :: ps))[j]? = some (sD q) := by rw [strs, List.getElem?_map, hq]; rfl
        obtain ⟨_, _, u, hu, hr2⟩ := hcell j (sD q) hk 0 (sD q) rfl
        cases hr2
        rw [← hu]
        simp [Am.esz]
      have hbk : bk < w.heap.size := World.block_lt_of_cell? w _ (hcells 0 (bA p) rfl)
      have hml : ((p :: ps).map bA).map (·.data.toList) = p :: ps := by
        rw [List.map_map]
        conv => rhs; rw [← List.map_id (p :: ps)]
        exact List.map_congr_left fun x _ => bA_list x
      have hJ := Tryd.strings_Join bk off cap ((p :: ps).map bA) (bA [46]) w hcells hbk (by simp at h1 ⊢; omega) (by simpa [strs] using hc) (by rw [hml, bA_list]; exact Nat.le_trans h2 (by omega))
      rw [hml, bA_list] at hJ
      have hlen : (strs (p :: ps)).length = ((p :: ps).map bA).length := by simp [strs]
      rw [hlen]
      refine hJ.mono fun e w' ⟨he, hw⟩ => ?_
      exact ⟨_, .d (sD (joinL (p :: ps))), he, hw, .str _, rfl⟩
end Go.Proofs.YtmciaonjkkelnaaDoor

/- Text of package oid and of its reference; same. Walked by the abstract machine. -/
namespace Go.Proofs.YtmciaonjkkelnaaDoor
open Go.Am
open Go.Lib (decDigits)
set_option linter.unusedSimpArgs false
set_option linter.unusedVariables false

def textD (a : List Nat) : Dat := match rightF a with
  | true => .tup [sD (textF a), .int .i64 0]
  | false => .tup [sD [], .int .i64 8]
theorem u32_at {a : List Nat} {k : Nat} (h : k < a.length) : ((u32s a).getD (k : Int).toNat default).num = (a[k] : Int) := by
  rw [num_u32s, Int.toNat_natCast, List.getD_eq_getElem?_getD, List.getElem?_eq_getElem h]
  rfl
theorem textF_len' {a : List Nat} (h : ∀ n ∈ a, n ≤ 4294967295) : (joinL (a.map decDigits)).length ≤ a.length * 11 := by
  rw [joinL, joinD_lib]
  exact textF_len a h
theorem isText : IsFn Tryd.prog 57 Tryd.f57 := ⟨Tryd.func57, by decide, rfl⟩
set_option maxHeartbeats 1000000 in
theorem c_text (a : List Nat) (hl : a.length ≤ 100000000) (ha : ∀ n ∈ a, n ≤ 4294967295) : ACalls Tryd.prog envL 57 [.sl none (u32s a)] (fun r => r = .d (textD a)) := by
  refine acalls_of ty_ok isText rfl rfl ?_
  cases hr : rightF a with
  | false =>
    have hc1 := c_right (envL.at 0) a
    rw [hr] at hc1
    repeat' (first | ((with_reducible show AWp _ _ _ _ _); (first | refine awp_seq ?_ | refine awp_block ?_ | refine awp_skip ?_ | refine awp_exit ?_ | refine awp_scope ?_ | refine awp_label ?_ | refine awp_run ty_ok rfl sd ?_ | refine awp_ret ⟨_, _, rfl, rfl, ?_⟩ | refine awp_ret ⟨_, rfl, ?_⟩ | ((refine awp_cond (ty := ty) rfl (fun hc => ?_) (fun hc => ?_)) <;> (try simp only [nms, reduceCtorEq] at hc) <;> (try (exfalso; omega))))) | ((with_reducible show AOps _ _ _ _ _ _); (first | refine aops_nil ?_ | refine aops_go ty_ok rfl rfl sd ?_ | refine aops_gate ty_ok rfl rfl rfl sd ?_ | refine aops_callE (ty := ty) rfl rfl rfl rfl rfl rfl rfl (hc1) rfl ?_ | refine aops_litE ty_ok rfl rfl rfl rfl rfl rfl rfl rfl rfl rfl rfl rfl ?_ | refine aops_cutE ty_ok rfl rfl rfl rfl rfl rfl rfl rfl rfl sd rfl ?_ | ((fail_if_success (refine aops_known rfl ?_)); (refine aops_split ty_ok rfl rfl rfl rfl rfl rfl (fun hc => ⟨?_, ?_⟩) (fun hc => ⟨?_, ?_⟩)) <;> (try simp only [nms, reduceCtorEq] at hc) <;> (try (exfalso; omega)) <;> (try exact sd)))) | ((fail_if_success (with_reducible show AWp _ _ _ _ _)); (fail_if_success (with_reducible show AOps _ _ _ _ _ _)); (first | (show AWp _ _ _ _ _) | (show AOps _ _ _ _ _ _))))
    rw [textD, hr]
    rfl
  | true =>
    have hc1 := c_right (envL.at 0) a
    rw [hr] at hc1
    have hjl := textF_len' ha
    repeat' (first | ((with_reducible show AWp _ _ _ _ _); (first | refine awp_seq ?_ | refine awp_block ?_ | refine awp_skip ?_ | refine awp_exit ?_ | refine awp_scope ?_ | refine awp_label ?_ | refine awp_run ty_ok rfl sd ?_ | refine awp_ret ⟨_, _, rfl, rfl, ?_⟩ | refine awp_ret ⟨_, rfl, ?_⟩ | ((refine awp_cond (ty := ty) rfl (fun hc => ?_) (fun hc => ?_)) <;> (try simp only [nms, reduceCtorEq] at hc) <;> (try (exfalso; omega))))) | ((with_reducible show AOps _ _ _ _ _ _); (first | refine aops_nil ?_ | refine aops_go ty_ok rfl rfl sd ?_ | refine aops_gate ty_ok rfl rfl rfl sd ?_ | refine aops_callE (ty := ty) rfl rfl rfl rfl rfl rfl rfl (hc1) rfl ?_ | refine aops_litE ty_ok rfl rfl rfl rfl rfl rfl rfl rfl rfl rfl rfl rfl ?_ | refine aops_cutE ty_ok rfl rfl rfl rfl rfl rfl rfl rfl rfl sd rfl ?_ | ((fail_if_success (refine aops_known rfl ?_)); (refine aops_split ty_ok rfl rfl rfl rfl rfl rfl (fun hc => ⟨?_, ?_⟩) (fun hc => ⟨?_, ?_⟩)) <;> (try simp only [nms, reduceCtorEq] at hc) <;> (try (exfalso; omega)) <;> (try exact sd)))) | ((fail_if_success (with_reducible show AWp _ _ _ _ _)); (fail_if_success (with_reducible show AOps _ _ _ _ _ _)); (first | (show AWp _ _ _ _ _) | (show AOps _ _ _ _ _ _))))
    refine awp_nilrow 4 9 rfl ?_
    refine awp_loopR (G := { k : Nat // k ≤ a.length }) (fun k => ⟨Tryd.f57.ntmps, [(4, .ref 0), (10, .d (.sl none (u32s a))), (11, .d (.int .i64 a.length)), (12, .d (.int .i64 k.1))], [(0, .row none 9 (strs ((a.take k.1).map decDigits)))], 1⟩) (fun k => a.length - k.1) ⟨0, Nat.zero_le _⟩ [(0, 0)]
      (SubR.mk' rfl rfl ⟨⟨_, rfl, rfl⟩, ⟨_, rfl, rfl⟩, ⟨_, rfl, congrArg (fun z : Nat => AV.d (Dat.int IntKind.i64 z)) (u32s_len _)⟩, ⟨_, rfl, rfl⟩, trivial⟩ ⟨⟨_, _, rfl, rfl, rfl⟩, trivial⟩) ?_
    rintro ⟨k, hk⟩
    dsimp only
    rcases Nat.lt_or_ge k a.length with hkl | hkl
    · have hn := ha a[k] (List.getElem_mem _)
      have hnum := u32_at hkl
      have hc2 := c_format a[k] (by omega)
      have hw : IntKind.u64.wrap ((u32s a).getD (k : Int).toNat default).num = (a[k] : Int) := by rw [hnum]; exact wrap_u64 _ (by omega)
      rw [← hw] at hc2
      repeat' (first | ((with_reducible show AWp _ _ _ _ _); (first | refine awp_seq ?_ | refine awp_block ?_ | refine awp_skip ?_ | refine awp_exit ?_ | refine awp_scope ?_ | refine awp_label ?_ | refine awp_run ty_ok rfl sd ?_ | refine awp_ret ⟨_, _, rfl, rfl, ?_⟩ | refine awp_ret ⟨_, rfl, ?_⟩ | ((refine awp_cond (ty := ty) rfl (fun hc => ?_) (fun hc => ?_)) <;> (try simp only [nms, reduceCtorEq] at hc) <;> (try (exfalso; omega))))) | ((with_reducible show AOps _ _ _ _ _ _); (first | refine aops_nil ?_ | refine aops_go ty_ok rfl rfl sd ?_ | refine aops_gate ty_ok rfl rfl rfl sd ?_ | refine aops_callE (ty := ty) rfl rfl rfl rfl rfl rfl rfl (hc2) rfl ?_ | refine aops_litE ty_ok rfl rfl rfl rfl rfl rfl rfl rfl rfl rfl rfl rfl ?_ | refine aops_cutE ty_ok rfl rfl rfl rfl rfl rfl rfl rfl rfl sd rfl ?_ | ((fail_if_success (refine aops_known rfl ?_)); (refine aops_split ty_ok rfl rfl rfl rfl rfl rfl (fun hc => ⟨?_, ?_⟩) (fun hc => ⟨?_, ?_⟩)) <;> (try simp only [nms, reduceCtorEq] at hc) <;> (try (exfalso; omega)) <;> (try exact sd)))) | ((fail_if_success (with_reducible show AWp _ _ _ _ _)); (fail_if_success (with_reducible show AOps _ _ _ _ _ _)); (first | (show AWp _ _ _ _ _) | (show AOps _ _ _ _ _ _))))
      refine ⟨⟨k + 1, hkl⟩, [(2, 0)], SubR.mk' rfl rfl ⟨⟨_, rfl, rfl⟩, ⟨_, rfl, rfl⟩, ⟨_, rfl, rfl⟩, ⟨_, rfl, rfl⟩, trivial⟩ ⟨⟨_, _, rfl, rfl, congrArg (AO.row none 9) ?_⟩, trivial⟩, by simp only; omega⟩
      rw [List.take_succ_eq_append_getElem hkl, List.map_append, strs_app]
      rfl
    · have hke : k = a.length := by omega
      subst hke
      rw [List.take_length]
      repeat' (first | ((with_reducible show AWp _ _ _ _ _); (first | refine awp_seq ?_ | refine awp_block ?_ | refine awp_skip ?_ | refine awp_exit ?_ | refine awp_scope ?_ | refine awp_label ?_ | refine awp_run ty_ok rfl sd ?_ | refine awp_ret ⟨_, _, rfl, rfl, ?_⟩ | refine awp_ret ⟨_, rfl, ?_⟩ | ((refine awp_cond (ty := ty) rfl (fun hc => ?_) (fun hc => ?_)) <;> (try simp only [nms, reduceCtorEq] at hc) <;> (try (exfalso; omega))))) | ((with_reducible show AOps _ _ _ _ _ _); (first | refine aops_nil ?_ | refine aops_go ty_ok rfl rfl sd ?_ | refine aops_gate ty_ok rfl rfl rfl sd ?_ | refine aops_callE (ty := ty) rfl rfl rfl rfl rfl rfl rfl (c_join _ (a.map decDigits) (by simp; omega) (by omega)) rfl ?_ | refine aops_litE ty_ok rfl rfl rfl rfl rfl rfl rfl rfl rfl rfl rfl rfl ?_ | refine aops_cutE ty_ok rfl rfl rfl rfl rfl rfl rfl rfl rfl sd rfl ?_ | ((fail_if_success (refine aops_known rfl ?_)); (refine aops_split ty_ok rfl rfl rfl rfl rfl rfl (fun hc => ⟨?_, ?_⟩) (fun hc => ⟨?_, ?_⟩)) <;> (try simp only [nms, reduceCtorEq] at hc) <;> (try (exfalso; omega)) <;> (try exact sd)))) | ((fail_if_success (with_reducible show AWp _ _ _ _ _)); (fail_if_success (with_reducible show AOps _ _ _ _ _ _)); (first | (show AWp _ _ _ _ _) | (show AOps _ _ _ _ _ _))))
      rw [textD, hr, joinL, joinD_lib]
      rfl

theorem joinD_snoc : ∀ (ps : List (List UInt8)) (p : List UInt8), ps ≠ [] → joinD (ps ++ [p]) = joinD ps ++ 46 :: p
  | [], p, h => absurd rfl h
  | [q], p, _ => by simp [joinD]
  | q :: q2 :: r, p, _ => by
    have := joinD_snoc (q2 :: r) p (by simp)
    simp only [List.cons_append, joinD] at this ⊢
    rw [this]
    simp
end Go.Proofs.YtmciaonjkkelnaaDoor

/- Contents octets of object identifiers: Encode of both. Walked by the abstract machine. -/
namespace Go.Proofs.YtmciaonjkkelnaaDoor
open Go.Am
open Go.Lib (decDigits)
set_option linter.unusedSimpArgs false
set_option linter.unusedVariables false

/-- The octets of a subidentifier. -/
def low7 (last : Bool) (n : Nat) : UInt8 := UInt8.ofNat (n % 128 + (match last with
  | true => 0
  | false => 128))
def b128 (last : Bool) (n : Nat) : List UInt8 := if n < 128 then [low7 last n] else b128 false (n / 128) ++ [low7 last n]
  termination_by n
  decreasing_by omega
theorem b128_small {last : Bool} {n : Nat} (h : n < 128) : b128 last n = [low7 last n] := by rw [b128, if_pos h]
theorem b128_big {last : Bool} {n : Nat} (h : ¬ n < 128) : b128 last n = b128 false (n / 128) ++ [low7 last n] := by rw [b128, if_neg h]
theorem b128_len (k : Nat) : ∀ last n, n < 128 ^ (k + 1) → (b128 last n).length ≤ k + 1 := by
  induction k with
  | zero =>
    intro last n h
    rw [b128_small (by simpa using h)]
    exact Nat.le_refl _
  | succ k ih =>
    intro last n h
    by_cases h1 : n < 128
    · rw [b128_small h1]
      exact Nat.succ_le_succ (Nat.zero_le _)
    · rw [b128_big h1]
      have h2 : n / 128 < 128 ^ (k + 1) := by
        rw [Nat.div_lt_iff_lt_mul (Nat.succ_pos 127), ← Nat.pow_succ]
        exact h
      have := ih false (n / 128) h2
      rw [List.length_append, List.length_singleton]
      omega
theorem b128_len32 (last : Bool) (n : Nat) (h : n ≤ 4294967295) : (b128 last n).length ≤ 5 := b128_len 4 last n (Nat.lt_of_le_of_lt h (by decide))
/-- The octets after the last one, lowest first. -/
def rest7 (n : Nat) : List UInt8 := if n = 0 then [] else low7 false n :: rest7 (n / 128)
  termination_by n
  decreasing_by omega
theorem rest7_zero : rest7 0 = [] := by rw [rest7, if_pos rfl]
theorem rest7_pos {n : Nat} (h : n ≠ 0) : rest7 n = low7 false n :: rest7 (n / 128) := by rw [rest7, if_neg h]
theorem rest7_b128 (n : Nat) (h : n ≠ 0) : (rest7 n).reverse = b128 false n := by
  induction n using Nat.strongRecOn with
  | _ n ih =>
    rw [rest7_pos h, List.reverse_cons]
    by_cases h1 : n < 128
    · rw [b128_small h1, show n / 128 = 0 by omega, rest7_zero]
      rfl
    · rw [b128_big h1, ih (n / 128) (by omega) (by omega)]
theorem b128_rest (n : Nat) : b128 true n = (low7 true n :: rest7 (n / 128)).reverse := by
  rw [List.reverse_cons]
  by_cases h1 : n < 128
  · rw [b128_small h1, show n / 128 = 0 by omega, rest7_zero]
    rfl
  · rw [b128_big h1, rest7_b128 _ (by omega)]
theorem low7_nat (n : Nat) : (low7 true n).toNat = n % 128 ∧ (low7 false n).toNat = n % 128 + 128 := by
  constructor <;> simp [low7, UInt8.toNat_ofNat'] <;> omega
theorem bys_one (b : UInt8) : bys [b] = [Dat.int .u8 b.toNat] := rfl

end Go.Proofs.YtmciaonjkkelnaaDoor

/- Encode of package oid, walked by the abstract machine. -/
namespace Go.Proofs.YtmciaonjkkelnaaDoor
open Go.Am
open Go.Lib (decDigits)
set_option linter.unusedSimpArgs false
set_option linter.unusedVariables false

theorem and_u32 (n : Nat) (h : n ≤ 4294967295) : bits .and .u32 (n : Int) 127 = ((n % 128 : Nat) : Int) := by
  have h1 := (bits_nat .u32 32 (by decide) (fun n h0 h1 => by rw [IntKind.wrap_u32]; omega) n 127 (by omega) (by omega)).1
  have h2 : n &&& 127 = n % 128 := Nat.and_two_pow_sub_one_eq_mod n 7
  rw [h2] at h1
  exact h1
theorem or_u32 (d : Nat) (h : d < 128) : bits .or .u32 (d : Int) 128 = ((d + 128 : Nat) : Int) := by
  have h1 := (bits_nat .u32 32 (by decide) (fun n h0 h1 => by rw [IntKind.wrap_u32]; omega) d 128 (by omega) (by omega)).2
  have h2 : d ||| 128 = d + 128 := by
    have : ∀ d : Fin 128, d.1 ||| 128 = d.1 + 128 := by decide
    exact this ⟨d, h⟩
  rw [h2] at h1
  exact h1
theorem shr_u32 (n : Nat) : shft .shr .u32 (n : Int) 7 = ((n / 128 : Nat) : Int) := by
  simp [shft, IntKind.bits, Int.fdiv_eq_ediv_of_nonneg]
theorem isPut : IsFn Tryd.prog 51 Tryd.f51 := ⟨Tryd.func51, by decide, rfl⟩
set_option maxHeartbeats 1000000 in
theorem put_in (Γ : Env) (o : List UInt8) (n : Nat) (hn : n ≤ 4294967295) (ho : o.length ≤ 1000000000) (K : List (Nat × AO) → Nat → AV → Prop)
    (hK : ∀ ob, Am.look 0 ob = some (.box 25 [.ref 3]) → Am.look 3 ob = some (.row none 5 (bys (o ++ b128 true n))) → K ob 4 (.tup [])) :
    AWp Tryd.prog (Γ.at 2) Tryd.f51.body.get! (BackOk ty Tryd.f51 K) (entry Tryd.f51.ntmps [.d (.int .u32 n), .ptr 0 0] [(0, .box 25 [.ref 1]), (1, .row none 5 (bys o))] 2) := by
  have e1 := and_u32 n hn
  have e2 := shr_u32 n
  have hl := b128_len32 true n hn
  obtain ⟨l1, l2⟩ := low7_nat n
  repeat' (first | ((with_reducible show AWp _ _ _ _ _); (first | refine awp_seq ?_ | refine awp_block ?_ | refine awp_skip ?_ | refine awp_exit ?_ | refine awp_scope ?_ | refine awp_label ?_ | refine awp_run ty_ok rfl sd ?_ | refine awp_ret ⟨_, _, rfl, rfl, ?_⟩ | refine awp_ret ⟨_, rfl, ?_⟩ | ((refine awp_cond (ty := ty) rfl (fun hc => ?_) (fun hc => ?_)) <;> (try simp only [nms, reduceCtorEq] at hc) <;> (try (exfalso; omega))))) | ((with_reducible show AOps _ _ _ _ _ _); (first | refine aops_nil ?_ | refine aops_go ty_ok rfl rfl sd ?_ | refine aops_gate ty_ok rfl rfl rfl sd ?_ | refine aops_around (ty := ty) rfl rfl rfl rfl rfl rfl rfl (turns) sd rfl ?_ | refine aops_litE ty_ok rfl rfl rfl rfl rfl rfl rfl rfl rfl rfl rfl rfl ?_ | refine aops_cutE ty_ok rfl rfl rfl rfl rfl rfl rfl rfl rfl sd rfl ?_ | ((fail_if_success (refine aops_known rfl ?_)); (refine aops_split ty_ok rfl rfl rfl rfl rfl rfl (fun hc => ⟨?_, ?_⟩) (fun hc => ⟨?_, ?_⟩)) <;> (try simp only [nms, reduceCtorEq] at hc) <;> (try (exfalso; omega)) <;> (try exact sd)))) | ((fail_if_success (with_reducible show AWp _ _ _ _ _)); (fail_if_success (with_reducible show AOps _ _ _ _ _ _)); (first | (show AWp _ _ _ _ _) | (show AOps _ _ _ _ _ _))))
  have hrl : (rest7 (n / 128)).length + 1 ≤ 5 := by
    have := congrArg List.length (b128_rest n)
    simp at this
    omega
  refine awp_loopR (G := { p : Nat × List UInt8 // p.2 ++ rest7 p.1 = rest7 (n / 128) ∧ p.1 ≤ n / 128 }) (fun p => ⟨Tryd.f51.ntmps, [(0, .d (.int .u32 p.1.1)), (1, .ptr 0 0), (3, .ref 2)], [(0, .box 25 [.ref 1]), (1, .row none 5 (bys o)), (2, .row none 5 (bys (low7 true n :: p.1.2)))], 3⟩) (fun p => p.1.1) ⟨(n / 128, []), rfl, Nat.le_refl _⟩ [(2, 2)]
    (SubR.mk' rfl rfl ⟨⟨_, rfl, congrArg (fun z : Int => AV.d (Dat.int IntKind.u32 z)) e2⟩, ⟨_, rfl, rfl⟩, ⟨_, rfl, rfl⟩, trivial⟩ ⟨⟨_, _, rfl, rfl, rfl⟩, ⟨_, _, rfl, rfl, rfl⟩, ⟨_, _, rfl, rfl, congrArg (AO.row none 5) (by rw [e1, IntKind.wrap_u8, bys_one, l1]; congr 2; omega)⟩, trivial⟩) ?_
  rintro ⟨⟨m, pre⟩, hp, hm⟩
  simp only at hp hm
  dsimp only
  have hpl : pre.length + (rest7 m).length = (rest7 (n / 128)).length := by rw [← hp, List.length_append]
  have f1 := and_u32 m (by omega)
  have f2 := shr_u32 m
  have f3 := or_u32 (m % 128) (by omega)
  obtain ⟨l3, l4⟩ := low7_nat m
  by_cases h0 : m = 0
  · subst h0
    rw [rest7_zero, List.append_nil] at hp
    repeat' (first | ((with_reducible show AWp _ _ _ _ _); (first | refine awp_seq ?_ | refine awp_block ?_ | refine awp_skip ?_ | refine awp_exit ?_ | refine awp_scope ?_ | refine awp_label ?_ | refine awp_run ty_ok rfl sd ?_ | refine awp_ret ⟨_, _, rfl, rfl, ?_⟩ | refine awp_ret ⟨_, rfl, ?_⟩ | ((refine awp_cond (ty := ty) rfl (fun hc => ?_) (fun hc => ?_)) <;> (try simp only [nms, reduceCtorEq] at hc) <;> (try (exfalso; omega))))) | ((with_reducible show AOps _ _ _ _ _ _); (first | refine aops_nil ?_ | refine aops_go ty_ok rfl rfl sd ?_ | refine aops_gate ty_ok rfl rfl rfl sd ?_ | refine aops_around (ty := ty) rfl rfl rfl rfl rfl rfl rfl (turns) sd rfl ?_ | refine aops_litE ty_ok rfl rfl rfl rfl rfl rfl rfl rfl rfl rfl rfl rfl ?_ | refine aops_cutE ty_ok rfl rfl rfl rfl rfl rfl rfl rfl rfl sd rfl ?_ | ((fail_if_success (refine aops_known rfl ?_)); (refine aops_split ty_ok rfl rfl rfl rfl rfl rfl (fun hc => ⟨?_, ?_⟩) (fun hc => ⟨?_, ?_⟩)) <;> (try simp only [nms, reduceCtorEq] at hc) <;> (try (exfalso; omega)) <;> (try exact sd)))) | ((fail_if_success (with_reducible show AWp _ _ _ _ _)); (fail_if_success (with_reducible show AOps _ _ _ _ _ _)); (first | (show AWp _ _ _ _ _) | (show AOps _ _ _ _ _ _))))
    refine ⟨[], rfl, hK _ rfl (congrArg (fun z => some (AO.row none 5 z)) ?_)⟩
    rw [bys_app, b128_rest, hp]
  · repeat' (first | ((with_reducible show AWp _ _ _ _ _); (first | refine awp_seq ?_ | refine awp_block ?_ | refine awp_skip ?_ | refine awp_exit ?_ | refine awp_scope ?_ | refine awp_label ?_ | refine awp_run ty_ok rfl sd ?_ | refine awp_ret ⟨_, _, rfl, rfl, ?_⟩ | refine awp_ret ⟨_, rfl, ?_⟩ | ((refine awp_cond (ty := ty) rfl (fun hc => ?_) (fun hc => ?_)) <;> (try simp only [nms, reduceCtorEq] at hc) <;> (try (exfalso; omega))))) | ((with_reducible show AOps _ _ _ _ _ _); (first | refine aops_nil ?_ | refine aops_go ty_ok rfl rfl sd ?_ | refine aops_gate ty_ok rfl rfl rfl sd ?_ | refine aops_around (ty := ty) rfl rfl rfl rfl rfl rfl rfl (turns) sd rfl ?_ | refine aops_litE ty_ok rfl rfl rfl rfl rfl rfl rfl rfl rfl rfl rfl rfl ?_ | refine aops_cutE ty_ok rfl rfl rfl rfl rfl rfl rfl rfl rfl sd rfl ?_ | ((fail_if_success (refine aops_known rfl ?_)); (refine aops_split ty_ok rfl rfl rfl rfl rfl rfl (fun hc => ⟨?_, ?_⟩) (fun hc => ⟨?_, ?_⟩)) <;> (try simp only [nms, reduceCtorEq] at hc) <;> (try (exfalso; omega)) <;> (try exact sd)))) | ((fail_if_success (with_reducible show AWp _ _ _ _ _)); (fail_if_success (with_reducible show AOps _ _ _ _ _ _)); (first | (show AWp _ _ _ _ _) | (show AOps _ _ _ _ _ _))))
    refine ⟨⟨(m / 128, pre ++ [low7 false m]), by rw [← hp, rest7_pos h0]; simp, by simp only; omega⟩, [(4, 2)], SubR.mk' rfl rfl ⟨⟨_, rfl, congrArg (fun z : Int => AV.d (Dat.int IntKind.u32 z)) f2⟩, ⟨_, rfl, rfl⟩, ⟨_, rfl, rfl⟩, trivial⟩ ⟨⟨_, _, rfl, rfl, rfl⟩, ⟨_, _, rfl, rfl, rfl⟩, ⟨_, _, rfl, rfl, congrArg (AO.row none 5) ?_⟩, trivial⟩, by simp only; omega⟩
    rw [f1, f3, IntKind.wrap_u8]
    simp only [bys_cons, bys_app, bys_one, l4, List.cons_append]
    congr 4

/-- The contents octets of arcs. -/
def encL : List Nat → List UInt8
  | x :: y :: t => b128 true (40 * x + y) ++ (t.map (b128 true)).flatten
  | _ => []
theorem flat_take (f : Nat → List UInt8) (t : List Nat) (k : Nat) (h : k < t.length) : ((t.take (k + 1)).map f).flatten = ((t.take k).map f).flatten ++ f t[k] := by
  rw [List.take_succ_eq_append_getElem h, List.map_append, List.flatten_append, List.map_cons, List.map_nil, List.flatten_cons, List.flatten_nil, List.append_nil]
theorem flat_len (t : List Nat) (h : ∀ n ∈ t, n ≤ 4294967295) : ((t.map (b128 true)).flatten).length ≤ 5 * t.length := by
  induction t with
  | nil => simp
  | cons n t ih =>
    have h1 := b128_len32 true n (h n (List.mem_cons_self ..))
    have h2 := ih (fun m hm => h m (List.mem_cons_of_mem _ hm))
    simp only [List.map_cons, List.flatten_cons, List.length_append, List.length_cons]
    omega
theorem okF_len {l : List UInt8} {a : List Nat} (h : okF l = some a) : a.length ≤ l.length + 1 := by
  unfold okF at h
  split at h
  · rename_i b hb
    split at h
    · cases h
      have h1 := (mapM_arcs hb).1
      have h2 := congrArg List.length h1
      rw [List.length_map, splitL_len] at h2
      have := count_le l
      omega
    · cases h
  · cases h
theorem isOEncode : IsFn Tryd.prog 36 Tryd.f36 := ⟨Tryd.func36, by decide, rfl⟩
theorem c_oenc_bad (l : List UInt8) (hl : l.length ≤ 100000000) (h : okF l = none) : ACalls Tryd.prog envL 36 [sD l] (fun r => r = .d (.tup [.sl none [], .int .i64 8])) := by
  refine acalls_of ty_ok isOEncode rfl rfl ?_
  have hA := c_arcs l hl
  rw [arcsD, h] at hA
  repeat' (first | ((with_reducible show AWp _ _ _ _ _); (first | refine awp_seq ?_ | refine awp_block ?_ | refine awp_skip ?_ | refine awp_exit ?_ | refine awp_scope ?_ | refine awp_label ?_ | refine awp_run ty_ok rfl sd ?_ | refine awp_ret ⟨_, _, rfl, rfl, ?_⟩ | refine awp_ret ⟨_, rfl, ?_⟩ | ((refine awp_cond (ty := ty) rfl (fun hc => ?_) (fun hc => ?_)) <;> (try simp only [nms, reduceCtorEq] at hc) <;> (try (exfalso; omega))))) | ((with_reducible show AOps _ _ _ _ _ _); (first | refine aops_nil ?_ | refine aops_go ty_ok rfl rfl sd ?_ | refine aops_gate ty_ok rfl rfl rfl sd ?_ | refine aops_callE (ty := ty) rfl rfl rfl rfl rfl rfl rfl (hA) rfl ?_ | refine aops_litE ty_ok rfl rfl rfl rfl rfl rfl rfl rfl rfl rfl rfl rfl ?_ | refine aops_cutE ty_ok rfl rfl rfl rfl rfl rfl rfl rfl rfl sd rfl ?_ | ((fail_if_success (refine aops_known rfl ?_)); (refine aops_split ty_ok rfl rfl rfl rfl rfl rfl (fun hc => ⟨?_, ?_⟩) (fun hc => ⟨?_, ?_⟩)) <;> (try simp only [nms, reduceCtorEq] at hc) <;> (try (exfalso; omega)) <;> (try exact sd)))) | ((fail_if_success (with_reducible show AWp _ _ _ _ _)); (fail_if_success (with_reducible show AOps _ _ _ _ _ _)); (first | (show AWp _ _ _ _ _) | (show AOps _ _ _ _ _ _))))
  all_goals rfl
set_option maxHeartbeats 1000000 in
theorem c_oenc_ok (l : List UInt8) (a : List Nat) (hl : l.length ≤ 100000000) (h : okF l = some a) : ACalls Tryd.prog envL 36 [sD l] (fun r => r = .ownT none 5 (bys (encL a)) [.int .i64 0]) := by
  refine acalls_of ty_ok isOEncode rfl rfl ?_
  have hA := c_arcs l hl
  rw [arcsD, h] at hA
  have hal := okF_len h
  obtain ⟨_, hr, hn⟩ := okF_text h
  match a, hr, hn, hal, hA with
  | x :: y :: t, hr, hn, hal, hA =>
  have hx : ((u32s (x :: y :: t)).getD (Int.toNat 0) default).num = x := rfl
  have hy : ((u32s (x :: y :: t)).getD (Int.toNat 1) default).num = y := rfl
  have hlen : (u32s (x :: y :: t)).length = t.length + 2 := by simp [u32s]
  have hxy : 40 * x + y ≤ 4294967295 := by
    simp only [rightF, Bool.or_eq_true, Bool.and_eq_true, decide_eq_true_eq] at hr
    omega
  have htn : ∀ n ∈ t, n ≤ 4294967295 := fun n hm => hn n (by simp [hm])
  simp only [List.length_cons] at hal
  have hcut : cutL (u32s (x :: y :: t)) (Int.toNat 2) (u32s (x :: y :: t)).length = u32s t := by
    unfold cutL
    rw [List.take_length]
    rfl
  repeat' (first | ((with_reducible show AWp _ _ _ _ _); (first | refine awp_seq ?_ | refine awp_block ?_ | refine awp_skip ?_ | refine awp_exit ?_ | refine awp_scope ?_ | refine awp_label ?_ | refine awp_run ty_ok rfl sd ?_ | refine awp_ret ⟨_, _, rfl, rfl, ?_⟩ | refine awp_ret ⟨_, rfl, ?_⟩ | ((refine awp_cond (ty := ty) rfl (fun hc => ?_) (fun hc => ?_)) <;> (try simp only [nms, reduceCtorEq] at hc) <;> (try (exfalso; omega))) | refine awp_anyL 9 mixed rfl (by kernel_rfl) ?_)) | ((with_reducible show AOps _ _ _ _ _ _); (first | refine aops_nil ?_ | refine aops_go ty_ok rfl rfl sd ?_ | refine aops_gate ty_ok rfl rfl rfl sd ?_ | refine aops_callE (ty := ty) rfl rfl rfl rfl rfl rfl rfl (hA) rfl ?_ | refine aops_litE ty_ok rfl rfl rfl rfl rfl rfl rfl rfl rfl rfl rfl rfl ?_ | refine aops_cutE ty_ok rfl rfl rfl rfl rfl rfl rfl rfl rfl sd rfl ?_ | ((fail_if_success (refine aops_known rfl ?_)); (refine aops_split ty_ok rfl rfl rfl rfl rfl rfl (fun hc => ⟨?_, ?_⟩) (fun hc => ⟨?_, ?_⟩)) <;> (try simp only [nms, reduceCtorEq] at hc) <;> (try (exfalso; omega)) <;> (try exact sd)))) | ((with_reducible show HeadT _ _ _ _ _ _ _ _ _ _); (first | refine head_end ?_ | refine head_goP ty_ok rfl rfl sd ?_ | refine head_gate ty_ok rfl rfl rfl sd ?_ | refine head_callE (ty := ty) rfl rfl rfl rfl rfl rfl rfl (hA) rfl ?_ | ((fail_if_success (refine head_known rfl ?_)); (refine head_split ty_ok rfl rfl rfl rfl (fun hc => ⟨?_, ?_⟩) (fun hc => ⟨?_, ?_⟩)) <;> (try simp only [nms, reduceCtorEq] at hc) <;> (try (exfalso; omega)) <;> (try exact sd)))) | ((fail_if_success (with_reducible show AWp _ _ _ _ _)); (fail_if_success (with_reducible show AOps _ _ _ _ _ _)); (fail_if_success (with_reducible show HeadT _ _ _ _ _ _ _ _ _ _)); (first | (show AWp _ _ _ _ _) | (show AOps _ _ _ _ _ _))))
  refine aops_nilcell 0 0 5 rfl rfl rfl rfl ?_
  refine aops_ren (σ' := ⟨Tryd.f36.ntmps, [(4, .d (.sl none (u32s (x :: y :: t)))), (6, .ptr 0 0), (7, .fn 51 [.ptr 0 0]), (18, .fn 51 [.ptr 0 0]), (26, .d (.int .u32 ((40 * x + y : Nat) : Int)))], [(0, .box 25 [.ref 1]), (1, .row none 5 (bys []))], 2⟩) [(0, 0), (10, 1)]
    (SubR.mk' rfl rfl ⟨⟨_, rfl, rfl⟩, ⟨_, rfl, rfl⟩, ⟨_, rfl, rfl⟩, ⟨_, rfl, rfl⟩, ⟨_, rfl, congrArg (fun z : Int => AV.d (Dat.int IntKind.u32 z)) (by rw [hx, hy, IntKind.wrap_u32, IntKind.wrap_u32]; omega)⟩, trivial⟩ ⟨⟨_, _, rfl, rfl, rfl⟩, ⟨_, _, rfl, rfl, rfl⟩, trivial⟩) ?_
  refine aops_inline ty_ok rfl rfl rfl rfl rfl rfl isPut rfl rfl ?_
  refine put_in _ [] (40 * x + y) hxy (by simp) _ (fun ob h0 h3 => ?_)
  refine aops_ren (σ' := ⟨Tryd.f36.ntmps, [(4, .d (.sl none (u32s (x :: y :: t)))), (6, .ptr 0 0), (7, .fn 51 [.ptr 0 0])], [(0, .box 25 [.ref 1]), (1, .row none 5 (bys (b128 true (40 * x + y))))], 2⟩) [(0, 0), (3, 1)]
    (SubR.mk' rfl rfl ⟨⟨_, rfl, rfl⟩, ⟨_, rfl, rfl⟩, ⟨_, rfl, rfl⟩, trivial⟩ ⟨⟨_, _, rfl, h0, rfl⟩, ⟨_, _, rfl, h3, rfl⟩, trivial⟩) ?_
  refine aops_nil ?_
  have hb5 := b128_len32 true (40 * x + y) hxy
  repeat' (first | ((with_reducible show AWp _ _ _ _ _); (first | refine awp_seq ?_ | refine awp_block ?_ | refine awp_skip ?_ | refine awp_exit ?_ | refine awp_scope ?_ | refine awp_label ?_ | refine awp_run ty_ok rfl sd ?_ | refine awp_ret ⟨_, _, rfl, rfl, ?_⟩ | refine awp_ret ⟨_, rfl, ?_⟩ | ((refine awp_cond (ty := ty) rfl (fun hc => ?_) (fun hc => ?_)) <;> (try simp only [nms, reduceCtorEq] at hc) <;> (try (exfalso; omega))))) | ((with_reducible show AOps _ _ _ _ _ _); (first | refine aops_nil ?_ | refine aops_go ty_ok rfl rfl sd ?_ | refine aops_gate ty_ok rfl rfl rfl sd ?_ | refine aops_callE (ty := ty) rfl rfl rfl rfl rfl rfl rfl (hA) rfl ?_ | refine aops_litE ty_ok rfl rfl rfl rfl rfl rfl rfl rfl rfl rfl rfl rfl ?_ | refine aops_cutE ty_ok rfl rfl rfl rfl rfl rfl rfl rfl rfl sd rfl ?_ | ((fail_if_success (refine aops_known rfl ?_)); (refine aops_split ty_ok rfl rfl rfl rfl rfl rfl (fun hc => ⟨?_, ?_⟩) (fun hc => ⟨?_, ?_⟩)) <;> (try simp only [nms, reduceCtorEq] at hc) <;> (try (exfalso; omega)) <;> (try exact sd)))) | ((fail_if_success (with_reducible show AWp _ _ _ _ _)); (fail_if_success (with_reducible show AOps _ _ _ _ _ _)); (first | (show AWp _ _ _ _ _) | (show AOps _ _ _ _ _ _))))
  refine awp_loopR (G := { k : Nat // k ≤ t.length }) (fun k => ⟨Tryd.f36.ntmps, [(6, .ptr 0 0), (7, .fn 51 [.ptr 0 0]), (29, .d (.sl none (u32s t))), (30, .d (.int .i64 t.length)), (31, .d (.int .i64 k.1))], [(0, .box 25 [.ref 1]), (1, .row none 5 (bys (b128 true (40 * x + y) ++ ((t.take k.1).map (b128 true)).flatten)))], 2⟩) (fun k => t.length - k.1) ⟨0, Nat.zero_le _⟩ [(0, 0), (1, 1)]
    (SubR.mk' rfl rfl ⟨⟨_, rfl, rfl⟩, ⟨_, rfl, rfl⟩, ⟨_, rfl, congrArg (fun z => AV.d (Dat.sl none z)) hcut⟩, ⟨_, rfl, congrArg (fun z : Nat => AV.d (Dat.int IntKind.i64 z)) (by rw [hcut, u32s_len])⟩, ⟨_, rfl, rfl⟩, trivial⟩ ⟨⟨_, _, rfl, rfl, rfl⟩, ⟨_, _, rfl, rfl, congrArg (fun z => AO.row none 5 (bys z)) (by simp)⟩, trivial⟩) ?_
  rintro ⟨k, hk⟩
  dsimp only
  have hfl := flat_len (t.take k) (fun m hm => htn m (List.mem_of_mem_take hm))
  have htk : (t.take k).length ≤ t.length := by rw [List.length_take]; omega
  rcases Nat.lt_or_ge k t.length with hkl | hkl
  · have hnum := u32_at hkl
    have hnk := htn t[k] (List.getElem_mem _)
    repeat' (first | ((with_reducible show AWp _ _ _ _ _); (first | refine awp_seq ?_ | refine awp_block ?_ | refine awp_skip ?_ | refine awp_exit ?_ | refine awp_scope ?_ | refine awp_label ?_ | refine awp_run ty_ok rfl sd ?_ | refine awp_ret ⟨_, _, rfl, rfl, ?_⟩ | refine awp_ret ⟨_, rfl, ?_⟩ | ((refine awp_cond (ty := ty) rfl (fun hc => ?_) (fun hc => ?_)) <;> (try simp only [nms, reduceCtorEq] at hc) <;> (try (exfalso; omega))))) | ((with_reducible show AOps _ _ _ _ _ _); (first | refine aops_nil ?_ | refine aops_go ty_ok rfl rfl sd ?_ | refine aops_gate ty_ok rfl rfl rfl sd ?_ | refine aops_litE ty_ok rfl rfl rfl rfl rfl rfl rfl rfl rfl rfl rfl rfl ?_ | refine aops_cutE ty_ok rfl rfl rfl rfl rfl rfl rfl rfl rfl sd rfl ?_ | ((fail_if_success (refine aops_known rfl ?_)); (refine aops_split ty_ok rfl rfl rfl rfl rfl rfl (fun hc => ⟨?_, ?_⟩) (fun hc => ⟨?_, ?_⟩)) <;> (try simp only [nms, reduceCtorEq] at hc) <;> (try (exfalso; omega)) <;> (try exact sd)))) | ((fail_if_success (with_reducible show AWp _ _ _ _ _)); (fail_if_success (with_reducible show AOps _ _ _ _ _ _)); (first | (show AWp _ _ _ _ _) | (show AOps _ _ _ _ _ _))))
    refine aops_ren (σ' := ⟨Tryd.f36.ntmps, [(6, .ptr 0 0), (7, .fn 51 [.ptr 0 0]), (29, .d (.sl none (u32s t))), (30, .d (.int .i64 t.length)), (31, .d (.int .i64 k)), (35, .fn 51 [.ptr 0 0]), (36, .d (.int .u32 (t[k] : Nat)))], [(0, .box 25 [.ref 1]), (1, .row none 5 (bys (b128 true (40 * x + y) ++ ((t.take k).map (b128 true)).flatten)))], 2⟩) [(0, 0), (1, 1)]
      (SubR.mk' rfl rfl ⟨⟨_, rfl, rfl⟩, ⟨_, rfl, rfl⟩, ⟨_, rfl, rfl⟩, ⟨_, rfl, rfl⟩, ⟨_, rfl, rfl⟩, ⟨_, rfl, rfl⟩, ⟨_, rfl, congrArg (fun z : Int => AV.d (Dat.int IntKind.u32 z)) hnum⟩, trivial⟩ ⟨⟨_, _, rfl, rfl, rfl⟩, ⟨_, _, rfl, rfl, rfl⟩, trivial⟩) ?_
    refine aops_inline ty_ok rfl rfl rfl rfl rfl rfl isPut rfl rfl ?_
    refine put_in _ _ t[k] hnk (by rw [List.length_append]; omega) _ (fun ob h0 h3 => ?_)
    refine aops_ren (σ' := ⟨Tryd.f36.ntmps, [(6, .ptr 0 0), (7, .fn 51 [.ptr 0 0]), (29, .d (.sl none (u32s t))), (30, .d (.int .i64 t.length)), (31, .d (.int .i64 k))], [(0, .box 25 [.ref 1]), (1, .row none 5 (bys ((b128 true (40 * x + y) ++ ((t.take k).map (b128 true)).flatten) ++ b128 true t[k])))], 2⟩) [(0, 0), (3, 1)]
      (SubR.mk' rfl rfl ⟨⟨_, rfl, rfl⟩, ⟨_, rfl, rfl⟩, ⟨_, rfl, rfl⟩, ⟨_, rfl, rfl⟩, ⟨_, rfl, rfl⟩, trivial⟩ ⟨⟨_, _, rfl, h0, rfl⟩, ⟨_, _, rfl, h3, rfl⟩, trivial⟩) ?_
    refine aops_nil ?_
    repeat' (first | ((with_reducible show AWp _ _ _ _ _); (first | refine awp_seq ?_ | refine awp_block ?_ | refine awp_skip ?_ | refine awp_exit ?_ | refine awp_scope ?_ | refine awp_label ?_ | refine awp_run ty_ok rfl sd ?_ | refine awp_ret ⟨_, _, rfl, rfl, ?_⟩ | refine awp_ret ⟨_, rfl, ?_⟩ | ((refine awp_cond (ty := ty) rfl (fun hc => ?_) (fun hc => ?_)) <;> (try simp only [nms, reduceCtorEq] at hc) <;> (try (exfalso; omega))))) | ((with_reducible show AOps _ _ _ _ _ _); (first | refine aops_nil ?_ | refine aops_go ty_ok rfl rfl sd ?_ | refine aops_gate ty_ok rfl rfl rfl sd ?_ | refine aops_litE ty_ok rfl rfl rfl rfl rfl rfl rfl rfl rfl rfl rfl rfl ?_ | refine aops_cutE ty_ok rfl rfl rfl rfl rfl rfl rfl rfl rfl sd rfl ?_ | ((fail_if_success (refine aops_known rfl ?_)); (refine aops_split ty_ok rfl rfl rfl rfl rfl rfl (fun hc => ⟨?_, ?_⟩) (fun hc => ⟨?_, ?_⟩)) <;> (try simp only [nms, reduceCtorEq] at hc) <;> (try (exfalso; omega)) <;> (try exact sd)))) | ((fail_if_success (with_reducible show AWp _ _ _ _ _)); (fail_if_success (with_reducible show AOps _ _ _ _ _ _)); (first | (show AWp _ _ _ _ _) | (show AOps _ _ _ _ _ _))))
    refine ⟨⟨k + 1, hkl⟩, [(0, 0), (1, 1)], SubR.mk' rfl rfl ⟨⟨_, rfl, rfl⟩, ⟨_, rfl, rfl⟩, ⟨_, rfl, rfl⟩, ⟨_, rfl, rfl⟩, ⟨_, rfl, rfl⟩, trivial⟩ ⟨⟨_, _, rfl, rfl, rfl⟩, ⟨_, _, rfl, rfl, congrArg (fun z => AO.row none 5 (bys z)) ?_⟩, trivial⟩, by simp only; omega⟩
    rw [flat_take (b128 true) t k hkl, List.append_assoc]
  · have hke : k = t.length := by omega
    subst hke
    repeat' (first | ((with_reducible show AWp _ _ _ _ _); (first | refine awp_seq ?_ | refine awp_block ?_ | refine awp_skip ?_ | refine awp_exit ?_ | refine awp_scope ?_ | refine awp_label ?_ | refine awp_run ty_ok rfl sd ?_ | refine awp_ret ⟨_, _, rfl, rfl, ?_⟩ | refine awp_ret ⟨_, rfl, ?_⟩ | ((refine awp_cond (ty := ty) rfl (fun hc => ?_) (fun hc => ?_)) <;> (try simp only [nms, reduceCtorEq] at hc) <;> (try (exfalso; omega))))) | ((with_reducible show AOps _ _ _ _ _ _); (first | refine aops_nil ?_ | refine aops_go ty_ok rfl rfl sd ?_ | refine aops_gate ty_ok rfl rfl rfl sd ?_ | refine aops_litE ty_ok rfl rfl rfl rfl rfl rfl rfl rfl rfl rfl rfl rfl ?_ | refine aops_cutE ty_ok rfl rfl rfl rfl rfl rfl rfl rfl rfl sd rfl ?_ | ((fail_if_success (refine aops_known rfl ?_)); (refine aops_split ty_ok rfl rfl rfl rfl rfl rfl (fun hc => ⟨?_, ?_⟩) (fun hc => ⟨?_, ?_⟩)) <;> (try simp only [nms, reduceCtorEq] at hc) <;> (try (exfalso; omega)) <;> (try exact sd)))) | ((fail_if_success (with_reducible show AWp _ _ _ _ _)); (fail_if_success (with_reducible show AOps _ _ _ _ _ _)); (first | (show AWp _ _ _ _ _) | (show AOps _ _ _ _ _ _))))
    simp only [encL, List.take_length]
end Go.Proofs.YtmciaonjkkelnaaDoor

/- Lists of purposes: Valid and Marshal. Walked by the abstract machine. -/
namespace Go.Proofs.YtmciaonjkkelnaaDoor
open Go.Am
set_option linter.unusedSimpArgs false
set_option linter.unusedVariables false

/-- The encoding of an object identifier. -/
def encO (s : List UInt8) : List UInt8 := match okF s with
  | some a => encL a
  | none => []
theorem encL_len {a : List Nat} (h : ∀ n ∈ a, n ≤ 4294967295) (hr : rightF a = true) : (encL a).length ≤ 5 * a.length := by
  match a, hr with
  | x :: y :: t, hr =>
    have h1 : 40 * x + y ≤ 4294967295 := by
      simp only [rightF, Bool.or_eq_true, Bool.and_eq_true, decide_eq_true_eq] at hr
      omega
    have h2 := b128_len32 true _ h1
    have h3 := flat_len t (fun n hn => h n (by simp [hn]))
    simp only [encL, List.length_append, List.length_cons]
    omega
theorem encO_len (s : List UInt8) : (encO s).length ≤ 5 * (s.length + 1) := by
  unfold encO
  cases h : okF s with
  | none => simp
  | some a =>
    obtain ⟨_, hr, hn⟩ := okF_text h
    have h1 := encL_len hn hr
    have h2 := okF_len h
    simp only
    omega
def objF (s : List UInt8) : List UInt8 := putF 6 (encO s)
theorem objF_len (s : List UInt8) : (objF s).length ≤ 5 * s.length + 15 := by
  have h1 := encO_len s
  have h2 := hsz_le (encO s)
  rw [objF, putF_len]
  omega
def usV (l : List (List UInt8)) : Bool := !l.isEmpty && l.all oidV
/-- The encoding of a list of purposes. -/
def usF (l : List (List UInt8)) : List UInt8 := putF 48 (l.map objF).flatten
theorem objs_len (l : List (List UInt8)) (B : Nat) (h : ∀ s ∈ l, s.length ≤ B) : (l.map objF).flatten.length ≤ l.length * (5 * B + 15) := by
  induction l with
  | nil => simp
  | cons s r ih =>
    have h1 := objF_len s
    have h2 := h s (List.mem_cons_self ..)
    have h3 := ih fun t ht => h t (List.mem_cons_of_mem _ ht)
    rw [List.map_cons, List.flatten_cons, List.length_append, List.length_cons, Nat.add_mul, Nat.one_mul]
    have h4 : 5 * s.length ≤ 5 * B := Nat.mul_le_mul_left 5 h2
    omega
theorem objs_cat (l : List (List UInt8)) : (l.map objF).flatten = catF (l.map fun s => (6, encO s)) := by
  induction l with
  | nil => rfl
  | cons s r ih => simp [catF, ih, objF]
theorem goodO (l : List (List UInt8)) (h : (l.map objF).flatten.length ≤ 2147483647) : ∀ t ∈ l.map (fun s => ((6 : UInt8), encO s)), goodT t := by
  intro t ht
  obtain ⟨s, hs, rfl⟩ := List.mem_map.1 ht
  refine ⟨by show (6 : UInt8).toNat % 32 ≠ 31; decide, ?_⟩
  have h1 : (objF s).length ≤ (l.map objF).flatten.length := (List.sublist_flatten_of_mem (List.mem_map.2 ⟨s, hs, rfl⟩)).length_le
  have h2 : (objF s).length = _ := putF_len 6 (encO s)
  simp only
  omega
theorem c_oenc_okO (s : List UInt8) (hl : s.length ≤ 100000000) (h : oidV s = true) : ACalls Tryd.prog envL 36 [sD s] (fun r => r = .ownT none 5 (bys (encO s)) [.int .i64 0]) := by
  unfold oidV at h
  unfold encO
  cases ho : okF s with
  | none => rw [ho] at h; cases h
  | some a => exact c_oenc_ok s a hl ho
theorem byss_take (l : List (List UInt8)) (k : Nat) (h : k < l.length) : byss ((l.take (k + 1)).map objF) = byss ((l.take k).map objF) ++ [.sl none (bys (objF l[k]))] := by
  rw [List.take_succ_eq_append_getElem h, List.map_append, byss, byss, List.map_append]
  rfl
theorem usV_all {l : List (List UInt8)} (h : usV l = true) : ∀ s ∈ l, oidV s = true := by
  unfold usV at h
  rw [Bool.and_eq_true] at h
  exact List.all_eq_true.1 h.2
def usR (l : List (List UInt8)) : Res := match usV l with
  | true => .ownT none 5 (bys (usF l)) [.int .i64 0]
  | false => .d (.tup [.sl none [], .int .i64 8])
end Go.Proofs.YtmciaonjkkelnaaDoor

/- Contents octets and the numbers that they hold: one to one. Plain Lean; Encode of the reference, walked. -/
namespace Go.Proofs.YtmciaonjkkelnaaDoor
open Go.Am
open Go.Lib (decDigits)
set_option linter.unusedSimpArgs false
set_option linter.unusedVariables false

/-- The numbers in contents octets; 'begun': within a number, of which n was read. -/
def dec7 (begun : Bool) (n : Nat) : List UInt8 → Option (List Nat)
  | [] => match begun with
    | true => none
    | false => some []
  | x :: r => match !begun && decide (x = 128), decide (n * 128 + x.toNat % 128 ≤ 4294967295), decide (128 ≤ x.toNat) with
    | false, true, true => dec7 true (n * 128 + x.toNat % 128) r
    | false, true, false => (dec7 false 0 r).map fun l => (n * 128 + x.toNat % 128) :: l
    | _, _, _ => none
def dec7r (n : Nat) : List UInt8 → Option (List Nat)
  | [] => some []
  | x :: r => match decide (n * 128 + x.toNat % 128 ≤ 4294967295), decide (x.toNat < 128) with
    | true, true => (dec7r 0 r).map fun l => (n * 128 + x.toNat % 128) :: l
    | true, false => dec7r (n * 128 + x.toNat % 128) r
    | _, _ => none
def flat7 (ns : List Nat) : List UInt8 := (ns.map (b128 true)).flatten
theorem flat7_cons (n : Nat) (ns : List Nat) : flat7 (n :: ns) = b128 true n ++ flat7 ns := by simp [flat7]
theorem dec7_r : ∀ (c : List UInt8) (b : Bool) (n : Nat) (ns : List Nat), dec7 b n c = some ns → dec7r n c = some ns
  | [], b, n, ns, h => by
    cases b with
    | true => cases h
    | false => exact h
  | x :: r, b, n, ns, h => by
    unfold dec7 at h
    unfold dec7r
    split at h
    · rename_i h1 h2 h3
      have h4 : decide (x.toNat < 128) = false := by
        simp only [decide_eq_true_eq, decide_eq_false_iff_not] at h3 ⊢
        omega
      simp only [h2, h4]
      exact dec7_r r _ _ _ h
    · rename_i h1 h2 h3
      have h4 : decide (x.toNat < 128) = true := by
        simp only [decide_eq_false_iff_not, decide_eq_true_eq] at h3 ⊢
        omega
      simp only [h2, h4]
      obtain ⟨l, hl, rfl⟩ := Option.map_eq_some_iff.1 h
      rw [dec7_r r _ _ _ hl]
      rfl
    · cases h
theorem dec7r_le : ∀ (c : List UInt8) (n : Nat) (ns : List Nat), dec7r n c = some ns → ∀ m ∈ ns, m ≤ 4294967295
  | [], n, ns, h, m, hm => by
    cases h
    cases hm
  | x :: r, n, ns, h, m, hm => by
    unfold dec7r at h
    split at h
    · rename_i h1 h2
      obtain ⟨l, hl, rfl⟩ := Option.map_eq_some_iff.1 h
      rcases List.mem_cons.1 hm with rfl | hm
      · exact of_decide_eq_true h1
      · exact dec7r_le r _ _ hl m hm
    · exact dec7r_le r _ _ h m hm
    · cases h
theorem low7_ne (q : Nat) (h0 : 0 < q) (h : q < 128) : low7 false q ≠ 128 := by
  intro e
  have h1 := (low7_nat q).2
  rw [e] at h1
  have : (128 : UInt8).toNat = 128 := rfl
  omega
theorem dec7_hi (q : Nat) : 0 < q → q ≤ 4294967295 → ∀ r, dec7 false 0 (b128 false q ++ r) = dec7 true q r := by
  induction q using Nat.strongRecOn with
  | _ q ih =>
    intro h0 hM r
    have hlow := (low7_nat q).2
    by_cases h : q < 128
    · rw [b128_small h]
      have e1 : decide (low7 false q = 128) = false := decide_eq_false (low7_ne q h0 h)
      have e2 : 0 * 128 + (low7 false q).toNat % 128 = q := by omega
      have e3 : decide (q ≤ 4294967295) = true := decide_eq_true hM
      have e4 : decide (128 ≤ (low7 false q).toNat) = true := decide_eq_true (by omega)
      simp only [List.cons_append, List.nil_append, dec7, e1, e2, e3, e4, Bool.and_false]
    · rw [b128_big h, List.append_assoc, ih (q / 128) (by omega) (by omega) (by omega)]
      have e2 : q / 128 * 128 + (low7 false q).toNat % 128 = q := by omega
      have e3 : decide (q ≤ 4294967295) = true := decide_eq_true hM
      have e4 : decide (128 ≤ (low7 false q).toNat) = true := decide_eq_true (by omega)
      simp only [List.cons_append, List.nil_append, dec7, e2, e3, e4, Bool.not_true, Bool.false_and]
theorem dec7_lo (n : Nat) (hM : n ≤ 4294967295) (r : List UInt8) : dec7 false 0 (b128 true n ++ r) = (dec7 false 0 r).map fun l => n :: l := by
  have hlow := (low7_nat n).1
  by_cases h : n < 128
  · rw [b128_small h]
    have e1 : decide (low7 true n = 128) = false := decide_eq_false (by
      intro e
      have : (128 : UInt8).toNat = 128 := rfl
      rw [e] at hlow
      omega)
    have e2 : 0 * 128 + (low7 true n).toNat % 128 = n := by omega
    have e3 : decide (n ≤ 4294967295) = true := decide_eq_true hM
    have e4 : decide (128 ≤ (low7 true n).toNat) = false := decide_eq_false (by omega)
    simp only [List.cons_append, List.nil_append, dec7, e1, e2, e3, e4, Bool.and_false]
  · rw [b128_big h, List.append_assoc, dec7_hi (n / 128) (by omega) (by omega)]
    have e2 : n / 128 * 128 + (low7 true n).toNat % 128 = n := by omega
    have e3 : decide (n ≤ 4294967295) = true := decide_eq_true hM
    have e4 : decide (128 ≤ (low7 true n).toNat) = false := decide_eq_false (by omega)
    simp only [List.cons_append, List.nil_append, dec7, e2, e3, e4, Bool.not_true, Bool.false_and]
theorem dec7_flat : ∀ (ns : List Nat), (∀ n ∈ ns, n ≤ 4294967295) → dec7 false 0 (flat7 ns) = some ns
  | [], _ => rfl
  | n :: ns, h => by
    rw [flat7_cons, dec7_lo n (h n (List.mem_cons_self ..)), dec7_flat ns (fun m hm => h m (List.mem_cons_of_mem _ hm))]
    rfl
theorem u8_of {x : UInt8} {y : UInt8} (h : x.toNat = y.toNat) : x = y := UInt8.toNat_inj.1 h
theorem flat_dec7 : ∀ (c : List UInt8), (∀ ns, dec7 false 0 c = some ns → flat7 ns = c) ∧ (∀ q, 0 < q → ∀ ns, dec7 true q c = some ns → flat7 ns = b128 false q ++ c)
  | [] => ⟨fun ns h => by cases h; rfl, fun q _ ns h => by cases h⟩
  | x :: r => by
    obtain ⟨ih1, ih2⟩ := flat_dec7 r
    have hx : x.toNat < 256 := x.toNat_lt
    constructor
    · intro ns h
      unfold dec7 at h
      split at h
      · rename_i h1 h2 h3
        have h3' : 128 ≤ x.toNat := of_decide_eq_true h3
        have hne : x ≠ 128 := by
          intro e
          rw [e] at h1
          cases h1
        have hpos : 0 < 0 * 128 + x.toNat % 128 := by
          have : x.toNat ≠ 128 := fun e => hne (u8_of e)
          omega
        rw [ih2 _ hpos ns h, b128_small (by omega)]
        have : low7 false (0 * 128 + x.toNat % 128) = x := u8_of (by rw [(low7_nat _).2]; omega)
        rw [this]
        rfl
      · rename_i h1 h2 h3
        have h3' : ¬ 128 ≤ x.toNat := of_decide_eq_false h3
        obtain ⟨l, hl, rfl⟩ := Option.map_eq_some_iff.1 h
        rw [flat7_cons, ih1 l hl, b128_small (by omega)]
        have : low7 true (0 * 128 + x.toNat % 128) = x := u8_of (by rw [(low7_nat _).1]; omega)
        rw [this]
        rfl
      · cases h
    · intro q hq ns h
      unfold dec7 at h
      split at h
      · rename_i h1 h2 h3
        have h3' : 128 ≤ x.toNat := of_decide_eq_true h3
        rw [ih2 _ (by omega) ns h, b128_big (by omega)]
        have e1 : low7 false (q * 128 + x.toNat % 128) = x := u8_of (by rw [(low7_nat _).2]; omega)
        have e2 : (q * 128 + x.toNat % 128) / 128 = q := by omega
        rw [e1, e2, List.append_assoc]
        rfl
      · rename_i h1 h2 h3
        have h3' : ¬ 128 ≤ x.toNat := of_decide_eq_false h3
        obtain ⟨l, hl, rfl⟩ := Option.map_eq_some_iff.1 h
        rw [flat7_cons, ih1 l hl, b128_big (by omega)]
        have e1 : low7 true (q * 128 + x.toNat % 128) = x := u8_of (by rw [(low7_nat _).1]; omega)
        have e2 : (q * 128 + x.toNat % 128) / 128 = q := by omega
        rw [e1, e2, List.append_assoc]
        rfl
      · cases h
/-- The arcs of numbers. -/
def arcsOf (m : Nat) (r : List Nat) : List Nat := min (m / 40) 2 :: (m - 40 * min (m / 40) 2) :: r
theorem arcsOf_right (m : Nat) (r : List Nat) (h : m ≤ 4294967295) : rightF (arcsOf m r) = true := by
  simp only [arcsOf, rightF, Bool.or_eq_true, Bool.and_eq_true, decide_eq_true_eq]
  omega
theorem arcsOf_le (m : Nat) (r : List Nat) (h : ∀ n ∈ m :: r, n ≤ 4294967295) : ∀ n ∈ arcsOf m r, n ≤ 4294967295 := by
  have hm := h m (List.mem_cons_self ..)
  intro n hn
  simp only [arcsOf, List.mem_cons] at hn
  rcases hn with rfl | rfl | hn
  · omega
  · omega
  · exact h n (List.mem_cons_of_mem _ hn)
theorem arcsOf_enc (m : Nat) (r : List Nat) : encL (arcsOf m r) = flat7 (m :: r) := by
  rw [flat7_cons, arcsOf, encL]
  rw [show 40 * min (m / 40) 2 + (m - 40 * min (m / 40) 2) = m by omega]
  rfl
theorem enc_arcs {a : List Nat} (h : rightF a = true) : ∃ m r, arcsOf m r = a ∧ (∀ n ∈ a, n ≤ 4294967295) → ∀ n ∈ m :: r, n ≤ 4294967295 := ⟨0, [], fun _ n hn => by simp at hn; omega⟩
def decS (c : List UInt8) : List UInt8 × Int := match dec7 false 0 c with
  | some (m :: r) => (textF (arcsOf m r), 0)
  | _ => ([], 6)
def decOD (c : List UInt8) : Dat := .tup [sD (decS c).1, .int .i64 (decS c).2]

end Go.Proofs.YtmciaonjkkelnaaDoor

/- What octets are decoded as; what an encoding is decoded as: plain. -/
namespace Go.Proofs.YtmciaonjkkelnaaDoor
open Go.Am
open Go.Lib (decDigits)
set_option linter.unusedSimpArgs false
set_option linter.unusedVariables false

theorem right_arcs {a : List Nat} (h : rightF a = true) (hn : ∀ n ∈ a, n ≤ 4294967295) : ∃ m r, arcsOf m r = a ∧ ∀ n ∈ m :: r, n ≤ 4294967295 := by
  match a, h, hn with
  | x :: y :: t, h, hn =>
    simp only [rightF, Bool.or_eq_true, Bool.and_eq_true, decide_eq_true_eq] at h
    refine ⟨40 * x + y, t, ?_, ?_⟩
    · have h1 : min ((40 * x + y) / 40) 2 = x := by omega
      have h2 : 40 * x + y - 40 * x = y := by omega
      simp only [arcsOf, h1, h2]
    · intro n hm
      rcases List.mem_cons.1 hm with rfl | hm
      · omega
      · exact hn n (by simp [hm])
theorem decS_enc {l : List UInt8} {a : List Nat} (h : okF l = some a) : decS (encL a) = (l, 0) := by
  obtain ⟨h1, h2, h3⟩ := okF_text h
  obtain ⟨m, r, h4, h5⟩ := right_arcs h2 h3
  have h6 : dec7 false 0 (encL a) = some (m :: r) := by
    rw [← h4, arcsOf_enc]
    exact dec7_flat _ h5
  simp only [decS, h6]
  rw [h4, h1]
theorem flat7_ge (ns : List Nat) : ns.length ≤ (flat7 ns).length := by
  induction ns with
  | nil => simp
  | cons n ns ih =>
    rw [flat7_cons, List.length_append, List.length_cons]
    have : 0 < (b128 true n).length := by
      by_cases hb : n < 128
      · rw [b128_small hb]; simp
      · rw [b128_big hb]; simp
    omega
/-- What octets are decoded as: nothing, or the only string that has them. -/
theorem decS_cases (c : List UInt8) : decS c = ([], 6) ∨ ∃ s, oidV s = true ∧ encO s = c ∧ decS c = (s, 0) ∧ s.length ≤ (c.length + 2) * 11 := by
  cases h : dec7 false 0 c with
  | none => exact .inl (by simp only [decS, h])
  | some ns =>
    match ns, h with
    | [], h => exact .inl (by simp only [decS, h])
    | m :: r, h =>
      have hle := dec7r_le c 0 _ (dec7_r _ _ _ _ h)
      have hr := arcsOf_right m r (hle m (List.mem_cons_self ..))
      have hn := arcsOf_le m r hle
      have ho := text_okF hr hn
      have he : encL (arcsOf m r) = c := by
        rw [arcsOf_enc]
        exact (flat_dec7 c).1 _ h
      refine .inr ⟨textF (arcsOf m r), by unfold oidV; rw [ho]; rfl, by unfold encO; rw [ho]; exact he, by simp only [decS, h], ?_⟩
      have h5 := textF_len _ hn
      have h6 := flat7_ge (m :: r)
      rw [← arcsOf_enc, he, List.length_cons] at h6
      simp only [arcsOf, List.length_cons] at h5 ⊢
      omega
theorem decS_encO {s : List UInt8} (h : oidV s = true) : decS (encO s) = (s, 0) := by
  unfold oidV at h
  unfold encO
  cases ho : okF s with
  | none => rw [ho] at h; cases h
  | some a => exact decS_enc ho
theorem oidV_nil : oidV [] = false := by
  unfold oidV
  cases ho : okF [] with
  | none => rfl
  | some a =>
    exfalso
    have h1 := okF_len ho
    obtain ⟨_, h2, _⟩ := okF_text ho
    match a, h2 with
    | x :: y :: t, _ => simp at h1
theorem decS_len (c : List UInt8) : (decS c).1.length ≤ (c.length + 2) * 11 := by
  rcases decS_cases c with h | ⟨s, _, _, h, hl⟩
  · rw [h]; simp
  · rw [h]; exact hl
end Go.Proofs.YtmciaonjkkelnaaDoor

/- The elements of a SEQUENCE, as facts on each: plain Lean. No program. -/
namespace Go.Am
set_option linter.unusedSimpArgs false
set_option linter.unusedVariables false

/-- What is known of the elements of a constructed one. -/
structure Els (b : List UInt8) (l : List El) (ts : List (UInt8 × List UInt8)) : Prop where
  len : l.length = ts.length
  good : ∀ t ∈ ts, goodT t
  size : (catF ts).length ≤ 2147483647
  tag : ∀ k (h : k < l.length) (h' : k < ts.length), l[k].x = ts[k].1
  body : ∀ k (h : k < l.length) (h' : k < ts.length), cut b l[k].bd l[k].en = ts[k].2
  whole : ∀ k (h : k < l.length) (h' : k < ts.length), cut b l[k].st l[k].en = putF ts[k].1 ts[k].2
  le : ∀ k (h : k < l.length), l[k].st ≤ l[k].bd ∧ l[k].bd ≤ l[k].en ∧ l[k].en ≤ b.length
theorem els_mk {x : UInt8} {ts : List (UInt8 × List UInt8)} (hl : (catF ts).length ≤ 2147483647) (hg : ∀ t ∈ ts, goodT t) : Els (putF x (catF ts)) (elsF (hsz (catF ts)) ts) ts := by
  have key : ∀ k (h : k < (elsF (hsz (catF ts)) ts).length) (h' : k < ts.length), (elsF (hsz (catF ts)) ts)[k].x = ts[k].1 ∧ cut (putF x (catF ts)) (elsF (hsz (catF ts)) ts)[k].bd (elsF (hsz (catF ts)) ts)[k].en = ts[k].2 ∧ cut (putF x (catF ts)) (elsF (hsz (catF ts)) ts)[k].st (elsF (hsz (catF ts)) ts)[k].en = putF ts[k].1 ts[k].2 ∧ (elsF (hsz (catF ts)) ts)[k].st ≤ (elsF (hsz (catF ts)) ts)[k].bd ∧ (elsF (hsz (catF ts)) ts)[k].bd ≤ (elsF (hsz (catF ts)) ts)[k].en ∧ (elsF (hsz (catF ts)) ts)[k].en ≤ (putF x (catF ts)).length := by
    intro k h h'
    obtain ⟨e, e1, e2, e3, e4, e5, e6, e7⟩ := pt_at (x := x) (ts := ts) k h'
    have h5 : (elsF (hsz (catF ts)) ts)[k]? = some (elsF (hsz (catF ts)) ts)[k] := List.getElem?_eq_getElem h
    rw [e1] at h5
    simp only [Option.some.injEq] at h5
    rw [← h5]
    exact ⟨e2, e6, e7, e3, e4, e5⟩
  have hlen := elsF_len (hsz (catF ts)) ts
  exact ⟨hlen, hg, hl, fun k h h' => (key k h h').1, fun k h h' => (key k h h').2.1, fun k h h' => (key k h h').2.2.1, fun k h => (key k h (by omega)).2.2.2⟩
theorem seq_ok {b : List UInt8} {l : List El} (h : ptF b 0 16 = .ok l) : ∃ ts, b = putF 48 (catF ts) ∧ Els b l ts := by
  obtain ⟨x, ts, hx1, hx2, hx3, hg, hbe, hle⟩ := pt_ok h
  have hx := isB_seq.1 hx1
  subst hx
  refine ⟨ts, hbe, ?_⟩
  rw [hbe, hle]
  exact els_mk hx3 hg
theorem seq_of {ts : List (UInt8 × List UInt8)} (hl : (catF ts).length ≤ 2147483647) (hg : ∀ t ∈ ts, goodT t) : ∃ l, ptF (putF 48 (catF ts)) 0 16 = .ok l ∧ Els (putF 48 (catF ts)) l ts :=
  ⟨_, pt_of (by decide) (by decide) hl hg rfl, els_mk hl hg⟩
end Go.Am

/- Extensions: what is parsed, what is marshalled, and how the two fit: plain. -/
namespace Go.Proofs.YtmciaonjkkelnaaDoor
open Go.Am
set_option linter.unusedSimpArgs false
set_option linter.unusedVariables false

structure Ext where
  o : List UInt8
  c : Bool
  v : List UInt8
theorem Ext.ext' {x y : Ext} (h1 : x.o = y.o) (h2 : x.c = y.c) (h3 : x.v = y.v) : x = y := by
  obtain ⟨_, _, _⟩ := x
  obtain ⟨_, _, _⟩ := y
  simp only at h1 h2 h3
  rw [h1, h2, h3]
def exB (x : Ext) : List (UInt8 × List UInt8) := match x.c with
  | true => [(6, encO x.o), (1, [255]), (4, x.v)]
  | false => [(6, encO x.o), (4, x.v)]
def exV (x : Ext) : Bool := oidV x.o
def exF (x : Ext) : List UInt8 := putF 48 (catF (exB x))
def exI (b : List UInt8) (e : El) : Ex (List UInt8) := match isB e.x 0 false 6 with
  | false => .bad 3 0
  | true => match decide ((decS (cut b e.bd e.en)).2 = 0) with
    | true => .ok (decS (cut b e.bd e.en)).1
    | false => .bad 6 e.bd
def exC (b : List UInt8) (e : El) : Bool := isB e.x 0 false 1 && decide (cut b e.bd e.en = [255])
def exL (b s : List UInt8) (c : Bool) (e : El) : Ex Ext := match isB e.x 0 false 4 with
  | true => .ok ⟨s, c, cut b e.bd e.en⟩
  | false => .bad 3 e.st
def exP (b : List UInt8) : Ex Ext := match ptF b 0 16 with
  | .bad c o => .bad c o
  | .ok [e, f] => (match exI b e with
    | .bad c o => .bad c o
    | .ok s => exL b s false f)
  | .ok [e, f, g] => (match exI b e with
    | .bad c o => .bad c o
    | .ok s => (match exC b f with
      | true => exL b s true g
      | false => .bad 6 f.st))
  | .ok _ => .bad 3 0
theorem exI_ok {b : List UInt8} {e : El} {s : List UInt8} (h : exI b e = .ok s) : e.x = 6 ∧ oidV s = true ∧ encO s = cut b e.bd e.en := by
  unfold exI at h
  cases hi : isB e.x 0 false 6 with
  | false => rw [hi] at h; cases h
  | true =>
    rw [hi] at h
    simp only at h
    rcases decS_cases (cut b e.bd e.en) with hd | ⟨s', h1, h2, hd, _⟩
    · rw [hd] at h; cases h
    · rw [hd] at h
      cases h
      exact ⟨isB_oid.1 hi, h1, h2⟩
theorem exI_of {b : List UInt8} {e : El} {s : List UInt8} (hx : e.x = 6) (hv : oidV s = true) (hc : cut b e.bd e.en = encO s) : exI b e = .ok s := by
  unfold exI
  rw [hx, hc, decS_encO hv]
  simp only [show isB 6 0 false 6 = true from by decide, decide_true]
theorem exI_bad {b : List UInt8} {e : El} {c o : Nat} (h : exI b e = .bad c o) : 0 < c ∧ (o = 0 ∨ o = e.bd) := by
  unfold exI at h
  split at h
  · cases h; exact ⟨by omega, .inl rfl⟩
  · split at h
    · cases h
    · cases h; exact ⟨by omega, .inr rfl⟩
theorem exC_iff {b : List UInt8} {e : El} : exC b e = true ↔ e.x = 1 ∧ cut b e.bd e.en = [255] := by
  unfold exC
  rw [Bool.and_eq_true, decide_eq_true_eq, isB_bool]
theorem exL_ok {b s : List UInt8} {c : Bool} {e : El} {x : Ext} (h : exL b s c e = .ok x) : e.x = 4 ∧ x = ⟨s, c, cut b e.bd e.en⟩ := by
  unfold exL at h
  cases hi : isB e.x 0 false 4 with
  | false => rw [hi] at h; cases h
  | true =>
    rw [hi] at h
    cases h
    exact ⟨isB_octets.1 hi, rfl⟩
theorem exL_of {b s : List UInt8} {c : Bool} {e : El} (h : e.x = 4) : exL b s c e = .ok ⟨s, c, cut b e.bd e.en⟩ := by
  unfold exL
  rw [h]
  rfl
theorem exL_bad {b s : List UInt8} {c : Bool} {e : El} {k o : Nat} (h : exL b s c e = .bad k o) : 0 < k ∧ o = e.st := by
  unfold exL at h
  split at h
  · cases h
  · cases h; exact ⟨by omega, rfl⟩
/-- What is parsed is valid, and its encoding are these bytes. -/
theorem ex_ok {b : List UInt8} {x : Ext} (h : exP b = .ok x) : exV x = true ∧ b = exF x ∧ (catF (exB x)).length ≤ 2147483647 := by
  unfold exP at h
  cases hp : ptF b 0 16 with
  | bad c o => rw [hp] at h; cases h
  | ok l =>
    rw [hp] at h
    obtain ⟨ts, hb, E⟩ := seq_ok hp
    match l, ts, h, hb, E with
    | [], _, h, _, _ => cases h
    | [_], _, h, _, _ => cases h
    | _ :: _ :: _ :: _ :: _, _, h, _, _ => cases h
    | [e, f], ts, h, hb, E =>
      match ts, hb, E with
      | [t, u], hb, E =>
        simp only at h
        cases hi : exI b e with
        | bad c o => rw [hi] at h; cases h
        | ok s =>
          rw [hi] at h
          simp only at h
          obtain ⟨a1, a2, a3⟩ := exI_ok hi
          obtain ⟨b1, rfl⟩ := exL_ok h
          have h0 := E.tag 0 (by simp) (by simp)
          have h1 := E.body 0 (by simp) (by simp)
          have h2 := E.tag 1 (by simp) (by simp)
          have h3 := E.body 1 (by simp) (by simp)
          simp only [List.getElem_cons_zero, List.getElem_cons_succ] at h0 h1 h2 h3
          have ht : t = (6, encO s) := Prod.ext (by rw [← h0, a1]) (by rw [← h1, a3])
          have hu : u = (4, cut b f.bd f.en) := Prod.ext (by rw [← h2, b1]) (by rw [← h3])
          have he : exB ⟨s, false, cut b f.bd f.en⟩ = [t, u] := by rw [ht, hu]; rfl
          exact ⟨a2, by rw [exF, he]; exact hb, by rw [he]; exact E.size⟩
      | [], _, E => exact absurd E.len (by simp)
      | [_], _, E => exact absurd E.len (by simp)
      | _ :: _ :: _ :: _, _, E => exact absurd E.len (by simp)
    | [e, f, g], ts, h, hb, E =>
      match ts, hb, E with
      | [t, w, u], hb, E =>
        simp only at h
        cases hi : exI b e with
        | bad c o => rw [hi] at h; cases h
        | ok s =>
          rw [hi] at h
          simp only at h
          cases hc : exC b f with
          | false => rw [hc] at h; cases h
          | true =>
            rw [hc] at h
            simp only at h
            obtain ⟨a1, a2, a3⟩ := exI_ok hi
            obtain ⟨c1, c2⟩ := exC_iff.1 hc
            obtain ⟨b1, rfl⟩ := exL_ok h
            have h0 := E.tag 0 (by simp) (by simp)
            have h1 := E.body 0 (by simp) (by simp)
            have h2 := E.tag 1 (by simp) (by simp)
            have h3 := E.body 1 (by simp) (by simp)
            have h4 := E.tag 2 (by simp) (by simp)
            have h5 := E.body 2 (by simp) (by simp)
            simp only [List.getElem_cons_zero, List.getElem_cons_succ] at h0 h1 h2 h3 h4 h5
            have ht : t = (6, encO s) := Prod.ext (by rw [← h0, a1]) (by rw [← h1, a3])
            have hw : w = (1, [255]) := Prod.ext (by rw [← h2, c1]) (by rw [← h3, c2])
            have hu : u = (4, cut b g.bd g.en) := Prod.ext (by rw [← h4, b1]) (by rw [← h5])
            have he : exB ⟨s, true, cut b g.bd g.en⟩ = [t, w, u] := by rw [ht, hw, hu]; rfl
            exact ⟨a2, by rw [exF, he]; exact hb, by rw [he]; exact E.size⟩
      | [], _, E => exact absurd E.len (by simp)
      | [_], _, E => exact absurd E.len (by simp)
      | [_, _], _, E => exact absurd E.len (by simp)
      | _ :: _ :: _ :: _ :: _, _, E => exact absurd E.len (by simp)
theorem exB_good {x : Ext} (hl : (catF (exB x)).length ≤ 2147483647) : ∀ t ∈ exB x, goodT t := by
  have key : ∀ ts : List (UInt8 × List UInt8), (catF ts).length ≤ 2147483647 → (∀ t ∈ ts, t.1.toNat % 32 ≠ 31) → ∀ t ∈ ts, goodT t := by
    intro ts
    induction ts with
    | nil => intro _ _ t ht; cases ht
    | cons u r ih =>
      intro h1 h2 t ht
      have h3 := putF_len u.1 u.2
      simp only [catF, List.length_append] at h1
      rcases List.mem_cons.1 ht with rfl | ht
      · exact ⟨h2 _ (List.mem_cons_self ..), by omega⟩
      · exact ih (by omega) (fun t ht => h2 t (List.mem_cons_of_mem _ ht)) t ht
  refine key _ hl ?_
  unfold exB
  cases x.c
  all_goals
    intro t ht
    simp only [List.mem_cons, List.not_mem_nil, or_false] at ht
  · rcases ht with rfl | rfl <;> simp
  · rcases ht with rfl | rfl | rfl <;> simp
/-- An encoding is parsed as what it encodes. -/
theorem ex_of {x : Ext} (hv : exV x = true) (hl : (catF (exB x)).length ≤ 2147483647) : exP (exF x) = .ok x := by
  obtain ⟨l, hp, E⟩ := seq_of hl (exB_good hl)
  have hb : exF x = putF 48 (catF (exB x)) := rfl
  rw [← hb] at hp E
  unfold exP
  rw [hp]
  obtain ⟨s, c, v⟩ := x
  cases c with
  | false =>
    have hlen := E.len
    match l, hlen, hp, E with
    | [e, f], _, hp, E =>
      have h0 := E.tag 0 (by simp) (by simp [exB])
      have h1 := E.body 0 (by simp) (by simp [exB])
      have h2 := E.tag 1 (by simp) (by simp [exB])
      have h3 := E.body 1 (by simp) (by simp [exB])
      simp only [exB, List.getElem_cons_zero, List.getElem_cons_succ] at h0 h1 h2 h3
      simp only
      rw [exI_of h0 hv h1]
      simp only
      rw [exL_of h2, h3]
  | true =>
    have hlen := E.len
    match l, hlen, hp, E with
    | [e, f, g], _, hp, E =>
      have h0 := E.tag 0 (by simp) (by simp [exB])
      have h1 := E.body 0 (by simp) (by simp [exB])
      have h2 := E.tag 1 (by simp) (by simp [exB])
      have h3 := E.body 1 (by simp) (by simp [exB])
      have h4 := E.tag 2 (by simp) (by simp [exB])
      have h5 := E.body 2 (by simp) (by simp [exB])
      simp only [exB, List.getElem_cons_zero, List.getElem_cons_succ] at h0 h1 h2 h3 h4 h5
      simp only
      rw [exI_of h0 hv h1, exC_iff.2 ⟨h2, h3⟩]
      simp only
      rw [exL_of h4, h5]
theorem ex_bad {b : List UInt8} {c o : Nat} (h : exP b = .bad c o) : 0 < c ∧ o ≤ b.length := by
  unfold exP at h
  cases hp : ptF b 0 16 with
  | bad c' o' =>
    rw [hp] at h
    cases h
    exact pt_bad hp
  | ok l =>
    rw [hp] at h
    obtain ⟨ts, hb, E⟩ := seq_ok hp
    match l, h, E with
    | [], h, _ => cases h; exact ⟨by omega, by omega⟩
    | [_], h, _ => cases h; exact ⟨by omega, by omega⟩
    | _ :: _ :: _ :: _ :: _, h, _ => cases h; exact ⟨by omega, by omega⟩
    | [e, f], h, E =>
      have l0 := E.le 0 (by simp)
      have l1 := E.le 1 (by simp)
      simp only [List.getElem_cons_zero, List.getElem_cons_succ] at l0 l1
      simp only at h
      cases hi : exI b e with
      | bad c' o' =>
        rw [hi] at h
        cases h
        have := exI_bad hi
        omega
      | ok s =>
        rw [hi] at h
        have := exL_bad h
        omega
    | [e, f, g], h, E =>
      have l0 := E.le 0 (by simp)
      have l1 := E.le 1 (by simp)
      have l2 := E.le 2 (by simp)
      simp only [List.getElem_cons_zero, List.getElem_cons_succ] at l0 l1 l2
      simp only at h
      cases hi : exI b e with
      | bad c' o' =>
        rw [hi] at h
        cases h
        have := exI_bad hi
        omega
      | ok s =>
        rw [hi] at h
        simp only at h
        cases hc : exC b f with
        | false =>
          rw [hc] at h
          cases h
          omega
        | true =>
          rw [hc] at h
          have := exL_bad h
          omega
theorem ex_inj {x y : Ext} (hx : exV x = true) (hy : exV y = true) (hl : (exF x).length ≤ 2147483647) (h : exF x = exF y) : x = y := by
  have h1 : (catF (exB x)).length ≤ 2147483647 := by rw [exF, putF_len] at hl; omega
  have h2 : (catF (exB y)).length ≤ 2147483647 := by rw [h, exF, putF_len] at hl; omega
  have h3 := ex_of hx h1
  rw [h, ex_of hy h2] at h3
  cases h3
  rfl
end Go.Proofs.YtmciaonjkkelnaaDoor

/- What the laws of key usages ask first; the laws UsageKeyMarshals and UsageKeyParses. Walked by the abstract machine. -/
namespace Go.Proofs.YtmciaonjkkelnaaDoor
open Go.Am
set_option linter.unusedSimpArgs false
set_option linter.unusedVariables false

theorem fields_of {P : Program} {t : TypeId} {fs : Array Field} (h : P.underlying t = some (.struct fs)) : P.fieldsOf t = fs := by
  unfold Program.fieldsOf
  rw [h]
theorem errEq : EqInts Tryd.prog 42 where
  guard := by kernel_rfl
  eq w a b c d := by
    have hu := Tryd.underlying42
    have hf := fields_of hu
    unfold Op.equal
    rw [show Op.maxDepth = 9999 + 1 from rfl, run_equalIn_struct w 9999 42 _ _ (by rw [hf]; exact hu) (by kernel_rfl), hf]
    simp [Op.eqFields, go_sem, part, Tryd.isAgg38, Tryd.isAgg3, Tryd.underlying38, Tryd.underlying3]
    by_cases h1 : a = c
    · subst h1
      simp [Op.eqFields, go_sem, part, Tryd.isAgg38, Tryd.isAgg3, Tryd.underlying38, Tryd.underlying3]
      by_cases h2 : b = d <;> simp [h2]
    · simp [h1]
theorem key5 : keyF 5 = [3, 2, 5, 160] := by decide +kernel
theorem key256 : keyF 256 = [3, 3, 7, 0, 128] := by decide +kernel
def srvS : List UInt8 := [49, 46, 51, 46, 54, 46, 49, 46, 53, 46, 53, 46, 55, 46, 51, 46, 49]
theorem srv_v : usV [srvS] = true := by decide +kernel
theorem srv_f : usF [srvS] = [48, 10, 6, 8, 43, 6, 1, 5, 5, 7, 3, 1] := by decide +kernel
theorem key_bad : pkF [3, 1, 0] = .bad 6 2 := by rfl
theorem keyF_len (S : Nat) (h : S ≤ 511) : (keyF S).length ≤ 21 ∧ 0 < (keyF S).length := by
  have h1 := namF_len S (by omega)
  have h2 := hsz_le (namF S)
  have h3 := hsz_ge (namF S)
  rw [keyF, putF_len]
  omega
theorem c_within_ok (Γ : Env) (n : Int) : ACalls Tryd.prog Γ 25 [errD 0 0, .int .i64 n] (fun r => r = .d (.bool true)) := c_within Γ 0 0 n
theorem c_within_bad (Γ : Env) (c o n : Nat) (h : 0 < c) (ho : o ≤ n) : ACalls Tryd.prog Γ 25 [errD c o, .int .i64 n] (fun r => r = .d (.bool true)) := (c_within Γ c o n).mono fun r hr => by
  rw [hr, witF, decide_eq_true (by omega)]
end Go.Proofs.YtmciaonjkkelnaaDoor

/- The abstract machine, twenty-sixth part: a slice of one struct; arrays. No program. -/
namespace Go.Am
open Go.RowKit
set_option linter.unusedSimpArgs false
set_option linter.unusedVariables false
section
variable {P : Program} {Γ : Env} {Q : Exit → St → Prop} {σ : St} {ty : TypeId → Option TI}
theorem run_lit1 {t e : TypeId} {v z : Value} {j : TypeInfo} (hu : P.underlying t = some (.slice e)) (hie : P.info? e = some j) (hz : j.zero = some z) (hs : v.cells.size = j.size) (h0 : 0 < j.size) (hm : j.size ≤ 16777216) (w : World) :
    (Instr.buildSlice t 1 #[(0, v)]).run P w = .ok (.slice (some ⟨w.heap.size, 0, none⟩) 1 1) (w.alloc (.cells (v.cells.zipIdx.foldl (fun (cs : Array Value) (x : Value × Nat) => cs.setIfInBounds (0 + x.2) x.1) ((Array.range (1 * j.size)).map (z.cells[· % z.cells.size]!))) e)) := by
  have h1 : ¬ 1 * j.size > 2 ^ 24 := by omega
  have h2 : ¬ 1 * j.size = 0 := by omega
  have hf : Instr.fill (fun i => some (i * j.size, j.size)) ((Array.range (1 * j.size)).map (z.cells[· % z.cells.size]!)) [(0, v)] = some (v.cells.zipIdx.foldl (fun (cs : Array Value) (x : Value × Nat) => cs.setIfInBounds (0 + x.2) x.1) ((Array.range (1 * j.size)).map (z.cells[· % z.cells.size]!))) := by
    have h3 : ((Array.range (1 * j.size)).map (z.cells[· % z.cells.size]!)).size = j.size := by simp
    simp only [Instr.fill, Nat.zero_mul, hs, Nat.zero_add, h3]
    rw [if_neg (by simp)]
  have h4 : ¬ 16777216 < j.size := by omega
  have h5 : ¬ j.size = 0 := by omega
  simp [Instr.buildSlice, run_underlying hu, sizeOf, typeInfo, zeroValue, hie, hz, h4, h5, newRow] at hf ⊢
  simp [hf]
theorem aops_litA (hT : TyOk P ty) {ops rest : List Oper} {o : Oper} {t e : TypeId} {x : Operand} {ti ei : TI} {y : AV} {ds : List Dat} {sz nx : Nat} {tm : List (Nat × AV)} {ob : List (Nat × AO)} {sz' nx' : Nat} {tm' : List (Nat × AV)} {ob' : List (Nat × AO)} (ho : o.op = .buildSlice t 1 #[(0, x)]) (ht : ty t = some ti) (hde : ti.desc = .slice e) (he : ty e = some ei) (hek : ei.agg = true)
    (hx0 : σ.ev ty e x = some y) (hf : frzAN σ y = ⟨sz, tm, ob, nx⟩) (hw : wantedA ops ⟨sz, tm, ob, nx⟩ o = some true) (hd : dstOk ⟨sz, tm, ob, nx⟩ o.dst = true) (hx : (⟨sz, tm, ob, nx⟩ : St).ev ty e x = some y) (hp : datOf ⟨sz, tm, ob, nx⟩ y = some (.agg ds)) (hl : Nat.beq ds.length ei.size = true) (h1 : ds.all (·.one) = true) (h0 : Nat.ble 1 ei.size = true) (hN : Nat.ble ei.size 16777216 = true)
    (hr : addPut ⟨sz, tm, ob, nx⟩ none (.row (some ei.size) e [.agg ds]) o.dst .ref = ⟨sz', tm', ob', nx'⟩) (k : AOps P Γ ops Q rest ⟨sz', tm', ob', nx'⟩) : AOps P Γ ops Q (o :: rest) σ := by
  refine aops_freeze [y] ?_
  have hfe : frzAll σ [y] = ⟨sz, tm, ob, nx⟩ := by
    rw [frzAll, frzAll, ← frzAN_eq]
    exact hf
  rw [hfe]
  have hl' := Nat.eq_of_beq_eq_true hl
  have h0' := Nat.le_of_ble_eq_true h0
  have hN' := Nat.le_of_ble_eq_true hN
  have h1' : ∀ z ∈ ds, z.one = true := List.all_eq_true.1 h1
  refine aops_step hw fun C0 a C K R b ev m hk => ?_
  have hB := (b.evo ev).B
  obtain ⟨j, hj, hjs, _, hjz⟩ := hT.info _ _ he
  obtain ⟨hz1, hz2⟩ := hT.zsize _ _ he
  have hu := hT.und _ _ ht
  rw [hde] at hu
  have hrd := datOf_sound m hp (ev_sound m hx)
  obtain ⟨v, hv⟩ : ∃ v, v = a.eval x := ⟨_, rfl⟩
  rw [← hv] at hrd
  cases hrd with
  | agg _ vs hvl _ hvr =>
    have hvs : (Value.agg vs).cells.size = j.size := by
      show vs.size = _
      rw [hvl, hl', hjs]
    have hzr := hT.zrep _ _ he
    have hzo := hT.zone _ _ he
    have hinit : CsRep C (ei.zd.map .d) ((Array.range (1 * j.size)).map (ei.zero.cells[· % ei.zero.cells.size]!)) := by
      refine ⟨by simp [hjs, hz2], ?_, ?_⟩
      · intro y hy
        obtain ⟨q, hq, rfl⟩ := List.mem_map.1 hy
        exact hzo q hq
      · intro i y hy
        rw [List.getElem?_map] at hy
        obtain ⟨q, hq, rfl⟩ := Option.map_eq_some_iff.1 hy
        have hil : i < ei.size := by rw [← hz2]; exact (List.getElem?_eq_some_iff.1 hq).1
        have e1 : ((Array.range (1 * j.size)).map (ei.zero.cells[· % ei.zero.cells.size]!)).getD i undef = ei.zero.cells.getD i undef := by
          have h2 : i < ei.zero.cells.size := by rw [hz1]; exact hil
          simp [hjs, hil, Nat.mod_eq_of_lt h2, h2]
        rw [e1]
        exact .d (hzr C.w C.pr i q hq)
    have hset := setAll_sound (c := C) 0 (ds.map .d) vs.toList 0 _ _ hinit (by simp [hvl]) (by
      intro y hy
      obtain ⟨q, hq, rfl⟩ := List.mem_map.1 hy
      exact h1' q hq) (by
      intro i y hy
      rw [List.getElem?_map] at hy
      obtain ⟨q, hq, rfl⟩ := Option.map_eq_some_iff.1 hy
      have := hvr i q hq
      simpa using Rep.d (c := C) this)
    obtain ⟨cs, hcs⟩ : ∃ cs, cs = (Value.agg vs).cells.zipIdx.foldl (fun (cs : Array Value) (x : Value × Nat) => cs.setIfInBounds (0 + x.2) x.1) ((Array.range (1 * j.size)).map (ei.zero.cells[· % ei.zero.cells.size]!)) := ⟨_, rfl⟩
    have hset' : CsRep C (setAll (ei.zd.map .d) 0 (ds.map .d)) cs := by
      rw [hcs, ← Array.foldl_toList, Array.toList_zipIdx]
      exact hset
    have hrun : (execOp a.eval o).run P C.w = .ok (.value (.slice (some ⟨C.w.heap.size, 0, none⟩) 1 1)) (C.w.alloc (.cells cs e)) := by
      unfold execOp
      simp only [ho]
      refine run_value ?_
      have := run_lit1 (v := .agg vs) hu hj hjz hvs (by rw [hjs]; omega) (by rw [hjs]; omega) C.w
      rw [← hcs] at this
      have e2 : (#[(0, x)] : Array (Nat × Operand)).map (fun (i, x) => (i, a.eval x)) = #[(0, Value.agg vs)] := by simp [← hv]
      rw [e2]
      exact this
    have hcsz : cs.size = ei.size := by
      rw [hset'.1, setAll_length, List.length_map, hz2]
    have m' := m.new hB (.cells cs e) (.slice (some ⟨C.w.heap.size, 0, none⟩) 1 1) rfl (.row (some ei.size) e [.agg ds]) (by
      have := new_row (C := C) m.fresh hB (ek := some ei.size) (e := e) (xs := [.agg ds]) (vs := cs) 1 (by simp) (by simp [maxLen]) (by simp [hcsz, esz]) (by
        intro k d hk
        match k, hk with
        | 0, hk =>
          simp only [List.getElem?_cons_zero, Option.some.injEq] at hk
          subst hk
          refine ⟨⟨ds, rfl, hl', h1'⟩, fun i y hy => ?_⟩
          have hil : i < ds.length := (List.getElem?_eq_some_iff.1 hy).1
          have hlt : i < (setAll (ei.zd.map AV.d) 0 (ds.map .d)).length := by rw [setAll_length, List.length_map, hz2, ← hl']; exact hil
          have hget := List.getElem?_eq_getElem hlt
          rcases setAll_get (by simp [hz2, hl']) hget with ⟨h, _⟩ | ⟨_, _, h⟩ | ⟨h, _⟩
          · omega
          · rw [Nat.sub_zero, List.getElem?_map] at h
            have hy' : ds[i]? = some y := hy
            rw [hy'] at h
            simp only [Option.map_some, Option.some.injEq] at h
            have hrep := hset'.2.2 i _ hget
            rw [← h] at hrep
            refine ⟨cs.getD i undef, ?_, ?_⟩
            · have : i < cs.size := by rw [hcsz, ← hl']; exact hil
              simp [this]
            · cases hrep with
              | d hh => exact hh
          · simp at h
            omega)
      exact this)
    rw [addPut_eq] at hr
    rw [← hr] at k
    refine upon_value hrun (hk _ (C.new _ _ _) _ (m'.put (v := .slice (some ⟨C.w.heap.size, 0, none⟩) 1 1) ?_ (dstOk_spec hd)) (ev.trans (Ct.new_evo m.fresh hB _ _)) k)
    exact .ref _ (by simp [Ct.new]) _ (by simp [Ct.new]) rfl

/-! ### Arrays -/
def partsA (σ : St) (ty : TypeId → Option TI) (e : TypeId) : Nat → List (Nat × Operand) → Option (List AV)
  | _, [] => some []
  | k, (i, x) :: r => match Nat.beq i k with
    | true => match σ.ev ty e x with
      | some y => match y.one, partsA σ ty e (k + 1) r with
        | true, some l => some (y :: l)
        | _, _ => none
      | none => none
    | false => none
theorem partsA_sound {a : Act} {C : Ct} (m : Models σ a C) {e : TypeId} : ∀ {l : List (Nat × Operand)} {k : Nat} {ys : List AV}, partsA σ ty e k l = some ys → ys.length = l.length ∧ (∀ y ∈ ys, y.one = true) ∧
    (∀ (j : Nat) (p : Nat × Operand), l[j]? = some p → p.1 = k + j) ∧ ∀ (j : Nat) (p : Nat × Operand) (y : AV), l[j]? = some p → ys[j]? = some y → Rep C y (a.eval p.2)
  | [], k, ys, h => by
    cases h
    simp
  | (i, x) :: r, k, ys, h => by
    rw [partsA] at h
    split at h
    · rename_i hik
      split at h
      · rename_i y hy
        split at h
        · rename_i l hone hl
          cases h
          obtain ⟨h1, h2, h3, h4⟩ := partsA_sound m hl
          refine ⟨by simp [h1], ?_, ?_, ?_⟩
          · intro z hz
            rcases List.mem_cons.1 hz with rfl | hz
            · exact hone
            · exact h2 z hz
          · intro j p hj
            cases j with
            | zero =>
              simp only [List.getElem?_cons_zero, Option.some.injEq] at hj
              subst hj
              exact Nat.eq_of_beq_eq_true hik
            | succ j =>
              have := h3 j p (by simpa using hj)
              omega
          · intro j p z hj hz
            cases j with
            | zero =>
              simp only [List.getElem?_cons_zero, Option.some.injEq] at hj hz
              subst hj; subst hz
              exact ev_sound m hy
            | succ j => exact h4 j p z (by simpa using hj) (by simpa using hz)
        · cases h
      · cases h
    · cases h
/-- An array literal, each element of it given, each one cell. -/
theorem aops_buildArr (hT : TyOk P ty) {ops rest : List Oper} {o : Oper} {t e : TypeId} {n : Nat} {parts : Array (Nat × Operand)} {ti ei : TI} {ys : List AV} {sz nx : Nat} {tm : List (Nat × AV)} {ob : List (Nat × AO)} (hw : wantedA ops σ o = some true) (hd : dstOk σ o.dst = true) (ho : o.op = .build t parts) (ht : ty t = some ti) (hde : ti.desc = .array n e) (he : ty e = some ei) (hek : ei.agg = false)
    (hp : partsA σ ty e 0 parts.toList = some ys) (hn : Nat.beq ys.length ti.size = true) (hr : put' σ o.dst (.agg ys) = ⟨sz, tm, ob, nx⟩) (k : AOps P Γ ops Q rest ⟨sz, tm, ob, nx⟩) : AOps P Γ ops Q (o :: rest) σ := by
  refine aops_step hw fun C0 a C K R b ev m hk => ?_
  obtain ⟨j, hj, hjs, _, hjz⟩ := hT.info _ _ ht
  obtain ⟨je, hje, hjes, _, _⟩ := hT.info _ _ he
  obtain ⟨hz1, hz2⟩ := hT.zsize _ _ ht
  have h1s := hT.one _ _ he hek
  have hu := hT.und _ _ ht
  rw [hde] at hu
  have hn' := Nat.eq_of_beq_eq_true hn
  obtain ⟨i1, i2, i3, i4⟩ := partsA_sound m hp
  obtain ⟨L, hL⟩ : ∃ L, L = parts.toList.map fun (i, x) => (i, a.eval x) := ⟨_, rfl⟩
  have hget : ∀ (j : Nat) (q : Nat × Value), L[j]? = some q → ∃ p, parts.toList[j]? = some p ∧ q = (p.1, a.eval p.2) := by
    intro j q hq
    rw [hL, List.getElem?_map] at hq
    obtain ⟨p, hp, rfl⟩ := Option.map_eq_some_iff.1 hq
    exact ⟨p, hp, rfl⟩
  have hone : ∀ (j : Nat) (q : Nat × Value), L[j]? = some q → q.1 = 0 + j ∧ q.2.cells = #[q.2] := by
    intro j q hq
    obtain ⟨p, hp1, rfl⟩ := hget j q hq
    refine ⟨i3 j p hp1, ?_⟩
    have hjl : j < ys.length := by rw [i1]; exact (List.getElem?_eq_some_iff.1 hp1).1
    have hr := i4 j p ys[j] hp1 (List.getElem?_eq_getElem hjl)
    exact one_cells (hr.oneCell (i2 _ (List.getElem_mem hjl)))
  have hLl : L.length = ys.length := by rw [hL, List.length_map, i1]
  obtain ⟨cs, f1, f2, _, f4⟩ := fill_lit L 0 ti.zero.cells hone (by rw [hLl, hz1, hn']; omega)
  have hpl : (parts.map fun (i, x) => (i, a.eval x)).toList = L := by rw [hL]; simp
  have hrun : (execOp a.eval o).run P C.w = .ok (.value (.agg cs)) C.w := by
    unfold execOp
    simp only [ho]
    refine run_value ?_
    unfold Instr.build
    simp only [Nat.mul_one] at f1
    have hz0 : (zeroValue t).run P C.w = .ok ti.zero C.w := by simp [zeroValue, typeInfo, hj, hjz]
    have hse : (sizeOf e).run P C.w = .ok 1 C.w := by simp [sizeOf, typeInfo, hje, hjes, h1s]
    simp only [Sem.run_bind, hz0, Result.andThen_ok, run_underlying hu, hse, Nat.mul_one]
    have hpl' : (Array.map (fun x => (x.fst, a.eval x.snd)) parts).toList = L := hpl
    rw [hpl', f1]
    rfl
  refine upon_value hrun (hk _ C _ (m.put (x := .agg ys) ?_ (dstOk_spec hd)) ev (by rw [← put'_eq, hr]; exact k))
  refine .agg ys cs (by rw [f2, hz1, hn']) i2 (fun j y hj => ?_)
  have hjl : j < parts.toList.length := by rw [← i1]; exact (List.getElem?_eq_some_iff.1 hj).1
  have hpj := List.getElem?_eq_getElem hjl
  have h5 := f4 j (parts.toList[j].1, a.eval parts.toList[j].2) (by rw [hL, List.getElem?_map, hpj]; rfl)
  have h6 := i4 j _ y hpj hj
  rw [Nat.zero_add] at h5
  have : cs.getD j undef = a.eval parts.toList[j].2 := by simp [h5]
  rw [this]
  exact h6
/-- The address of an element of an array that lies in a box. -/
theorem aops_indexArr (hT : TyOk P ty) {ops rest : List Oper} {o : Oper} {t e : TypeId} {n : Nat} {x z : Operand} {ti ei : TI} {i off : Nat} {kq : IntKind} {q : Int} {sz nx : Nat} {tm : List (Nat × AV)} {ob : List (Nat × AO)} (hw : wantedA ops σ o = some true) (hd : dstOk σ o.dst = true) (ho : o.op = .indexAddr t x z) (ht : ty t = some ti) (hde : ti.desc = .array n e) (he : ty e = some ei) (h1 : Nat.beq ei.size 1 = true)
    (hx : σ.ev ty t x = some (.ptr i off)) (hz : σ.ev ty 0 z = some (.d (.int kq q))) (hr : put' σ o.dst (.ptr i (off + q.toNat)) = ⟨sz, tm, ob, nx⟩) (hq : 0 ≤ q ∧ q < n) (k : AOps P Γ ops Q rest ⟨sz, tm, ob, nx⟩) : AOps P Γ ops Q (o :: rest) σ := by
  refine aops_step hw fun C0 a C K R b ev m hk => ?_
  have hu := hT.und _ _ ht
  rw [hde] at hu
  have h1' := Nat.eq_of_beq_eq_true h1
  have hxr := ev_sound m hx
  have hzr := Rep.int_inv (ev_sound m hz)
  obtain ⟨v, hv⟩ : ∃ v, v = a.eval x := ⟨_, rfl⟩
  rw [← hv] at hxr
  cases hxr with
  | ptr _ _ g hi hg =>
    have hrun : (execOp a.eval o).run P C.w = .ok (.value (.pointer (some ⟨g, off + q.toNat, none⟩))) C.w := by
      unfold execOp
      simp only [ho]
      refine run_value ?_
      rw [← hv, hzr]
      have hs := hT.run_size he C.w
      simp [Instr.indexAt, run_underlying hu, asIntOf, Instr.sureAddr, hq.1, hq.2, hs, h1', Addr.add_lit]
    exact upon_value hrun (hk _ C _ (m.put (x := .ptr i (off + q.toNat)) (.ptr i _ g hi hg) (dstOk_spec hd)) ev (by rw [← put'_eq, hr]; exact k))
end
end Go.Am
