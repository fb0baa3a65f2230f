/- Part 3 of the texts of this proof: an abstract machine for walks, the walks of the functions, plain laws. Each part says in its own first lines what is proved there. -/
import Derived.Test.YtbbakpmedpcigaaDoorK2
import Derived.Lib.Join
import Derived.LaidMore
import Derived.Lib.LaidTab
import Derived.MakeChecks
import Derived.Shelf.Strconv.Itoa3
import Derived.Shelf.Strconv.Itoa0
import Derived.Shelf.Strconv.Itoa1
import Derived.Shelf.LaysM
import Derived.Shelf.Strconv.Itoa2
import Derived.Ground.MpProg
import Derived.Shelf.Pu.ParseUintPublic10
import Derived.Shelf.Pu.ErrVarParseUint
import Derived.Shelf.Strings.Search1
import Derived.Shelf.Strings.Search2
import Derived.Shelf.Strings.Search3
import Derived.Shelf.Strings.Count
import Derived.Shelf.Strings.Shaped
import Derived.Shelf.Strings.Split
import Derived.Shelf.Strings.SplitShaped
import Derived.Shelf.Unicode.DecodeSlow
import Derived.Test.YtbbakpmedpcigaaDoorProg
import Derived.Lib.Walk
import Derived.Lib.ItoaMem
import Derived.BigCall
import Derived.BigGuard
import Derived.BigFrame
import Derived.Lib.AppendIntMem

/- Elements, read: functions of packages tlv and element. Walked by the abstract machine. -/
namespace Go.Proofs.YtbbakpmedpcigaaDoor
open Go.Am
set_option linter.unusedSimpArgs false
set_option linter.unusedVariables false

theorem u8_bits : ∀ n : Fin 256, bits .and .u8 (n.val : Int) 31 = ((n.val % 32 : Nat) : Int) ∧ bits .and .u8 (n.val : Int) 32 = ((n.val / 32 % 2 * 32 : Nat) : Int) ∧ shft .shr .u8 (n.val : Int) 6 = ((n.val / 64 : Nat) : Int) := by decide +kernel
theorem and31 (x : UInt8) : bits .and .u8 (x.toNat : Int) 31 = ((x.toNat % 32 : Nat) : Int) := (u8_bits ⟨x.toNat, u8_lt x⟩).1
theorem and32 (x : UInt8) : bits .and .u8 (x.toNat : Int) 32 = ((x.toNat / 32 % 2 * 32 : Nat) : Int) := (u8_bits ⟨x.toNat, u8_lt x⟩).2.1
theorem shr6 (x : UInt8) : shft .shr .u8 (x.toNat : Int) 6 = ((x.toNat / 64 : Nat) : Int) := (u8_bits ⟨x.toNat, u8_lt x⟩).2.2
/-- What an identifier octet says. -/
def idD (x : UInt8) : Dat := if x.toNat % 32 = 31 then .tup [.int .i64 0, .bool false, .int .i64 0, .int .i64 3] else .tup [clsD x, .bool (conB x), numD x, .int .i64 0]
theorem isReadIdentifier : IsFn Tryd.prog 65 Tryd.f65 := ⟨Tryd.func65, by decide, rfl⟩
theorem c_readid (Γ : Env) (x : UInt8) : ACalls Tryd.prog Γ 65 [.int .u8 x.toNat] (fun r => r = .d (idD x)) := by
  refine acalls_of ty_ok isReadIdentifier rfl rfl ?_
  have h1 := u8_lt x
  repeat' (first | ((with_reducible show AWp _ _ _ _ _); (first | refine awp_seq ?_ | refine awp_block ?_ | refine awp_skip ?_ | refine awp_exit ?_ | refine awp_scope ?_ | refine awp_label ?_ | refine awp_run ty_ok rfl sd ?_ | refine awp_ret ⟨_, _, rfl, rfl, ?_⟩ | refine awp_ret ⟨_, rfl, ?_⟩ | ((refine awp_cond (ty := ty) rfl (fun hc => ?_) (fun hc => ?_)) <;> (try simp only [nms, reduceCtorEq] at hc) <;> (try (exfalso; omega))))) | ((with_reducible show AOps _ _ _ _ _ _); (first | refine aops_nil ?_ | refine aops_go ty_ok rfl rfl sd ?_ | refine aops_gate ty_ok rfl rfl rfl sd ?_ | refine aops_litE ty_ok rfl rfl rfl rfl rfl rfl rfl rfl rfl rfl rfl rfl ?_ | refine aops_cutE ty_ok rfl rfl rfl rfl rfl rfl rfl rfl rfl sd rfl ?_ | ((fail_if_success (refine aops_known rfl ?_)); (refine aops_split ty_ok rfl rfl rfl rfl rfl rfl (fun hc => ⟨?_, ?_⟩) (fun hc => ⟨?_, ?_⟩)) <;> (try simp only [nms, reduceCtorEq] at hc) <;> (try (exfalso; omega)) <;> (try exact sd)))) | ((fail_if_success (with_reducible show AWp _ _ _ _ _)); (fail_if_success (with_reducible show AOps _ _ _ _ _ _)); (first | (show AWp _ _ _ _ _) | (show AOps _ _ _ _ _ _))))
  all_goals rw [and31] at hc
  · rw [idD, if_pos (by omega)]
  · rw [idD, if_neg (by omega), and31, and32, shr6, wrap_i64_nat _ (by omega), wrap_i64_nat _ (by omega), clsD, numD, conB]
    congr 6
    rcases (show x.toNat / 32 % 2 = 0 ∨ x.toNat / 32 % 2 = 1 by omega) with h | h <;> rw [h] <;> rfl
def errD (c o : Nat) : Dat := .agg [.int .i64 c, .int .i64 o]
def rlD : Ex (Nat × Nat) → Dat
  | .bad c o => .tup [.int .i64 0, .int .i64 0, errD c o]
  | .ok (n, s) => .tup [.int .i64 n, .int .i64 s, errD 0 0]
theorem isRLFail : IsFn Tryd.prog 71 Tryd.f71 := ⟨Tryd.func71, by decide, rfl⟩
theorem c_rlfail (Γ : Env) (c o : Nat) : ACalls Tryd.prog Γ 71 [.int .i64 c, .int .i64 o] (fun r => r = .d (.tup [.int .i64 0, .int .i64 0, errD c o])) := by
  refine acalls_of ty_ok isRLFail rfl rfl ?_
  repeat' (first | ((with_reducible show AWp _ _ _ _ _); (first | refine awp_seq ?_ | refine awp_block ?_ | refine awp_skip ?_ | refine awp_exit ?_ | refine awp_scope ?_ | refine awp_label ?_ | refine awp_run ty_ok rfl sd ?_ | refine awp_ret ⟨_, _, rfl, rfl, ?_⟩ | refine awp_ret ⟨_, rfl, ?_⟩ | ((refine awp_cond (ty := ty) rfl (fun hc => ?_) (fun hc => ?_)) <;> (try simp only [nms, reduceCtorEq] at hc) <;> (try (exfalso; omega))))) | ((with_reducible show AOps _ _ _ _ _ _); (first | refine aops_nil ?_ | refine aops_go ty_ok rfl rfl sd ?_ | refine aops_gate ty_ok rfl rfl rfl sd ?_ | refine aops_litE ty_ok rfl rfl rfl rfl rfl rfl rfl rfl rfl rfl rfl rfl ?_ | refine aops_cutE ty_ok rfl rfl rfl rfl rfl rfl rfl rfl rfl sd rfl ?_ | ((fail_if_success (refine aops_known rfl ?_)); (refine aops_split ty_ok rfl rfl rfl rfl rfl rfl (fun hc => ⟨?_, ?_⟩) (fun hc => ⟨?_, ?_⟩)) <;> (try simp only [nms, reduceCtorEq] at hc) <;> (try (exfalso; omega)) <;> (try exact sd)))) | ((fail_if_success (with_reducible show AWp _ _ _ _ _)); (fail_if_success (with_reducible show AOps _ _ _ _ _ _)); (first | (show AWp _ _ _ _ _) | (show AOps _ _ _ _ _ _))))
  rfl
theorem byte_at (l : List UInt8) (i : Nat) (h : i < l.length) : ((bys l).getD (i : Int).toNat default).num = (l[i].toNat : Int) := by
  rw [num_bys, Int.toNat_natCast, List.getD_eq_getElem?_getD, List.getElem?_eq_getElem h]
  rfl
theorem beF_snoc (l : List UInt8) (x : UInt8) : beF (l ++ [x]) = beF l * 256 + x.toNat := beT_snoc 0 l x
theorem beF_lt : ∀ (l : List UInt8), beF l < 256 ^ l.length := by
  intro l
  rcases List.eq_nil_or_concat l with h | ⟨q, m, h⟩
  · subst h; decide
  · subst h
    rw [List.concat_eq_append, beF_snoc]
    have := beF_lt q
    have := u8_lt m
    simp only [List.length_append, List.length_cons, List.length_nil, Nat.pow_succ, Nat.pow_zero]
    omega
  termination_by l => l.length
  decreasing_by subst h; simp
theorem shl_or (n x : Nat) (hn : n < 16777216) (hx : x < 256) : bits .or .i64 (shft .shl .i64 (n : Int) 8) (IntKind.i64.wrap (x : Int)) = ((n * 256 + x : Nat) : Int) := by
  have e1 : shft .shl .i64 (n : Int) 8 = ((n * 256 : Nat) : Int) := by
    show IntKind.i64.wrap ((n : Int) * 2 ^ (min (8 : Int).toNat IntKind.i64.bits)) = _
    rw [show (2 : Int) ^ (min (8 : Int).toNat IntKind.i64.bits) = 256 by decide, IntKind.wrap_i64]
    omega
  rw [e1, wrap_i64_nat x (by omega)]
  rw [(bits_nat .i64 62 (by decide) (fun n h0 h1 => by rw [IntKind.wrap_i64]; omega) _ _ (by omega) (by omega)).2]
  congr 1
  have := Nat.two_pow_add_eq_or_of_lt (i := 8) (b := x) (by omega) n
  rw [show 2 ^ 8 * n = n * 256 by omega] at this
  exact this.symm
theorem isReadLength : IsFn Tryd.prog 66 Tryd.f66 := ⟨Tryd.func66, by decide, rfl⟩
set_option maxHeartbeats 4000000 in
set_option maxRecDepth 100000 in
theorem c_readlen (Γ : Env) (b : List UInt8) (hb : b.length ≤ 1099511627776) : ACalls Tryd.prog Γ 66 [.sl none (bys b)] (fun r => r = .d (rlD (rlF b))) := by
  refine acalls_of ty_ok isReadLength rfl rfl ?_
  match b, hb with
  | [], _ =>
    repeat' (first | ((with_reducible show AWp _ _ _ _ _); (first | refine awp_seq ?_ | refine awp_block ?_ | refine awp_skip ?_ | refine awp_exit ?_ | refine awp_scope ?_ | refine awp_label ?_ | refine awp_run ty_ok rfl sd ?_ | refine awp_ret ⟨_, _, rfl, rfl, ?_⟩ | refine awp_ret ⟨_, rfl, ?_⟩ | ((refine awp_cond (ty := ty) rfl (fun hc => ?_) (fun hc => ?_)) <;> (try simp only [nms, reduceCtorEq] at hc) <;> (try (exfalso; omega))))) | ((with_reducible show AOps _ _ _ _ _ _); (first | refine aops_nil ?_ | refine aops_go ty_ok rfl rfl sd ?_ | refine aops_gate ty_ok rfl rfl rfl sd ?_ | refine aops_callE (ty := ty) rfl rfl rfl rfl rfl rfl rfl (c_rlfail _ 1 0) rfl ?_ | refine aops_litE ty_ok rfl rfl rfl rfl rfl rfl rfl rfl rfl rfl rfl rfl ?_ | refine aops_cutE ty_ok rfl rfl rfl rfl rfl rfl rfl rfl rfl sd rfl ?_ | ((fail_if_success (refine aops_known rfl ?_)); (refine aops_split ty_ok rfl rfl rfl rfl rfl rfl (fun hc => ⟨?_, ?_⟩) (fun hc => ⟨?_, ?_⟩)) <;> (try simp only [nms, reduceCtorEq] at hc) <;> (try (exfalso; omega)) <;> (try exact sd)))) | ((fail_if_success (with_reducible show AWp _ _ _ _ _)); (fail_if_success (with_reducible show AOps _ _ _ _ _ _)); (first | (show AWp _ _ _ _ _) | (show AOps _ _ _ _ _ _))))
    rfl
  | x :: r, hb =>
    have hx := u8_lt x
    have h0 : ((bys (x :: r)).getD (Int.toNat 0) default).num = (x.toNat : Int) := rfl
    have hw : IntKind.i64.wrap ((bys (x :: r)).getD (Int.toNat 0) default).num = (x.toNat : Int) := wrap_i64_nat _ (by omega)
    simp only [List.length_cons] at hb
    rw [rlF]
    by_cases h1 : x.toNat < 128
    · rw [if_pos h1]
      repeat' (first | ((with_reducible show AWp _ _ _ _ _); (first | refine awp_seq ?_ | refine awp_block ?_ | refine awp_skip ?_ | refine awp_exit ?_ | refine awp_scope ?_ | refine awp_label ?_ | refine awp_run ty_ok rfl sd ?_ | refine awp_ret ⟨_, _, rfl, rfl, ?_⟩ | refine awp_ret ⟨_, rfl, ?_⟩ | ((refine awp_cond (ty := ty) rfl (fun hc => ?_) (fun hc => ?_)) <;> (try simp only [nms, reduceCtorEq] at hc) <;> (try (exfalso; omega))))) | ((with_reducible show AOps _ _ _ _ _ _); (first | refine aops_nil ?_ | refine aops_go ty_ok rfl rfl sd ?_ | refine aops_gate ty_ok rfl rfl rfl sd ?_ | refine aops_litE ty_ok rfl rfl rfl rfl rfl rfl rfl rfl rfl rfl rfl rfl ?_ | refine aops_cutE ty_ok rfl rfl rfl rfl rfl rfl rfl rfl rfl sd rfl ?_ | ((fail_if_success (refine aops_known rfl ?_)); (refine aops_split ty_ok rfl rfl rfl rfl rfl rfl (fun hc => ⟨?_, ?_⟩) (fun hc => ⟨?_, ?_⟩)) <;> (try simp only [nms, reduceCtorEq] at hc) <;> (try (exfalso; omega)) <;> (try exact sd)))) | ((fail_if_success (with_reducible show AWp _ _ _ _ _)); (fail_if_success (with_reducible show AOps _ _ _ _ _ _)); (first | (show AWp _ _ _ _ _) | (show AOps _ _ _ _ _ _))))
      rw [hw]
      rfl
    rw [if_neg h1]
    by_cases h2 : x.toNat = 128 ∨ 132 < x.toNat
    · rw [if_pos h2]
      repeat' (first | ((with_reducible show AWp _ _ _ _ _); (first | refine awp_seq ?_ | refine awp_block ?_ | refine awp_skip ?_ | refine awp_exit ?_ | refine awp_scope ?_ | refine awp_label ?_ | refine awp_run ty_ok rfl sd ?_ | refine awp_ret ⟨_, _, rfl, rfl, ?_⟩ | refine awp_ret ⟨_, rfl, ?_⟩ | ((refine awp_cond (ty := ty) rfl (fun hc => ?_) (fun hc => ?_)) <;> (try simp only [nms, reduceCtorEq] at hc) <;> (try (exfalso; omega))))) | ((with_reducible show AOps _ _ _ _ _ _); (first | refine aops_nil ?_ | refine aops_go ty_ok rfl rfl sd ?_ | refine aops_gate ty_ok rfl rfl rfl sd ?_ | refine aops_callE (ty := ty) rfl rfl rfl rfl rfl rfl rfl (c_rlfail _ 4 0) rfl ?_ | refine aops_litE ty_ok rfl rfl rfl rfl rfl rfl rfl rfl rfl rfl rfl rfl ?_ | refine aops_cutE ty_ok rfl rfl rfl rfl rfl rfl rfl rfl rfl sd rfl ?_ | ((fail_if_success (refine aops_known rfl ?_)); (refine aops_split ty_ok rfl rfl rfl rfl rfl rfl (fun hc => ⟨?_, ?_⟩) (fun hc => ⟨?_, ?_⟩)) <;> (try simp only [nms, reduceCtorEq] at hc) <;> (try (exfalso; omega)) <;> (try exact sd)))) | ((fail_if_success (with_reducible show AWp _ _ _ _ _)); (fail_if_success (with_reducible show AOps _ _ _ _ _ _)); (first | (show AWp _ _ _ _ _) | (show AOps _ _ _ _ _ _))))
      all_goals rfl
    rw [if_neg h2]
    have hlen : (bys (x :: r)).length = r.length + 1 := by simp [bys_len]
    by_cases h3 : r.length < x.toNat - 128
    · rw [if_pos h3]
      have hf := c_rlfail (Γ.at 0) 1 (r.length + 1)
      rw [← hlen] at hf
      repeat' (first | ((with_reducible show AWp _ _ _ _ _); (first | refine awp_seq ?_ | refine awp_block ?_ | refine awp_skip ?_ | refine awp_exit ?_ | refine awp_scope ?_ | refine awp_label ?_ | refine awp_run ty_ok rfl sd ?_ | refine awp_ret ⟨_, _, rfl, rfl, ?_⟩ | refine awp_ret ⟨_, rfl, ?_⟩ | ((refine awp_cond (ty := ty) rfl (fun hc => ?_) (fun hc => ?_)) <;> (try simp only [nms, reduceCtorEq] at hc) <;> (try (exfalso; omega))))) | ((with_reducible show AOps _ _ _ _ _ _); (first | refine aops_nil ?_ | refine aops_go ty_ok rfl rfl sd ?_ | refine aops_gate ty_ok rfl rfl rfl sd ?_ | refine aops_callE (ty := ty) rfl rfl rfl rfl rfl rfl rfl (hf) rfl ?_ | refine aops_litE ty_ok rfl rfl rfl rfl rfl rfl rfl rfl rfl rfl rfl rfl ?_ | refine aops_cutE ty_ok rfl rfl rfl rfl rfl rfl rfl rfl rfl sd rfl ?_ | ((fail_if_success (refine aops_known rfl ?_)); (refine aops_split ty_ok rfl rfl rfl rfl rfl rfl (fun hc => ⟨?_, ?_⟩) (fun hc => ⟨?_, ?_⟩)) <;> (try simp only [nms, reduceCtorEq] at hc) <;> (try (exfalso; omega)) <;> (try exact sd)))) | ((fail_if_success (with_reducible show AWp _ _ _ _ _)); (fail_if_success (with_reducible show AOps _ _ _ _ _ _)); (first | (show AWp _ _ _ _ _) | (show AOps _ _ _ _ _ _))))
      rw [hlen]
      rfl
    rw [if_neg h3]
    obtain ⟨K, hK⟩ : ∃ K, x.toNat = K + 128 := ⟨x.toNat - 128, by omega⟩
    have hK2 : x.toNat - 128 = K := by omega
    have hwK : IntKind.i64.wrap ((bys (x :: r)).getD (Int.toNat 0) default).num - 128 = (K : Int) := by omega
    rw [hK2] at h3 ⊢
    repeat' (first | ((with_reducible show AWp _ _ _ _ _); (first | refine awp_seq ?_ | refine awp_block ?_ | refine awp_skip ?_ | refine awp_exit ?_ | refine awp_scope ?_ | refine awp_label ?_ | refine awp_run ty_ok rfl sd ?_ | refine awp_ret ⟨_, _, rfl, rfl, ?_⟩ | refine awp_ret ⟨_, rfl, ?_⟩ | ((refine awp_cond (ty := ty) rfl (fun hc => ?_) (fun hc => ?_)) <;> (try simp only [nms, reduceCtorEq] at hc) <;> (try (exfalso; omega))))) | ((with_reducible show AOps _ _ _ _ _ _); (first | refine aops_nil ?_ | refine aops_go ty_ok rfl rfl sd ?_ | refine aops_gate ty_ok rfl rfl rfl sd ?_ | refine aops_litE ty_ok rfl rfl rfl rfl rfl rfl rfl rfl rfl rfl rfl rfl ?_ | refine aops_cutE ty_ok rfl rfl rfl rfl rfl rfl rfl rfl rfl sd rfl ?_ | ((fail_if_success (refine aops_known rfl ?_)); (refine aops_split ty_ok rfl rfl rfl rfl rfl rfl (fun hc => ⟨?_, ?_⟩) (fun hc => ⟨?_, ?_⟩)) <;> (try simp only [nms, reduceCtorEq] at hc) <;> (try (exfalso; omega)) <;> (try exact sd)))) | ((fail_if_success (with_reducible show AWp _ _ _ _ _)); (fail_if_success (with_reducible show AOps _ _ _ _ _ _)); (first | (show AWp _ _ _ _ _) | (show AOps _ _ _ _ _ _))))
    refine awp_loopR (G := { i : Nat // i ≤ K }) (fun i => ⟨Tryd.f66.ntmps, [(0, .d (.sl none (bys (x :: r)))), (4, .ptr 0 0), (5, .fn 71 []), (6, .d (.int .i64 K)), (7, .d (.int .i64 (beF (r.take i.1)))), (8, .d (.int .i64 (i.1 + 1)))], [(0, .box 30 [.d (.int .i64 0), .d (.int .i64 0)])], 1⟩) (fun i => K - i.1) ⟨0, Nat.zero_le _⟩ [(0, 0)]
      (SubR.mk' rfl rfl ⟨⟨_, rfl, rfl⟩, ⟨_, rfl, rfl⟩, ⟨_, rfl, rfl⟩, ⟨_, rfl, congrArg (fun z : Int => AV.d (Dat.int IntKind.i64 z)) hwK⟩, ⟨_, rfl, rfl⟩, ⟨_, rfl, rfl⟩, trivial⟩ ⟨⟨_, _, rfl, rfl, rfl⟩, trivial⟩) ?_
    rintro ⟨i, hi⟩
    dsimp only
    rcases Nat.lt_or_ge i K with hik | hik
    · have hir : i < r.length := by omega
      have ht : r.take (i + 1) = r.take i ++ [r[i]] := List.take_succ_eq_append_getElem hir
      have hbt := beF_lt (r.take i)
      have hlt : (r.take i).length ≤ 3 := by rw [List.length_take]; omega
      have hpw := Nat.pow_le_pow_right (n := 256) (by omega) hlt
      have hel : ((bys (x :: r)).getD ((i : Int) + 1).toNat default).num = (r[i].toNat : Int) := by
        rw [num_bys, show ((i : Int) + 1).toNat = i + 1 by omega, List.getD_cons_succ, List.getD_eq_getElem?_getD, List.getElem?_eq_getElem hir]
        rfl
      repeat' (first | ((with_reducible show AWp _ _ _ _ _); (first | refine awp_seq ?_ | refine awp_block ?_ | refine awp_skip ?_ | refine awp_exit ?_ | refine awp_scope ?_ | refine awp_label ?_ | refine awp_run ty_ok rfl sd ?_ | refine awp_ret ⟨_, _, rfl, rfl, ?_⟩ | refine awp_ret ⟨_, rfl, ?_⟩ | ((refine awp_cond (ty := ty) rfl (fun hc => ?_) (fun hc => ?_)) <;> (try simp only [nms, reduceCtorEq] at hc) <;> (try (exfalso; omega))))) | ((with_reducible show AOps _ _ _ _ _ _); (first | refine aops_nil ?_ | refine aops_go ty_ok rfl rfl sd ?_ | refine aops_gate ty_ok rfl rfl rfl sd ?_ | refine aops_litE ty_ok rfl rfl rfl rfl rfl rfl rfl rfl rfl rfl rfl rfl ?_ | refine aops_cutE ty_ok rfl rfl rfl rfl rfl rfl rfl rfl rfl sd rfl ?_ | ((fail_if_success (refine aops_known rfl ?_)); (refine aops_split ty_ok rfl rfl rfl rfl rfl rfl (fun hc => ⟨?_, ?_⟩) (fun hc => ⟨?_, ?_⟩)) <;> (try simp only [nms, reduceCtorEq] at hc) <;> (try (exfalso; omega)) <;> (try exact sd)))) | ((fail_if_success (with_reducible show AWp _ _ _ _ _)); (fail_if_success (with_reducible show AOps _ _ _ _ _ _)); (first | (show AWp _ _ _ _ _) | (show AOps _ _ _ _ _ _))))
      refine ⟨⟨i + 1, hik⟩, [(0, 0)], SubR.mk' rfl rfl ⟨⟨_, rfl, rfl⟩, ⟨_, rfl, rfl⟩, ⟨_, rfl, rfl⟩, ⟨_, rfl, rfl⟩, ⟨_, rfl, congrArg (fun z : Int => AV.d (Dat.int IntKind.i64 z)) ?_⟩, ⟨_, rfl, rfl⟩, trivial⟩ ⟨⟨_, _, rfl, rfl, rfl⟩, trivial⟩, by simp only; omega⟩
      rw [hel, shl_or _ _ (by omega) (u8_lt _), ht, beF_snoc]
    · have hie : i = K := by omega
      subst hie
      have hbt := beF_lt (r.take i)
      have hpw := Nat.pow_le_pow_right (n := 256) (by omega) (show (r.take i).length ≤ 4 by rw [List.length_take]; omega)
      have h1' : ((bys (x :: r)).getD (Int.toNat 1) default).num = ((r.headD 0).toNat : Int) := by
        cases r with
        | nil => simp at h3; omega
        | cons y r => rfl
      by_cases h4 : (r.headD 0).toNat = 0 ∨ beF (r.take i) < 128 ∨ 2147483647 < beF (r.take i)
      · rw [if_pos h4]
        repeat' (first | ((with_reducible show AWp _ _ _ _ _); (first | refine awp_seq ?_ | refine awp_block ?_ | refine awp_skip ?_ | refine awp_exit ?_ | refine awp_scope ?_ | refine awp_label ?_ | refine awp_run ty_ok rfl sd ?_ | refine awp_ret ⟨_, _, rfl, rfl, ?_⟩ | refine awp_ret ⟨_, rfl, ?_⟩ | ((refine awp_cond (ty := ty) rfl (fun hc => ?_) (fun hc => ?_)) <;> (try simp only [nms, reduceCtorEq] at hc) <;> (try (exfalso; omega))))) | ((with_reducible show AOps _ _ _ _ _ _); (first | refine aops_nil ?_ | refine aops_go ty_ok rfl rfl sd ?_ | refine aops_gate ty_ok rfl rfl rfl sd ?_ | refine aops_callE (ty := ty) rfl rfl rfl rfl rfl rfl rfl (c_rlfail _ 4 0) rfl ?_ | refine aops_litE ty_ok rfl rfl rfl rfl rfl rfl rfl rfl rfl rfl rfl rfl ?_ | refine aops_cutE ty_ok rfl rfl rfl rfl rfl rfl rfl rfl rfl sd rfl ?_ | ((fail_if_success (refine aops_known rfl ?_)); (refine aops_split ty_ok rfl rfl rfl rfl rfl rfl (fun hc => ⟨?_, ?_⟩) (fun hc => ⟨?_, ?_⟩)) <;> (try simp only [nms, reduceCtorEq] at hc) <;> (try (exfalso; omega)) <;> (try exact sd)))) | ((fail_if_success (with_reducible show AWp _ _ _ _ _)); (fail_if_success (with_reducible show AOps _ _ _ _ _ _)); (first | (show AWp _ _ _ _ _) | (show AOps _ _ _ _ _ _))))
        all_goals rfl
      · rw [if_neg h4]
        repeat' (first | ((with_reducible show AWp _ _ _ _ _); (first | refine awp_seq ?_ | refine awp_block ?_ | refine awp_skip ?_ | refine awp_exit ?_ | refine awp_scope ?_ | refine awp_label ?_ | refine awp_run ty_ok rfl sd ?_ | refine awp_ret ⟨_, _, rfl, rfl, ?_⟩ | refine awp_ret ⟨_, rfl, ?_⟩ | ((refine awp_cond (ty := ty) rfl (fun hc => ?_) (fun hc => ?_)) <;> (try simp only [nms, reduceCtorEq] at hc) <;> (try (exfalso; omega))))) | ((with_reducible show AOps _ _ _ _ _ _); (first | refine aops_nil ?_ | refine aops_go ty_ok rfl rfl sd ?_ | refine aops_gate ty_ok rfl rfl rfl sd ?_ | refine aops_callE (ty := ty) rfl rfl rfl rfl rfl rfl rfl (c_rlfail _ 4 0) rfl ?_ | refine aops_litE ty_ok rfl rfl rfl rfl rfl rfl rfl rfl rfl rfl rfl rfl ?_ | refine aops_cutE ty_ok rfl rfl rfl rfl rfl rfl rfl rfl rfl sd rfl ?_ | ((fail_if_success (refine aops_known rfl ?_)); (refine aops_split ty_ok rfl rfl rfl rfl rfl rfl (fun hc => ⟨?_, ?_⟩) (fun hc => ⟨?_, ?_⟩)) <;> (try simp only [nms, reduceCtorEq] at hc) <;> (try (exfalso; omega)) <;> (try exact sd)))) | ((fail_if_success (with_reducible show AWp _ _ _ _ _)); (fail_if_success (with_reducible show AOps _ _ _ _ _ _)); (first | (show AWp _ _ _ _ _) | (show AOps _ _ _ _ _ _))))
        rw [show x.toNat - 127 = i + 1 by omega, show (1 : Int) + (i : Int) = ((i + 1 : Nat) : Int) by omega]
        rfl
/-! ### Headers -/
def hdrD (x : UInt8) (n s : Nat) : Dat := .agg [clsD x, numD x, .bool (conB x), .int .i64 n, .int .i64 s]
def hdr0 : Dat := .agg [.int .i64 0, .int .i64 0, .bool false, .int .i64 0, .int .i64 0]
def hdD : Ex (UInt8 × Nat × Nat) → Dat
  | .bad c o => .tup [hdr0, errD c o]
  | .ok (x, n, s) => .tup [hdrD x n s, errD 0 0]
theorem c_readid_bad (Γ : Env) (x : UInt8) (h : x.toNat % 32 = 31) : ACalls Tryd.prog Γ 65 [.int .u8 x.toNat] (fun r => r = .d (.tup [.int .i64 0, .bool false, .int .i64 0, .int .i64 3])) := (c_readid Γ x).mono fun r hr => by
  rw [hr, idD, if_pos h]
theorem c_readid_ok (Γ : Env) (x : UInt8) (h : ¬ x.toNat % 32 = 31) : ACalls Tryd.prog Γ 65 [.int .u8 x.toNat] (fun r => r = .d (.tup [clsD x, .bool (conB x), numD x, .int .i64 0])) := (c_readid Γ x).mono fun r hr => by
  rw [hr, idD, if_neg h]
theorem c_readlen_at (Γ : Env) (b : List UInt8) (hb : b.length ≤ 1099511627776) {v : Ex (Nat × Nat)} (h : rlF b = v) : ACalls Tryd.prog Γ 66 [.sl none (bys b)] (fun r => r = .d (rlD v)) := by
  subst h
  exact c_readlen Γ b hb
theorem cutB_eq (l : List UInt8) (i j : Nat) : cutB l i j = cut l i j := rfl
theorem isReadHeader : IsFn Tryd.prog 56 Tryd.f56 := ⟨Tryd.func56, by decide, rfl⟩
set_option maxHeartbeats 4000000 in
set_option maxRecDepth 100000 in
theorem c_readhd (Γ : Env) (b : List UInt8) (hb : b.length ≤ 1099511627776) : ACalls Tryd.prog Γ 56 [.sl none (bys b)] (fun r => r = .d (hdD (hdF b))) := by
  refine acalls_of ty_ok isReadHeader rfl rfl ?_
  match b, hb with
  | [], _ =>
    repeat' (first | ((with_reducible show AWp _ _ _ _ _); (first | refine awp_seq ?_ | refine awp_block ?_ | refine awp_skip ?_ | refine awp_exit ?_ | refine awp_scope ?_ | refine awp_label ?_ | refine awp_run ty_ok rfl sd ?_ | refine awp_ret ⟨_, _, rfl, rfl, ?_⟩ | refine awp_ret ⟨_, rfl, ?_⟩ | ((refine awp_cond (ty := ty) rfl (fun hc => ?_) (fun hc => ?_)) <;> (try simp only [nms, reduceCtorEq] at hc) <;> (try (exfalso; omega))))) | ((with_reducible show AOps _ _ _ _ _ _); (first | refine aops_nil ?_ | refine aops_go ty_ok rfl rfl sd ?_ | refine aops_gate ty_ok rfl rfl rfl sd ?_ | refine aops_litE ty_ok rfl rfl rfl rfl rfl rfl rfl rfl rfl rfl rfl rfl ?_ | refine aops_cutE ty_ok rfl rfl rfl rfl rfl rfl rfl rfl rfl sd rfl ?_ | ((fail_if_success (refine aops_known rfl ?_)); (refine aops_split ty_ok rfl rfl rfl rfl rfl rfl (fun hc => ⟨?_, ?_⟩) (fun hc => ⟨?_, ?_⟩)) <;> (try simp only [nms, reduceCtorEq] at hc) <;> (try (exfalso; omega)) <;> (try exact sd)))) | ((fail_if_success (with_reducible show AWp _ _ _ _ _)); (fail_if_success (with_reducible show AOps _ _ _ _ _ _)); (first | (show AWp _ _ _ _ _) | (show AOps _ _ _ _ _ _))))
    rfl
  | x :: r, hb =>
    have h0 : ((bys (x :: r)).getD (Int.toNat 0) default).num = (x.toNat : Int) := rfl
    simp only [List.length_cons] at hb
    rw [hdF]
    by_cases h1 : x.toNat % 32 = 31
    · rw [if_pos h1]
      have hc1 := c_readid_bad (Γ.at 0) x h1
      rw [← h0] at hc1
      repeat' (first | ((with_reducible show AWp _ _ _ _ _); (first | refine awp_seq ?_ | refine awp_block ?_ | refine awp_skip ?_ | refine awp_exit ?_ | refine awp_scope ?_ | refine awp_label ?_ | refine awp_run ty_ok rfl sd ?_ | refine awp_ret ⟨_, _, rfl, rfl, ?_⟩ | refine awp_ret ⟨_, rfl, ?_⟩ | ((refine awp_cond (ty := ty) rfl (fun hc => ?_) (fun hc => ?_)) <;> (try simp only [nms, reduceCtorEq] at hc) <;> (try (exfalso; omega))))) | ((with_reducible show AOps _ _ _ _ _ _); (first | refine aops_nil ?_ | refine aops_go ty_ok rfl rfl sd ?_ | refine aops_gate ty_ok rfl rfl rfl sd ?_ | refine aops_callE (ty := ty) rfl rfl rfl rfl rfl rfl rfl (hc1) rfl ?_ | refine aops_litE ty_ok rfl rfl rfl rfl rfl rfl rfl rfl rfl rfl rfl rfl ?_ | refine aops_cutE ty_ok rfl rfl rfl rfl rfl rfl rfl rfl rfl sd rfl ?_ | ((fail_if_success (refine aops_known rfl ?_)); (refine aops_split ty_ok rfl rfl rfl rfl rfl rfl (fun hc => ⟨?_, ?_⟩) (fun hc => ⟨?_, ?_⟩)) <;> (try simp only [nms, reduceCtorEq] at hc) <;> (try (exfalso; omega)) <;> (try exact sd)))) | ((fail_if_success (with_reducible show AWp _ _ _ _ _)); (fail_if_success (with_reducible show AOps _ _ _ _ _ _)); (first | (show AWp _ _ _ _ _) | (show AOps _ _ _ _ _ _))))
      rfl
    rw [if_neg h1]
    have hc1 := c_readid_ok (Γ.at 0) x h1
    rw [← h0] at hc1
    have hcut : cutL (bys (x :: r)) (Int.toNat 1) (bys (x :: r)).length = bys r := by rw [cutL_bys, bys_len]; simp [cutB]
    have hrb : ∀ c o, rlF r = .bad c o → (c = 1 ∨ c = 4) ∧ o ≤ r.length := fun c o h => rl_bad h
    have hrk : ∀ n s, rlF r = .ok (n, s) → s ≤ 9 := fun n s h => by have := (rl_inv h).2.1; have := lenB_len n; omega
    cases hr : rlF r with
    | bad c o =>
      have hc2 := c_readlen_at (Γ.at 0) r (by omega) hr
      rw [← hcut] at hc2
      have := hrb c o hr
      repeat' (first | ((with_reducible show AWp _ _ _ _ _); (first | refine awp_seq ?_ | refine awp_block ?_ | refine awp_skip ?_ | refine awp_exit ?_ | refine awp_scope ?_ | refine awp_label ?_ | refine awp_run ty_ok rfl sd ?_ | refine awp_ret ⟨_, _, rfl, rfl, ?_⟩ | refine awp_ret ⟨_, rfl, ?_⟩ | ((refine awp_cond (ty := ty) rfl (fun hc => ?_) (fun hc => ?_)) <;> (try simp only [nms, reduceCtorEq] at hc) <;> (try (exfalso; omega))) | refine awp_anyS 3 2 ty_ok mixed rfl rfl rfl rfl rfl rfl rfl rfl rfl (by kernel_rfl) ?_)) | ((with_reducible show AOps _ _ _ _ _ _); (first | refine aops_nil ?_ | refine aops_go ty_ok rfl rfl sd ?_ | refine aops_gate ty_ok rfl rfl rfl sd ?_ | refine aops_callE (ty := ty) rfl rfl rfl rfl rfl rfl rfl (hc1) rfl ?_ | refine aops_callE (ty := ty) rfl rfl rfl rfl rfl rfl rfl (hc2) rfl ?_ | refine aops_litE ty_ok rfl rfl rfl rfl rfl rfl rfl rfl rfl rfl rfl rfl ?_ | refine aops_cutE ty_ok rfl rfl rfl rfl rfl rfl rfl rfl rfl sd rfl ?_ | ((fail_if_success (refine aops_known rfl ?_)); (refine aops_split ty_ok rfl rfl rfl rfl rfl rfl (fun hc => ⟨?_, ?_⟩) (fun hc => ⟨?_, ?_⟩)) <;> (try simp only [nms, reduceCtorEq] at hc) <;> (try (exfalso; omega)) <;> (try exact sd)))) | ((with_reducible show HeadT _ _ _ _ _ _ _ _ _ _); (first | refine head_end ?_ | refine head_goP ty_ok rfl rfl sd ?_ | refine head_gate ty_ok rfl rfl rfl sd ?_ | refine head_callE (ty := ty) rfl rfl rfl rfl rfl rfl rfl (hc1) rfl ?_ | refine head_callE (ty := ty) rfl rfl rfl rfl rfl rfl rfl (hc2) rfl ?_ | ((fail_if_success (refine head_known rfl ?_)); (refine head_split ty_ok rfl rfl rfl rfl (fun hc => ⟨?_, ?_⟩) (fun hc => ⟨?_, ?_⟩)) <;> (try simp only [nms, reduceCtorEq] at hc) <;> (try (exfalso; omega)) <;> (try exact sd)))) | ((fail_if_success (with_reducible show AWp _ _ _ _ _)); (fail_if_success (with_reducible show AOps _ _ _ _ _ _)); (fail_if_success (with_reducible show HeadT _ _ _ _ _ _ _ _ _ _)); (first | (show AWp _ _ _ _ _) | (show AOps _ _ _ _ _ _) | refine st_go rfl rfl rfl rfl rfl rfl rfl ?_)))
      rfl
    | ok p =>
      obtain ⟨n, s⟩ := p
      have hc2 := c_readlen_at (Γ.at 0) r (by omega) hr
      rw [← hcut] at hc2
      have := hrk n s hr
      repeat' (first | ((with_reducible show AWp _ _ _ _ _); (first | refine awp_seq ?_ | refine awp_block ?_ | refine awp_skip ?_ | refine awp_exit ?_ | refine awp_scope ?_ | refine awp_label ?_ | refine awp_run ty_ok rfl sd ?_ | refine awp_ret ⟨_, _, rfl, rfl, ?_⟩ | refine awp_ret ⟨_, rfl, ?_⟩ | ((refine awp_cond (ty := ty) rfl (fun hc => ?_) (fun hc => ?_)) <;> (try simp only [nms, reduceCtorEq] at hc) <;> (try (exfalso; omega))) | refine awp_anyS 3 2 ty_ok mixed rfl rfl rfl rfl rfl rfl rfl rfl rfl (by kernel_rfl) ?_)) | ((with_reducible show AOps _ _ _ _ _ _); (first | refine aops_nil ?_ | refine aops_go ty_ok rfl rfl sd ?_ | refine aops_gate ty_ok rfl rfl rfl sd ?_ | refine aops_callE (ty := ty) rfl rfl rfl rfl rfl rfl rfl (hc1) rfl ?_ | refine aops_callE (ty := ty) rfl rfl rfl rfl rfl rfl rfl (hc2) rfl ?_ | refine aops_litE ty_ok rfl rfl rfl rfl rfl rfl rfl rfl rfl rfl rfl rfl ?_ | refine aops_cutE ty_ok rfl rfl rfl rfl rfl rfl rfl rfl rfl sd rfl ?_ | ((fail_if_success (refine aops_known rfl ?_)); (refine aops_split ty_ok rfl rfl rfl rfl rfl rfl (fun hc => ⟨?_, ?_⟩) (fun hc => ⟨?_, ?_⟩)) <;> (try simp only [nms, reduceCtorEq] at hc) <;> (try (exfalso; omega)) <;> (try exact sd)))) | ((with_reducible show HeadT _ _ _ _ _ _ _ _ _ _); (first | refine head_end ?_ | refine head_goP ty_ok rfl rfl sd ?_ | refine head_gate ty_ok rfl rfl rfl sd ?_ | refine head_callE (ty := ty) rfl rfl rfl rfl rfl rfl rfl (hc1) rfl ?_ | refine head_callE (ty := ty) rfl rfl rfl rfl rfl rfl rfl (hc2) rfl ?_ | ((fail_if_success (refine head_known rfl ?_)); (refine head_split ty_ok rfl rfl rfl rfl (fun hc => ⟨?_, ?_⟩) (fun hc => ⟨?_, ?_⟩)) <;> (try simp only [nms, reduceCtorEq] at hc) <;> (try (exfalso; omega)) <;> (try exact sd)))) | ((fail_if_success (with_reducible show AWp _ _ _ _ _)); (fail_if_success (with_reducible show AOps _ _ _ _ _ _)); (fail_if_success (with_reducible show HeadT _ _ _ _ _ _ _ _ _ _)); (first | (show AWp _ _ _ _ _) | (show AOps _ _ _ _ _ _) | refine st_go rfl rfl rfl rfl rfl rfl rfl ?_)))
      rfl

/-! ### Elements -/
def elD (e : El) : Dat := .agg [clsD e.x, numD e.x, .bool (conB e.x), .int .i64 e.st, .int .i64 e.bd, .int .i64 e.en]
def el0 : Dat := .agg [.int .i64 0, .int .i64 0, .bool false, .int .i64 0, .int .i64 0, .int .i64 0]
def exD : Ex El → Dat
  | .bad c o => .tup [el0, errD c o]
  | .ok e => .tup [elD e, errD 0 0]
theorem isNext : IsFn Tryd.prog 40 Tryd.f40 := ⟨Tryd.func40, by decide, rfl⟩
set_option maxHeartbeats 4000000 in
set_option maxRecDepth 100000 in
theorem c_next (Γ : Env) (b : List UInt8) (i j : Nat) (hb : b.length ≤ 1099511627776) (hij : i ≤ j) (hj : j ≤ b.length) : ACalls Tryd.prog Γ 40 [.sl none (bys b), .int .i64 i, .int .i64 j] (fun r => r = .d (exD (nxF b i j))) := by
  refine acalls_of ty_ok isNext rfl rfl ?_
  have hl := cut_len b i j hj
  have hc1 := c_readhd (Γ.at 0) (cut b i j) (by omega)
  have hcut : cutL (bys b) (i : Int).toNat (j : Int).toNat = bys (cut b i j) := by rw [cutL_bys, Int.toNat_natCast, Int.toNat_natCast]; rfl
  rw [← hcut] at hc1
  rw [nxF]
  cases hd : hdF (cut b i j) with
  | bad c o =>
    rw [hd] at hc1
    have := hd_bad hd
    repeat' (first | ((with_reducible show AWp _ _ _ _ _); (first | refine awp_seq ?_ | refine awp_block ?_ | refine awp_skip ?_ | refine awp_exit ?_ | refine awp_scope ?_ | refine awp_label ?_ | refine awp_run ty_ok rfl sd ?_ | refine awp_ret ⟨_, _, rfl, rfl, ?_⟩ | refine awp_ret ⟨_, rfl, ?_⟩ | ((refine awp_cond (ty := ty) rfl (fun hc => ?_) (fun hc => ?_)) <;> (try simp only [nms, reduceCtorEq] at hc) <;> (try (exfalso; omega))) | refine awp_anyS 3 2 ty_ok mixed rfl rfl rfl rfl rfl rfl rfl rfl rfl (by kernel_rfl) ?_)) | ((with_reducible show AOps _ _ _ _ _ _); (first | refine aops_nil ?_ | refine aops_go ty_ok rfl rfl sd ?_ | refine aops_gate ty_ok rfl rfl rfl sd ?_ | refine aops_callE (ty := ty) rfl rfl rfl rfl rfl rfl rfl (hc1) rfl ?_ | refine aops_litE ty_ok rfl rfl rfl rfl rfl rfl rfl rfl rfl rfl rfl rfl ?_ | refine aops_cutE ty_ok rfl rfl rfl rfl rfl rfl rfl rfl rfl sd rfl ?_ | ((fail_if_success (refine aops_known rfl ?_)); (refine aops_split ty_ok rfl rfl rfl rfl rfl rfl (fun hc => ⟨?_, ?_⟩) (fun hc => ⟨?_, ?_⟩)) <;> (try simp only [nms, reduceCtorEq] at hc) <;> (try (exfalso; omega)) <;> (try exact sd)))) | ((with_reducible show HeadT _ _ _ _ _ _ _ _ _ _); (first | refine head_end ?_ | refine head_goP ty_ok rfl rfl sd ?_ | refine head_gate ty_ok rfl rfl rfl sd ?_ | refine head_callE (ty := ty) rfl rfl rfl rfl rfl rfl rfl (hc1) rfl ?_ | ((fail_if_success (refine head_known rfl ?_)); (refine head_split ty_ok rfl rfl rfl rfl (fun hc => ⟨?_, ?_⟩) (fun hc => ⟨?_, ?_⟩)) <;> (try simp only [nms, reduceCtorEq] at hc) <;> (try (exfalso; omega)) <;> (try exact sd)))) | ((fail_if_success (with_reducible show AWp _ _ _ _ _)); (fail_if_success (with_reducible show AOps _ _ _ _ _ _)); (fail_if_success (with_reducible show HeadT _ _ _ _ _ _ _ _ _ _)); (first | (show AWp _ _ _ _ _) | (show AOps _ _ _ _ _ _) | refine st_go rfl rfl rfl rfl rfl rfl rfl ?_)))
    rfl
  | ok p =>
    obtain ⟨x, n, s⟩ := p
    rw [hd] at hc1
    obtain ⟨_, g1, g2, g3⟩ := hd_inv hd
    have g4 := lenB_len5 g1
    have g5 := congrArg List.length g3
    simp only [List.length_cons, List.length_append, List.length_drop] at g5
    by_cases h : j - i - s < n
    · simp only
      rw [if_pos h]
      repeat' (first | ((with_reducible show AWp _ _ _ _ _); (first | refine awp_seq ?_ | refine awp_block ?_ | refine awp_skip ?_ | refine awp_exit ?_ | refine awp_scope ?_ | refine awp_label ?_ | refine awp_run ty_ok rfl sd ?_ | refine awp_ret ⟨_, _, rfl, rfl, ?_⟩ | refine awp_ret ⟨_, rfl, ?_⟩ | ((refine awp_cond (ty := ty) rfl (fun hc => ?_) (fun hc => ?_)) <;> (try simp only [nms, reduceCtorEq] at hc) <;> (try (exfalso; omega))) | refine awp_anyS 3 2 ty_ok mixed rfl rfl rfl rfl rfl rfl rfl rfl rfl (by kernel_rfl) ?_)) | ((with_reducible show AOps _ _ _ _ _ _); (first | refine aops_nil ?_ | refine aops_go ty_ok rfl rfl sd ?_ | refine aops_gate ty_ok rfl rfl rfl sd ?_ | refine aops_callE (ty := ty) rfl rfl rfl rfl rfl rfl rfl (hc1) rfl ?_ | refine aops_litE ty_ok rfl rfl rfl rfl rfl rfl rfl rfl rfl rfl rfl rfl ?_ | refine aops_cutE ty_ok rfl rfl rfl rfl rfl rfl rfl rfl rfl sd rfl ?_ | ((fail_if_success (refine aops_known rfl ?_)); (refine aops_split ty_ok rfl rfl rfl rfl rfl rfl (fun hc => ⟨?_, ?_⟩) (fun hc => ⟨?_, ?_⟩)) <;> (try simp only [nms, reduceCtorEq] at hc) <;> (try (exfalso; omega)) <;> (try exact sd)))) | ((with_reducible show HeadT _ _ _ _ _ _ _ _ _ _); (first | refine head_end ?_ | refine head_goP ty_ok rfl rfl sd ?_ | refine head_gate ty_ok rfl rfl rfl sd ?_ | refine head_callE (ty := ty) rfl rfl rfl rfl rfl rfl rfl (hc1) rfl ?_ | ((fail_if_success (refine head_known rfl ?_)); (refine head_split ty_ok rfl rfl rfl rfl (fun hc => ⟨?_, ?_⟩) (fun hc => ⟨?_, ?_⟩)) <;> (try simp only [nms, reduceCtorEq] at hc) <;> (try (exfalso; omega)) <;> (try exact sd)))) | ((fail_if_success (with_reducible show AWp _ _ _ _ _)); (fail_if_success (with_reducible show AOps _ _ _ _ _ _)); (fail_if_success (with_reducible show HeadT _ _ _ _ _ _ _ _ _ _)); (first | (show AWp _ _ _ _ _) | (show AOps _ _ _ _ _ _) | refine st_go rfl rfl rfl rfl rfl rfl rfl ?_)))
      rfl
    · simp only
      rw [if_neg h]
      repeat' (first | ((with_reducible show AWp _ _ _ _ _); (first | refine awp_seq ?_ | refine awp_block ?_ | refine awp_skip ?_ | refine awp_exit ?_ | refine awp_scope ?_ | refine awp_label ?_ | refine awp_run ty_ok rfl sd ?_ | refine awp_ret ⟨_, _, rfl, rfl, ?_⟩ | refine awp_ret ⟨_, rfl, ?_⟩ | ((refine awp_cond (ty := ty) rfl (fun hc => ?_) (fun hc => ?_)) <;> (try simp only [nms, reduceCtorEq] at hc) <;> (try (exfalso; omega))) | refine awp_anyS 3 2 ty_ok mixed rfl rfl rfl rfl rfl rfl rfl rfl rfl (by kernel_rfl) ?_)) | ((with_reducible show AOps _ _ _ _ _ _); (first | refine aops_nil ?_ | refine aops_go ty_ok rfl rfl sd ?_ | refine aops_gate ty_ok rfl rfl rfl sd ?_ | refine aops_callE (ty := ty) rfl rfl rfl rfl rfl rfl rfl (hc1) rfl ?_ | refine aops_litE ty_ok rfl rfl rfl rfl rfl rfl rfl rfl rfl rfl rfl rfl ?_ | refine aops_cutE ty_ok rfl rfl rfl rfl rfl rfl rfl rfl rfl sd rfl ?_ | ((fail_if_success (refine aops_known rfl ?_)); (refine aops_split ty_ok rfl rfl rfl rfl rfl rfl (fun hc => ⟨?_, ?_⟩) (fun hc => ⟨?_, ?_⟩)) <;> (try simp only [nms, reduceCtorEq] at hc) <;> (try (exfalso; omega)) <;> (try exact sd)))) | ((with_reducible show HeadT _ _ _ _ _ _ _ _ _ _); (first | refine head_end ?_ | refine head_goP ty_ok rfl rfl sd ?_ | refine head_gate ty_ok rfl rfl rfl sd ?_ | refine head_callE (ty := ty) rfl rfl rfl rfl rfl rfl rfl (hc1) rfl ?_ | ((fail_if_success (refine head_known rfl ?_)); (refine head_split ty_ok rfl rfl rfl rfl (fun hc => ⟨?_, ?_⟩) (fun hc => ⟨?_, ?_⟩)) <;> (try simp only [nms, reduceCtorEq] at hc) <;> (try (exfalso; omega)) <;> (try exact sd)))) | ((fail_if_success (with_reducible show AWp _ _ _ _ _)); (fail_if_success (with_reducible show AOps _ _ _ _ _ _)); (fail_if_success (with_reducible show HeadT _ _ _ _ _ _ _ _ _ _)); (first | (show AWp _ _ _ _ _) | (show AOps _ _ _ _ _ _) | refine st_go rfl rfl rfl rfl rfl rfl rfl ?_)))
      rfl
theorem c_next_at (Γ : Env) (b : List UInt8) (i j : Nat) (hb : b.length ≤ 1099511627776) (hij : i ≤ j) (hj : j ≤ b.length) {v : Ex El} (h : nxF b i j = v) : ACalls Tryd.prog Γ 40 [.sl none (bys b), .int .i64 i, .int .i64 j] (fun r => r = .d (exD v)) := by
  subst h
  exact c_next Γ b i j hb hij hj
theorem isOne : IsFn Tryd.prog 28 Tryd.f28 := ⟨Tryd.func28, by decide, rfl⟩
set_option maxHeartbeats 4000000 in
set_option maxRecDepth 100000 in
theorem c_one (Γ : Env) (b : List UInt8) (hb : b.length ≤ 1099511627776) : ACalls Tryd.prog Γ 28 [.sl none (bys b)] (fun r => r = .d (exD (onF b))) := by
  refine acalls_of ty_ok isOne rfl rfl ?_
  rw [onF]
  cases hn : nxF b 0 b.length with
  | bad c o =>
    have hc1 := c_next_at (Γ.at 0) b 0 b.length hb (Nat.zero_le _) (Nat.le_refl _) hn
    rw [← bys_len b] at hc1
    have := nx_bad (Nat.zero_le _) (Nat.le_refl _) hn
    repeat' (first | ((with_reducible show AWp _ _ _ _ _); (first | refine awp_seq ?_ | refine awp_block ?_ | refine awp_skip ?_ | refine awp_exit ?_ | refine awp_scope ?_ | refine awp_label ?_ | refine awp_run ty_ok rfl sd ?_ | refine awp_ret ⟨_, _, rfl, rfl, ?_⟩ | refine awp_ret ⟨_, rfl, ?_⟩ | ((refine awp_cond (ty := ty) rfl (fun hc => ?_) (fun hc => ?_)) <;> (try simp only [nms, reduceCtorEq] at hc) <;> (try (exfalso; omega))) | refine awp_anyS 3 2 ty_ok mixed rfl rfl rfl rfl rfl rfl rfl rfl rfl (by kernel_rfl) ?_ | refine awp_anyS 5 4 ty_ok mixed rfl rfl rfl rfl rfl rfl rfl rfl rfl (by kernel_rfl) ?_)) | ((with_reducible show AOps _ _ _ _ _ _); (first | refine aops_nil ?_ | refine aops_go ty_ok rfl rfl sd ?_ | refine aops_gate ty_ok rfl rfl rfl sd ?_ | refine aops_callE (ty := ty) rfl rfl rfl rfl rfl rfl rfl (hc1) rfl ?_ | refine aops_litE ty_ok rfl rfl rfl rfl rfl rfl rfl rfl rfl rfl rfl rfl ?_ | refine aops_cutE ty_ok rfl rfl rfl rfl rfl rfl rfl rfl rfl sd rfl ?_ | ((fail_if_success (refine aops_known rfl ?_)); (refine aops_split ty_ok rfl rfl rfl rfl rfl rfl (fun hc => ⟨?_, ?_⟩) (fun hc => ⟨?_, ?_⟩)) <;> (try simp only [nms, reduceCtorEq] at hc) <;> (try (exfalso; omega)) <;> (try exact sd)))) | ((with_reducible show HeadT _ _ _ _ _ _ _ _ _ _); (first | refine head_end ?_ | refine head_goP ty_ok rfl rfl sd ?_ | refine head_gate ty_ok rfl rfl rfl sd ?_ | refine head_callE (ty := ty) rfl rfl rfl rfl rfl rfl rfl (hc1) rfl ?_ | ((fail_if_success (refine head_known rfl ?_)); (refine head_split ty_ok rfl rfl rfl rfl (fun hc => ⟨?_, ?_⟩) (fun hc => ⟨?_, ?_⟩)) <;> (try simp only [nms, reduceCtorEq] at hc) <;> (try (exfalso; omega)) <;> (try exact sd)))) | ((fail_if_success (with_reducible show AWp _ _ _ _ _)); (fail_if_success (with_reducible show AOps _ _ _ _ _ _)); (fail_if_success (with_reducible show HeadT _ _ _ _ _ _ _ _ _ _)); (first | (show AWp _ _ _ _ _) | (show AOps _ _ _ _ _ _) | refine st_go rfl rfl rfl rfl rfl rfl rfl ?_)))
    rfl
  | ok e =>
    have hc1 := c_next_at (Γ.at 0) b 0 b.length hb (Nat.zero_le _) (Nat.le_refl _) hn
    rw [← bys_len b] at hc1
    simp only
    by_cases h : e.en < b.length
    · rw [if_pos h]
      repeat' (first | ((with_reducible show AWp _ _ _ _ _); (first | refine awp_seq ?_ | refine awp_block ?_ | refine awp_skip ?_ | refine awp_exit ?_ | refine awp_scope ?_ | refine awp_label ?_ | refine awp_run ty_ok rfl sd ?_ | refine awp_ret ⟨_, _, rfl, rfl, ?_⟩ | refine awp_ret ⟨_, rfl, ?_⟩ | ((refine awp_cond (ty := ty) rfl (fun hc => ?_) (fun hc => ?_)) <;> (try simp only [nms, reduceCtorEq] at hc) <;> (try (exfalso; omega))) | refine awp_anyS 3 2 ty_ok mixed rfl rfl rfl rfl rfl rfl rfl rfl rfl (by kernel_rfl) ?_ | refine awp_anyS 5 4 ty_ok mixed rfl rfl rfl rfl rfl rfl rfl rfl rfl (by kernel_rfl) ?_)) | ((with_reducible show AOps _ _ _ _ _ _); (first | refine aops_nil ?_ | refine aops_go ty_ok rfl rfl sd ?_ | refine aops_gate ty_ok rfl rfl rfl sd ?_ | refine aops_callE (ty := ty) rfl rfl rfl rfl rfl rfl rfl (hc1) rfl ?_ | refine aops_litE ty_ok rfl rfl rfl rfl rfl rfl rfl rfl rfl rfl rfl rfl ?_ | refine aops_cutE ty_ok rfl rfl rfl rfl rfl rfl rfl rfl rfl sd rfl ?_ | ((fail_if_success (refine aops_known rfl ?_)); (refine aops_split ty_ok rfl rfl rfl rfl rfl rfl (fun hc => ⟨?_, ?_⟩) (fun hc => ⟨?_, ?_⟩)) <;> (try simp only [nms, reduceCtorEq] at hc) <;> (try (exfalso; omega)) <;> (try exact sd)))) | ((with_reducible show HeadT _ _ _ _ _ _ _ _ _ _); (first | refine head_end ?_ | refine head_goP ty_ok rfl rfl sd ?_ | refine head_gate ty_ok rfl rfl rfl sd ?_ | refine head_callE (ty := ty) rfl rfl rfl rfl rfl rfl rfl (hc1) rfl ?_ | ((fail_if_success (refine head_known rfl ?_)); (refine head_split ty_ok rfl rfl rfl rfl (fun hc => ⟨?_, ?_⟩) (fun hc => ⟨?_, ?_⟩)) <;> (try simp only [nms, reduceCtorEq] at hc) <;> (try (exfalso; omega)) <;> (try exact sd)))) | ((fail_if_success (with_reducible show AWp _ _ _ _ _)); (fail_if_success (with_reducible show AOps _ _ _ _ _ _)); (fail_if_success (with_reducible show HeadT _ _ _ _ _ _ _ _ _ _)); (first | (show AWp _ _ _ _ _) | (show AOps _ _ _ _ _ _) | refine st_go rfl rfl rfl rfl rfl rfl rfl ?_)))
      rfl
    · rw [if_neg h]
      repeat' (first | ((with_reducible show AWp _ _ _ _ _); (first | refine awp_seq ?_ | refine awp_block ?_ | refine awp_skip ?_ | refine awp_exit ?_ | refine awp_scope ?_ | refine awp_label ?_ | refine awp_run ty_ok rfl sd ?_ | refine awp_ret ⟨_, _, rfl, rfl, ?_⟩ | refine awp_ret ⟨_, rfl, ?_⟩ | ((refine awp_cond (ty := ty) rfl (fun hc => ?_) (fun hc => ?_)) <;> (try simp only [nms, reduceCtorEq] at hc) <;> (try (exfalso; omega))) | refine awp_anyS 3 2 ty_ok mixed rfl rfl rfl rfl rfl rfl rfl rfl rfl (by kernel_rfl) ?_ | refine awp_anyS 5 4 ty_ok mixed rfl rfl rfl rfl rfl rfl rfl rfl rfl (by kernel_rfl) ?_)) | ((with_reducible show AOps _ _ _ _ _ _); (first | refine aops_nil ?_ | refine aops_go ty_ok rfl rfl sd ?_ | refine aops_gate ty_ok rfl rfl rfl sd ?_ | refine aops_callE (ty := ty) rfl rfl rfl rfl rfl rfl rfl (hc1) rfl ?_ | refine aops_litE ty_ok rfl rfl rfl rfl rfl rfl rfl rfl rfl rfl rfl rfl ?_ | refine aops_cutE ty_ok rfl rfl rfl rfl rfl rfl rfl rfl rfl sd rfl ?_ | ((fail_if_success (refine aops_known rfl ?_)); (refine aops_split ty_ok rfl rfl rfl rfl rfl rfl (fun hc => ⟨?_, ?_⟩) (fun hc => ⟨?_, ?_⟩)) <;> (try simp only [nms, reduceCtorEq] at hc) <;> (try (exfalso; omega)) <;> (try exact sd)))) | ((with_reducible show HeadT _ _ _ _ _ _ _ _ _ _); (first | refine head_end ?_ | refine head_goP ty_ok rfl rfl sd ?_ | refine head_gate ty_ok rfl rfl rfl sd ?_ | refine head_callE (ty := ty) rfl rfl rfl rfl rfl rfl rfl (hc1) rfl ?_ | ((fail_if_success (refine head_known rfl ?_)); (refine head_split ty_ok rfl rfl rfl rfl (fun hc => ⟨?_, ?_⟩) (fun hc => ⟨?_, ?_⟩)) <;> (try simp only [nms, reduceCtorEq] at hc) <;> (try (exfalso; omega)) <;> (try exact sd)))) | ((fail_if_success (with_reducible show AWp _ _ _ _ _)); (fail_if_success (with_reducible show AOps _ _ _ _ _ _)); (fail_if_success (with_reducible show HeadT _ _ _ _ _ _ _ _ _ _)); (first | (show AWp _ _ _ _ _) | (show AOps _ _ _ _ _ _) | refine st_go rfl rfl rfl rfl rfl rfl rfl ?_)))
      rfl
theorem c_one_at (Γ : Env) (b : List UInt8) (hb : b.length ≤ 1099511627776) {v : Ex El} (h : onF b = v) : ACalls Tryd.prog Γ 28 [.sl none (bys b)] (fun r => r = .d (exD v)) := by
  subst h
  exact c_one Γ b hb
theorem isB_iff {x : UInt8} {cls num : Nat} {con : Bool} : isB x cls con num = true ↔ x.toNat / 64 = cls ∧ conB x = con ∧ x.toNat % 32 = num := by
  unfold isB conB
  rw [decide_eq_true_eq]
  cases con with
  | true => simp
  | false =>
    simp only [decide_eq_false_iff_not, Bool.false_eq_true, if_false]
    constructor
    · rintro ⟨h1, h2, h3⟩; exact ⟨h1, by omega, h3⟩
    · rintro ⟨h1, h2, h3⟩; exact ⟨h1, by omega, h3⟩
theorem isIs : IsFn Tryd.prog 29 Tryd.f29 := ⟨Tryd.func29, by decide, rfl⟩
set_option maxHeartbeats 4000000 in
theorem c_is (Γ : Env) (e : El) (cls num : Nat) (con : Bool) : ACalls Tryd.prog Γ 29 [elD e, .int .i64 cls, .bool con, .int .i64 num] (fun r => r = .d (.bool (isB e.x cls con num))) := by
  refine acalls_of ty_ok isIs rfl rfl ?_
  repeat' (first | ((with_reducible show AWp _ _ _ _ _); (first | refine awp_seq ?_ | refine awp_block ?_ | refine awp_skip ?_ | refine awp_exit ?_ | refine awp_scope ?_ | refine awp_label ?_ | refine awp_run ty_ok rfl sd ?_ | refine awp_ret ⟨_, _, rfl, rfl, ?_⟩ | refine awp_ret ⟨_, rfl, ?_⟩ | ((refine awp_cond (ty := ty) rfl (fun hc => ?_) (fun hc => ?_)) <;> (try simp only [nms, reduceCtorEq] at hc) <;> (try (exfalso; omega))))) | ((with_reducible show AOps _ _ _ _ _ _); (first | refine aops_nil ?_ | refine aops_go ty_ok rfl rfl sd ?_ | refine aops_gate ty_ok rfl rfl rfl sd ?_ | refine aops_litE ty_ok rfl rfl rfl rfl rfl rfl rfl rfl rfl rfl rfl rfl ?_ | refine aops_cutE ty_ok rfl rfl rfl rfl rfl rfl rfl rfl rfl sd rfl ?_ | ((fail_if_success (refine aops_known rfl ?_)); (refine aops_split ty_ok rfl rfl rfl rfl rfl rfl (fun hc => ⟨?_, ?_⟩) (fun hc => ⟨?_, ?_⟩)) <;> (try simp only [nms, reduceCtorEq] at hc) <;> (try (exfalso; omega)) <;> (try exact sd)))) | ((fail_if_success (with_reducible show AWp _ _ _ _ _)); (fail_if_success (with_reducible show AOps _ _ _ _ _ _)); (first | (show AWp _ _ _ _ _) | (show AOps _ _ _ _ _ _))))
  all_goals refine congrArg (fun b => Res.d (Dat.bool b)) ?_
  · rw [Bool.eq_iff_iff, isB_iff, beq_iff_eq]
    exact ⟨fun h => ⟨by omega, hc, by omega⟩, fun ⟨_, _, h⟩ => by omega⟩
  · symm
    rw [Bool.eq_false_iff, ne_eq, isB_iff]
    exact fun ⟨_, h, _⟩ => hc h
  · symm
    rw [Bool.eq_false_iff, ne_eq, isB_iff]
    exact fun ⟨h, _, _⟩ => hc (by omega)
theorem c_is_at (Γ : Env) (e : El) (cls num : Nat) (con : Bool) {v : Bool} (h : isB e.x cls con num = v) : ACalls Tryd.prog Γ 29 [elD e, .int .i64 cls, .bool con, .int .i64 num] (fun r => r = .d (.bool v)) := by
  subst h
  exact c_is Γ e cls num con
end Go.Proofs.YtbbakpmedpcigaaDoor

/- Functions of package cretulabase that the laws ask; named bits of a key usage. Walked by the abstract machine. -/
namespace Go.Proofs.YtbbakpmedpcigaaDoor
open Go.Am
set_option linter.unusedSimpArgs false
set_option linter.unusedVariables false

theorem isBInt : IsFn Tryd.prog 15 Tryd.f15 := ⟨Tryd.func15, by decide, rfl⟩
theorem c_bint (Γ : Env) (x y : Int) : ACalls Tryd.prog Γ 15 [.int .i64 x, .int .i64 y] (fun r => r = .d (.bool (decide (x = y)))) := by
  refine acalls_of ty_ok isBInt rfl rfl ?_
  repeat' (first | ((with_reducible show AWp _ _ _ _ _); (first | refine awp_seq ?_ | refine awp_block ?_ | refine awp_skip ?_ | refine awp_exit ?_ | refine awp_scope ?_ | refine awp_label ?_ | refine awp_run ty_ok rfl sd ?_ | refine awp_ret ⟨_, _, rfl, rfl, ?_⟩ | refine awp_ret ⟨_, rfl, ?_⟩ | ((refine awp_cond (ty := ty) rfl (fun hc => ?_) (fun hc => ?_)) <;> (try simp only [nms, reduceCtorEq] at hc) <;> (try (exfalso; omega))))) | ((with_reducible show AOps _ _ _ _ _ _); (first | refine aops_nil ?_ | refine aops_go ty_ok rfl rfl sd ?_ | refine aops_gate ty_ok rfl rfl rfl sd ?_ | refine aops_litE ty_ok rfl rfl rfl rfl rfl rfl rfl rfl rfl rfl rfl rfl ?_ | refine aops_cutE ty_ok rfl rfl rfl rfl rfl rfl rfl rfl rfl sd rfl ?_ | ((fail_if_success (refine aops_known rfl ?_)); (refine aops_split ty_ok rfl rfl rfl rfl rfl rfl (fun hc => ⟨?_, ?_⟩) (fun hc => ⟨?_, ?_⟩)) <;> (try simp only [nms, reduceCtorEq] at hc) <;> (try (exfalso; omega)) <;> (try exact sd)))) | ((fail_if_success (with_reducible show AWp _ _ _ _ _)); (fail_if_success (with_reducible show AOps _ _ _ _ _ _)); (first | (show AWp _ _ _ _ _) | (show AOps _ _ _ _ _ _))))
  rfl
theorem c_bytes_eq (Γ : Env) (x y : List UInt8) (h : x = y) : ACalls Tryd.prog Γ 11 [.sl none (bys x), .sl none (bys y)] (fun r => r = .d (.bool true)) := by
  have := c_bytes Γ x y
  rwa [decide_eq_true h] at this
theorem c_bytes_at (Γ : Env) (x y : List UInt8) {v : Bool} (h : decide (x = y) = v) : ACalls Tryd.prog Γ 11 [.sl none (bys x), .sl none (bys y)] (fun r => r = .d (.bool v)) := by
  subst h
  exact c_bytes Γ x y
def witF (c o n : Int) : Bool := decide ((c = 0 ∧ o = 0) ∨ (c > 0 ∧ 0 ≤ o ∧ o ≤ n))
theorem isWithin : IsFn Tryd.prog 17 Tryd.f17 := ⟨Tryd.func17, by decide, rfl⟩
theorem c_within (Γ : Env) (c o n : Int) : ACalls Tryd.prog Γ 17 [.agg [.int .i64 c, .int .i64 o], .int .i64 n] (fun r => r = .d (.bool (witF c o n))) := by
  refine acalls_of ty_ok isWithin rfl rfl ?_
  repeat' (first | ((with_reducible show AWp _ _ _ _ _); (first | refine awp_seq ?_ | refine awp_block ?_ | refine awp_skip ?_ | refine awp_exit ?_ | refine awp_scope ?_ | refine awp_label ?_ | refine awp_run ty_ok rfl sd ?_ | refine awp_ret ⟨_, _, rfl, rfl, ?_⟩ | refine awp_ret ⟨_, rfl, ?_⟩ | ((refine awp_cond (ty := ty) rfl (fun hc => ?_) (fun hc => ?_)) <;> (try simp only [nms, reduceCtorEq] at hc) <;> (try (exfalso; omega))))) | ((with_reducible show AOps _ _ _ _ _ _); (first | refine aops_nil ?_ | refine aops_go ty_ok rfl rfl sd ?_ | refine aops_gate ty_ok rfl rfl rfl sd ?_ | refine aops_litE ty_ok rfl rfl rfl rfl rfl rfl rfl rfl rfl rfl rfl rfl ?_ | refine aops_cutE ty_ok rfl rfl rfl rfl rfl rfl rfl rfl rfl sd rfl ?_ | ((fail_if_success (refine aops_known rfl ?_)); (refine aops_split ty_ok rfl rfl rfl rfl rfl rfl (fun hc => ⟨?_, ?_⟩) (fun hc => ⟨?_, ?_⟩)) <;> (try simp only [nms, reduceCtorEq] at hc) <;> (try (exfalso; omega)) <;> (try exact sd)))) | ((fail_if_success (with_reducible show AWp _ _ _ _ _)); (fail_if_success (with_reducible show AOps _ _ _ _ _ _)); (first | (show AWp _ _ _ _ _) | (show AOps _ _ _ _ _ _))))
  all_goals refine congrArg (fun b => Res.d (Dat.bool b)) ?_
  all_goals unfold witF
  all_goals first | (symm; rw [decide_eq_false_iff_not]; omega) | skip
  · rw [Bool.eq_iff_iff, beq_iff_eq, decide_eq_true_eq]
    omega
  · rw [Bool.eq_iff_iff, decide_eq_true_eq, decide_eq_true_eq]
    omega
theorem str_at {l : List (List UInt8)} {k : Nat} (h : k < l.length) : ((strs l).getD (k : Int).toNat default).txt = bA l[k] := by
  rw [txt_strs, Int.toNat_natCast, List.getD_eq_getElem?_getD, List.getElem?_eq_getElem h]
  rfl
theorem isBStrings : IsFn Tryd.prog 20 Tryd.f20 := ⟨Tryd.func20, by decide, rfl⟩
theorem c_bstrings (Γ : Env) (x y : List (List UInt8)) (hx : x.length ≤ 1099511627) : ACalls Tryd.prog Γ 20 [.sl none (strs x), .sl none (strs y)] (fun r => r = .d (.bool (decide (x = y)))) := by
  refine acalls_of ty_ok isBStrings rfl rfl ?_
  repeat' (first | ((with_reducible show AWp _ _ _ _ _); (first | refine awp_seq ?_ | refine awp_block ?_ | refine awp_skip ?_ | refine awp_exit ?_ | refine awp_scope ?_ | refine awp_label ?_ | refine awp_run ty_ok rfl sd ?_ | refine awp_ret ⟨_, _, rfl, rfl, ?_⟩ | refine awp_ret ⟨_, rfl, ?_⟩ | ((refine awp_cond (ty := ty) rfl (fun hc => ?_) (fun hc => ?_)) <;> (try simp only [nms, reduceCtorEq] at hc) <;> (try (exfalso; omega))))) | ((with_reducible show AOps _ _ _ _ _ _); (first | refine aops_nil ?_ | refine aops_go ty_ok rfl rfl sd ?_ | refine aops_gate ty_ok rfl rfl rfl sd ?_ | refine aops_litE ty_ok rfl rfl rfl rfl rfl rfl rfl rfl rfl rfl rfl rfl ?_ | refine aops_cutE ty_ok rfl rfl rfl rfl rfl rfl rfl rfl rfl sd rfl ?_ | ((fail_if_success (refine aops_known rfl ?_)); (refine aops_split ty_ok rfl rfl rfl rfl rfl rfl (fun hc => ⟨?_, ?_⟩) (fun hc => ⟨?_, ?_⟩)) <;> (try simp only [nms, reduceCtorEq] at hc) <;> (try (exfalso; omega)) <;> (try exact sd)))) | ((fail_if_success (with_reducible show AWp _ _ _ _ _)); (fail_if_success (with_reducible show AOps _ _ _ _ _ _)); (first | (show AWp _ _ _ _ _) | (show AOps _ _ _ _ _ _))))
  refine awp_loopR (G := { k : Nat // k ≤ x.length ∧ k ≤ y.length ∧ x.take k = y.take k }) (fun k => ⟨Tryd.f20.ntmps, [(0, .d (.sl none (strs x))), (1, .d (.sl none (strs y))), (5, .d (.int .i64 k.1))], [], 0⟩) (fun k => x.length - k.1) ⟨0, by simp⟩ []
      (SubR.mk' rfl rfl ⟨⟨_, rfl, rfl⟩, ⟨_, rfl, rfl⟩, ⟨_, rfl, rfl⟩, trivial⟩ trivial) ?_
  rintro ⟨k, hk1, hk2, hk3⟩
  dsimp only
  by_cases h : k < x.length ∧ k < y.length
  · have e1 := str_at h.1
    have e2 := str_at h.2
    repeat' (first | ((with_reducible show AWp _ _ _ _ _); (first | refine awp_seq ?_ | refine awp_block ?_ | refine awp_skip ?_ | refine awp_exit ?_ | refine awp_scope ?_ | refine awp_label ?_ | refine awp_run ty_ok rfl sd ?_ | refine awp_ret ⟨_, _, rfl, rfl, ?_⟩ | refine awp_ret ⟨_, rfl, ?_⟩ | ((refine awp_cond (ty := ty) rfl (fun hc => ?_) (fun hc => ?_)) <;> (try simp only [nms, reduceCtorEq] at hc) <;> (try (exfalso; omega))) | refine awp_anyL 8 mixed rfl (by kernel_rfl) ?_)) | ((with_reducible show AOps _ _ _ _ _ _); (first | refine aops_nil ?_ | refine aops_go ty_ok rfl rfl sd ?_ | refine aops_gate ty_ok rfl rfl rfl sd ?_ | refine aops_litE ty_ok rfl rfl rfl rfl rfl rfl rfl rfl rfl rfl rfl rfl ?_ | refine aops_cutE ty_ok rfl rfl rfl rfl rfl rfl rfl rfl rfl sd rfl ?_ | ((fail_if_success (refine aops_known rfl ?_)); (refine aops_split ty_ok rfl rfl rfl rfl rfl rfl (fun hc => ⟨?_, ?_⟩) (fun hc => ⟨?_, ?_⟩)) <;> (try simp only [nms, reduceCtorEq] at hc) <;> (try (exfalso; omega)) <;> (try exact sd)))) | ((with_reducible show HeadT _ _ _ _ _ _ _ _ _ _); (first | refine head_end ?_ | refine head_goP ty_ok rfl rfl sd ?_ | refine head_gate ty_ok rfl rfl rfl sd ?_ | ((fail_if_success (refine head_known rfl ?_)); (refine head_split ty_ok rfl rfl rfl rfl (fun hc => ⟨?_, ?_⟩) (fun hc => ⟨?_, ?_⟩)) <;> (try simp only [nms, reduceCtorEq] at hc) <;> (try (exfalso; omega)) <;> (try exact sd)))) | ((fail_if_success (with_reducible show AWp _ _ _ _ _)); (fail_if_success (with_reducible show AOps _ _ _ _ _ _)); (fail_if_success (with_reducible show HeadT _ _ _ _ _ _ _ _ _ _)); (first | (show AWp _ _ _ _ _) | (show AOps _ _ _ _ _ _))))
    · have h3 : x ≠ y := by
        rintro rfl
        exact hc rfl
      simp [h3]
    · have h3 : x[k] = y[k] := by
        rw [e1, e2] at hc
        exact bA_inj.1 hc
      refine ⟨⟨k + 1, h.1, h.2, ?_⟩, [], SubR.mk' rfl rfl ⟨⟨_, rfl, rfl⟩, ⟨_, rfl, rfl⟩, ⟨_, rfl, rfl⟩, trivial⟩ trivial, by simp only; omega⟩
      rw [List.take_succ_eq_append_getElem h.1, List.take_succ_eq_append_getElem h.2, hk3, h3]
  · have : (x = y) ↔ x.length = y.length := by
      constructor
      · rintro rfl; rfl
      · intro h
        have e1 : x.take k = x := List.take_of_length_le (by omega)
        have e2 : y.take k = y := List.take_of_length_le (by omega)
        rw [e1, e2] at hk3
        exact hk3
    repeat' (first | ((with_reducible show AWp _ _ _ _ _); (first | refine awp_seq ?_ | refine awp_block ?_ | refine awp_skip ?_ | refine awp_exit ?_ | refine awp_scope ?_ | refine awp_label ?_ | refine awp_run ty_ok rfl sd ?_ | refine awp_ret ⟨_, _, rfl, rfl, ?_⟩ | refine awp_ret ⟨_, rfl, ?_⟩ | ((refine awp_cond (ty := ty) rfl (fun hc => ?_) (fun hc => ?_)) <;> (try simp only [nms, reduceCtorEq] at hc) <;> (try (exfalso; omega))))) | ((with_reducible show AOps _ _ _ _ _ _); (first | refine aops_nil ?_ | refine aops_go ty_ok rfl rfl sd ?_ | refine aops_gate ty_ok rfl rfl rfl sd ?_ | refine aops_litE ty_ok rfl rfl rfl rfl rfl rfl rfl rfl rfl rfl rfl rfl ?_ | refine aops_cutE ty_ok rfl rfl rfl rfl rfl rfl rfl rfl rfl sd rfl ?_ | ((fail_if_success (refine aops_known rfl ?_)); (refine aops_split ty_ok rfl rfl rfl rfl rfl rfl (fun hc => ⟨?_, ?_⟩) (fun hc => ⟨?_, ?_⟩)) <;> (try simp only [nms, reduceCtorEq] at hc) <;> (try (exfalso; omega)) <;> (try exact sd)))) | ((fail_if_success (with_reducible show AWp _ _ _ _ _)); (fail_if_success (with_reducible show AOps _ _ _ _ _ _)); (first | (show AWp _ _ _ _ _) | (show AOps _ _ _ _ _ _))))
    all_goals first | (exfalso; omega) | skip
    all_goals
      simp only [strs_len]
      by_cases h : x.length = y.length
      · simp [h, this.2 h]
      · have h3 : ¬ x = y := fun e => h (this.1 e)
        have h4 : ¬ (x.length : Int) = y.length := by omega
        simp [h3, h4]
end Go.Proofs.YtbbakpmedpcigaaDoor

/- Functions of package bitstring, walked by the abstract machine. -/
namespace Go.Proofs.YtbbakpmedpcigaaDoor
open Go.Am
set_option linter.unusedSimpArgs false
set_option linter.unusedVariables false

def bitsD (x : List UInt8) (u : Int) : Dat := .agg [.sl none (bys x), .int .i64 u]
theorem isValid : IsFn Tryd.prog 58 Tryd.f58 := ⟨Tryd.func58, by decide, rfl⟩
theorem c_valid (Γ : Env) (x : List UInt8) (u : Int) (hx : x.length ≤ 1099511627776) : ACalls Tryd.prog Γ 58 [bitsD x u] (fun r => r = .d (.bool (valF x u))) := by
  refine acalls_of ty_ok isValid rfl rfl ?_
  repeat (first | refine awp_reg ty_ok rfl sd ?_ | refine awp_seq ?_ | refine awp_all ty_ok rfl sd ?_ | refine awp_block ?_ | refine awp_skip ?_ | refine awp_exit ?_)
  refine awp_cond (ty := ty) rfl (fun hc => ?_) (fun hc => ?_)
  · repeat (first | refine awp_reg ty_ok rfl sd ?_ | refine awp_seq ?_ | refine awp_all ty_ok rfl sd ?_ | refine awp_block ?_ | refine awp_skip ?_ | refine awp_exit ?_)
    refine awp_ret ⟨_, _, rfl, rfl, ?_⟩
    cases x with
    | nil => simp [valF]; rfl
    | cons b x => simp [bys] at hc; omega
  repeat (first | refine awp_reg ty_ok rfl sd ?_ | refine awp_seq ?_ | refine awp_all ty_ok rfl sd ?_ | refine awp_block ?_ | refine awp_skip ?_ | refine awp_exit ?_)
  have h0 : 0 < x.length := by
    cases x with
    | nil => simp [bys] at hc
    | cons b x => simp
  refine awp_any 24 mixed (by kernel_rfl) ?_
  have hv : valF x u = decide (0 ≤ u ∧ u ≤ 7 ∧ (x.getD (x.length - 1) 0).toNat % 2 ^ u.toNat = 0) := by
    cases x with
    | nil => simp at h0
    | cons b x => rfl
  by_cases h1 : u ≥ 0
  · refine head_go ty_ok [] rfl sd ?_
    simp only [h1, decide_true]
    refine head_go ty_ok [3] rfl sd ?_
    by_cases h2 : u ≤ 7
    · simp only [h2, decide_true]
      refine head_go ty_ok [3, 8] rfl sd ?_
      refine head_end ?_
      refine aops_run ty_ok [] rfl sd ?_
      refine aops_nil ?_
      refine awp_ret ⟨_, _, rfl, rfl, ?_⟩
      rw [num_bys, bys_len, mask_u8 _ _ h1 h2, hv]
      have h3 : ((x.length : Int) - 1).toNat = x.length - 1 := by omega
      have h4 : 0 ≤ u := h1
      simp [h3, h4, h2]
    · simp only [h2, decide_false]
      refine head_go ty_ok [3, 8] rfl sd ?_
      refine head_end ?_
      refine aops_run ty_ok [] rfl sd ?_
      refine aops_nil ?_
      refine awp_ret ⟨_, _, rfl, rfl, ?_⟩
      rw [hv]
      simp [h2]
  · refine head_go ty_ok [] rfl sd ?_
    simp only [h1, decide_false]
    refine head_go ty_ok [3, 8] rfl sd ?_
    refine head_end ?_
    refine aops_run ty_ok [] rfl sd ?_
    refine aops_nil ?_
    refine awp_ret ⟨_, _, rfl, rfl, ?_⟩
    rw [hv]
    simp [h1]

theorem isRValid : IsFn Tryd.prog 54 Tryd.f54 := ⟨Tryd.func54, by decide, rfl⟩
theorem c_rvalid (Γ : Env) (x : List UInt8) (u : Int) (hx : x.length ≤ 1099511627776) : ACalls Tryd.prog Γ 54 [bitsD x u] (fun r => r = .d (.bool (valF x u))) := by
  refine acalls_of ty_ok isRValid rfl rfl ?_
  repeat (first | refine awp_reg ty_ok rfl sd ?_ | refine awp_seq ?_ | refine awp_all ty_ok rfl sd ?_ | refine awp_block ?_ | refine awp_skip ?_ | refine awp_exit ?_)
  refine awp_mono (Q := fun e σ => e = .normal ∧ Sub σ ⟨Tryd.f54.ntmps, [(1, .ptr 0 0), (23, .d (.bool (decide (u < 0 ∨ u > 7 ∨ (x = [] ∧ u > 0)))))], [(0, .box 65 [.d (.sl none (bys x)), .d (.int .i64 u)])], 1⟩) ?_ ?_
  · by_cases h1 : u < 0
    · refine awp_run ty_ok rfl sd ?_
      simp only [h1, decide_true]
      refine aops_run ty_ok [3, 8, 13] rfl sd ?_
      refine aops_nil ?_
      exact ⟨rfl, Sub.mk' rfl rfl ⟨rfl, by simp; rfl, trivial⟩ ⟨rfl, trivial⟩⟩
    · refine awp_run ty_ok rfl sd ?_
      simp only [h1, decide_false]
      refine aops_run ty_ok [3] rfl sd ?_
      by_cases h2 : u > 7
      · simp only [h2, decide_true]
        refine aops_run ty_ok [3, 8, 13] rfl sd ?_
        refine aops_nil ?_
        exact ⟨rfl, Sub.mk' rfl rfl ⟨rfl, by simp [h2]; rfl, trivial⟩ ⟨rfl, trivial⟩⟩
      · simp only [h2, decide_false]
        refine aops_run ty_ok [3, 8] rfl sd ?_
        cases x with
        | nil =>
          simp only [show ((((bys ([] : List UInt8)).length : Nat) : Int) == 0) = true from rfl]
          refine aops_run ty_ok [3, 8, 13] rfl sd ?_
          refine aops_nil ?_
          exact ⟨rfl, Sub.mk' rfl rfl ⟨rfl, by simp [h1, h2]; rfl, trivial⟩ ⟨rfl, trivial⟩⟩
        | cons b x =>
          simp only [show ((((bys (b :: x)).length : Nat) : Int) == 0) = false by simp [bys]; omega]
          refine aops_run ty_ok [3, 8, 13] rfl sd ?_
          refine aops_nil ?_
          exact ⟨rfl, Sub.mk' rfl rfl ⟨rfl, by simp [h1, h2]; rfl, trivial⟩ ⟨rfl, trivial⟩⟩
  rintro _ σ ⟨rfl, hs⟩
  refine awp_sub hs ?_
  refine awp_cond (ty := ty) rfl (fun hc => ?_) (fun hc => ?_)
  · repeat (first | refine awp_reg ty_ok rfl sd ?_ | refine awp_seq ?_ | refine awp_all ty_ok rfl sd ?_ | refine awp_block ?_ | refine awp_skip ?_ | refine awp_exit ?_)
    refine awp_ret ⟨_, _, rfl, rfl, ?_⟩
    simp at hc
    have hf : valF x u = false := by
      cases x with
      | nil => simp [valF]; simp at hc; omega
      | cons b x => simp [valF]; simp at hc; omega
    rw [hf]
  · simp at hc
    obtain ⟨h1, h2, h3⟩ := hc
    repeat (first | refine awp_reg ty_ok rfl sd ?_ | refine awp_seq ?_ | refine awp_all ty_ok rfl sd ?_ | refine awp_block ?_ | refine awp_skip ?_ | refine awp_exit ?_)
    refine awp_loop (G := { k : Nat // k ≤ u.toNat }) (fun k => ⟨Tryd.f54.ntmps, [(1, .ptr 0 0), (3, .d (.int .i64 ((2 ^ k.1 : Nat) : Int))), (4, .d (.int .i64 k.1))], [(0, .box 65 [.d (.sl none (bys x)), .d (.int .i64 u)])], 1⟩) (fun k => u.toNat - k.1) ⟨0, Nat.zero_le _⟩ (Sub.mk' rfl rfl ⟨rfl, rfl, rfl, trivial⟩ ⟨rfl, trivial⟩) ?_
    rintro ⟨k, hk⟩
    repeat (first | refine awp_reg ty_ok rfl sd ?_ | refine awp_seq ?_ | refine awp_all ty_ok rfl sd ?_ | refine awp_block ?_ | refine awp_skip ?_ | refine awp_exit ?_)
    refine awp_cond (ty := ty) rfl (fun hc => ?_) (fun hc => ?_)
    · have hk1 : (k : Int) < u := by simpa using hc
      have hp : 2 ^ k ≤ 2 ^ 7 := Nat.pow_le_pow_right (by omega) (by omega)
      have hq : ((2 ^ (k + 1) : Nat) : Int) = ((2 ^ k : Nat) : Int) * 2 := by rw [Nat.pow_succ]; omega
      obtain ⟨pw, hpw⟩ : ∃ pw, pw = 2 ^ k := ⟨_, rfl⟩
      rw [← hpw] at hp hq
      simp only [← hpw]
      repeat (first | refine awp_reg ty_ok rfl sd ?_ | refine awp_seq ?_ | refine awp_all ty_ok rfl sd ?_ | refine awp_block ?_ | refine awp_skip ?_ | refine awp_exit ?_)
      refine ⟨⟨k + 1, by omega⟩, Sub.mk' rfl rfl ⟨rfl, congrArg (fun z => some (AV.d (Dat.int IntKind.i64 z))) hq.symm, rfl, trivial⟩ ⟨rfl, trivial⟩, by simp only; omega⟩
    · have hk1 : k = u.toNat := by
        simp at hc
        omega
      subst hk1
      have hp : 2 ^ u.toNat ≤ 2 ^ 7 := Nat.pow_le_pow_right (by omega) (by omega)
      have hp0 : 0 < 2 ^ u.toNat := Nat.two_pow_pos _
      repeat (first | refine awp_reg ty_ok rfl sd ?_ | refine awp_seq ?_ | refine awp_all ty_ok rfl sd ?_ | refine awp_block ?_ | refine awp_skip ?_ | refine awp_exit ?_)
      refine awp_run ty_ok rfl sd ?_
      cases x with
      | nil =>
        simp only [show ((((bys ([] : List UInt8)).length : Nat) : Int) == 0) = true from rfl]
        refine aops_run ty_ok [4] rfl sd ?_
        refine aops_nil ?_
        refine awp_ret ⟨_, _, rfl, rfl, ?_⟩
        have : u = 0 := by simp at h3; omega
        simp [valF, this]
      | cons b x =>
        simp only [show ((((bys (b :: x)).length : Nat) : Int) == 0) = false by simp [bys]; omega]
        refine aops_run ty_ok [4] rfl ?_ ?_
        · simp only [and_true, true_and, canon_bys, bys_len, List.length_cons] at *
          omega
        refine aops_nil ?_
        refine awp_ret ⟨_, _, rfl, rfl, ?_⟩
        have h4 : (((b :: x).length : Int) - 1).toNat = (b :: x).length - 1 := by omega
        rw [num_bys, bys_len, h4]
        generalize hl : (b :: x).getD ((b :: x).length - 1) 0 = lb
        have hlb : lb.toNat < 256 := lb.toNat_lt
        have hw : IntKind.i64.wrap (lb.toNat : Int) = lb.toNat := by rw [IntKind.wrap_i64]; omega
        rw [hw]
        have hv : valF (b :: x) u = decide (lb.toNat % 2 ^ u.toNat = 0) := by
          simp only [valF, hl]
          simp [h1, h2]
        rw [hv]
        generalize 2 ^ u.toNat = pw
        show Res.d (Dat.bool (Int.tmod (lb.toNat : Int) (pw : Int) == 0)) = _
        rw [show Int.tmod (lb.toNat : Int) (pw : Int) = ((lb.toNat % pw : Nat) : Int) from rfl]
        by_cases h5 : lb.toNat % pw = 0
        · simp [h5]
        · have : ¬ ((lb.toNat % pw : Nat) : Int) = 0 := by omega
          simp [h5]
          exact this
end Go.Proofs.YtbbakpmedpcigaaDoor

/- Encode and Decode of bit strings, walked by the abstract machine. -/
namespace Go.Proofs.YtbbakpmedpcigaaDoor
open Go.Am
set_option linter.unusedSimpArgs false
set_option linter.unusedVariables false

def encR (x : List UInt8) (u : Int) (r : Res) : Prop := (valF x u = true → r = .ownT none 5 (bys (UInt8.ofNat u.toNat :: x)) [.int .i64 0]) ∧ (valF x u = false → r = .d (.tup [.sl none [], .int .i64 8]))
theorem isREncode : IsFn Tryd.prog 38 Tryd.f38 := ⟨Tryd.func38, by decide, rfl⟩
theorem c_rencode (Γ : Env) (x : List UInt8) (u : Int) (hx : x.length ≤ 1099511627) : ACalls Tryd.prog Γ 38 [bitsD x u] (encR x u) := by
  refine acalls_of ty_ok isREncode rfl rfl ?_
  repeat (first | refine awp_reg ty_ok rfl sd ?_ | refine awp_seq ?_ | refine awp_all ty_ok rfl sd ?_ | refine awp_block ?_ | refine awp_skip ?_ | refine awp_exit ?_)
  refine awp_run ty_ok rfl sd ?_
  refine aops_call (ty := ty) rfl rfl rfl rfl rfl rfl rfl (c_rvalid _ x u (by omega)) (fun r hr => ?_)
  subst hr
  refine aops_run ty_ok [] rfl sd ?_
  refine aops_nil ?_
  refine awp_cond (ty := ty) rfl (fun hc => ?_) (fun hc => ?_)
  · have hv : valF x u = false := by simpa using hc
    repeat (first | refine awp_reg ty_ok rfl sd ?_ | refine awp_seq ?_ | refine awp_all ty_ok rfl sd ?_ | refine awp_block ?_ | refine awp_skip ?_ | refine awp_exit ?_)
    refine awp_ret ⟨_, _, rfl, rfl, ?_⟩
    exact ⟨fun h => (by rw [hv] at h; cases h), fun _ => rfl⟩
  · have hv : valF x u = true := by simpa using hc
    obtain ⟨h0, h7⟩ := valF_range hv
    have hw := wrap_u8 u h0 (by omega)
    repeat (first | refine awp_reg ty_ok rfl sd ?_ | refine awp_seq ?_ | refine awp_all ty_ok rfl sd ?_ | refine awp_block ?_ | refine awp_skip ?_ | refine awp_exit ?_)
    refine awp_ret ⟨_, _, rfl, rfl, ?_⟩
    rw [hw]
    exact ⟨fun _ => rfl, fun h => (by rw [hv] at h; cases h)⟩

def decD (c : List UInt8) : Dat := .tup [bitsD (decF c).1 (decF c).2.1, .int .i64 (decF c).2.2]
theorem isDecode : IsFn Tryd.prog 41 Tryd.f41 := ⟨Tryd.func41, by decide, rfl⟩
theorem c_decode (Γ : Env) (c : List UInt8) (hx : c.length ≤ 1099511627) : ACalls Tryd.prog Γ 41 [.sl none (bys c)] (fun r => r = .d (decD c)) := by
  refine acalls_of ty_ok isDecode rfl rfl ?_
  repeat (first | refine awp_reg ty_ok rfl sd ?_ | refine awp_seq ?_ | refine awp_all ty_ok rfl sd ?_ | refine awp_block ?_ | refine awp_skip ?_ | refine awp_exit ?_)
  refine awp_cond (ty := ty) rfl (fun hc => ?_) (fun hc => ?_)
  · repeat (first | refine awp_reg ty_ok rfl sd ?_ | refine awp_seq ?_ | refine awp_all ty_ok rfl sd ?_ | refine awp_block ?_ | refine awp_skip ?_ | refine awp_exit ?_)
    refine awp_ret ⟨_, _, rfl, rfl, ?_⟩
    cases c with
    | nil => rfl
    | cons b x => simp [bys] at hc; omega
  cases c with
  | nil => simp [bys] at hc
  | cons b x =>
    simp at hx
    repeat (first | refine awp_reg ty_ok rfl sd ?_ | refine awp_seq ?_ | refine awp_all ty_ok rfl sd ?_ | refine awp_block ?_ | refine awp_skip ?_ | refine awp_exit ?_)
    refine awp_any 9 mixed (by kernel_rfl) ?_
    refine head_go ty_ok [] rfl sd ?_
    simp only [cutL_bys, show Int.toNat 1 = 1 from rfl, cutB_tail]
    refine head_call (ty := ty) (.sl none (bys x)) rfl rfl rfl rfl rfl rfl rfl (c_clone _ x (by omega)) (fun r hr => by rw [hr]; rfl) ?_
    refine head_go ty_ok [] rfl ?_ ?_
    · simp only [and_true, true_and, canon_bys, bys_len, List.length_cons, show Int.toNat 0 = 0 from rfl]
      omega
    have hb : b.toNat < 256 := b.toNat_lt
    have hw : IntKind.i64.wrap (b.toNat : Int) = b.toNat := by rw [IntKind.wrap_i64]; omega
    simp only [show Int.toNat 0 = 0 from rfl, num_bys, List.getD_cons_zero, hw]
    refine head_end ?_
    refine aops_run ty_ok [] rfl sd ?_
    refine aops_nil ?_
    repeat (first | refine awp_reg ty_ok rfl sd ?_ | refine awp_seq ?_ | refine awp_all ty_ok rfl sd ?_ | refine awp_block ?_ | refine awp_skip ?_ | refine awp_exit ?_)
    refine awp_run ty_ok rfl sd ?_
    refine aops_call (ty := ty) rfl rfl rfl rfl rfl rfl rfl (c_valid _ x b.toNat (by omega)) (fun r hr => ?_)
    subst hr
    refine aops_run ty_ok [] rfl sd ?_
    refine aops_nil ?_
    refine awp_cond (ty := ty) rfl (fun hc => ?_) (fun hc => ?_)
    · have hv : valF x b.toNat = false := by simpa using hc
      repeat (first | refine awp_reg ty_ok rfl sd ?_ | refine awp_seq ?_ | refine awp_all ty_ok rfl sd ?_ | refine awp_block ?_ | refine awp_skip ?_ | refine awp_exit ?_)
      refine awp_ret ⟨_, _, rfl, rfl, ?_⟩
      simp only [decD, decF, hv]
      rfl
    · have hv : valF x b.toNat = true := by simpa using hc
      repeat (first | refine awp_reg ty_ok rfl sd ?_ | refine awp_seq ?_ | refine awp_all ty_ok rfl sd ?_ | refine awp_block ?_ | refine awp_skip ?_ | refine awp_exit ?_)
      refine awp_ret ⟨_, _, rfl, rfl, ?_⟩
      simp only [decD, decF, hv]
      rfl

end Go.Proofs.YtbbakpmedpcigaaDoor

/- Len and At of bit strings, walked by the abstract machine. -/
namespace Go.Proofs.YtbbakpmedpcigaaDoor
open Go.Am
set_option linter.unusedSimpArgs false
set_option linter.unusedVariables false

theorem isLen : IsFn Tryd.prog 42 Tryd.f42 := ⟨Tryd.func42, by decide, rfl⟩
theorem c_len (Γ : Env) (x : List UInt8) (u : Int) (hx : x.length ≤ 1099511627) : ACalls Tryd.prog Γ 42 [bitsD x u] (fun r => r = .d (.int .i64 (lenF x u))) := by
  refine acalls_of ty_ok isLen rfl rfl ?_
  repeat (first | refine awp_reg ty_ok rfl sd ?_ | refine awp_seq ?_ | refine awp_all ty_ok rfl sd ?_ | refine awp_block ?_ | refine awp_skip ?_ | refine awp_exit ?_)
  refine awp_run ty_ok rfl sd ?_
  refine aops_call (ty := ty) rfl rfl rfl rfl rfl rfl rfl (c_valid _ x u (by omega)) (fun r hr => ?_)
  subst hr
  refine aops_run ty_ok [] rfl sd ?_
  refine aops_nil ?_
  refine awp_cond (ty := ty) rfl (fun hc => ?_) (fun hc => ?_)
  · have hv : valF x u = false := by simpa using hc
    repeat (first | refine awp_reg ty_ok rfl sd ?_ | refine awp_seq ?_ | refine awp_all ty_ok rfl sd ?_ | refine awp_block ?_ | refine awp_skip ?_ | refine awp_exit ?_)
    refine awp_ret ⟨_, _, rfl, rfl, ?_⟩
    simp [lenF, hv]
  · have hv : valF x u = true := by simpa using hc
    have hr := valF_range hv
    repeat (first | refine awp_reg ty_ok rfl sd ?_ | refine awp_seq ?_ | refine awp_all ty_ok rfl sd ?_ | refine awp_block ?_ | refine awp_skip ?_ | refine awp_exit ?_)
    refine awp_ret ⟨_, _, rfl, rfl, ?_⟩
    simp [lenF, hv, bys_len]
theorem isAt : IsFn Tryd.prog 44 Tryd.f44 := ⟨Tryd.func44, by decide, rfl⟩
theorem c_at (Γ : Env) (x : List UInt8) (u i : Int) (hx : x.length ≤ 1099511627) : ACalls Tryd.prog Γ 44 [bitsD x u, .int .i64 i] (fun r => r = .d (.bool (atF x u i))) := by
  refine acalls_of ty_ok isAt rfl rfl ?_
  repeat (first | refine awp_reg ty_ok rfl sd ?_ | refine awp_seq ?_ | refine awp_all ty_ok rfl sd ?_ | refine awp_block ?_ | refine awp_skip ?_ | refine awp_exit ?_)
  refine awp_run ty_ok rfl sd ?_
  by_cases h0 : i ≥ 0
  · simp only [h0, decide_true]
    refine aops_run ty_ok [2] rfl sd ?_
    refine aops_call (ty := ty) rfl rfl rfl rfl rfl rfl rfl (c_len _ x u (by omega)) (fun r hr => ?_)
    subst hr
    refine aops_run ty_ok [2] rfl sd ?_
    have hle := lenF_le x u
    by_cases h1 : i < lenF x u
    · simp only [h1, decide_true]
      have hq : IntKind.i64.wrap (i.tdiv 8) = i / 8 := by rw [Int.tdiv_eq_ediv_of_nonneg h0, IntKind.wrap_i64]; omega
      have hm : i.tmod 8 = i % 8 := Int.tmod_eq_emod_of_nonneg h0
      refine aops_run ty_ok [2, 8] rfl ?_ ?_
      · simp only [and_true, true_and, canon_bys, bys_len, hq, hm]
        omega
      refine aops_nil ?_
      refine awp_ret ⟨_, _, rfl, rfl, ?_⟩
      rw [num_bys, hq, hm, bit_u8 _ _ (by omega) (by omega)]
      have h2 : (0 : Int) ≤ i := h0
      simp [atF, h1, h2]
    · simp only [h1, decide_false]
      refine aops_run ty_ok [2, 8] rfl sd ?_
      refine aops_nil ?_
      refine awp_ret ⟨_, _, rfl, rfl, ?_⟩
      simp [atF, h1]
  · simp only [h0, decide_false]
    refine aops_run ty_ok [2, 8] rfl sd ?_
    refine aops_nil ?_
    refine awp_ret ⟨_, _, rfl, rfl, ?_⟩
    have h2 : ¬ (0 : Int) ≤ i := h0
    simp [atF, h2]
end Go.Proofs.YtbbakpmedpcigaaDoor

/- At of the reference, members of sets, walked by the abstract machine. -/
namespace Go.Proofs.YtbbakpmedpcigaaDoor
open Go.Am
set_option linter.unusedSimpArgs false
set_option linter.unusedVariables false

theorem isMembers : IsFn Tryd.prog 31 Tryd.f31 := ⟨Tryd.func31, by decide, rfl⟩
theorem c_members (Γ : Env) (n : Int) (hn : n ≤ 9223372036854775807) : ACalls Tryd.prog Γ 31 [.int .i64 n] (fun r => r = .own none 3 (ints (memI n))) := by
  refine acalls_of ty_ok isMembers rfl rfl ?_
  repeat (first | refine awp_reg ty_ok rfl sd ?_ | refine awp_seq ?_ | refine awp_all ty_ok rfl sd ?_ | refine awp_block ?_ | refine awp_skip ?_ | refine awp_exit ?_)
  refine awp_cond (ty := ty) rfl (fun hc => ?_) (fun hc => ?_)
  · repeat (first | refine awp_reg ty_ok rfl sd ?_ | refine awp_seq ?_ | refine awp_all ty_ok rfl sd ?_ | refine awp_block ?_ | refine awp_skip ?_ | refine awp_exit ?_)
    refine awp_nilrow 2 3 rfl ?_
    refine awp_ret ⟨_, _, rfl, rfl, ?_⟩
    have : n.toNat = 0 := by simp at hc; omega
    rw [memI, this, memF_zero]
    rfl
  have h0 : 0 ≤ n := by simpa using hc
  obtain ⟨N, rfl⟩ := Int.eq_ofNat_of_zero_le h0
  repeat (first | refine awp_reg ty_ok rfl sd ?_ | refine awp_seq ?_ | refine awp_all ty_ok rfl sd ?_ | refine awp_block ?_ | refine awp_skip ?_ | refine awp_exit ?_)
  refine awp_nilrow 3 3 rfl ?_
  refine awp_loopR (G := { k : Nat // k ≤ 63 }) (fun k => ⟨Tryd.f31.ntmps, [(0, .d (.int .i64 N)), (3, .ref 0), (4, .d (.int .i64 k.1))], [(0, .row none 3 (ints (natI (memTo N k.1))))], 1⟩) (fun k => 63 - k.1) ⟨0, Nat.zero_le _⟩ [(0, 0)]
    (SubR.mk' rfl rfl ⟨⟨_, rfl, rfl⟩, ⟨_, rfl, rfl⟩, ⟨_, rfl, rfl⟩, trivial⟩ ⟨⟨_, _, rfl, rfl, rfl⟩, trivial⟩) ?_
  rintro ⟨k, hk⟩
  repeat (first | refine awp_reg ty_ok rfl sd ?_ | refine awp_seq ?_ | refine awp_all ty_ok rfl sd ?_ | refine awp_block ?_ | refine awp_skip ?_ | refine awp_exit ?_)
  refine awp_cond (ty := ty) rfl (fun hc => ?_) (fun hc => ?_)
  · have h1 : N / 2 ^ k ≠ 0 := by
      rw [shr_i64 N k (by omega)] at hc
      simp only [bne_iff_ne, ne_eq] at hc
      intro h
      rw [h] at hc
      exact hc rfl
    have h2 : 2 ^ k ≤ N := by
      have h9 := (Nat.le_div_iff_mul_le (Nat.two_pow_pos k)).1 (Nat.pos_of_ne_zero h1)
      simpa using h9
    have h3 : k < 63 := by
      rcases Nat.lt_or_ge k 63 with h | h
      · exact h
      · have := Nat.pow_le_pow_right (show 0 < 2 by omega) h
        omega
    have hlen := memTo_len N k
    repeat (first | refine awp_reg ty_ok rfl sd ?_ | refine awp_seq ?_ | refine awp_all ty_ok rfl sd ?_ | refine awp_block ?_ | refine awp_skip ?_ | refine awp_exit ?_)
    refine awp_cond (ty := ty) rfl (fun hc => ?_) (fun hc => ?_)
    · rw [bit_i64 N k (by omega) (by omega)] at hc
      repeat (first | refine awp_reg ty_ok rfl sd ?_ | refine awp_seq ?_ | refine awp_all ty_ok rfl sd ?_ | refine awp_block ?_ | refine awp_skip ?_ | refine awp_exit ?_)
      refine ⟨⟨k + 1, h3⟩, [(2, 0)], SubR.mk' rfl rfl ⟨⟨_, rfl, rfl⟩, ⟨_, rfl, rfl⟩, ⟨_, rfl, rfl⟩, trivial⟩ ⟨⟨_, _, rfl, rfl, congrArg (AO.row none 3) (by rw [memTo_succ, hc, natI_app, ints_app]; rfl)⟩, trivial⟩, by simp only; omega⟩
    · rw [bit_i64 N k (by omega) (by omega)] at hc
      repeat (first | refine awp_reg ty_ok rfl sd ?_ | refine awp_seq ?_ | refine awp_all ty_ok rfl sd ?_ | refine awp_block ?_ | refine awp_skip ?_ | refine awp_exit ?_)
      refine ⟨⟨k + 1, h3⟩, [(0, 0)], SubR.mk' rfl rfl ⟨⟨_, rfl, rfl⟩, ⟨_, rfl, rfl⟩, ⟨_, rfl, rfl⟩, trivial⟩ ⟨⟨_, _, rfl, rfl, congrArg (fun l => AO.row none 3 (ints (natI l))) (by rw [memTo_succ, hc]; simp)⟩, trivial⟩, by simp only; omega⟩
  · have h1 : N / 2 ^ k = 0 := by
      rw [shr_i64 N k (by omega)] at hc
      simp only [bne_eq_false_iff_eq] at hc
      exact Int.ofNat.inj hc
    have h2 : N < 2 ^ k := by
      rcases Nat.lt_or_ge N (2 ^ k) with h | h
      · exact h
      · have := Nat.div_pos h (Nat.two_pow_pos k)
        omega
    repeat (first | refine awp_reg ty_ok rfl sd ?_ | refine awp_seq ?_ | refine awp_all ty_ok rfl sd ?_ | refine awp_block ?_ | refine awp_skip ?_ | refine awp_exit ?_)
    refine awp_ret ⟨_, _, rfl, rfl, ?_⟩
    simp only [memI, Int.toNat_natCast, memTo_stop N k h2 (by omega)]

theorem isRMembers : IsFn Tryd.prog 37 Tryd.f37 := ⟨Tryd.func37, by decide, rfl⟩
theorem c_rmembers (Γ : Env) (n : Int) (hn : n ≤ 9223372036854775807) : ACalls Tryd.prog Γ 37 [.int .i64 n] (fun r => r = .own none 3 (ints (memI n))) := by
  refine acalls_of ty_ok isRMembers rfl rfl ?_
  repeat (first | refine awp_reg ty_ok rfl sd ?_ | refine awp_seq ?_ | refine awp_all ty_ok rfl sd ?_ | refine awp_block ?_ | refine awp_skip ?_ | refine awp_exit ?_)
  refine awp_nilrow 3 3 rfl ?_
  by_cases h0 : n < 0
  · refine awp_loopR (G := Unit) (fun k => ⟨Tryd.f37.ntmps, [(0, .d (.int .i64 n)), (3, .ref 0), (4, .d (.int .i64 0))], [(0, .row none 3 [])], 1⟩) (fun k => 0) () [(0, 0)]
      (SubR.mk' rfl rfl ⟨⟨_, rfl, rfl⟩, ⟨_, rfl, rfl⟩, ⟨_, rfl, rfl⟩, trivial⟩ ⟨⟨_, _, rfl, rfl, rfl⟩, trivial⟩) ?_
    rintro ⟨⟩
    repeat (first | refine awp_reg ty_ok rfl sd ?_ | refine awp_seq ?_ | refine awp_all ty_ok rfl sd ?_ | refine awp_block ?_ | refine awp_skip ?_ | refine awp_exit ?_)
    refine awp_cond (ty := ty) rfl (fun hc => ?_) (fun hc => ?_)
    · exfalso
      simp at hc
      omega
    repeat (first | refine awp_reg ty_ok rfl sd ?_ | refine awp_seq ?_ | refine awp_all ty_ok rfl sd ?_ | refine awp_block ?_ | refine awp_skip ?_ | refine awp_exit ?_)
    refine awp_ret ⟨_, _, rfl, rfl, ?_⟩
    have : n.toNat = 0 := by omega
    rw [memI, this, memF_zero]
    rfl
  have h0 : 0 ≤ n := by omega
  obtain ⟨N, rfl⟩ := Int.eq_ofNat_of_zero_le h0
  refine awp_loopR (G := { k : Nat // k ≤ 63 }) (fun k => ⟨Tryd.f37.ntmps, [(0, .d (.int .i64 ((N / 2 ^ k.1 : Nat) : Int))), (3, .ref 0), (4, .d (.int .i64 k.1))], [(0, .row none 3 (ints (natI (memTo N k.1))))], 1⟩) (fun k => 63 - k.1) ⟨0, Nat.zero_le _⟩ [(0, 0)]
    (SubR.mk' rfl rfl ⟨⟨_, rfl, congrArg (fun z : Nat => AV.d (Dat.int IntKind.i64 z)) (by simp)⟩, ⟨_, rfl, rfl⟩, ⟨_, rfl, rfl⟩, trivial⟩ ⟨⟨_, _, rfl, rfl, rfl⟩, trivial⟩) ?_
  rintro ⟨k, hk⟩
  repeat (first | refine awp_reg ty_ok rfl sd ?_ | refine awp_seq ?_ | refine awp_all ty_ok rfl sd ?_ | refine awp_block ?_ | refine awp_skip ?_ | refine awp_exit ?_)
  obtain ⟨D, hD⟩ : ∃ D, D = N / 2 ^ k := ⟨_, rfl⟩
  have hDN : D ≤ N := by rw [hD]; exact Nat.div_le_self _ _
  have hbit : N.testBit k = decide (D % 2 = 1) := by rw [hD, Nat.testBit_eq_decide_div_mod_eq]
  have hD2 : N / 2 ^ (k + 1) = D / 2 := by rw [Nat.pow_succ, ← Nat.div_div_eq_div_mul, hD]
  simp only [← hD]
  refine awp_cond (ty := ty) rfl (fun hc => ?_) (fun hc => ?_)
  · have h1 : 0 < D := by simpa using hc
    have h2 : 2 ^ k ≤ N := by
      have h9 := (Nat.le_div_iff_mul_le (Nat.two_pow_pos k)).1 (show 0 < N / 2 ^ k by rw [← hD]; exact h1)
      simpa using h9
    have h3 : k < 63 := by
      rcases Nat.lt_or_ge k 63 with h | h
      · exact h
      · have := Nat.pow_le_pow_right (show 0 < 2 by omega) h
        omega
    have hlen := memTo_len N k
    have hq : IntKind.i64.wrap (Int.tdiv (D : Int) 2) = ((N / 2 ^ (k + 1) : Nat) : Int) := by
      rw [hD2, Int.tdiv_eq_ediv_of_nonneg (by omega), IntKind.wrap_i64]
      omega
    have hm : Int.tmod (D : Int) 2 = ((D % 2 : Nat) : Int) := rfl
    repeat (first | refine awp_reg ty_ok rfl sd ?_ | refine awp_seq ?_ | refine awp_all ty_ok rfl sd ?_ | refine awp_block ?_ | refine awp_skip ?_ | refine awp_exit ?_)
    refine awp_cond (ty := ty) rfl (fun hc => ?_) (fun hc => ?_)
    · have hb : N.testBit k = true := by
        rw [hm] at hc
        simp at hc
        rw [hbit]
        simp
        omega
      repeat (first | refine awp_reg ty_ok rfl sd ?_ | refine awp_seq ?_ | refine awp_all ty_ok rfl sd ?_ | refine awp_block ?_ | refine awp_skip ?_ | refine awp_exit ?_)
      refine ⟨⟨k + 1, h3⟩, [(2, 0)], SubR.mk' rfl rfl ⟨⟨_, rfl, congrArg (fun z : Int => AV.d (Dat.int IntKind.i64 z)) hq⟩, ⟨_, rfl, rfl⟩, ⟨_, rfl, rfl⟩, trivial⟩ ⟨⟨_, _, rfl, rfl, congrArg (AO.row none 3) (by rw [memTo_succ, hb, natI_app, ints_app]; rfl)⟩, trivial⟩, by simp only; omega⟩
    · have hb : N.testBit k = false := by
        rw [hm] at hc
        simp at hc
        rw [hbit]
        simp
        omega
      repeat (first | refine awp_reg ty_ok rfl sd ?_ | refine awp_seq ?_ | refine awp_all ty_ok rfl sd ?_ | refine awp_block ?_ | refine awp_skip ?_ | refine awp_exit ?_)
      refine ⟨⟨k + 1, h3⟩, [(0, 0)], SubR.mk' rfl rfl ⟨⟨_, rfl, congrArg (fun z : Int => AV.d (Dat.int IntKind.i64 z)) hq⟩, ⟨_, rfl, rfl⟩, ⟨_, rfl, rfl⟩, trivial⟩ ⟨⟨_, _, rfl, rfl, congrArg (fun l => AO.row none 3 (ints (natI l))) (by rw [memTo_succ, hb]; simp)⟩, trivial⟩, by simp only; omega⟩
  · have h1 : D = 0 := by
      simp at hc
      omega
    have h2 : N < 2 ^ k := by
      rcases Nat.lt_or_ge N (2 ^ k) with h | h
      · exact h
      · have := Nat.div_pos h (Nat.two_pow_pos k)
        omega
    repeat (first | refine awp_reg ty_ok rfl sd ?_ | refine awp_seq ?_ | refine awp_all ty_ok rfl sd ?_ | refine awp_block ?_ | refine awp_skip ?_ | refine awp_exit ?_)
    refine awp_ret ⟨_, _, rfl, rfl, ?_⟩
    simp only [memI, Int.toNat_natCast, memTo_stop N k h2 (by omega)]
end Go.Proofs.YtbbakpmedpcigaaDoor

/- At of the reference, Ints, walked by the abstract machine. -/
namespace Go.Proofs.YtbbakpmedpcigaaDoor
open Go.Am
set_option linter.unusedSimpArgs false
set_option linter.unusedVariables false

end Go.Proofs.YtbbakpmedpcigaaDoor

/- EncodeNamed, walked by the abstract machine. -/
namespace Go.Proofs.YtbbakpmedpcigaaDoor
open Go.Am
set_option linter.unusedSimpArgs false
set_option linter.unusedVariables false

def badF (n k : Int) : Bool := decide (k < 1 ∨ k > 32 ∨ n < 0 ∨ ¬ n.toNat < 2 ^ k.toNat)
def encNR (n k : Int) (r : Res) : Prop := (badF n k = true → r = .d (.tup [.sl none [], .int .i64 9])) ∧ (badF n k = false → memF n.toNat = [] → r = .ownT none 5 (bys [0]) [.int .i64 0]) ∧
  (badF n k = false → ∀ q m, memF n.toNat = q ++ [m] → r = .ownT none 5 (bys (outP (q ++ [m]) m)) [.int .i64 0])

theorem isEncodeNamed : IsFn Tryd.prog 24 Tryd.f24 := ⟨Tryd.func24, by decide, rfl⟩
theorem c_encn (Γ : Env) (n k : Int) (hn : n ≤ 9223372036854775807) : ACalls Tryd.prog Γ 24 [.int .i64 n, .int .i64 k] (encNR n k) := by
  refine acalls_of ty_ok isEncodeNamed rfl rfl ?_
  repeat (first | refine awp_reg ty_ok rfl sd ?_ | refine awp_seq ?_ | refine awp_all ty_ok rfl sd ?_ | refine awp_block ?_ | refine awp_skip ?_ | refine awp_exit ?_)
  refine awp_mono (Q := fun e σ => e = .normal ∧ Sub σ ⟨Tryd.f24.ntmps, [(0, .d (.int .i64 n)), (1, .d (.int .i64 k)), (26, .d (.bool (badF n k)))], [], 0⟩) ?_ ?_
  · refine awp_run ty_ok rfl sd ?_
    by_cases h1 : k < 1
    · simp only [h1, decide_true]
      refine aops_run ty_ok [2, 6, 10] rfl sd ?_
      refine aops_nil ?_
      exact ⟨rfl, Sub.mk' rfl rfl ⟨rfl, rfl, by simp [badF, h1]; rfl, trivial⟩ trivial⟩
    · simp only [h1, decide_false]
      refine aops_run ty_ok [2] rfl sd ?_
      by_cases h2 : k > 32
      · simp only [h2, decide_true]
        refine aops_run ty_ok [2, 6, 10] rfl sd ?_
        refine aops_nil ?_
        exact ⟨rfl, Sub.mk' rfl rfl ⟨rfl, rfl, by simp [badF, h2]; rfl, trivial⟩ trivial⟩
      · simp only [h2, decide_false]
        refine aops_run ty_ok [2, 6] rfl sd ?_
        by_cases h3 : n < 0
        · simp only [h3, decide_true]
          refine aops_run ty_ok [2, 6, 10] rfl sd ?_
          refine aops_nil ?_
          exact ⟨rfl, Sub.mk' rfl rfl ⟨rfl, rfl, by simp [badF, h3]; rfl, trivial⟩ trivial⟩
        · simp only [h3, decide_false]
          refine aops_run ty_ok [2, 6, 10] rfl sd ?_
          refine aops_nil ?_
          refine ⟨rfl, Sub.mk' rfl rfl ⟨rfl, rfl, ?_, trivial⟩ trivial⟩
          obtain ⟨N, rfl⟩ := Int.eq_ofNat_of_zero_le (show 0 ≤ n by omega)
          obtain ⟨K, rfl⟩ := Int.eq_ofNat_of_zero_le (show 0 ≤ k by omega)
          refine congrArg (fun b => some (AV.d (Dat.bool b))) (?_ : (shft .shr .i64 (N : Int) (K : Int) != 0) = _)
          rw [shr_i64 N K (by omega)]
          have hlt : N / 2 ^ K = 0 ↔ N < 2 ^ K := Nat.div_eq_zero_iff_lt (Nat.two_pow_pos K)
          by_cases h4 : N < 2 ^ K
          · rw [hlt.2 h4]
            simp [badF, h1, h2, h3, h4]
          · have h5 : ¬ N / 2 ^ K = 0 := fun h => h4 (hlt.1 h)
            have h6 : ¬ ((N / 2 ^ K : Nat) : Int) = 0 := fun h => h5 (Int.ofNat.inj h)
            have h7 : badF (N : Int) (K : Int) = true := by
              simp only [badF, Int.toNat_natCast]
              simp [h4]
            rw [h7]
            simpa using h6
  rintro _ σ ⟨rfl, hs⟩
  refine awp_sub hs ?_
  refine awp_cond (ty := ty) rfl (fun hc => ?_) (fun hc => ?_)
  · repeat (first | refine awp_reg ty_ok rfl sd ?_ | refine awp_seq ?_ | refine awp_all ty_ok rfl sd ?_ | refine awp_block ?_ | refine awp_skip ?_ | refine awp_exit ?_)
    refine awp_ret ⟨_, _, rfl, rfl, ?_⟩
    exact ⟨fun _ => rfl, fun h => (by rw [hc] at h; cases h), fun h => (by rw [hc] at h; cases h)⟩
  have hb := hc
  have hbf : badF n k = false := hc
  simp [badF] at hb
  obtain ⟨h1, h2, h3, h4⟩ := hb
  obtain ⟨N, rfl⟩ := Int.eq_ofNat_of_zero_le h3
  obtain ⟨K, rfl⟩ := Int.eq_ofNat_of_zero_le (show 0 ≤ k by omega)
  repeat (first | refine awp_reg ty_ok rfl sd ?_ | refine awp_seq ?_ | refine awp_all ty_ok rfl sd ?_ | refine awp_block ?_ | refine awp_skip ?_ | refine awp_exit ?_)
  refine awp_run ty_ok rfl sd ?_
  refine aops_call (ty := ty) rfl rfl rfl rfl rfl rfl rfl (c_members _ N hn) (fun r hr => ?_)
  subst hr
  refine aops_run ty_ok [] rfl sd ?_
  refine aops_nil ?_
  repeat (first | refine awp_reg ty_ok rfl sd ?_ | refine awp_seq ?_ | refine awp_all ty_ok rfl sd ?_ | refine awp_block ?_ | refine awp_skip ?_ | refine awp_exit ?_)
  have hmi : memI (N : Int) = natI (memF N) := by simp only [memI, Int.toNat_natCast]
  simp only [hmi]
  rcases List.eq_nil_or_concat (memF N) with he | ⟨q, m, he⟩
  · simp only [he]
    refine awp_cond (ty := ty) rfl (fun hc => ?_) (fun hc => ?_)
    · repeat (first | refine awp_reg ty_ok rfl sd ?_ | refine awp_seq ?_ | refine awp_all ty_ok rfl sd ?_ | refine awp_block ?_ | refine awp_skip ?_ | refine awp_exit ?_)
      refine awp_ret ⟨_, _, rfl, rfl, ?_⟩
      exact ⟨fun h => (by rw [hbf] at h; cases h), fun _ _ => rfl, fun _ q m h => (by rw [Int.toNat_natCast, he] at h; simp at h)⟩
    · exfalso
      simp [natI, ints] at *
  · rw [List.concat_eq_append] at he
    simp only [he]
    have hm64 : m < 64 := by
      have : m ∈ memF N := by rw [he]; simp
      have := (List.mem_filter.1 this).1
      exact List.mem_range.1 this
    have hq64 : q.length ≤ 63 := by
      have := memTo_len N 64
      have h9 : memTo N 64 = memF N := rfl
      rw [h9, he] at this
      simp at this
      omega
    refine awp_cond (ty := ty) rfl (fun hc => ?_) (fun hc => ?_)
    · exfalso
      simp [natI, ints] at *
      omega
    have hlast : ((ints (natI (q ++ [m]))).getD (((ints (natI (q ++ [m]))).length : Int) - 1).toNat default).num = (m : Int) := by
      rw [num_ints, ints_len, natI_len]
      simp [natI]
    have hq : IntKind.i64.wrap (Int.tdiv (m : Int) 8) = ((m / 8 : Nat) : Int) := by
      rw [Int.tdiv_eq_ediv_of_nonneg (by omega), IntKind.wrap_i64]
      omega
    have hm : Int.tmod (m : Int) 8 = ((m % 8 : Nat) : Int) := rfl
    repeat (first | refine awp_reg ty_ok rfl sd ?_ | refine awp_seq ?_ | refine awp_all ty_ok rfl sd ?_ | refine awp_block ?_ | refine awp_skip ?_ | refine awp_exit ?_)
    simp only [hlast]
    refine awp_all ty_ok rfl ?_ ?_
    · simp only [and_true, true_and, hq]
      omega
    simp only [hq]
    repeat (first | refine awp_reg ty_ok rfl sd ?_ | refine awp_seq ?_ | refine awp_all ty_ok rfl sd ?_ | refine awp_block ?_ | refine awp_skip ?_ | refine awp_exit ?_)
    refine awp_all ty_ok rfl ?_ ?_
    · simp only [and_true, true_and, hm, List.length_replicate]
      exact ⟨⟨by omega, by omega⟩, rfl, by omega⟩
    repeat (first | refine awp_reg ty_ok rfl sd ?_ | refine awp_seq ?_ | refine awp_all ty_ok rfl sd ?_ | refine awp_block ?_ | refine awp_skip ?_ | refine awp_exit ?_)
    refine awp_loopR (G := { j : Nat // j ≤ (q ++ [m]).length }) (fun j => ⟨Tryd.f24.ntmps, [(8, .ref 1), (49, .ref 0), (50, .d (.int .i64 (q ++ [m]).length)), (51, .d (.int .i64 j.1))], [(0, .row none 3 (ints (natI (q ++ [m])))), (1, .row none 5 (bys (outP ((q ++ [m]).take j.1) m)))], 2⟩) (fun j => (q ++ [m]).length - j.1) ⟨0, Nat.zero_le _⟩ [(0, 0), (1, 1)]
      (SubR.mk' rfl rfl ⟨⟨_, rfl, rfl⟩, ⟨_, rfl, rfl⟩, ⟨_, rfl, congrArg (fun z : Nat => AV.d (Dat.int IntKind.i64 z)) (by rw [ints_len, natI_len])⟩, ⟨_, rfl, rfl⟩, trivial⟩ ⟨⟨_, _, rfl, rfl, rfl⟩, ⟨_, _, rfl, rfl, congrArg (AO.row none 5) ?_⟩, trivial⟩) ?_
    · rw [hm, wrap_u8 _ (by omega) (by omega), show (2 + ((m / 8 : Nat) : Int)).toNat = (m / 8 + 1) + 1 by omega, List.replicate_succ]
      have e1 : (7 - ((m % 8 : Nat) : Int)).toNat = 7 - m % 8 := by omega
      rw [e1]
      show Dat.int .u8 _ :: List.replicate (m / 8 + 1) (Dat.int .u8 0) = Dat.int .u8 _ :: bys ((List.range (m / 8 + 1)).map fun j => UInt8.ofNat (byteP [] j))
      congr 1
      simp only [byteP_nil]
      symm
      rw [List.eq_replicate_iff]
      refine ⟨by simp [bys], fun b hb => ?_⟩
      simp [bys] at hb
      obtain ⟨_, _, rfl⟩ := hb
      rfl
    rintro ⟨j, hj⟩
    repeat (first | refine awp_reg ty_ok rfl sd ?_ | refine awp_seq ?_ | refine awp_all ty_ok rfl sd ?_ | refine awp_block ?_ | refine awp_skip ?_ | refine awp_exit ?_)
    refine awp_cond (ty := ty) rfl (fun hc => ?_) (fun hc => ?_)
    · have hj1 : j < q.length + 1 := by simp at hc; omega
      have hj2 : j < (q ++ [m]).length := by simpa using hj1
      obtain ⟨mj, hmj⟩ : ∃ mj, mj = (q ++ [m])[j] := ⟨_, rfl⟩
      have hinc : Inc (q ++ [m]) := by rw [← he]; exact memF_inc N
      have hle : mj ≤ m := by
        have h9 : mj ∈ q ++ [m] := by rw [hmj]; exact List.getElem_mem hj2
        rcases List.mem_append.1 h9 with h9 | h9
        · exact Nat.le_of_lt ((inc_snoc hinc).2 mj h9)
        · simp at h9; omega
      have htake : (q ++ [m]).take (j + 1) = (q ++ [m]).take j ++ [mj] := by rw [hmj, List.take_succ_eq_append_getElem hj2]
      have hinc2 : Inc ((q ++ [m]).take (j + 1)) := List.Pairwise.sublist (List.take_sublist _ _) hinc
      rw [htake] at hinc2
      have hlt := (inc_snoc hinc2).2
      have hel : ((ints (natI (q ++ [m]))).getD (Int.toNat (j : Int)) default).num = (mj : Int) := by
        rw [num_ints, Int.toNat_natCast, natI, List.getD_eq_getElem?_getD, List.getElem?_map, List.getElem?_eq_getElem hj2, hmj]
        rfl
      have hqj : IntKind.i64.wrap (Int.tdiv (mj : Int) 8) = ((mj / 8 : Nat) : Int) := by
        rw [Int.tdiv_eq_ediv_of_nonneg (by omega), IntKind.wrap_i64]
        omega
      have hmm : Int.tmod (mj : Int) 8 = ((mj % 8 : Nat) : Int) := rfl
      repeat (first | refine awp_reg ty_ok rfl sd ?_ | refine awp_seq ?_ | refine awp_all ty_ok rfl sd ?_ | refine awp_block ?_ | refine awp_skip ?_ | refine awp_exit ?_)
      simp only [hel]
      refine awp_any 10 mixed (by kernel_rfl) ?_
      refine head_go ty_ok [] rfl ?_ ?_
      · simp only [and_true, true_and, hqj, hmm, canon_bys, bys_len, outP_len]
        omega
      simp only [hqj, hmm, num_bys]
      refine head_end ?_
      refine aops_run ty_ok [] rfl ?_ ?_
      · simp only [true_and, bys_len, outP_len]
        exact ⟨⟨by omega, by omega⟩, rfl, by omega⟩
      refine aops_nil ?_
      repeat (first | refine awp_reg ty_ok rfl sd ?_ | refine awp_seq ?_ | refine awp_all ty_ok rfl sd ?_ | refine awp_block ?_ | refine awp_skip ?_ | refine awp_exit ?_)
      refine ⟨⟨j + 1, hj2⟩, [(0, 0), (1, 1)], SubR.mk' rfl rfl ⟨⟨_, rfl, rfl⟩, ⟨_, rfl, rfl⟩, ⟨_, rfl, rfl⟩, ⟨_, rfl, rfl⟩, trivial⟩ ⟨⟨_, _, rfl, rfl, rfl⟩, ⟨_, _, rfl, rfl, congrArg (AO.row none 5) ?_⟩, trivial⟩, by simp only; omega⟩
      simp only [htake]
      exact set_outP _ m mj hle hinc2
    · have hje : j = (q ++ [m]).length := by
        simp at hc
        simp at hj
        simp
        omega
      subst hje
      repeat (first | refine awp_reg ty_ok rfl sd ?_ | refine awp_seq ?_ | refine awp_all ty_ok rfl sd ?_ | refine awp_block ?_ | refine awp_skip ?_ | refine awp_exit ?_)
      refine awp_ret ⟨_, _, rfl, rfl, ?_⟩
      refine ⟨fun h => (by rw [hbf] at h; cases h), fun _ h => (by rw [Int.toNat_natCast, he] at h; simp at h), fun _ q' m' h => ?_⟩
      rw [Int.toNat_natCast, he] at h
      obtain ⟨rfl, h2⟩ := List.append_inj' h rfl
      cases h2
      rw [List.take_length]
end Go.Proofs.YtbbakpmedpcigaaDoor

/- EncodeNamed of the reference, walked by the abstract machine. -/
namespace Go.Proofs.YtbbakpmedpcigaaDoor
open Go.Am
set_option linter.unusedSimpArgs false
set_option linter.unusedVariables false

theorem isREncodeNamed : IsFn Tryd.prog 26 Tryd.f26 := ⟨Tryd.func26, by decide, rfl⟩
theorem c_rencn (Γ : Env) (n k : Int) (hn : n ≤ 9223372036854775807) : ACalls Tryd.prog Γ 26 [.int .i64 n, .int .i64 k] (encNR n k) := by
  refine acalls_of ty_ok isREncodeNamed rfl rfl ?_
  repeat (first | refine awp_reg ty_ok rfl sd ?_ | refine awp_seq ?_ | refine awp_all ty_ok rfl sd ?_ | refine awp_block ?_ | refine awp_skip ?_ | refine awp_exit ?_)
  refine awp_mono (Q := fun e σ => e = .normal ∧ Sub σ ⟨Tryd.f26.ntmps, [(0, .d (.int .i64 n)), (1, .d (.int .i64 k)), (20, .d (.bool (decide (k < 1 ∨ k > 32 ∨ n < 0))))], [], 0⟩) ?_ ?_
  · refine awp_run ty_ok rfl sd ?_
    by_cases h1 : k < 1
    · simp only [h1, decide_true]
      refine aops_run ty_ok [2, 6] rfl sd ?_
      refine aops_nil ?_
      exact ⟨rfl, Sub.mk' rfl rfl ⟨rfl, rfl, by simp; rfl, trivial⟩ trivial⟩
    · simp only [h1, decide_false]
      refine aops_run ty_ok [2] rfl sd ?_
      by_cases h2 : k > 32
      · simp only [h2, decide_true]
        refine aops_run ty_ok [2, 6] rfl sd ?_
        refine aops_nil ?_
        exact ⟨rfl, Sub.mk' rfl rfl ⟨rfl, rfl, by simp [h2]; rfl, trivial⟩ trivial⟩
      · simp only [h2, decide_false]
        refine aops_run ty_ok [2, 6] rfl sd ?_
        refine aops_nil ?_
        exact ⟨rfl, Sub.mk' rfl rfl ⟨rfl, rfl, by simp [h1, h2]; rfl, trivial⟩ trivial⟩
  rintro _ σ ⟨rfl, hs⟩
  refine awp_sub hs ?_
  refine awp_cond (ty := ty) rfl (fun hc => ?_) (fun hc => ?_)
  · have hbf : badF n k = true := by
      simp at hc
      simp [badF]
      omega
    repeat (first | refine awp_reg ty_ok rfl sd ?_ | refine awp_seq ?_ | refine awp_all ty_ok rfl sd ?_ | refine awp_block ?_ | refine awp_skip ?_ | refine awp_exit ?_)
    refine awp_ret ⟨_, _, rfl, rfl, ?_⟩
    exact ⟨fun _ => rfl, fun h => (by rw [hbf] at h; cases h), fun h => (by rw [hbf] at h; cases h)⟩
  simp at hc
  obtain ⟨h1, h2, h3⟩ := hc
  obtain ⟨N, rfl⟩ := Int.eq_ofNat_of_zero_le h3
  obtain ⟨K, rfl⟩ := Int.eq_ofNat_of_zero_le (show 0 ≤ k by omega)
  repeat (first | refine awp_reg ty_ok rfl sd ?_ | refine awp_seq ?_ | refine awp_all ty_ok rfl sd ?_ | refine awp_block ?_ | refine awp_skip ?_ | refine awp_exit ?_)
  refine awp_run ty_ok rfl sd ?_
  refine aops_call (ty := ty) rfl rfl rfl rfl rfl rfl rfl (c_rmembers _ N hn) (fun r hr => ?_)
  subst hr
  refine aops_run ty_ok [] rfl sd ?_
  refine aops_nil ?_
  repeat (first | refine awp_reg ty_ok rfl sd ?_ | refine awp_seq ?_ | refine awp_all ty_ok rfl sd ?_ | refine awp_block ?_ | refine awp_skip ?_ | refine awp_exit ?_)
  have hmi : memI (N : Int) = natI (memF N) := by simp only [memI, Int.toNat_natCast]
  simp only [hmi]
  rcases List.eq_nil_or_concat (memF N) with he | ⟨q, m, he⟩
  · simp only [he]
    refine awp_cond (ty := ty) rfl (fun hc => ?_) (fun hc => ?_)
    · repeat (first | refine awp_reg ty_ok rfl sd ?_ | refine awp_seq ?_ | refine awp_all ty_ok rfl sd ?_ | refine awp_block ?_ | refine awp_skip ?_ | refine awp_exit ?_)
      refine awp_ret ⟨_, _, rfl, rfl, ?_⟩
      have hN0 := memF_nil (by omega) he
      have hbf : badF (N : Int) (K : Int) = false := by
        subst hN0
        have := Nat.two_pow_pos K
        simp [badF]
        omega
      exact ⟨fun h => (by rw [hbf] at h; cases h), fun _ _ => rfl, fun _ q m h => (by rw [Int.toNat_natCast, he] at h; simp at h)⟩
    · exfalso
      simp [natI, ints] at *
  · rw [List.concat_eq_append] at he
    simp only [he]
    have hmK := memF_lt (K := K) (by omega) he
    have hm64 : m < 64 := by
      have : m ∈ memF N := by rw [he]; simp
      have := (List.mem_filter.1 this).1
      exact List.mem_range.1 this
    have hq64 : q.length ≤ 63 := by
      have := memTo_len N 64
      have h9 : memTo N 64 = memF N := rfl
      rw [h9, he] at this
      simp at this
      omega
    refine awp_cond (ty := ty) rfl (fun hc => ?_) (fun hc => ?_)
    · exfalso
      simp [natI, ints] at *
      omega
    have hlast : ((ints (natI (q ++ [m]))).getD (((ints (natI (q ++ [m]))).length : Int) - 1).toNat default).num = (m : Int) := by
      rw [num_ints, ints_len, natI_len]
      simp [natI]
    have hq : IntKind.i64.wrap (Int.tdiv (m : Int) 8) = ((m / 8 : Nat) : Int) := by
      rw [Int.tdiv_eq_ediv_of_nonneg (by omega), IntKind.wrap_i64]
      omega
    have hm : Int.tmod (m : Int) 8 = ((m % 8 : Nat) : Int) := rfl
    repeat (first | refine awp_reg ty_ok rfl sd ?_ | refine awp_seq ?_ | refine awp_all ty_ok rfl sd ?_ | refine awp_block ?_ | refine awp_skip ?_ | refine awp_exit ?_)
    simp only [hlast]
    repeat (first | refine awp_reg ty_ok rfl sd ?_ | refine awp_seq ?_ | refine awp_all ty_ok rfl sd ?_ | refine awp_block ?_ | refine awp_skip ?_ | refine awp_exit ?_)
    refine awp_cond (ty := ty) rfl (fun hc => ?_) (fun hc => ?_)
    · have hbf : badF (N : Int) (K : Int) = true := by
        have h9 : ¬ N < 2 ^ K := fun h => (by have := hmK.2 h; simp at hc; omega)
        simp [badF]
        omega
      repeat (first | refine awp_reg ty_ok rfl sd ?_ | refine awp_seq ?_ | refine awp_all ty_ok rfl sd ?_ | refine awp_block ?_ | refine awp_skip ?_ | refine awp_exit ?_)
      refine awp_ret ⟨_, _, rfl, rfl, ?_⟩
      exact ⟨fun _ => rfl, fun h => (by rw [hbf] at h; cases h), fun h => (by rw [hbf] at h; cases h)⟩
    have hmK2 : m < K := by simp at hc; omega
    have hbf : badF (N : Int) (K : Int) = false := by
      have h9 := hmK.1 hmK2
      simp [badF]
      omega
    repeat (first | refine awp_reg ty_ok rfl sd ?_ | refine awp_seq ?_ | refine awp_all ty_ok rfl sd ?_ | refine awp_block ?_ | refine awp_skip ?_ | refine awp_exit ?_)
    simp only [hq, hm]
    refine awp_loopR (G := { j : Nat // j ≤ (q ++ [m]).length }) (fun j => ⟨Tryd.f26.ntmps, [(6, .ref 0), (8, .ptr 2 0), (9, .ref 3), (10, .d (.int .i64 j.1))], [(0, .row none 3 (ints (natI (q ++ [m])))), (1, .row none 5 (bys (outP ((q ++ [m]).take j.1) m).tail)), (2, .box 65 [.ref 1, .d (.int .i64 ((7 - m % 8 : Nat) : Int))]), (3, .row none 5 (bys [128, 64, 32, 16, 8, 4, 2, 1]))], 4⟩) (fun j => (q ++ [m]).length - j.1) ⟨0, Nat.zero_le _⟩ [(0, 0), (1, 1), (2, 2), (3, 3)]
      (SubR.mk' rfl rfl ⟨⟨_, rfl, rfl⟩, ⟨_, rfl, rfl⟩, ⟨_, rfl, rfl⟩, ⟨_, rfl, rfl⟩, trivial⟩ ⟨⟨_, _, rfl, rfl, rfl⟩, ⟨_, _, rfl, rfl, congrArg (AO.row none 5) ?_⟩, ⟨_, _, rfl, rfl, congrArg (fun z => AO.box 65 [.ref 1, .d (.int .i64 z)]) (by omega)⟩, ⟨_, _, rfl, rfl, rfl⟩, trivial⟩) ?_
    · rw [show (((m / 8 : Nat) : Int) + 1).toNat = m / 8 + 1 by omega]
      exact zeros_outP m
    rintro ⟨j, hj⟩
    repeat (first | refine awp_reg ty_ok rfl sd ?_ | refine awp_seq ?_ | refine awp_all ty_ok rfl sd ?_ | refine awp_block ?_ | refine awp_skip ?_ | refine awp_exit ?_)
    refine awp_cond (ty := ty) rfl (fun hc => ?_) (fun hc => ?_)
    · have hj1 : j < q.length + 1 := by simp [ints_len, natI_len] at hc; omega
      have hj2 : j < (q ++ [m]).length := by simpa using hj1
      obtain ⟨mj, hmj⟩ : ∃ mj, mj = (q ++ [m])[j] := ⟨_, rfl⟩
      have hinc : Inc (q ++ [m]) := by rw [← he]; exact memF_inc N
      have hle : mj ≤ m := by
        have h9 : mj ∈ q ++ [m] := by rw [hmj]; exact List.getElem_mem hj2
        rcases List.mem_append.1 h9 with h9 | h9
        · exact Nat.le_of_lt ((inc_snoc hinc).2 mj h9)
        · simp at h9; omega
      have htake : (q ++ [m]).take (j + 1) = (q ++ [m]).take j ++ [mj] := by rw [hmj, List.take_succ_eq_append_getElem hj2]
      have hinc2 : Inc ((q ++ [m]).take (j + 1)) := List.Pairwise.sublist (List.take_sublist _ _) hinc
      rw [htake] at hinc2
      have hel : ((ints (natI (q ++ [m]))).getD (Int.toNat (j : Int)) default).num = (mj : Int) := by
        rw [num_ints, Int.toNat_natCast, natI, List.getD_eq_getElem?_getD, List.getElem?_map, List.getElem?_eq_getElem hj2, hmj]
        rfl
      have hel2 := hel
      rw [Int.toNat_natCast] at hel2
      have hel3 : (ints (natI (q ++ [m]))).getD j default = Dat.int .i64 (mj : Int) := by
        rw [(canon_ints (natI (q ++ [m])) j).2 (by rw [natI_len]; exact hj2), hel2]
      have hqj : IntKind.i64.wrap (Int.tdiv (mj : Int) 8) = ((mj / 8 : Nat) : Int) := by
        rw [Int.tdiv_eq_ediv_of_nonneg (by omega), IntKind.wrap_i64]
        omega
      have hmm : Int.tmod (mj : Int) 8 = ((mj % 8 : Nat) : Int) := rfl
      have hlen : (outP ((q ++ [m]).take j) m).tail.length = m / 8 + 1 := by simp [outP]
      repeat (first | refine awp_reg ty_ok rfl sd ?_ | refine awp_seq ?_ | refine awp_all ty_ok rfl sd ?_ | refine awp_block ?_ | refine awp_skip ?_ | refine awp_exit ?_)
      refine awp_any 26 mixed (by kernel_rfl) ?_
      refine head_go ty_ok [] rfl ?_ ?_
      · simp only [and_true, true_and, hel, hel2, hqj, hmm, canon_ints, canon_bys, bys_len, ints_len, natI_len, hlen, Int.toNat_natCast, List.length_append, List.length_cons, List.length_nil]
        have h8 : mj / 8 ≤ m / 8 := Nat.div_le_div_right hle
        have h9 : mj % 8 < 8 := Nat.mod_lt _ (by omega)
        repeat' apply And.intro
        all_goals first | omega | exact hel3
      simp only [hel, hqj, hmm, num_bys]
      refine head_end ?_
      refine aops_run ty_ok [] rfl ?_ ?_
      · simp only [true_and, bys_len, hlen, Int.toNat_natCast]
        repeat' apply And.intro
        all_goals first | rfl | omega
      refine aops_nil ?_
      repeat (first | refine awp_reg ty_ok rfl sd ?_ | refine awp_seq ?_ | refine awp_all ty_ok rfl sd ?_ | refine awp_block ?_ | refine awp_skip ?_ | refine awp_exit ?_)
      refine ⟨⟨j + 1, hj2⟩, [(0, 0), (1, 1), (2, 2), (3, 3)], SubR.mk' rfl rfl ⟨⟨_, rfl, rfl⟩, ⟨_, rfl, rfl⟩, ⟨_, rfl, rfl⟩, ⟨_, rfl, rfl⟩, trivial⟩ ⟨⟨_, _, rfl, rfl, rfl⟩, ⟨_, _, rfl, rfl, congrArg (AO.row none 5) ?_⟩, ⟨_, _, rfl, rfl, rfl⟩, ⟨_, _, rfl, rfl, rfl⟩, trivial⟩, by simp only; omega⟩
      simp only [htake, Int.toNat_natCast]
      exact set_outR _ m mj hle hinc2
    · have hje : j = (q ++ [m]).length := by
        simp [ints_len, natI_len] at hc
        simp at hj
        simp
        omega
      subst hje
      have hinc : Inc (q ++ [m]) := by rw [← he]; exact memF_inc N
      have hv := outP_valid q m hinc
      simp only [List.take_length]
      repeat (first | refine awp_reg ty_ok rfl sd ?_ | refine awp_seq ?_ | refine awp_all ty_ok rfl sd ?_ | refine awp_block ?_ | refine awp_skip ?_ | refine awp_exit ?_)
      refine awp_run ty_ok rfl sd ?_
      refine aops_call (ty := ty) rfl rfl rfl rfl rfl rfl rfl (c_rencode _ (outP (q ++ [m]) m).tail ((7 - m % 8 : Nat) : Int) (by simp [outP]; omega)) (fun r hr => ?_)
      have hr1 := hr.1 hv
      subst hr1
      refine aops_run ty_ok [] rfl sd ?_
      refine aops_nil ?_
      refine awp_ret ⟨_, _, rfl, rfl, ?_⟩
      refine ⟨fun h => (by rw [hbf] at h; cases h), fun _ h => (by rw [Int.toNat_natCast, he] at h; simp at h), fun _ q' m' h => ?_⟩
      rw [Int.toNat_natCast, he] at h
      obtain ⟨rfl, h2⟩ := List.append_inj' h rfl
      cases h2
      rfl
end Go.Proofs.YtbbakpmedpcigaaDoor

/- DecodeNamed, walked by the abstract machine. -/
namespace Go.Proofs.YtbbakpmedpcigaaDoor
open Go.Am
set_option linter.unusedSimpArgs false
set_option linter.unusedVariables false

def bitF (x : List UInt8) (u : Int) (i : Nat) : Bool := atF x u i
/-- The set of contents octets, and the code. -/
def dnF (c : List UInt8) (k : Int) : Int × Int := match decide (k < 1 ∨ k > 32) with
  | true => (0, 9)
  | false => match decide ((decF c).2.2 ≠ 0 ∨ lenF (decF c).1 (decF c).2.1 > k ∨ (lenF (decF c).1 (decF c).2.1 > 0 ∧ atF (decF c).1 (decF c).2.1 (lenF (decF c).1 (decF c).2.1 - 1) = false)) with
    | true => (0, 6)
    | false => ((setTo (bitF (decF c).1 (decF c).2.1) (lenF (decF c).1 (decF c).2.1).toNat : Int), 0)
theorem isIn : IsFn Tryd.prog 43 Tryd.f43 := ⟨Tryd.func43, by decide, rfl⟩
theorem isDecodeNamed : IsFn Tryd.prog 30 Tryd.f30 := ⟨Tryd.func30, by decide, rfl⟩
theorem c_decn (Γ : Env) (c : List UInt8) (k : Int) (hx : c.length ≤ 1099511627) : ACalls Tryd.prog Γ 30 [.sl none (bys c), .int .i64 k] (fun r => r = .d (.tup [.int .i64 (dnF c k).1, .int .i64 (dnF c k).2])) := by
  refine acalls_of ty_ok isDecodeNamed rfl rfl ?_
  repeat (first | refine awp_reg ty_ok rfl sd ?_ | refine awp_seq ?_ | refine awp_all ty_ok rfl sd ?_ | refine awp_block ?_ | refine awp_skip ?_ | refine awp_exit ?_)
  refine awp_mono (Q := fun e σ => e = .normal ∧ Sub σ ⟨Tryd.f30.ntmps, [(0, .d (.sl none (bys c))), (1, .d (.int .i64 k)), (17, .d (.bool (decide (k < 1 ∨ k > 32))))], [], 0⟩) ?_ ?_
  · refine awp_run ty_ok rfl sd ?_
    by_cases h1 : k < 1
    · simp only [h1, decide_true]
      refine aops_run ty_ok [2] rfl sd ?_
      refine aops_nil ?_
      exact ⟨rfl, Sub.mk' rfl rfl ⟨rfl, rfl, by simp; rfl, trivial⟩ trivial⟩
    · simp only [h1, decide_false]
      refine aops_run ty_ok [2] rfl sd ?_
      refine aops_nil ?_
      exact ⟨rfl, Sub.mk' rfl rfl ⟨rfl, rfl, by simp [h1]; rfl, trivial⟩ trivial⟩
  rintro _ σ ⟨rfl, hs⟩
  refine awp_sub hs ?_
  refine awp_cond (ty := ty) rfl (fun hc => ?_) (fun hc => ?_)
  · repeat (first | refine awp_reg ty_ok rfl sd ?_ | refine awp_seq ?_ | refine awp_all ty_ok rfl sd ?_ | refine awp_block ?_ | refine awp_skip ?_ | refine awp_exit ?_)
    refine awp_ret ⟨_, _, rfl, rfl, ?_⟩
    simp only [dnF, hc]
  repeat (first | refine awp_reg ty_ok rfl sd ?_ | refine awp_seq ?_ | refine awp_all ty_ok rfl sd ?_ | refine awp_block ?_ | refine awp_skip ?_ | refine awp_exit ?_)
  refine awp_run ty_ok rfl sd ?_
  refine aops_call (ty := ty) rfl rfl rfl rfl rfl rfl rfl (c_decode _ c hx) (fun r hr => ?_)
  subst hr
  have hk : k ≤ 32 := by
    simp at hc
    omega
  obtain ⟨x, hx1⟩ : ∃ x, x = (decF c).1 := ⟨_, rfl⟩
  obtain ⟨u, hu1⟩ : ∃ u, u = (decF c).2.1 := ⟨_, rfl⟩
  obtain ⟨e, he1⟩ : ∃ e, e = (decF c).2.2 := ⟨_, rfl⟩
  have hxl : x.length ≤ c.length := by
    rw [hx1]
    unfold decF
    split
    · simp
    · split <;> simp
  have hdd : decD c = .tup [bitsD x u, .int .i64 e] := by rw [hx1, hu1, he1]; rfl
  rw [hdd]
  simp only [dnF, hc, ← hx1, ← hu1, ← he1]
  refine aops_run ty_ok [] rfl sd ?_
  refine aops_nil ?_
  repeat (first | refine awp_reg ty_ok rfl sd ?_ | refine awp_seq ?_ | refine awp_all ty_ok rfl sd ?_ | refine awp_block ?_ | refine awp_skip ?_ | refine awp_exit ?_)
  refine awp_run ty_ok rfl sd ?_
  refine aops_call (ty := ty) rfl rfl rfl rfl rfl rfl rfl (c_len _ x u (by omega)) (fun r hr => ?_)
  subst hr
  refine aops_run ty_ok [] rfl sd ?_
  refine aops_nil ?_
  repeat (first | refine awp_reg ty_ok rfl sd ?_ | refine awp_seq ?_ | refine awp_all ty_ok rfl sd ?_ | refine awp_block ?_ | refine awp_skip ?_ | refine awp_exit ?_)
  generalize hL : lenF x u = L
  have hL0 : 0 ≤ L := by rw [← hL]; exact lenF_nonneg x u
  have hL1 := lenF_le x u
  rw [hL] at hL1
  refine awp_ren (σ' := ⟨Tryd.f30.ntmps, [(1, .d (.int .i64 k)), (7, .d (.int .i64 e)), (8, .d (.int .i64 L)), (9, .fn 43 [.ptr 0 0])], [(0, .box 65 [.d (.sl none (bys x)), .d (.int .i64 u)])], 1⟩) [(0, 0)] (SubR.mk' rfl rfl ⟨⟨_, rfl, rfl⟩, ⟨_, rfl, rfl⟩, ⟨_, rfl, rfl⟩, ⟨_, rfl, rfl⟩, trivial⟩ ⟨⟨_, _, rfl, rfl, rfl⟩, trivial⟩) ?_
  refine awp_mono (Q := fun ex σ => ex = .normal ∧ Sub σ ⟨Tryd.f30.ntmps, [(8, .d (.int .i64 L)), (9, .fn 43 [.ptr 0 0]), (43, .d (.bool (decide (e ≠ 0 ∨ L > k ∨ (L > 0 ∧ atF x u (L - 1) = false)))))], [(0, .box 65 [.d (.sl none (bys x)), .d (.int .i64 u)])], 1⟩) ?_ ?_
  · refine awp_run ty_ok rfl sd ?_
    by_cases h1 : e = 0
    · simp only [show (e != 0) = false by simp [h1]]
      refine aops_run ty_ok [2] rfl sd ?_
      by_cases h2 : L > k
      · simp only [h2, decide_true]
        refine aops_run ty_ok [2, 7, 10] rfl sd ?_
        refine aops_nil ?_
        exact ⟨rfl, Sub.mk' rfl rfl ⟨rfl, rfl, by simp [h2]; rfl, trivial⟩ ⟨rfl, trivial⟩⟩
      · simp only [h2, decide_false]
        refine aops_run ty_ok [2, 7] rfl sd ?_
        by_cases h3 : L > 0
        · simp only [h3, decide_true]
          refine aops_run ty_ok [2, 7, 10] rfl sd ?_
          refine aops_inline ty_ok rfl rfl rfl rfl rfl rfl isIn rfl rfl ?_
          repeat (first | refine awp_reg ty_ok rfl sd ?_ | refine awp_seq ?_ | refine awp_all ty_ok rfl sd ?_ | refine awp_block ?_ | refine awp_skip ?_ | refine awp_exit ?_)
          refine awp_run ty_ok rfl sd ?_
          refine aops_call (ty := ty) rfl rfl rfl rfl rfl rfl rfl (c_at _ x u (L - 1) (by omega)) (fun r hr => ?_)
          subst hr
          refine aops_run ty_ok [] rfl sd ?_
          refine aops_nil ?_
          refine awp_ret ⟨_, rfl, ?_⟩
          refine aops_run ty_ok [2, 7, 10] rfl sd ?_
          refine aops_nil ?_
          exact ⟨rfl, Sub.mk' rfl rfl ⟨rfl, rfl, by simp [h1, h2, h3]; rfl, trivial⟩ ⟨rfl, trivial⟩⟩
        · simp only [h3, decide_false]
          refine aops_run ty_ok [2, 7, 10] rfl sd ?_
          refine aops_nil ?_
          exact ⟨rfl, Sub.mk' rfl rfl ⟨rfl, rfl, by simp [h1, h2, h3]; rfl, trivial⟩ ⟨rfl, trivial⟩⟩
    · simp only [show (e != 0) = true by simp [h1]]
      refine aops_run ty_ok [2, 7, 10] rfl sd ?_
      refine aops_nil ?_
      exact ⟨rfl, Sub.mk' rfl rfl ⟨rfl, rfl, by simp [h1]; rfl, trivial⟩ ⟨rfl, trivial⟩⟩
  rintro _ σ' ⟨rfl, hs'⟩
  refine awp_sub hs' ?_
  refine awp_cond (ty := ty) rfl (fun hc => ?_) (fun hc => ?_)
  · repeat (first | refine awp_reg ty_ok rfl sd ?_ | refine awp_seq ?_ | refine awp_all ty_ok rfl sd ?_ | refine awp_block ?_ | refine awp_skip ?_ | refine awp_exit ?_)
    refine awp_ret ⟨_, _, rfl, rfl, ?_⟩
    rw [hc]
  rw [hc]
  have hb : e = 0 ∧ L ≤ k := by
    simp at hc
    omega
  repeat (first | refine awp_reg ty_ok rfl sd ?_ | refine awp_seq ?_ | refine awp_all ty_ok rfl sd ?_ | refine awp_block ?_ | refine awp_skip ?_ | refine awp_exit ?_)
  obtain ⟨M, rfl⟩ := Int.eq_ofNat_of_zero_le hL0
  refine awp_loopR (G := { j : Nat // j ≤ M }) (fun j => ⟨Tryd.f30.ntmps, [(9, .fn 43 [.ptr 0 0]), (10, .d (.int .i64 ((setTo (bitF x u) j.1 : Nat) : Int))), (44, .d (.int .i64 M)), (45, .d (.int .i64 j.1))], [(0, .box 65 [.d (.sl none (bys x)), .d (.int .i64 u)])], 1⟩) (fun j => M - j.1) ⟨0, Nat.zero_le _⟩ [(0, 0)]
    (SubR.mk' rfl rfl ⟨⟨_, rfl, rfl⟩, ⟨_, rfl, rfl⟩, ⟨_, rfl, rfl⟩, ⟨_, rfl, rfl⟩, trivial⟩ ⟨⟨_, _, rfl, rfl, rfl⟩, trivial⟩) ?_
  rintro ⟨j, hj⟩
  repeat (first | refine awp_reg ty_ok rfl sd ?_ | refine awp_seq ?_ | refine awp_all ty_ok rfl sd ?_ | refine awp_block ?_ | refine awp_skip ?_ | refine awp_exit ?_)
  refine awp_cond (ty := ty) rfl (fun hc => ?_) (fun hc => ?_)
  · have hj1 : j < M := by simpa using hc
    repeat (first | refine awp_reg ty_ok rfl sd ?_ | refine awp_seq ?_ | refine awp_all ty_ok rfl sd ?_ | refine awp_block ?_ | refine awp_skip ?_ | refine awp_exit ?_)
    refine awp_run ty_ok rfl sd ?_
    refine aops_inline ty_ok rfl rfl rfl rfl rfl rfl isIn rfl rfl ?_
    repeat (first | refine awp_reg ty_ok rfl sd ?_ | refine awp_seq ?_ | refine awp_all ty_ok rfl sd ?_ | refine awp_block ?_ | refine awp_skip ?_ | refine awp_exit ?_)
    refine awp_run ty_ok rfl sd ?_
    refine aops_call (ty := ty) rfl rfl rfl rfl rfl rfl rfl (c_at _ x u (j : Int) (by omega)) (fun r hr => ?_)
    subst hr
    refine aops_run ty_ok [] rfl sd ?_
    refine aops_nil ?_
    refine awp_ret ⟨_, rfl, ?_⟩
    refine aops_run ty_ok [] rfl sd ?_
    refine aops_nil ?_
    refine awp_cond (ty := ty) rfl (fun hc => ?_) (fun hc => ?_)
    · repeat (first | refine awp_reg ty_ok rfl sd ?_ | refine awp_seq ?_ | refine awp_all ty_ok rfl sd ?_ | refine awp_block ?_ | refine awp_skip ?_ | refine awp_exit ?_)
      refine ⟨⟨j + 1, hj1⟩, [(0, 0)], SubR.mk' rfl rfl ⟨⟨_, rfl, rfl⟩, ⟨_, rfl, congrArg (fun z : Int => AV.d (Dat.int IntKind.i64 z)) (setTo_step (bitF x u) j (by omega) hc)⟩, ⟨_, rfl, rfl⟩, ⟨_, rfl, rfl⟩, trivial⟩ ⟨⟨_, _, rfl, rfl, rfl⟩, trivial⟩, by simp only; omega⟩
    · repeat (first | refine awp_reg ty_ok rfl sd ?_ | refine awp_seq ?_ | refine awp_all ty_ok rfl sd ?_ | refine awp_block ?_ | refine awp_skip ?_ | refine awp_exit ?_)
      have h9 : setTo (bitF x u) (j + 1) = setTo (bitF x u) j := by
        have h8 : bitF x u j = false := hc
        simp [setTo, h8]
      refine ⟨⟨j + 1, hj1⟩, [(0, 0)], SubR.mk' rfl rfl ⟨⟨_, rfl, rfl⟩, ⟨_, rfl, congrArg (fun z : Nat => AV.d (Dat.int IntKind.i64 (z : Int))) h9.symm⟩, ⟨_, rfl, rfl⟩, ⟨_, rfl, rfl⟩, trivial⟩ ⟨⟨_, _, rfl, rfl, rfl⟩, trivial⟩, by simp only; omega⟩
  · have hje : j = M := by
      simp at hc
      omega
    subst hje
    repeat (first | refine awp_reg ty_ok rfl sd ?_ | refine awp_seq ?_ | refine awp_all ty_ok rfl sd ?_ | refine awp_block ?_ | refine awp_skip ?_ | refine awp_exit ?_)
    refine awp_ret ⟨_, _, rfl, rfl, ?_⟩
    simp
end Go.Proofs.YtbbakpmedpcigaaDoor

/- DecodeNamed of the reference, walked by the abstract machine. -/
namespace Go.Proofs.YtbbakpmedpcigaaDoor
open Go.Am
set_option linter.unusedSimpArgs false
set_option linter.unusedVariables false

/-- The contents octets of a set. -/
def namF (S : Nat) : List UInt8 := match (memF S).getLast? with
  | none => [0]
  | some m => outP (memF S) m
def encRes (n k : Int) : Res := match badF n k with
  | true => .d (.tup [.sl none [], .int .i64 9])
  | false => .ownT none 5 (bys (namF n.toNat)) [.int .i64 0]
theorem encRes_of {n k : Int} {r : Res} (h : encNR n k r) : r = encRes n k := by
  unfold encRes
  cases hb : badF n k with
  | true => exact h.1 hb
  | false =>
    rcases List.eq_nil_or_concat (memF n.toNat) with he | ⟨q, m, he⟩
    · rw [h.2.1 hb he]
      simp [namF, he]
    · rw [List.concat_eq_append] at he
      rw [h.2.2 hb q m he]
      simp [namF, he]
theorem c_encn1 (Γ : Env) (n k : Int) (hn : n ≤ 9223372036854775807) : ACalls Tryd.prog Γ 24 [.int .i64 n, .int .i64 k] (fun r => r = encRes n k) := (c_encn Γ n k hn).mono fun r h => encRes_of h
theorem c_rencn1 (Γ : Env) (n k : Int) (hn : n ≤ 9223372036854775807) : ACalls Tryd.prog Γ 26 [.int .i64 n, .int .i64 k] (fun r => r = encRes n k) := (c_rencn Γ n k hn).mono fun r h => encRes_of h

def rdnF (c : List UInt8) (k : Int) : Int × Int := match decide (k < 1 ∨ k > 32) with
  | true => (0, 9)
  | false => match decide (namF (setTo (bitF (decF c).1 (decF c).2.1) k.toNat) = c) with
    | true => ((setTo (bitF (decF c).1 (decF c).2.1) k.toNat : Int), 0)
    | false => (0, 6)
end Go.Proofs.YtbbakpmedpcigaaDoor

/- Sets of named bits: contents octets and sets are one to one. Plain Lean over the functions of the walks. -/
namespace Go.Proofs.YtbbakpmedpcigaaDoor
open Go.Am
set_option linter.unusedSimpArgs false
set_option linter.unusedVariables false

theorem decF_cases (c : List UInt8) : decF c = ([], 0, 6) ∨ ∃ b x, c = b :: x ∧ valF x b.toNat = true ∧ decF c = (x, (b.toNat : Int), 0) := by
  cases c with
  | nil => exact .inl rfl
  | cons b x =>
    cases hv : valF x b.toNat with
    | false => exact .inl (by simp only [decF, hv])
    | true => exact .inr ⟨b, x, rfl, hv, by simp only [decF, hv]⟩
theorem rev_ind {P : List Nat → Prop} (h0 : P []) (hs : ∀ q m, P q → P (q ++ [m])) (l : List Nat) : P l := by
  have : ∀ n (l : List Nat), l.length = n → P l := by
    intro n
    induction n with
    | zero => intro l hl; rw [List.length_eq_zero_iff.1 hl]; exact h0
    | succ n ih =>
      intro l hl
      rcases List.eq_nil_or_concat l with rfl | ⟨q, m, rfl⟩
      · simp at hl
      · rw [List.concat_eq_append] at hl ⊢
        exact hs q m (ih q (by simpa using hl))
  exact this _ l rfl
theorem byteP_bit (ms : List Nat) : Inc ms → ∀ j k, k < 8 → (byteP ms j).testBit (7 - k) = decide (8 * j + k ∈ ms) := by
  induction ms using rev_ind with
  | h0 => intro _ j k _; simp [byteP_nil]
  | hs q m ih =>
    intro h j k hk
    obtain ⟨h1, h2⟩ := inc_snoc h
    rw [byteP_snoc]
    by_cases hj : m / 8 = j
    · subst hj
      rw [if_pos rfl, ← byteP_or q m h2, Nat.testBit_or, ih h1 _ k hk, Nat.testBit_two_pow]
      by_cases h3 : 8 * (m / 8) + k = m
      · have h4 : 7 - m % 8 = 7 - k := by omega
        simp [h3, h4]
      · have h4 : ¬ 7 - m % 8 = 7 - k := by omega
        simp [h3, h4]
    · have h3 : ¬ 8 * j + k = m := by omega
      rw [if_neg hj, Nat.add_zero, ih h1 j k hk]
      simp [h3]

/-- What is known of the contents octets of a set. -/
theorem nam_facts (S : Nat) (hS : S < 9223372036854775808) : ∃ x u L, decF (namF S) = (x, (u : Int), 0) ∧ lenF x (u : Int) = ((L : Nat) : Int) ∧ (∀ i : Nat, i < L → atF x (u : Int) (i : Int) = S.testBit i) ∧ S < 2 ^ L ∧ (0 < L → S.testBit (L - 1) = true) ∧ (∀ K, S < 2 ^ K → L ≤ K) ∧ x.length ≤ 10 ∧ (u : Int) ≤ 7 ∧ (0 : Int) ≤ u := by
  rcases List.eq_nil_or_concat (memF S) with he | ⟨q, m, he⟩
  · have h0 := memF_nil hS he
    subst h0
    refine ⟨[], 0, 0, by decide, by decide, by omega, by simp, by omega, by omega, by simp, by omega, by omega⟩
  · rw [List.concat_eq_append] at he
    have hn : namF S = outP (q ++ [m]) m := by simp [namF, he]
    have hinc : Inc (q ++ [m]) := by rw [← he]; exact memF_inc S
    have hv := outP_valid q m hinc
    have hcons : outP (q ++ [m]) m = UInt8.ofNat (7 - m % 8) :: (outP (q ++ [m]) m).tail := rfl
    have hu : ((UInt8.ofNat (7 - m % 8)).toNat : Int) = ((7 - m % 8 : Nat) : Int) := by
      simp [UInt8.toNat_ofNat']
      omega
    have hm : S.testBit m = true := by
      have : m ∈ memF S := by rw [he]; simp
      exact (List.mem_filter.1 this).2
    have hm64 : m < 64 := by
      have : m ∈ memF S := by rw [he]; simp
      exact List.mem_range.1 (List.mem_filter.1 this).1
    have htl : ((outP (q ++ [m]) m).tail).length = m / 8 + 1 := by simp [outP]
    have hlen : lenF (outP (q ++ [m]) m).tail ((7 - m % 8 : Nat) : Int) = ((m + 1 : Nat) : Int) := by
      rw [lenF, hv]
      simp only [htl]
      omega
    refine ⟨(outP (q ++ [m]) m).tail, ((7 - m % 8 : Nat) : Int), m + 1, ?_, hlen, ?_, (memF_last hS he).2, fun _ => by simpa using hm, fun K hK => ?_, by rw [htl]; omega, by omega, by omega⟩
    · rw [hn, hcons]
      simp only [decF, hu, hv, List.tail_cons]
    · intro i hi
      have h1 : ((i : Int) / 8).toNat = i / 8 := by omega
      have h2 : (7 - (i : Int) % 8).toNat = 7 - i % 8 := by omega
      have h3 : ((outP (q ++ [m]) m).tail).getD (i / 8) 0 = UInt8.ofNat (byteP (q ++ [m]) (i / 8)) := by
        have : i / 8 < m / 8 + 1 := by omega
        simp [outP, List.getElem?_map, List.getElem?_range, this]
      have h4 := byteP_lt _ hinc (i / 8)
      have h5 : (UInt8.ofNat (byteP (q ++ [m]) (i / 8))).toNat = byteP (q ++ [m]) (i / 8) := by
        simp [UInt8.toNat_ofNat']
        omega
      rw [atF, hlen, h1, h2, h3, h5, byteP_bit _ hinc _ _ (by omega), show 8 * (i / 8) + i % 8 = i by omega, ← he]
      have h6 : (0 : Int) ≤ i := by omega
      have h7 : (i : Int) < ((m + 1 : Nat) : Int) := by omega
      simp only [h6, h7, decide_true, Bool.true_and]
      rw [Bool.eq_iff_iff, decide_eq_true_eq]
      constructor
      · intro h; exact (List.mem_filter.1 h).2
      · intro h; exact mem_memF hS h
    · have h1 := (memF_last hS he).1
      rcases Nat.lt_or_ge m K with h2 | h2
      · omega
      · have := Nat.pow_le_pow_right (show 0 < 2 by omega) h2
        omega
theorem setTo_eq (f : Nat → Bool) (S k : Nat) (hS : S < 2 ^ k) (h : ∀ i, i < k → f i = S.testBit i) : setTo f k = S := by
  apply Nat.eq_of_testBit_eq
  intro i
  rw [setTo_bit]
  rcases Nat.lt_or_ge i k with hi | hi
  · simp [hi, h i hi]
  · have : ¬ i < k := by omega
    rw [Nat.testBit_lt_two_pow (Nat.lt_of_lt_of_le hS (Nat.pow_le_pow_right (by omega) hi))]
    simp [this]
theorem dnF_nam (S : Nat) (k : Int) (h1 : 1 ≤ k) (h2 : k ≤ 32) (hS : S < 2 ^ k.toNat) : dnF (namF S) k = ((S : Int), 0) := by
  have h63 : S < 9223372036854775808 := Nat.lt_of_lt_of_le hS (Nat.le_trans (Nat.pow_le_pow_right (by omega) (show k.toNat ≤ 32 by omega)) (by decide))
  obtain ⟨x, u, L, e1, e2, e3, e4, e5, e6, e7, e8, e9⟩ := nam_facts S h63
  have hL := e6 _ hS
  unfold dnF
  rw [e1]
  have hk : decide (k < 1 ∨ k > 32) = false := by simp; omega
  have hb : decide ((0 : Int) ≠ 0 ∨ lenF x u > k ∨ (lenF x u > 0 ∧ atF x u (lenF x u - 1) = false)) = false := by
    simp only [ne_eq, not_true_eq_false, false_or, decide_eq_false_iff_not, not_or, not_and, Bool.not_eq_false]
    rw [e2]
    refine ⟨by omega, fun h0 => ?_⟩
    have h3 : ((L : Int) - 1) = ((L - 1 : Nat) : Int) := by omega
    rw [h3, e3 _ (by omega)]
    exact e5 (by omega)
  simp only [hk, hb]
  rw [e2, Int.toNat_natCast, setTo_eq (bitF x u) S L e4 (fun i hi => e3 i hi)]

/-- The other way: what is decoded as a set has the contents octets of that set, and no others. -/
theorem dnF_ok (c : List UInt8) (k s : Int) (h : dnF c k = (s, 0)) : 1 ≤ k ∧ k ≤ 32 ∧ ∃ S : Nat, s = S ∧ S < 2 ^ k.toNat ∧ namF S = c ∧ setTo (bitF (decF c).1 (decF c).2.1) k.toNat = S := by
  unfold dnF at h
  cases hk : decide (k < 1 ∨ k > 32) with
  | true => rw [hk] at h; simp at h
  | false =>
    rw [hk] at h
    have hk' : 1 ≤ k ∧ k ≤ 32 := by simp at hk; omega
    refine ⟨hk'.1, hk'.2, ?_⟩
    rcases decF_cases c with hd | ⟨b, x, rfl, hv, hd⟩
    · rw [hd] at h
      simp at h
    rw [hd] at h ⊢
    simp only at h ⊢
    cases hb : decide ((0 : Int) ≠ 0 ∨ lenF x b.toNat > k ∨ (lenF x b.toNat > 0 ∧ atF x b.toNat (lenF x b.toNat - 1) = false)) with
    | true => rw [hb] at h; simp at h
    | false =>
      rw [hb] at h
      simp only [Prod.mk.injEq, and_true] at h
      simp only [ne_eq, not_true_eq_false, false_or, decide_eq_false_iff_not, not_or, not_and, Bool.not_eq_false] at hb
      obtain ⟨hb1, hb2⟩ := hb
      have hL0 := lenF_nonneg x b.toNat
      obtain ⟨L, hL⟩ := Int.eq_ofNat_of_zero_le hL0
      rw [hL] at h hb1 hb2
      simp only [Int.toNat_natCast] at h
      have hr := valF_range hv
      have hlx : (L : Int) = 8 * x.length - b.toNat := by rw [← hL, lenF, hv]
      have hlt := setTo_lt (bitF x b.toNat) L
      have hLk : L ≤ k.toNat := by omega
      have hbit : ∀ i : Nat, L ≤ i → bitF x b.toNat i = false := by
        intro i hi
        have : ¬ (i : Int) < (L : Int) := by omega
        simp [bitF, atF, hL, this]
      obtain ⟨S, hSd⟩ : ∃ S, S = setTo (bitF x b.toNat) L := ⟨_, rfl⟩
      rw [← hSd] at h hlt
      have hSb : ∀ i, S.testBit i = bitF x b.toNat i := by
        intro i
        rw [hSd, setTo_bit]
        rcases Nat.lt_or_ge i L with hi | hi
        · simp [hi]
        · have : ¬ i < L := by omega
          simp [this, hbit i hi]
      have hS63 : S < 9223372036854775808 := Nat.lt_of_lt_of_le hlt (Nat.le_trans (Nat.pow_le_pow_right (by omega) (show L ≤ 32 by omega)) (by decide))
      refine ⟨S, h.symm, Nat.lt_of_lt_of_le hlt (Nat.pow_le_pow_right (by omega) hLk), ?_, setTo_eq _ _ _ (Nat.lt_of_lt_of_le hlt (Nat.pow_le_pow_right (by omega) hLk)) (fun i _ => (hSb i).symm)⟩
      rcases Nat.eq_zero_or_pos L with h0 | h0
      · subst h0
        have hx0 : x = [] := by
          cases x with
          | nil => rfl
          | cons y x => simp at hlx; omega
        subst hx0
        have hb0 : b.toNat = 0 := by simp [valF] at hv; exact hv
        have hS0 : S = 0 := by simp at hlt; exact hlt
        have hbz : b = 0 := UInt8.toNat_inj.1 (by rw [hb0]; rfl)
        rw [hS0, hbz]
        decide
      · have hlast : S.testBit (L - 1) = true := by
          have := hb2 (by omega)
          rw [hSb, bitF, show ((L - 1 : Nat) : Int) = (L : Int) - 1 by omega]
          exact this
        rcases List.eq_nil_or_concat (memF S) with he | ⟨q, m, he⟩
        · have h1 := mem_memF hS63 hlast
          rw [he] at h1
          cases h1
        · rw [List.concat_eq_append] at he
          have hml := memF_last hS63 he
          have hm : m = L - 1 := by
            have h1 : m < L := (memF_lt hS63 he).2 hlt
            have h2 : L - 1 < m + 1 := by
              rcases Nat.lt_or_ge (L - 1) (m + 1) with h3 | h3
              · exact h3
              · rw [Nat.testBit_lt_two_pow (Nat.lt_of_lt_of_le hml.2 (Nat.pow_le_pow_right (by omega) h3))] at hlast
                cases hlast
            omega
          have hinc : Inc (q ++ [m]) := by rw [← he]; exact memF_inc S
          have hn : namF S = outP (q ++ [m]) m := by simp [namF, he]
          have hxl : x.length = m / 8 + 1 := by omega
          have hub : b.toNat = 7 - m % 8 := by omega
          rw [hn, outP]
          congr 1
          · rw [← hub]; simp
          · apply List.ext_getElem
            · simp [hxl]
            · intro j hj1 hj2
              simp only [List.getElem_map, List.getElem_range]
              have hbl := byteP_lt _ hinc j
              apply UInt8.toNat_inj.1
              rw [show (UInt8.ofNat (byteP (q ++ [m]) j)).toNat = byteP (q ++ [m]) j by simp [UInt8.toNat_ofNat']; omega]
              have hxj : x[j].toNat < 256 := x[j].toNat_lt
              apply Nat.eq_of_testBit_eq
              intro i
              rcases Nat.lt_or_ge i 8 with hi | hi
              · have e1 := byteP_bit _ hinc j (7 - i) (by omega)
                rw [show 7 - (7 - i) = i by omega] at e1
                rw [e1, ← he]
                have e2 : decide (8 * j + (7 - i) ∈ memF S) = S.testBit (8 * j + (7 - i)) := by
                  rw [Bool.eq_iff_iff, decide_eq_true_eq]
                  exact ⟨fun h => (List.mem_filter.1 h).2, fun h => mem_memF hS63 h⟩
                rw [e2, hSb, bitF, atF, hL]
                have e3 : (((8 * j + (7 - i) : Nat) : Int) / 8).toNat = j := by omega
                have e4 : (7 - ((8 * j + (7 - i) : Nat) : Int) % 8).toNat = i := by omega
                rw [e3, e4, List.getD_eq_getElem?_getD, List.getElem?_eq_getElem hj2]
                have e5 : (0 : Int) ≤ ((8 * j + (7 - i) : Nat) : Int) := by omega
                simp only [e5, decide_true, Bool.true_and, Option.getD_some]
                rcases Nat.lt_or_ge (8 * j + (7 - i)) L with h5 | h5
                · have : ((8 * j + (7 - i) : Nat) : Int) < (L : Int) := by omega
                  rw [decide_eq_true this, Bool.true_and]
                · have h6 : ¬ ((8 * j + (7 - i) : Nat) : Int) < (L : Int) := by omega
                  simp only [h6, decide_false, Bool.false_and]
                  -- an unused bit of the last octet
                  have h7 : j = x.length - 1 := by omega
                  have hv2 : x[j].toNat % 2 ^ b.toNat = 0 := by
                    cases x with
                    | nil => simp at hj2
                    | cons y x =>
                      simp only [valF, decide_eq_true_eq] at hv
                      have := hv.2.2
                      rw [List.getD_eq_getElem?_getD, List.getElem?_eq_getElem (by simp)] at this
                      simpa [h7] using this
                  have h8 : i < b.toNat := by omega
                  have h9 := Nat.testBit_mod_two_pow x[j].toNat b.toNat i
                  rw [hv2] at h9
                  simp [h8] at h9
                  exact h9.symm
              · rw [Nat.testBit_lt_two_pow (Nat.lt_of_lt_of_le hbl (Nat.le_trans (show 256 ≤ 2 ^ 8 by decide) (Nat.pow_le_pow_right (by omega) hi))),
                  Nat.testBit_lt_two_pow (Nat.lt_of_lt_of_le hxj (Nat.le_trans (show 256 ≤ 2 ^ 8 by decide) (Nat.pow_le_pow_right (by omega) hi)))]
theorem dnF_code (c : List UInt8) (k : Int) : (dnF c k).2 = 0 ∨ (dnF c k = (0, 9) ∧ (k < 1 ∨ k > 32)) ∨ (dnF c k = (0, 6) ∧ 1 ≤ k ∧ k ≤ 32) := by
  unfold dnF
  cases hk : decide (k < 1 ∨ k > 32) with
  | true => simp at hk; simp; omega
  | false =>
    simp at hk
    simp only
    split
    · right; right; exact ⟨rfl, by omega, by omega⟩
    · left; rfl
theorem rdnF_eq (c : List UInt8) (k : Int) : rdnF c k = dnF c k := by
  rcases dnF_code c k with h | ⟨h, hk⟩ | ⟨h, h1, h2⟩
  · obtain ⟨h1, h2, S, h3, h4, h5, h6⟩ := dnF_ok c k (dnF c k).1 (by rw [← h])
    have hk : decide (k < 1 ∨ k > 32) = false := by simp; omega
    unfold rdnF
    rw [hk]
    simp only [h6, h5, decide_true]
    rw [← h3, ← h]
  · rw [h]
    have hk : decide (k < 1 ∨ k > 32) = true := by simp; omega
    unfold rdnF
    rw [hk]
  · rw [h]
    have hk : decide (k < 1 ∨ k > 32) = false := by simp; omega
    unfold rdnF
    rw [hk]
    simp only
    cases hn : decide (namF (setTo (bitF (decF c).1 (decF c).2.1) k.toNat) = c) with
    | false => rfl
    | true =>
      simp only [decide_eq_true_eq] at hn
      have := dnF_nam (setTo (bitF (decF c).1 (decF c).2.1) k.toNat) k h1 h2 (setTo_lt _ _)
      rw [hn, h] at this
      simp at this
end Go.Proofs.YtbbakpmedpcigaaDoor

/- Key usages: functions of package usage and of its reference. Walked by the abstract machine. -/
namespace Go.Proofs.YtbbakpmedpcigaaDoor
open Go.Am
set_option linter.unusedSimpArgs false
set_option linter.unusedVariables false

theorem c_encn_ok (Γ : Env) (S : Nat) (k : Int) (hn : (S : Int) ≤ 9223372036854775807) (h : badF S k = false) : ACalls Tryd.prog Γ 24 [.int .i64 S, .int .i64 k] (fun r => r = .ownT none 5 (bys (namF S)) [.int .i64 0]) := (c_encn1 Γ S k hn).mono fun r hr => by
  rw [hr, encRes, h]
  simp
theorem c_rencn_ok (Γ : Env) (S : Nat) (k : Int) (hn : (S : Int) ≤ 9223372036854775807) (h : badF S k = false) : ACalls Tryd.prog Γ 26 [.int .i64 S, .int .i64 k] (fun r => r = .ownT none 5 (bys (namF S)) [.int .i64 0]) := (c_rencn1 Γ S k hn).mono fun r hr => by
  rw [hr, encRes, h]
  simp
theorem c_decn_at (Γ : Env) (c : List UInt8) (k s e : Int) (hx : c.length ≤ 1099511627) (h : dnF c k = (s, e)) : ACalls Tryd.prog Γ 30 [.sl none (bys c), .int .i64 k] (fun r => r = .d (.tup [.int .i64 s, .int .i64 e])) := (c_decn Γ c k hx).mono fun r hr => by
  rw [hr, h]
theorem namF_len (S : Nat) (hS : S < 9223372036854775808) : (namF S).length ≤ 11 := by
  obtain ⟨x, u, L, e1, _, _, _, _, _, h7, _⟩ := nam_facts S hS
  cases h : namF S with
  | nil => simp
  | cons b y =>
    rcases decF_cases (namF S) with hd | ⟨b', y', h1, h2, h3⟩
    · rw [hd] at e1
      simp at e1
    · rw [h1] at h
      cases h
      rw [e1] at h3
      simp only [Prod.mk.injEq] at h3
      rw [← h3.1]
      simp only [List.length_cons]
      omega
def keyV (n : Int) : Bool := decide (1 ≤ n ∧ n ≤ 511)
theorem shr9 (n : Int) (h0 : 0 < n) (h1 : n ≤ 9223372036854775807) : shft .shr .i64 n 9 = 0 ↔ n ≤ 511 := by
  show Int.fdiv n (2 ^ (min (9 : Int).toNat IntKind.i64.bits)) = 0 ↔ _
  rw [show (2 : Int) ^ (min (9 : Int).toNat IntKind.i64.bits) = 512 by decide, Int.fdiv_eq_ediv_of_nonneg _ (by omega)]
  omega
theorem isValidKey : IsFn Tryd.prog 12 Tryd.f12 := ⟨Tryd.func12, by decide, rfl⟩
theorem c_validkey (Γ : Env) (n : Int) (hn : n ≤ 9223372036854775807) : ACalls Tryd.prog Γ 12 [.int .i64 n] (fun r => r = .d (.bool (keyV n))) := by
  refine acalls_of ty_ok isValidKey rfl rfl ?_
  repeat' (first | ((with_reducible show AWp _ _ _ _ _); (first | refine awp_seq ?_ | refine awp_block ?_ | refine awp_skip ?_ | refine awp_exit ?_ | refine awp_scope ?_ | refine awp_label ?_ | refine awp_run ty_ok rfl sd ?_ | refine awp_ret ⟨_, _, rfl, rfl, ?_⟩ | refine awp_ret ⟨_, rfl, ?_⟩ | ((refine awp_cond (ty := ty) rfl (fun hc => ?_) (fun hc => ?_)) <;> (try simp only [nms, reduceCtorEq] at hc) <;> (try (exfalso; omega))))) | ((with_reducible show AOps _ _ _ _ _ _); (first | refine aops_nil ?_ | refine aops_go ty_ok rfl rfl sd ?_ | refine aops_gate ty_ok rfl rfl rfl sd ?_ | refine aops_litE ty_ok rfl rfl rfl rfl rfl rfl rfl rfl rfl rfl rfl rfl ?_ | refine aops_cutE ty_ok rfl rfl rfl rfl rfl rfl rfl rfl rfl sd rfl ?_ | ((fail_if_success (refine aops_known rfl ?_)); (refine aops_split ty_ok rfl rfl rfl rfl rfl rfl (fun hc => ⟨?_, ?_⟩) (fun hc => ⟨?_, ?_⟩)) <;> (try simp only [nms, reduceCtorEq] at hc) <;> (try (exfalso; omega)) <;> (try exact sd)))) | ((fail_if_success (with_reducible show AWp _ _ _ _ _)); (fail_if_success (with_reducible show AOps _ _ _ _ _ _)); (first | (show AWp _ _ _ _ _) | (show AOps _ _ _ _ _ _))))
  all_goals refine congrArg (fun b => Res.d (Dat.bool b)) ?_
  · rw [Bool.eq_iff_iff, beq_iff_eq, shr9 n hc hn, keyV, decide_eq_true_eq]
    omega
  · symm
    rw [keyV, decide_eq_false_iff_not]
    omega
theorem isRValidKey : IsFn Tryd.prog 13 Tryd.f13 := ⟨Tryd.func13, by decide, rfl⟩
theorem c_rvalidkey (Γ : Env) (n : Int) : ACalls Tryd.prog Γ 13 [.int .i64 n] (fun r => r = .d (.bool (keyV n))) := by
  refine acalls_of ty_ok isRValidKey rfl rfl ?_
  repeat' (first | ((with_reducible show AWp _ _ _ _ _); (first | refine awp_seq ?_ | refine awp_block ?_ | refine awp_skip ?_ | refine awp_exit ?_ | refine awp_scope ?_ | refine awp_label ?_ | refine awp_run ty_ok rfl sd ?_ | refine awp_ret ⟨_, _, rfl, rfl, ?_⟩ | refine awp_ret ⟨_, rfl, ?_⟩ | ((refine awp_cond (ty := ty) rfl (fun hc => ?_) (fun hc => ?_)) <;> (try simp only [nms, reduceCtorEq] at hc) <;> (try (exfalso; omega))))) | ((with_reducible show AOps _ _ _ _ _ _); (first | refine aops_nil ?_ | refine aops_go ty_ok rfl rfl sd ?_ | refine aops_gate ty_ok rfl rfl rfl sd ?_ | refine aops_litE ty_ok rfl rfl rfl rfl rfl rfl rfl rfl rfl rfl rfl rfl ?_ | refine aops_cutE ty_ok rfl rfl rfl rfl rfl rfl rfl rfl rfl sd rfl ?_ | ((fail_if_success (refine aops_known rfl ?_)); (refine aops_split ty_ok rfl rfl rfl rfl rfl rfl (fun hc => ⟨?_, ?_⟩) (fun hc => ⟨?_, ?_⟩)) <;> (try simp only [nms, reduceCtorEq] at hc) <;> (try (exfalso; omega)) <;> (try exact sd)))) | ((fail_if_success (with_reducible show AWp _ _ _ _ _)); (fail_if_success (with_reducible show AOps _ _ _ _ _ _)); (first | (show AWp _ _ _ _ _) | (show AOps _ _ _ _ _ _))))
  all_goals refine congrArg (fun b => Res.d (Dat.bool b)) ?_
  · rw [Bool.eq_iff_iff, decide_eq_true_eq, keyV, decide_eq_true_eq]
    omega
  · symm
    rw [keyV, decide_eq_false_iff_not]
    omega
theorem keyV_nat {n : Int} (h : keyV n = true) : ∃ S : Nat, n = S ∧ 1 ≤ S ∧ S ≤ 511 := by
  rw [keyV, decide_eq_true_eq] at h
  exact ⟨n.toNat, by omega, by omega, by omega⟩
theorem bad9 {S : Nat} (h1 : 1 ≤ S) (h : S ≤ 511) : badF S 9 = false := by
  rw [badF, decide_eq_false_iff_not]
  simp
  omega
/-- The encoding of a key usage. -/
def keyF (S : Nat) : List UInt8 := putF 3 (namF S)
def keyR (n : Int) : Res := match keyV n with
  | true => .ownT none 5 (bys (keyF n.toNat)) [.int .i64 0]
  | false => .d (.tup [.sl none [], .int .i64 8])
theorem isMarshalKey : IsFn Tryd.prog 9 Tryd.f9 := ⟨Tryd.func9, by decide, rfl⟩
theorem c_mkey (Γ : Env) (n : Int) (hn : n ≤ 9223372036854775807) : ACalls Tryd.prog Γ 9 [.int .i64 n] (fun r => r = keyR n) := by
  refine acalls_of ty_ok isMarshalKey rfl rfl ?_
  have hc1 := c_validkey (Γ.at 0) n hn
  unfold keyR
  cases hv : keyV n with
  | false =>
    rw [hv] at hc1
    repeat' (first | ((with_reducible show AWp _ _ _ _ _); (first | refine awp_seq ?_ | refine awp_block ?_ | refine awp_skip ?_ | refine awp_exit ?_ | refine awp_scope ?_ | refine awp_label ?_ | refine awp_run ty_ok rfl sd ?_ | refine awp_ret ⟨_, _, rfl, rfl, ?_⟩ | refine awp_ret ⟨_, rfl, ?_⟩ | ((refine awp_cond (ty := ty) rfl (fun hc => ?_) (fun hc => ?_)) <;> (try simp only [nms, reduceCtorEq] at hc) <;> (try (exfalso; omega))))) | ((with_reducible show AOps _ _ _ _ _ _); (first | refine aops_nil ?_ | refine aops_go ty_ok rfl rfl sd ?_ | refine aops_gate ty_ok rfl rfl rfl sd ?_ | refine aops_callE (ty := ty) rfl rfl rfl rfl rfl rfl rfl (hc1) rfl ?_ | refine aops_litE ty_ok rfl rfl rfl rfl rfl rfl rfl rfl rfl rfl rfl rfl ?_ | refine aops_cutE ty_ok rfl rfl rfl rfl rfl rfl rfl rfl rfl sd rfl ?_ | ((fail_if_success (refine aops_known rfl ?_)); (refine aops_split ty_ok rfl rfl rfl rfl rfl rfl (fun hc => ⟨?_, ?_⟩) (fun hc => ⟨?_, ?_⟩)) <;> (try simp only [nms, reduceCtorEq] at hc) <;> (try (exfalso; omega)) <;> (try exact sd)))) | ((fail_if_success (with_reducible show AWp _ _ _ _ _)); (fail_if_success (with_reducible show AOps _ _ _ _ _ _)); (first | (show AWp _ _ _ _ _) | (show AOps _ _ _ _ _ _))))
    rfl
  | true =>
    rw [hv] at hc1
    obtain ⟨S, rfl, h1, h2⟩ := keyV_nat hv
    have hl := namF_len S (by omega)
    repeat' (first | ((with_reducible show AWp _ _ _ _ _); (first | refine awp_seq ?_ | refine awp_block ?_ | refine awp_skip ?_ | refine awp_exit ?_ | refine awp_scope ?_ | refine awp_label ?_ | refine awp_run ty_ok rfl sd ?_ | refine awp_ret ⟨_, _, rfl, rfl, ?_⟩ | refine awp_ret ⟨_, rfl, ?_⟩ | ((refine awp_cond (ty := ty) rfl (fun hc => ?_) (fun hc => ?_)) <;> (try simp only [nms, reduceCtorEq] at hc) <;> (try (exfalso; omega))))) | ((with_reducible show AOps _ _ _ _ _ _); (first | refine aops_nil ?_ | refine aops_go ty_ok rfl rfl sd ?_ | refine aops_gate ty_ok rfl rfl rfl sd ?_ | refine aops_callE (ty := ty) rfl rfl rfl rfl rfl rfl rfl (hc1) rfl ?_ | refine aops_callE (ty := ty) rfl rfl rfl rfl rfl rfl rfl (c_encn_ok _ S 9 hn (bad9 h1 h2)) rfl ?_ | refine aops_callE (ty := ty) rfl rfl rfl rfl rfl rfl rfl (c_wrap _ 0 3 false [namF S] (by omega) (by omega) (by simp) (by simp; omega)) rfl ?_ | refine aops_litE ty_ok rfl rfl rfl rfl rfl rfl rfl rfl rfl rfl rfl rfl ?_ | refine aops_cutE ty_ok rfl rfl rfl rfl rfl rfl rfl rfl rfl sd rfl ?_ | ((fail_if_success (refine aops_known rfl ?_)); (refine aops_split ty_ok rfl rfl rfl rfl rfl rfl (fun hc => ⟨?_, ?_⟩) (fun hc => ⟨?_, ?_⟩)) <;> (try simp only [nms, reduceCtorEq] at hc) <;> (try (exfalso; omega)) <;> (try exact sd)))) | ((fail_if_success (with_reducible show AWp _ _ _ _ _)); (fail_if_success (with_reducible show AOps _ _ _ _ _ _)); (first | (show AWp _ _ _ _ _) | (show AOps _ _ _ _ _ _))))
    simp only [List.flatten_cons, List.flatten_nil, List.append_nil, Int.toNat_natCast]
    rfl
theorem isRMarshalKey : IsFn Tryd.prog 10 Tryd.f10 := ⟨Tryd.func10, by decide, rfl⟩
theorem c_rmkey (Γ : Env) (n : Int) (hn : n ≤ 9223372036854775807) : ACalls Tryd.prog Γ 10 [.int .i64 n] (fun r => r = keyR n) := by
  refine acalls_of ty_ok isRMarshalKey rfl rfl ?_
  have hc1 := c_rvalidkey (Γ.at 0) n
  unfold keyR
  cases hv : keyV n with
  | false =>
    rw [hv] at hc1
    repeat' (first | ((with_reducible show AWp _ _ _ _ _); (first | refine awp_seq ?_ | refine awp_block ?_ | refine awp_skip ?_ | refine awp_exit ?_ | refine awp_scope ?_ | refine awp_label ?_ | refine awp_run ty_ok rfl sd ?_ | refine awp_ret ⟨_, _, rfl, rfl, ?_⟩ | refine awp_ret ⟨_, rfl, ?_⟩ | ((refine awp_cond (ty := ty) rfl (fun hc => ?_) (fun hc => ?_)) <;> (try simp only [nms, reduceCtorEq] at hc) <;> (try (exfalso; omega))))) | ((with_reducible show AOps _ _ _ _ _ _); (first | refine aops_nil ?_ | refine aops_go ty_ok rfl rfl sd ?_ | refine aops_gate ty_ok rfl rfl rfl sd ?_ | refine aops_callE (ty := ty) rfl rfl rfl rfl rfl rfl rfl (hc1) rfl ?_ | refine aops_litE ty_ok rfl rfl rfl rfl rfl rfl rfl rfl rfl rfl rfl rfl ?_ | refine aops_cutE ty_ok rfl rfl rfl rfl rfl rfl rfl rfl rfl sd rfl ?_ | ((fail_if_success (refine aops_known rfl ?_)); (refine aops_split ty_ok rfl rfl rfl rfl rfl rfl (fun hc => ⟨?_, ?_⟩) (fun hc => ⟨?_, ?_⟩)) <;> (try simp only [nms, reduceCtorEq] at hc) <;> (try (exfalso; omega)) <;> (try exact sd)))) | ((fail_if_success (with_reducible show AWp _ _ _ _ _)); (fail_if_success (with_reducible show AOps _ _ _ _ _ _)); (first | (show AWp _ _ _ _ _) | (show AOps _ _ _ _ _ _))))
    rfl
  | true =>
    rw [hv] at hc1
    obtain ⟨S, rfl, h1, h2⟩ := keyV_nat hv
    have hl := namF_len S (by omega)
    repeat' (first | ((with_reducible show AWp _ _ _ _ _); (first | refine awp_seq ?_ | refine awp_block ?_ | refine awp_skip ?_ | refine awp_exit ?_ | refine awp_scope ?_ | refine awp_label ?_ | refine awp_run ty_ok rfl sd ?_ | refine awp_ret ⟨_, _, rfl, rfl, ?_⟩ | refine awp_ret ⟨_, rfl, ?_⟩ | ((refine awp_cond (ty := ty) rfl (fun hc => ?_) (fun hc => ?_)) <;> (try simp only [nms, reduceCtorEq] at hc) <;> (try (exfalso; omega))))) | ((with_reducible show AOps _ _ _ _ _ _); (first | refine aops_nil ?_ | refine aops_go ty_ok rfl rfl sd ?_ | refine aops_gate ty_ok rfl rfl rfl sd ?_ | refine aops_callE (ty := ty) rfl rfl rfl rfl rfl rfl rfl (hc1) rfl ?_ | refine aops_callE (ty := ty) rfl rfl rfl rfl rfl rfl rfl (c_rencn_ok _ S 9 hn (bad9 h1 h2)) rfl ?_ | refine aops_callE (ty := ty) rfl rfl rfl rfl rfl rfl rfl (c_rput _ 3 (namF S) (by omega)) rfl ?_ | refine aops_litE ty_ok rfl rfl rfl rfl rfl rfl rfl rfl rfl rfl rfl rfl ?_ | refine aops_cutE ty_ok rfl rfl rfl rfl rfl rfl rfl rfl rfl sd rfl ?_ | ((fail_if_success (refine aops_known rfl ?_)); (refine aops_split ty_ok rfl rfl rfl rfl rfl rfl (fun hc => ⟨?_, ?_⟩) (fun hc => ⟨?_, ?_⟩)) <;> (try simp only [nms, reduceCtorEq] at hc) <;> (try (exfalso; omega)) <;> (try exact sd)))) | ((fail_if_success (with_reducible show AWp _ _ _ _ _)); (fail_if_success (with_reducible show AOps _ _ _ _ _ _)); (first | (show AWp _ _ _ _ _) | (show AOps _ _ _ _ _ _))))
    rfl
/-- A key usage, parsed. -/
def pkF (b : List UInt8) : Ex Nat := match onF b with
  | .bad c o => .bad c o
  | .ok e => match isB e.x 0 false 3 with
    | false => .bad 3 0
    | true => match dnF (cut b e.bd e.en) 9 with
      | (s, c) => if c ≠ 0 ∨ s = 0 then .bad 6 e.bd else .ok s.toNat
def pkD : Ex Nat → Dat
  | .bad c o => .tup [.int .i64 0, errD c o]
  | .ok S => .tup [.int .i64 S, errD 0 0]
theorem dn_nat (c : List UInt8) : ∃ (S : Nat) (e : Int), dnF c 9 = ((S : Int), e) := by
  rcases dnF_code c 9 with h | ⟨h, _⟩ | ⟨h, _⟩
  · obtain ⟨_, _, S, h1, _⟩ := dnF_ok c 9 (dnF c 9).1 (Prod.ext rfl h)
    exact ⟨S, (dnF c 9).2, Prod.ext h1 rfl⟩
  · exact ⟨0, 9, h⟩
  · exact ⟨0, 6, h⟩
theorem isParseKey : IsFn Tryd.prog 14 Tryd.f14 := ⟨Tryd.func14, by decide, rfl⟩
set_option maxHeartbeats 4000000 in
set_option maxRecDepth 100000 in
theorem c_pkey (Γ : Env) (b : List UInt8) (hb : b.length ≤ 1000000000) : ACalls Tryd.prog Γ 14 [.sl none (bys b)] (fun r => r = .d (pkD (pkF b))) := by
  refine acalls_of ty_ok isParseKey rfl rfl ?_
  rw [pkF]
  cases ho : onF b with
  | bad c o =>
    have hc1 := c_one_at (Γ.at 0) b (by omega) ho
    have := on_bad ho
    repeat' (first | ((with_reducible show AWp _ _ _ _ _); (first | refine awp_seq ?_ | refine awp_block ?_ | refine awp_skip ?_ | refine awp_exit ?_ | refine awp_scope ?_ | refine awp_label ?_ | refine awp_run ty_ok rfl sd ?_ | refine awp_ret ⟨_, _, rfl, rfl, ?_⟩ | refine awp_ret ⟨_, rfl, ?_⟩ | ((refine awp_cond (ty := ty) rfl (fun hc => ?_) (fun hc => ?_)) <;> (try simp only [nms, reduceCtorEq] at hc) <;> (try (exfalso; omega))) | refine awp_anyL 2 mixed rfl (by kernel_rfl) ?_)) | ((with_reducible show AOps _ _ _ _ _ _); (first | refine aops_nil ?_ | refine aops_go ty_ok rfl rfl sd ?_ | refine aops_gate ty_ok rfl rfl rfl sd ?_ | refine aops_callE (ty := ty) rfl rfl rfl rfl rfl rfl rfl (hc1) rfl ?_ | refine aops_litE ty_ok rfl rfl rfl rfl rfl rfl rfl rfl rfl rfl rfl rfl ?_ | refine aops_cutE ty_ok rfl rfl rfl rfl rfl rfl rfl rfl rfl sd rfl ?_ | ((fail_if_success (refine aops_known rfl ?_)); (refine aops_split ty_ok rfl rfl rfl rfl rfl rfl (fun hc => ⟨?_, ?_⟩) (fun hc => ⟨?_, ?_⟩)) <;> (try simp only [nms, reduceCtorEq] at hc) <;> (try (exfalso; omega)) <;> (try exact sd)))) | ((with_reducible show HeadT _ _ _ _ _ _ _ _ _ _); (first | refine head_end ?_ | refine head_goP ty_ok rfl rfl sd ?_ | refine head_gate ty_ok rfl rfl rfl sd ?_ | refine head_callE (ty := ty) rfl rfl rfl rfl rfl rfl rfl (hc1) rfl ?_ | ((fail_if_success (refine head_known rfl ?_)); (refine head_split ty_ok rfl rfl rfl rfl (fun hc => ⟨?_, ?_⟩) (fun hc => ⟨?_, ?_⟩)) <;> (try simp only [nms, reduceCtorEq] at hc) <;> (try (exfalso; omega)) <;> (try exact sd)))) | ((fail_if_success (with_reducible show AWp _ _ _ _ _)); (fail_if_success (with_reducible show AOps _ _ _ _ _ _)); (fail_if_success (with_reducible show HeadT _ _ _ _ _ _ _ _ _ _)); (first | (show AWp _ _ _ _ _) | (show AOps _ _ _ _ _ _))))
    rfl
  | ok e =>
    have hc1 := c_one_at (Γ.at 0) b (by omega) ho
    obtain ⟨c, _, _, _, _, _, h6, h7⟩ := on_ok ho
    simp only
    cases hi : isB e.x 0 false 3 with
    | false =>
      repeat' (first | ((with_reducible show AWp _ _ _ _ _); (first | refine awp_seq ?_ | refine awp_block ?_ | refine awp_skip ?_ | refine awp_exit ?_ | refine awp_scope ?_ | refine awp_label ?_ | refine awp_run ty_ok rfl sd ?_ | refine awp_ret ⟨_, _, rfl, rfl, ?_⟩ | refine awp_ret ⟨_, rfl, ?_⟩ | ((refine awp_cond (ty := ty) rfl (fun hc => ?_) (fun hc => ?_)) <;> (try simp only [nms, reduceCtorEq] at hc) <;> (try (exfalso; omega))) | refine awp_anyL 2 mixed rfl (by kernel_rfl) ?_)) | ((with_reducible show AOps _ _ _ _ _ _); (first | refine aops_nil ?_ | refine aops_go ty_ok rfl rfl sd ?_ | refine aops_gate ty_ok rfl rfl rfl sd ?_ | refine aops_callE (ty := ty) rfl rfl rfl rfl rfl rfl rfl (hc1) rfl ?_ | refine aops_callE (ty := ty) rfl rfl rfl rfl rfl rfl rfl (c_is_at _ e 0 3 false hi) rfl ?_ | refine aops_litE ty_ok rfl rfl rfl rfl rfl rfl rfl rfl rfl rfl rfl rfl ?_ | refine aops_cutE ty_ok rfl rfl rfl rfl rfl rfl rfl rfl rfl sd rfl ?_ | ((fail_if_success (refine aops_known rfl ?_)); (refine aops_split ty_ok rfl rfl rfl rfl rfl rfl (fun hc => ⟨?_, ?_⟩) (fun hc => ⟨?_, ?_⟩)) <;> (try simp only [nms, reduceCtorEq] at hc) <;> (try (exfalso; omega)) <;> (try exact sd)))) | ((with_reducible show HeadT _ _ _ _ _ _ _ _ _ _); (first | refine head_end ?_ | refine head_goP ty_ok rfl rfl sd ?_ | refine head_gate ty_ok rfl rfl rfl sd ?_ | refine head_callE (ty := ty) rfl rfl rfl rfl rfl rfl rfl (hc1) rfl ?_ | refine head_callE (ty := ty) rfl rfl rfl rfl rfl rfl rfl (c_is_at _ e 0 3 false hi) rfl ?_ | ((fail_if_success (refine head_known rfl ?_)); (refine head_split ty_ok rfl rfl rfl rfl (fun hc => ⟨?_, ?_⟩) (fun hc => ⟨?_, ?_⟩)) <;> (try simp only [nms, reduceCtorEq] at hc) <;> (try (exfalso; omega)) <;> (try exact sd)))) | ((fail_if_success (with_reducible show AWp _ _ _ _ _)); (fail_if_success (with_reducible show AOps _ _ _ _ _ _)); (fail_if_success (with_reducible show HeadT _ _ _ _ _ _ _ _ _ _)); (first | (show AWp _ _ _ _ _) | (show AOps _ _ _ _ _ _))))
      rfl
    | true =>
      obtain ⟨S, ec, hd⟩ := dn_nat (cut b e.bd e.en)
      have hcut : cutL (bys b) (e.bd : Int).toNat (e.en : Int).toNat = bys (cut b e.bd e.en) := by rw [cutL_bys, Int.toNat_natCast, Int.toNat_natCast]; rfl
      have hcl := cut_len b e.bd e.en (by omega)
      have hc2 := c_decn_at (Γ.at 0) (cut b e.bd e.en) 9 _ _ (by omega) hd
      rw [← hcut] at hc2
      rw [hd]
      simp only
      by_cases h : ec ≠ 0 ∨ (S : Int) = 0
      · rw [if_pos h]
        repeat' (first | ((with_reducible show AWp _ _ _ _ _); (first | refine awp_seq ?_ | refine awp_block ?_ | refine awp_skip ?_ | refine awp_exit ?_ | refine awp_scope ?_ | refine awp_label ?_ | refine awp_run ty_ok rfl sd ?_ | refine awp_ret ⟨_, _, rfl, rfl, ?_⟩ | refine awp_ret ⟨_, rfl, ?_⟩ | ((refine awp_cond (ty := ty) rfl (fun hc => ?_) (fun hc => ?_)) <;> (try simp only [nms, reduceCtorEq] at hc) <;> (try (exfalso; omega))) | refine awp_anyL 4 mixed rfl (by kernel_rfl) ?_)) | ((with_reducible show AOps _ _ _ _ _ _); (first | refine aops_nil ?_ | refine aops_go ty_ok rfl rfl sd ?_ | refine aops_gate ty_ok rfl rfl rfl sd ?_ | refine aops_callE (ty := ty) rfl rfl rfl rfl rfl rfl rfl (hc1) rfl ?_ | refine aops_callE (ty := ty) rfl rfl rfl rfl rfl rfl rfl (c_is_at _ e 0 3 false hi) rfl ?_ | refine aops_callE (ty := ty) rfl rfl rfl rfl rfl rfl rfl (hc2) rfl ?_ | refine aops_litE ty_ok rfl rfl rfl rfl rfl rfl rfl rfl rfl rfl rfl rfl ?_ | refine aops_cutE ty_ok rfl rfl rfl rfl rfl rfl rfl rfl rfl sd rfl ?_ | ((fail_if_success (refine aops_known rfl ?_)); (refine aops_split ty_ok rfl rfl rfl rfl rfl rfl (fun hc => ⟨?_, ?_⟩) (fun hc => ⟨?_, ?_⟩)) <;> (try simp only [nms, reduceCtorEq] at hc) <;> (try (exfalso; omega)) <;> (try exact sd)))) | ((with_reducible show HeadT _ _ _ _ _ _ _ _ _ _); (first | refine head_end ?_ | refine head_goP ty_ok rfl rfl sd ?_ | refine head_gate ty_ok rfl rfl rfl sd ?_ | refine head_callE (ty := ty) rfl rfl rfl rfl rfl rfl rfl (hc1) rfl ?_ | refine head_callE (ty := ty) rfl rfl rfl rfl rfl rfl rfl (c_is_at _ e 0 3 false hi) rfl ?_ | refine head_callE (ty := ty) rfl rfl rfl rfl rfl rfl rfl (hc2) rfl ?_ | ((fail_if_success (refine head_known rfl ?_)); (refine head_split ty_ok rfl rfl rfl rfl (fun hc => ⟨?_, ?_⟩) (fun hc => ⟨?_, ?_⟩)) <;> (try simp only [nms, reduceCtorEq] at hc) <;> (try (exfalso; omega)) <;> (try exact sd)))) | ((fail_if_success (with_reducible show AWp _ _ _ _ _)); (fail_if_success (with_reducible show AOps _ _ _ _ _ _)); (fail_if_success (with_reducible show HeadT _ _ _ _ _ _ _ _ _ _)); (first | (show AWp _ _ _ _ _) | (show AOps _ _ _ _ _ _))))
        all_goals rfl
      · rw [if_neg h]
        repeat' (first | ((with_reducible show AWp _ _ _ _ _); (first | refine awp_seq ?_ | refine awp_block ?_ | refine awp_skip ?_ | refine awp_exit ?_ | refine awp_scope ?_ | refine awp_label ?_ | refine awp_run ty_ok rfl sd ?_ | refine awp_ret ⟨_, _, rfl, rfl, ?_⟩ | refine awp_ret ⟨_, rfl, ?_⟩ | ((refine awp_cond (ty := ty) rfl (fun hc => ?_) (fun hc => ?_)) <;> (try simp only [nms, reduceCtorEq] at hc) <;> (try (exfalso; omega))) | refine awp_anyL 4 mixed rfl (by kernel_rfl) ?_)) | ((with_reducible show AOps _ _ _ _ _ _); (first | refine aops_nil ?_ | refine aops_go ty_ok rfl rfl sd ?_ | refine aops_gate ty_ok rfl rfl rfl sd ?_ | refine aops_callE (ty := ty) rfl rfl rfl rfl rfl rfl rfl (hc1) rfl ?_ | refine aops_callE (ty := ty) rfl rfl rfl rfl rfl rfl rfl (c_is_at _ e 0 3 false hi) rfl ?_ | refine aops_callE (ty := ty) rfl rfl rfl rfl rfl rfl rfl (hc2) rfl ?_ | refine aops_litE ty_ok rfl rfl rfl rfl rfl rfl rfl rfl rfl rfl rfl rfl ?_ | refine aops_cutE ty_ok rfl rfl rfl rfl rfl rfl rfl rfl rfl sd rfl ?_ | ((fail_if_success (refine aops_known rfl ?_)); (refine aops_split ty_ok rfl rfl rfl rfl rfl rfl (fun hc => ⟨?_, ?_⟩) (fun hc => ⟨?_, ?_⟩)) <;> (try simp only [nms, reduceCtorEq] at hc) <;> (try (exfalso; omega)) <;> (try exact sd)))) | ((with_reducible show HeadT _ _ _ _ _ _ _ _ _ _); (first | refine head_end ?_ | refine head_goP ty_ok rfl rfl sd ?_ | refine head_gate ty_ok rfl rfl rfl sd ?_ | refine head_callE (ty := ty) rfl rfl rfl rfl rfl rfl rfl (hc1) rfl ?_ | refine head_callE (ty := ty) rfl rfl rfl rfl rfl rfl rfl (c_is_at _ e 0 3 false hi) rfl ?_ | refine head_callE (ty := ty) rfl rfl rfl rfl rfl rfl rfl (hc2) rfl ?_ | ((fail_if_success (refine head_known rfl ?_)); (refine head_split ty_ok rfl rfl rfl rfl (fun hc => ⟨?_, ?_⟩) (fun hc => ⟨?_, ?_⟩)) <;> (try simp only [nms, reduceCtorEq] at hc) <;> (try (exfalso; omega)) <;> (try exact sd)))) | ((fail_if_success (with_reducible show AWp _ _ _ _ _)); (fail_if_success (with_reducible show AOps _ _ _ _ _ _)); (fail_if_success (with_reducible show HeadT _ _ _ _ _ _ _ _ _ _)); (first | (show AWp _ _ _ _ _) | (show AOps _ _ _ _ _ _))))
        rfl
end Go.Proofs.YtbbakpmedpcigaaDoor

/- Key usages: what is parsed and what is marshalled are one to one; the reference's ParseKey; Allows. -/
namespace Go.Proofs.YtbbakpmedpcigaaDoor
open Go.Am
set_option linter.unusedSimpArgs false
set_option linter.unusedVariables false

theorem pk_bad {b : List UInt8} {c o : Nat} (h : pkF b = .bad c o) : 0 < c ∧ o ≤ b.length := by
  unfold pkF at h
  cases ho : onF b with
  | bad c' o' =>
    rw [ho] at h
    cases h
    exact on_bad ho
  | ok e =>
    rw [ho] at h
    simp only at h
    obtain ⟨c', _, _, _, _, _, h6, h7⟩ := on_ok ho
    cases hi : isB e.x 0 false 3 with
    | false =>
      rw [hi] at h
      cases h
      exact ⟨by omega, by omega⟩
    | true =>
      rw [hi] at h
      simp only at h
      split at h
      · cases h
        exact ⟨by omega, by omega⟩
      · cases h
theorem pk_ok {b : List UInt8} {S : Nat} (h : pkF b = .ok S) : 1 ≤ S ∧ S ≤ 511 ∧ b = keyF S := by
  unfold pkF at h
  cases ho : onF b with
  | bad c' o' =>
    rw [ho] at h
    cases h
  | ok e =>
    rw [ho] at h
    simp only at h
    obtain ⟨c, h1, _, _, _, h5, h6, h7⟩ := on_ok ho
    cases hi : isB e.x 0 false 3 with
    | false =>
      rw [hi] at h
      cases h
    | true =>
      rw [hi] at h
      simp only at h
      split at h
      · cases h
      · rename_i hn
        cases h
        rw [h5] at hn ⊢
        have hz : (dnF c 9).2 = 0 := by
          apply Decidable.byContradiction
          intro hz
          exact hn (.inl hz)
        obtain ⟨_, _, S, g1, g2, g3, _⟩ := dnF_ok c 9 (dnF c 9).1 (Prod.ext rfl hz)
        have hS : (dnF c 9).1.toNat = S := by omega
        rw [hS]
        have g4 : S < 512 := g2
        have g5 : S ≠ 0 := by
          rintro rfl
          exact hn (.inr g1)
        refine ⟨by omega, by omega, ?_⟩
        rw [keyF, g3, h1, isB_bits.1 hi]
theorem pk_of {S : Nat} (h1 : 1 ≤ S) (h2 : S ≤ 511) : pkF (keyF S) = .ok S := by
  have hl := namF_len S (by omega)
  have ho := on_put (x := 3) (c := namF S) (by decide) (by omega)
  have hi : isB (3 : UInt8) 0 false 3 = true := by decide
  rw [pkF, keyF, ho]
  simp only [hi, put_cut]
  rw [dnF_nam S 9 (by omega) (by omega) (by show S < 512; omega)]
  simp only
  rw [if_neg (by omega), Int.toNat_natCast]
theorem key_inj {S T : Nat} (h1 : 1 ≤ S) (h2 : S ≤ 511) (h3 : 1 ≤ T) (h4 : T ≤ 511) (h : keyF S = keyF T) : S = T := by
  have e1 := pk_of h1 h2
  rw [h, pk_of h3 h4] at e1
  cases e1
  rfl
theorem c_rmkey_ok (Γ : Env) (S : Nat) (h1 : 1 ≤ S) (h2 : S ≤ 511) : ACalls Tryd.prog Γ 10 [.int .i64 S] (fun r => r = .ownT none 5 (bys (keyF S)) [.int .i64 0]) := (c_rmkey Γ S (by omega)).mono fun r hr => by
  rw [hr, keyR, show keyV (S : Int) = true by rw [keyV, decide_eq_true_eq]; omega]
  simp only [Int.toNat_natCast]
def rpkD : Ex Nat → Dat
  | .bad c o => .tup [.int .i64 0, .bool false]
  | .ok S => .tup [.int .i64 S, .bool true]
theorem isRParseKey : IsFn Tryd.prog 16 Tryd.f16 := ⟨Tryd.func16, by decide, rfl⟩
theorem c_rpkey (Γ : Env) (b : List UInt8) : ACalls Tryd.prog Γ 16 [.sl none (bys b)] (fun r => r = .d (rpkD (pkF b))) := by
  refine acalls_of ty_ok isRParseKey rfl rfl ?_
  repeat' (first | ((with_reducible show AWp _ _ _ _ _); (first | refine awp_seq ?_ | refine awp_block ?_ | refine awp_skip ?_ | refine awp_exit ?_ | refine awp_scope ?_ | refine awp_label ?_ | refine awp_run ty_ok rfl sd ?_ | refine awp_ret ⟨_, _, rfl, rfl, ?_⟩ | refine awp_ret ⟨_, rfl, ?_⟩ | ((refine awp_cond (ty := ty) rfl (fun hc => ?_) (fun hc => ?_)) <;> (try simp only [nms, reduceCtorEq] at hc) <;> (try (exfalso; omega))))) | ((with_reducible show AOps _ _ _ _ _ _); (first | refine aops_nil ?_ | refine aops_go ty_ok rfl rfl sd ?_ | refine aops_gate ty_ok rfl rfl rfl sd ?_ | refine aops_litE ty_ok rfl rfl rfl rfl rfl rfl rfl rfl rfl rfl rfl rfl ?_ | refine aops_cutE ty_ok rfl rfl rfl rfl rfl rfl rfl rfl rfl sd rfl ?_ | ((fail_if_success (refine aops_known rfl ?_)); (refine aops_split ty_ok rfl rfl rfl rfl rfl rfl (fun hc => ⟨?_, ?_⟩) (fun hc => ⟨?_, ?_⟩)) <;> (try simp only [nms, reduceCtorEq] at hc) <;> (try (exfalso; omega)) <;> (try exact sd)))) | ((fail_if_success (with_reducible show AWp _ _ _ _ _)); (fail_if_success (with_reducible show AOps _ _ _ _ _ _)); (first | (show AWp _ _ _ _ _) | (show AOps _ _ _ _ _ _))))
  refine awp_loopR (G := { s : Nat // 1 ≤ s ∧ s ≤ 512 ∧ ∀ t, 1 ≤ t → t < s → keyF t ≠ b }) (fun s => ⟨Tryd.f16.ntmps, [(0, .d (.sl none (bys b))), (4, .d (.int .i64 s.1))], [], 0⟩) (fun s => 512 - s.1) ⟨1, by omega, by omega, fun t h1 h2 => by omega⟩ []
      (SubR.mk' rfl rfl ⟨⟨_, rfl, rfl⟩, ⟨_, rfl, rfl⟩, trivial⟩ trivial) ?_
  rintro ⟨s, hs1, hs2, hs3⟩
  dsimp only
  by_cases h : s ≤ 511
  · have hc1 := c_rmkey_ok (Γ.at 0) s hs1 h
    by_cases he : keyF s = b
    · have hc2 := c_bytes (Γ.at 0) (keyF s) b
      rw [decide_eq_true he] at hc2
      repeat' (first | ((with_reducible show AWp _ _ _ _ _); (first | refine awp_seq ?_ | refine awp_block ?_ | refine awp_skip ?_ | refine awp_exit ?_ | refine awp_scope ?_ | refine awp_label ?_ | refine awp_run ty_ok rfl sd ?_ | refine awp_ret ⟨_, _, rfl, rfl, ?_⟩ | refine awp_ret ⟨_, rfl, ?_⟩ | ((refine awp_cond (ty := ty) rfl (fun hc => ?_) (fun hc => ?_)) <;> (try simp only [nms, reduceCtorEq] at hc) <;> (try (exfalso; omega))))) | ((with_reducible show AOps _ _ _ _ _ _); (first | refine aops_nil ?_ | refine aops_go ty_ok rfl rfl sd ?_ | refine aops_gate ty_ok rfl rfl rfl sd ?_ | refine aops_callE (ty := ty) rfl rfl rfl rfl rfl rfl rfl (hc1) rfl ?_ | refine aops_callE (ty := ty) rfl rfl rfl rfl rfl rfl rfl (hc2) rfl ?_ | refine aops_litE ty_ok rfl rfl rfl rfl rfl rfl rfl rfl rfl rfl rfl rfl ?_ | refine aops_cutE ty_ok rfl rfl rfl rfl rfl rfl rfl rfl rfl sd rfl ?_ | ((fail_if_success (refine aops_known rfl ?_)); (refine aops_split ty_ok rfl rfl rfl rfl rfl rfl (fun hc => ⟨?_, ?_⟩) (fun hc => ⟨?_, ?_⟩)) <;> (try simp only [nms, reduceCtorEq] at hc) <;> (try (exfalso; omega)) <;> (try exact sd)))) | ((fail_if_success (with_reducible show AWp _ _ _ _ _)); (fail_if_success (with_reducible show AOps _ _ _ _ _ _)); (first | (show AWp _ _ _ _ _) | (show AOps _ _ _ _ _ _))))
      rw [← he, pk_of hs1 h]
      rfl
    · have hc2 := c_bytes (Γ.at 0) (keyF s) b
      rw [decide_eq_false he] at hc2
      repeat' (first | ((with_reducible show AWp _ _ _ _ _); (first | refine awp_seq ?_ | refine awp_block ?_ | refine awp_skip ?_ | refine awp_exit ?_ | refine awp_scope ?_ | refine awp_label ?_ | refine awp_run ty_ok rfl sd ?_ | refine awp_ret ⟨_, _, rfl, rfl, ?_⟩ | refine awp_ret ⟨_, rfl, ?_⟩ | ((refine awp_cond (ty := ty) rfl (fun hc => ?_) (fun hc => ?_)) <;> (try simp only [nms, reduceCtorEq] at hc) <;> (try (exfalso; omega))))) | ((with_reducible show AOps _ _ _ _ _ _); (first | refine aops_nil ?_ | refine aops_go ty_ok rfl rfl sd ?_ | refine aops_gate ty_ok rfl rfl rfl sd ?_ | refine aops_callE (ty := ty) rfl rfl rfl rfl rfl rfl rfl (hc1) rfl ?_ | refine aops_callE (ty := ty) rfl rfl rfl rfl rfl rfl rfl (hc2) rfl ?_ | refine aops_litE ty_ok rfl rfl rfl rfl rfl rfl rfl rfl rfl rfl rfl rfl ?_ | refine aops_cutE ty_ok rfl rfl rfl rfl rfl rfl rfl rfl rfl sd rfl ?_ | ((fail_if_success (refine aops_known rfl ?_)); (refine aops_split ty_ok rfl rfl rfl rfl rfl rfl (fun hc => ⟨?_, ?_⟩) (fun hc => ⟨?_, ?_⟩)) <;> (try simp only [nms, reduceCtorEq] at hc) <;> (try (exfalso; omega)) <;> (try exact sd)))) | ((fail_if_success (with_reducible show AWp _ _ _ _ _)); (fail_if_success (with_reducible show AOps _ _ _ _ _ _)); (first | (show AWp _ _ _ _ _) | (show AOps _ _ _ _ _ _))))
      refine ⟨⟨s + 1, by omega, by omega, fun t h1 h2 => ?_⟩, [], SubR.mk' rfl rfl ⟨⟨_, rfl, rfl⟩, ⟨_, rfl, rfl⟩, trivial⟩ trivial, by simp only; omega⟩
      rcases Nat.lt_or_ge t s with h3 | h3
      · exact hs3 t h1 h3
      · rw [show t = s by omega]
        exact he
  · repeat' (first | ((with_reducible show AWp _ _ _ _ _); (first | refine awp_seq ?_ | refine awp_block ?_ | refine awp_skip ?_ | refine awp_exit ?_ | refine awp_scope ?_ | refine awp_label ?_ | refine awp_run ty_ok rfl sd ?_ | refine awp_ret ⟨_, _, rfl, rfl, ?_⟩ | refine awp_ret ⟨_, rfl, ?_⟩ | ((refine awp_cond (ty := ty) rfl (fun hc => ?_) (fun hc => ?_)) <;> (try simp only [nms, reduceCtorEq] at hc) <;> (try (exfalso; omega))))) | ((with_reducible show AOps _ _ _ _ _ _); (first | refine aops_nil ?_ | refine aops_go ty_ok rfl rfl sd ?_ | refine aops_gate ty_ok rfl rfl rfl sd ?_ | refine aops_litE ty_ok rfl rfl rfl rfl rfl rfl rfl rfl rfl rfl rfl rfl ?_ | refine aops_cutE ty_ok rfl rfl rfl rfl rfl rfl rfl rfl rfl sd rfl ?_ | ((fail_if_success (refine aops_known rfl ?_)); (refine aops_split ty_ok rfl rfl rfl rfl rfl rfl (fun hc => ⟨?_, ?_⟩) (fun hc => ⟨?_, ?_⟩)) <;> (try simp only [nms, reduceCtorEq] at hc) <;> (try (exfalso; omega)) <;> (try exact sd)))) | ((fail_if_success (with_reducible show AWp _ _ _ _ _)); (fail_if_success (with_reducible show AOps _ _ _ _ _ _)); (first | (show AWp _ _ _ _ _) | (show AOps _ _ _ _ _ _))))
    cases hp : pkF b with
    | bad c o => rfl
    | ok S =>
      obtain ⟨h1, h2, h3⟩ := pk_ok hp
      exact absurd h3.symm (hs3 S h1 (by omega))

/-! ### Allows -/
def allB (u n : Nat) : Bool := (List.range 9).all fun i => !n.testBit i || u.testBit i
def allF (u n : Int) : Bool := keyV u && keyV n && allB u.toNat n.toNat
theorem andnot_zero (n u : Nat) (hn : n ≤ 511) (hu : u ≤ 511) : bits .andNot .i64 (n : Int) (u : Int) = 0 ↔ allB u n = true := by
  obtain ⟨a, ha⟩ : ∃ a, a = BitVec.ofInt 64 (n : Int) := ⟨_, rfl⟩
  obtain ⟨b, hb⟩ : ∃ b, b = BitVec.ofInt 64 (u : Int) := ⟨_, rfl⟩
  have h1 : a.toNat = n := by rw [ha]; simp [BitVec.toNat_ofInt]; omega
  have h2 : b.toNat = u := by rw [hb]; simp [BitVec.toNat_ofInt]; omega
  have hle : (a &&& ~~~b).toNat ≤ 511 := by
    rw [BitVec.toNat_and]
    exact Nat.le_trans Nat.and_le_left (by omega)
  have hbit : ∀ i, (a &&& ~~~b).toNat.testBit i = (n.testBit i && (decide (i < 64) && !u.testBit i)) := fun i => by
    rw [BitVec.testBit_toNat, BitVec.getLsbD_and, BitVec.getLsbD_not, ← BitVec.testBit_toNat, ← BitVec.testBit_toNat, h1, h2]
  have hz : bits .andNot .i64 (n : Int) (u : Int) = ((a &&& ~~~b).toNat : Int) := by
    subst ha; subst hb
    show IntKind.i64.wrap _ = _
    rw [IntKind.wrap_i64]
    have : ((BitVec.ofInt IntKind.i64.bits (n : Int) &&& ~~~BitVec.ofInt IntKind.i64.bits (u : Int)).toNat : Int) ≤ 511 := by
      have := hle
      exact Int.ofNat_le.2 this
    show (((BitVec.ofInt IntKind.i64.bits (n : Int) &&& ~~~BitVec.ofInt IntKind.i64.bits (u : Int)).toNat : Int) + 9223372036854775808) % 18446744073709551616 - 9223372036854775808 = ((BitVec.ofInt IntKind.i64.bits (n : Int) &&& ~~~BitVec.ofInt IntKind.i64.bits (u : Int)).toNat : Int)
    omega
  rw [hz, allB, List.all_eq_true]
  constructor
  · intro h i hi
    have h0 : (a &&& ~~~b).toNat = 0 := by omega
    have := hbit i
    rw [h0, Nat.zero_testBit] at this
    have hi9 : i < 9 := by simpa using hi
    rw [decide_eq_true (show i < 64 by omega)] at this
    cases hx : n.testBit i <;> cases hy : u.testBit i <;> simp_all
  · intro h
    have : (a &&& ~~~b).toNat = 0 := by
      apply Nat.eq_of_testBit_eq
      intro i
      rw [hbit, Nat.zero_testBit]
      rcases Nat.lt_or_ge i 9 with hi | hi
      · have := h i (by simpa using hi)
        cases hx : n.testBit i <;> cases hy : u.testBit i <;> simp_all
      · rw [Nat.testBit_lt_two_pow (Nat.lt_of_lt_of_le (show n < 2 ^ 9 by omega) (Nat.pow_le_pow_right (by omega) hi))]
        rfl
    omega
theorem isAllows : IsFn Tryd.prog 19 Tryd.f19 := ⟨Tryd.func19, by decide, rfl⟩
theorem c_allows (Γ : Env) (u n : Int) (hu : u ≤ 9223372036854775807) (hn : n ≤ 9223372036854775807) : ACalls Tryd.prog Γ 19 [.int .i64 u, .int .i64 n] (fun r => r = .d (.bool (allF u n))) := by
  refine acalls_of ty_ok isAllows rfl rfl ?_
  have hc1 := c_validkey (Γ.at 0) u hu
  have hc2 := c_validkey (Γ.at 0) n hn
  unfold allF
  cases h1 : keyV u with
  | false =>
    rw [h1] at hc1
    repeat' (first | ((with_reducible show AWp _ _ _ _ _); (first | refine awp_seq ?_ | refine awp_block ?_ | refine awp_skip ?_ | refine awp_exit ?_ | refine awp_scope ?_ | refine awp_label ?_ | refine awp_run ty_ok rfl sd ?_ | refine awp_ret ⟨_, _, rfl, rfl, ?_⟩ | refine awp_ret ⟨_, rfl, ?_⟩ | ((refine awp_cond (ty := ty) rfl (fun hc => ?_) (fun hc => ?_)) <;> (try simp only [nms, reduceCtorEq] at hc) <;> (try (exfalso; omega))))) | ((with_reducible show AOps _ _ _ _ _ _); (first | refine aops_nil ?_ | refine aops_go ty_ok rfl rfl sd ?_ | refine aops_gate ty_ok rfl rfl rfl sd ?_ | refine aops_callE (ty := ty) rfl rfl rfl rfl rfl rfl rfl (hc1) rfl ?_ | refine aops_callE (ty := ty) rfl rfl rfl rfl rfl rfl rfl (hc2) rfl ?_ | refine aops_litE ty_ok rfl rfl rfl rfl rfl rfl rfl rfl rfl rfl rfl rfl ?_ | refine aops_cutE ty_ok rfl rfl rfl rfl rfl rfl rfl rfl rfl sd rfl ?_ | ((fail_if_success (refine aops_known rfl ?_)); (refine aops_split ty_ok rfl rfl rfl rfl rfl rfl (fun hc => ⟨?_, ?_⟩) (fun hc => ⟨?_, ?_⟩)) <;> (try simp only [nms, reduceCtorEq] at hc) <;> (try (exfalso; omega)) <;> (try exact sd)))) | ((fail_if_success (with_reducible show AWp _ _ _ _ _)); (fail_if_success (with_reducible show AOps _ _ _ _ _ _)); (first | (show AWp _ _ _ _ _) | (show AOps _ _ _ _ _ _))))
    rfl
  | true =>
    rw [h1] at hc1
    cases h2 : keyV n with
    | false =>
      rw [h2] at hc2
      repeat' (first | ((with_reducible show AWp _ _ _ _ _); (first | refine awp_seq ?_ | refine awp_block ?_ | refine awp_skip ?_ | refine awp_exit ?_ | refine awp_scope ?_ | refine awp_label ?_ | refine awp_run ty_ok rfl sd ?_ | refine awp_ret ⟨_, _, rfl, rfl, ?_⟩ | refine awp_ret ⟨_, rfl, ?_⟩ | ((refine awp_cond (ty := ty) rfl (fun hc => ?_) (fun hc => ?_)) <;> (try simp only [nms, reduceCtorEq] at hc) <;> (try (exfalso; omega))))) | ((with_reducible show AOps _ _ _ _ _ _); (first | refine aops_nil ?_ | refine aops_go ty_ok rfl rfl sd ?_ | refine aops_gate ty_ok rfl rfl rfl sd ?_ | refine aops_callE (ty := ty) rfl rfl rfl rfl rfl rfl rfl (hc1) rfl ?_ | refine aops_callE (ty := ty) rfl rfl rfl rfl rfl rfl rfl (hc2) rfl ?_ | refine aops_litE ty_ok rfl rfl rfl rfl rfl rfl rfl rfl rfl rfl rfl rfl ?_ | refine aops_cutE ty_ok rfl rfl rfl rfl rfl rfl rfl rfl rfl sd rfl ?_ | ((fail_if_success (refine aops_known rfl ?_)); (refine aops_split ty_ok rfl rfl rfl rfl rfl rfl (fun hc => ⟨?_, ?_⟩) (fun hc => ⟨?_, ?_⟩)) <;> (try simp only [nms, reduceCtorEq] at hc) <;> (try (exfalso; omega)) <;> (try exact sd)))) | ((fail_if_success (with_reducible show AWp _ _ _ _ _)); (fail_if_success (with_reducible show AOps _ _ _ _ _ _)); (first | (show AWp _ _ _ _ _) | (show AOps _ _ _ _ _ _))))
      rfl
    | true =>
      rw [h2] at hc2
      obtain ⟨U, rfl, u1, u2⟩ := keyV_nat h1
      obtain ⟨N, rfl, n1, n2⟩ := keyV_nat h2
      repeat' (first | ((with_reducible show AWp _ _ _ _ _); (first | refine awp_seq ?_ | refine awp_block ?_ | refine awp_skip ?_ | refine awp_exit ?_ | refine awp_scope ?_ | refine awp_label ?_ | refine awp_run ty_ok rfl sd ?_ | refine awp_ret ⟨_, _, rfl, rfl, ?_⟩ | refine awp_ret ⟨_, rfl, ?_⟩ | ((refine awp_cond (ty := ty) rfl (fun hc => ?_) (fun hc => ?_)) <;> (try simp only [nms, reduceCtorEq] at hc) <;> (try (exfalso; omega))))) | ((with_reducible show AOps _ _ _ _ _ _); (first | refine aops_nil ?_ | refine aops_go ty_ok rfl rfl sd ?_ | refine aops_gate ty_ok rfl rfl rfl sd ?_ | refine aops_callE (ty := ty) rfl rfl rfl rfl rfl rfl rfl (hc1) rfl ?_ | refine aops_callE (ty := ty) rfl rfl rfl rfl rfl rfl rfl (hc2) rfl ?_ | refine aops_litE ty_ok rfl rfl rfl rfl rfl rfl rfl rfl rfl rfl rfl rfl ?_ | refine aops_cutE ty_ok rfl rfl rfl rfl rfl rfl rfl rfl rfl sd rfl ?_ | ((fail_if_success (refine aops_known rfl ?_)); (refine aops_split ty_ok rfl rfl rfl rfl rfl rfl (fun hc => ⟨?_, ?_⟩) (fun hc => ⟨?_, ?_⟩)) <;> (try simp only [nms, reduceCtorEq] at hc) <;> (try (exfalso; omega)) <;> (try exact sd)))) | ((fail_if_success (with_reducible show AWp _ _ _ _ _)); (fail_if_success (with_reducible show AOps _ _ _ _ _ _)); (first | (show AWp _ _ _ _ _) | (show AOps _ _ _ _ _ _))))
      refine congrArg (fun b => Res.d (Dat.bool b)) ?_
      rw [Bool.eq_iff_iff, beq_iff_eq, andnot_zero N U n2 u2]
      simp
/-! ### Allows of the reference -/
def allT (k u n : Nat) : Bool := (List.range k).all fun i => !n.testBit i || u.testBit i
theorem allT_step (k u n : Nat) : allT (k + 1) u n = ((!n.testBit 0 || u.testBit 0) && allT k (u / 2) (n / 2)) := by
  unfold allT
  rw [List.range_succ_eq_map, List.all_cons, List.all_map]
  congr 2
  funext i
  simp only [Function.comp, Nat.testBit_succ]
theorem allB_T (u n : Nat) : allB u n = allT 9 u n := rfl
theorem tmod2 (n : Nat) : Int.tmod (n : Int) 2 = ((n % 2 : Nat) : Int) := rfl
theorem tdiv2 (n : Nat) (h : n ≤ 511) : IntKind.i64.wrap (Int.tdiv (n : Int) 2) = ((n / 2 : Nat) : Int) := by
  rw [Int.tdiv_eq_ediv_of_nonneg (by omega), IntKind.wrap_i64]
  omega
theorem bit0 (n : Nat) : n.testBit 0 = decide (n % 2 = 1) := by rw [Nat.testBit_zero]
theorem isRAllows : IsFn Tryd.prog 22 Tryd.f22 := ⟨Tryd.func22, by decide, rfl⟩
set_option maxHeartbeats 1000000 in
theorem c_rallows (Γ : Env) (u n : Int) : ACalls Tryd.prog Γ 22 [.int .i64 u, .int .i64 n] (fun r => r = .d (.bool (allF u n))) := by
  refine acalls_of ty_ok isRAllows rfl rfl ?_
  have hc1 := c_rvalidkey (Γ.at 0) u
  have hc2 := c_rvalidkey (Γ.at 0) n
  unfold allF
  cases h1 : keyV u with
  | false =>
    rw [h1] at hc1
    repeat' (first | ((with_reducible show AWp _ _ _ _ _); (first | refine awp_seq ?_ | refine awp_block ?_ | refine awp_skip ?_ | refine awp_exit ?_ | refine awp_scope ?_ | refine awp_label ?_ | refine awp_run ty_ok rfl sd ?_ | refine awp_ret ⟨_, _, rfl, rfl, ?_⟩ | refine awp_ret ⟨_, rfl, ?_⟩ | ((refine awp_cond (ty := ty) rfl (fun hc => ?_) (fun hc => ?_)) <;> (try simp only [nms, reduceCtorEq] at hc) <;> (try (exfalso; omega))))) | ((with_reducible show AOps _ _ _ _ _ _); (first | refine aops_nil ?_ | refine aops_go ty_ok rfl rfl sd ?_ | refine aops_gate ty_ok rfl rfl rfl sd ?_ | refine aops_callE (ty := ty) rfl rfl rfl rfl rfl rfl rfl (hc1) rfl ?_ | refine aops_callE (ty := ty) rfl rfl rfl rfl rfl rfl rfl (hc2) rfl ?_ | refine aops_litE ty_ok rfl rfl rfl rfl rfl rfl rfl rfl rfl rfl rfl rfl ?_ | refine aops_cutE ty_ok rfl rfl rfl rfl rfl rfl rfl rfl rfl sd rfl ?_ | ((fail_if_success (refine aops_known rfl ?_)); (refine aops_split ty_ok rfl rfl rfl rfl rfl rfl (fun hc => ⟨?_, ?_⟩) (fun hc => ⟨?_, ?_⟩)) <;> (try simp only [nms, reduceCtorEq] at hc) <;> (try (exfalso; omega)) <;> (try exact sd)))) | ((fail_if_success (with_reducible show AWp _ _ _ _ _)); (fail_if_success (with_reducible show AOps _ _ _ _ _ _)); (first | (show AWp _ _ _ _ _) | (show AOps _ _ _ _ _ _))))
    rfl
  | true =>
    rw [h1] at hc1
    cases h2 : keyV n with
    | false =>
      rw [h2] at hc2
      repeat' (first | ((with_reducible show AWp _ _ _ _ _); (first | refine awp_seq ?_ | refine awp_block ?_ | refine awp_skip ?_ | refine awp_exit ?_ | refine awp_scope ?_ | refine awp_label ?_ | refine awp_run ty_ok rfl sd ?_ | refine awp_ret ⟨_, _, rfl, rfl, ?_⟩ | refine awp_ret ⟨_, rfl, ?_⟩ | ((refine awp_cond (ty := ty) rfl (fun hc => ?_) (fun hc => ?_)) <;> (try simp only [nms, reduceCtorEq] at hc) <;> (try (exfalso; omega))))) | ((with_reducible show AOps _ _ _ _ _ _); (first | refine aops_nil ?_ | refine aops_go ty_ok rfl rfl sd ?_ | refine aops_gate ty_ok rfl rfl rfl sd ?_ | refine aops_callE (ty := ty) rfl rfl rfl rfl rfl rfl rfl (hc1) rfl ?_ | refine aops_callE (ty := ty) rfl rfl rfl rfl rfl rfl rfl (hc2) rfl ?_ | refine aops_litE ty_ok rfl rfl rfl rfl rfl rfl rfl rfl rfl rfl rfl rfl ?_ | refine aops_cutE ty_ok rfl rfl rfl rfl rfl rfl rfl rfl rfl sd rfl ?_ | ((fail_if_success (refine aops_known rfl ?_)); (refine aops_split ty_ok rfl rfl rfl rfl rfl rfl (fun hc => ⟨?_, ?_⟩) (fun hc => ⟨?_, ?_⟩)) <;> (try simp only [nms, reduceCtorEq] at hc) <;> (try (exfalso; omega)) <;> (try exact sd)))) | ((fail_if_success (with_reducible show AWp _ _ _ _ _)); (fail_if_success (with_reducible show AOps _ _ _ _ _ _)); (first | (show AWp _ _ _ _ _) | (show AOps _ _ _ _ _ _))))
      rfl
    | true =>
      rw [h2] at hc2
      obtain ⟨U, rfl, u1, u2⟩ := keyV_nat h1
      obtain ⟨N, rfl, n1, n2⟩ := keyV_nat h2
      repeat' (first | ((with_reducible show AWp _ _ _ _ _); (first | refine awp_seq ?_ | refine awp_block ?_ | refine awp_skip ?_ | refine awp_exit ?_ | refine awp_scope ?_ | refine awp_label ?_ | refine awp_run ty_ok rfl sd ?_ | refine awp_ret ⟨_, _, rfl, rfl, ?_⟩ | refine awp_ret ⟨_, rfl, ?_⟩ | ((refine awp_cond (ty := ty) rfl (fun hc => ?_) (fun hc => ?_)) <;> (try simp only [nms, reduceCtorEq] at hc) <;> (try (exfalso; omega))))) | ((with_reducible show AOps _ _ _ _ _ _); (first | refine aops_nil ?_ | refine aops_go ty_ok rfl rfl sd ?_ | refine aops_gate ty_ok rfl rfl rfl sd ?_ | refine aops_callE (ty := ty) rfl rfl rfl rfl rfl rfl rfl (hc1) rfl ?_ | refine aops_callE (ty := ty) rfl rfl rfl rfl rfl rfl rfl (hc2) rfl ?_ | refine aops_litE ty_ok rfl rfl rfl rfl rfl rfl rfl rfl rfl rfl rfl rfl ?_ | refine aops_cutE ty_ok rfl rfl rfl rfl rfl rfl rfl rfl rfl sd rfl ?_ | ((fail_if_success (refine aops_known rfl ?_)); (refine aops_split ty_ok rfl rfl rfl rfl rfl rfl (fun hc => ⟨?_, ?_⟩) (fun hc => ⟨?_, ?_⟩)) <;> (try simp only [nms, reduceCtorEq] at hc) <;> (try (exfalso; omega)) <;> (try exact sd)))) | ((fail_if_success (with_reducible show AWp _ _ _ _ _)); (fail_if_success (with_reducible show AOps _ _ _ _ _ _)); (first | (show AWp _ _ _ _ _) | (show AOps _ _ _ _ _ _))))
      refine awp_loopR (G := { p : Nat × Nat × Nat // p.1 ≤ 9 ∧ p.2.1 ≤ 511 ∧ p.2.2 ≤ 511 ∧ allB U N = allT (9 - p.1) p.2.1 p.2.2 }) (fun p => ⟨Tryd.f22.ntmps, [(0, .d (.int .i64 p.1.2.1)), (1, .d (.int .i64 p.1.2.2)), (5, .d (.int .i64 p.1.1))], [], 0⟩) (fun p => 9 - p.1.1) ⟨(0, U, N), by omega, u2, n2, rfl⟩ []
        (SubR.mk' rfl rfl ⟨⟨_, rfl, rfl⟩, ⟨_, rfl, rfl⟩, ⟨_, rfl, rfl⟩, trivial⟩ trivial) ?_
      rintro ⟨⟨k, a, b⟩, hk, ha, hb, hall⟩
      dsimp only at hk ha hb hall ⊢
      have e1 := tmod2 a
      have e2 := tmod2 b
      by_cases h : k < 9
      · rw [show 9 - k = (9 - (k + 1)) + 1 by omega, allT_step, bit0, bit0] at hall
        repeat' (first | ((with_reducible show AWp _ _ _ _ _); (first | refine awp_seq ?_ | refine awp_block ?_ | refine awp_skip ?_ | refine awp_exit ?_ | refine awp_scope ?_ | refine awp_label ?_ | refine awp_run ty_ok rfl sd ?_ | refine awp_ret ⟨_, _, rfl, rfl, ?_⟩ | refine awp_ret ⟨_, rfl, ?_⟩ | ((refine awp_cond (ty := ty) rfl (fun hc => ?_) (fun hc => ?_)) <;> (try simp only [nms, reduceCtorEq] at hc) <;> (try (exfalso; omega))))) | ((with_reducible show AOps _ _ _ _ _ _); (first | refine aops_nil ?_ | refine aops_go ty_ok rfl rfl sd ?_ | refine aops_gate ty_ok rfl rfl rfl sd ?_ | refine aops_litE ty_ok rfl rfl rfl rfl rfl rfl rfl rfl rfl rfl rfl rfl ?_ | refine aops_cutE ty_ok rfl rfl rfl rfl rfl rfl rfl rfl rfl sd rfl ?_ | ((fail_if_success (refine aops_known rfl ?_)); (refine aops_split ty_ok rfl rfl rfl rfl rfl rfl (fun hc => ⟨?_, ?_⟩) (fun hc => ⟨?_, ?_⟩)) <;> (try simp only [nms, reduceCtorEq] at hc) <;> (try (exfalso; omega)) <;> (try exact sd)))) | ((fail_if_success (with_reducible show AWp _ _ _ _ _)); (fail_if_success (with_reducible show AOps _ _ _ _ _ _)); (first | (show AWp _ _ _ _ _) | (show AOps _ _ _ _ _ _))))
        · have hf : (!decide (b % 2 = 1) || decide (a % 2 = 1)) = false := by
            have : b % 2 = 1 := by omega
            have : ¬ a % 2 = 1 := by omega
            simp_all
          rw [hf, Bool.false_and] at hall
          simp [hall]
        all_goals
          have hf : (!decide (b % 2 = 1) || decide (a % 2 = 1)) = true := by
            by_cases h5 : b % 2 = 1
            · have : a % 2 = 1 := by omega
              simp [this]
            · simp [h5]
          rw [hf, Bool.true_and] at hall
          exact ⟨⟨(k + 1, a / 2, b / 2), h, by simp only; omega, by simp only; omega, hall⟩, [], SubR.mk' rfl rfl ⟨⟨_, rfl, congrArg (fun z : Int => AV.d (Dat.int IntKind.i64 z)) (tdiv2 a ha)⟩, ⟨_, rfl, congrArg (fun z : Int => AV.d (Dat.int IntKind.i64 z)) (tdiv2 b hb)⟩, ⟨_, rfl, rfl⟩, trivial⟩ trivial, by simp only; omega⟩
      · repeat' (first | ((with_reducible show AWp _ _ _ _ _); (first | refine awp_seq ?_ | refine awp_block ?_ | refine awp_skip ?_ | refine awp_exit ?_ | refine awp_scope ?_ | refine awp_label ?_ | refine awp_run ty_ok rfl sd ?_ | refine awp_ret ⟨_, _, rfl, rfl, ?_⟩ | refine awp_ret ⟨_, rfl, ?_⟩ | ((refine awp_cond (ty := ty) rfl (fun hc => ?_) (fun hc => ?_)) <;> (try simp only [nms, reduceCtorEq] at hc) <;> (try (exfalso; omega))))) | ((with_reducible show AOps _ _ _ _ _ _); (first | refine aops_nil ?_ | refine aops_go ty_ok rfl rfl sd ?_ | refine aops_gate ty_ok rfl rfl rfl sd ?_ | refine aops_litE ty_ok rfl rfl rfl rfl rfl rfl rfl rfl rfl rfl rfl rfl ?_ | refine aops_cutE ty_ok rfl rfl rfl rfl rfl rfl rfl rfl rfl sd rfl ?_ | ((fail_if_success (refine aops_known rfl ?_)); (refine aops_split ty_ok rfl rfl rfl rfl rfl rfl (fun hc => ⟨?_, ?_⟩) (fun hc => ⟨?_, ?_⟩)) <;> (try simp only [nms, reduceCtorEq] at hc) <;> (try (exfalso; omega)) <;> (try exact sd)))) | ((fail_if_success (with_reducible show AWp _ _ _ _ _)); (fail_if_success (with_reducible show AOps _ _ _ _ _ _)); (first | (show AWp _ _ _ _ _) | (show AOps _ _ _ _ _ _))))
        have : 9 - k = 0 := by omega
        rw [this] at hall
        have h9 : allB U N = true := hall
        simp [h9]
end Go.Proofs.YtbbakpmedpcigaaDoor

/- Arcs and their numerals: plain Lean. No program. -/
namespace Go.Am
open Go.Lib (decDigits)
set_option linter.unusedSimpArgs false
set_option linter.unusedVariables false

def digB (c : UInt8) : Bool := decide (48 ≤ c.toNat ∧ c.toNat ≤ 57)
def dv (acc : Nat) : List UInt8 → Nat
  | [] => acc
  | c :: r => dv (acc * 10 + (c.toNat - 48)) r
theorem dv_ge : ∀ (l : List UInt8) (acc : Nat), acc ≤ dv acc l
  | [], acc => Nat.le_refl _
  | c :: r, acc => Nat.le_trans (by omega) (dv_ge r _)
theorem dv_app : ∀ (l : List UInt8) (acc : Nat) (c : UInt8), dv acc (l ++ [c]) = dv acc l * 10 + (c.toNat - 48)
  | [], acc, c => rfl
  | x :: r, acc, c => dv_app r _ c
theorem dec_small {n : Nat} (h : n < 10) : decDigits n = [UInt8.ofNat (48 + n)] := by rw [Lib.decDigits, dif_pos h]
theorem dec_big {n : Nat} (h : ¬ n < 10) : decDigits n = decDigits (n / 10) ++ [UInt8.ofNat (48 + n % 10)] := by rw [Lib.decDigits, dif_neg h]
theorem dig_nat {d : Nat} (h : d < 10) : (UInt8.ofNat (48 + d)).toNat = 48 + d := by
  simp [UInt8.toNat_ofNat']
  omega
theorem dec_dig (n : Nat) : ∀ c ∈ decDigits n, digB c = true := by
  induction n using Nat.strongRecOn with
  | _ n ih =>
    by_cases h : n < 10
    · rw [dec_small h]
      intro c hc
      simp only [List.mem_singleton] at hc
      subst hc
      simp only [digB, dig_nat h, decide_eq_true_eq]
      omega
    · rw [dec_big h]
      intro c hc
      rcases List.mem_append.1 hc with hc | hc
      · exact ih (n / 10) (by omega) c hc
      · simp only [List.mem_singleton] at hc
        subst hc
        simp only [digB, dig_nat (show n % 10 < 10 by omega), decide_eq_true_eq]
        omega
theorem dv_one (a : Nat) (c : UInt8) : dv a [c] = a * 10 + (c.toNat - 48) := rfl
theorem dv_single (n : Nat) (x : UInt8) (l : List UInt8) (hl : l = [x]) (h : x.toNat = 48 + n) : dv 0 l = n := by
  subst hl
  rw [dv_one, h]
  omega
theorem dv_snoc (k d : Nat) (l r : List UInt8) (x : UInt8) (hl : l = r ++ [x]) (hr : dv 0 r = k) (h : x.toNat = 48 + d) : dv 0 l = k * 10 + d := by
  subst hl
  rw [dv_app, hr, h]
  omega
theorem dec_dv (n : Nat) : dv 0 (decDigits n) = n := by
  induction n using Nat.strongRecOn with
  | _ n ih =>
    by_cases h : n < 10
    · exact dv_single n _ _ (dec_small h) (dig_nat h)
    · have := dv_snoc (n / 10) (n % 10) _ _ _ (dec_big h) (ih (n / 10) (by omega)) (dig_nat (show n % 10 < 10 by omega))
      omega
theorem dec_inj {m n : Nat} (h : decDigits m = decDigits n) : m = n := by rw [← dec_dv m, h, dec_dv]
theorem dec_ne (n : Nat) : decDigits n ≠ [] := by
  by_cases h : n < 10
  · rw [dec_small h]; simp
  · rw [dec_big h]; simp
theorem dec_len (k : Nat) : ∀ n, n < 10 ^ (k + 1) → (decDigits n).length ≤ k + 1 := by
  induction k with
  | zero =>
    intro n h
    rw [dec_small (by simpa using h)]
    exact Nat.le_refl _
  | succ k ih =>
    intro n h
    by_cases h1 : n < 10
    · rw [dec_small h1]
      exact Nat.succ_le_succ (Nat.zero_le _)
    · rw [dec_big h1]
      have h2 : n / 10 < 10 ^ (k + 1) := by
        rw [Nat.div_lt_iff_lt_mul (Nat.succ_pos 9), ← Nat.pow_succ]
        exact h
      have := ih (n / 10) h2
      rw [List.length_append, List.length_singleton]
      omega
theorem dec_len32 (n : Nat) (h : n ≤ 4294967295) : (decDigits n).length ≤ 10 := dec_len 9 n (Nat.lt_of_le_of_lt h (by decide))
theorem dec_len64 (n : Nat) (h : n < 18446744073709551616) : (decDigits n).length ≤ 20 := dec_len 19 n (Nat.lt_of_lt_of_le h (by decide))

/-- The value that is read from digits, as far as it fits. -/
def valD (acc : Nat) : List UInt8 → Option Nat
  | [] => some acc
  | c :: r => match digB c && decide (acc ≤ 4294967295) with
    | true => valD (acc * 10 + (c.toNat - 48)) r
    | false => none
theorem valD_dv : ∀ (l : List UInt8) (acc : Nat), (∀ c ∈ l, digB c = true) → dv acc l ≤ 4294967295 → valD acc l = some (dv acc l)
  | [], acc, _, _ => rfl
  | c :: r, acc, h, hM => by
    have h1 := h c (List.mem_cons_self ..)
    have h2 := dv_ge r (acc * 10 + (c.toNat - 48))
    have h3 : dv acc (c :: r) = dv (acc * 10 + (c.toNat - 48)) r := rfl
    have h4 : decide (acc ≤ 4294967295) = true := decide_eq_true (by omega)
    simp only [valD, h1, h4, Bool.and_self]
    exact valD_dv r _ (fun c hc => h c (List.mem_cons_of_mem _ hc)) (by omega)
theorem parse_dv : ∀ (l : List UInt8) (acc : Nat), (∀ c ∈ l, digB c = true) → dv acc l ≤ 4294967295 → Lib.parseUintM 4294967295 acc l = .ok (dv acc l)
  | [], acc, _, _ => rfl
  | c :: r, acc, h, hM => by
    have h1 := h c (List.mem_cons_self ..)
    have h2 := dv_ge r (acc * 10 + (c.toNat - 48))
    have h3 : dv acc (c :: r) = dv (acc * 10 + (c.toNat - 48)) r := rfl
    simp only [digB, decide_eq_true_eq] at h1
    unfold Lib.parseUintM
    rw [if_pos h1, if_neg (by omega), if_neg (by omega)]
    exact parse_dv r _ (fun c hc => h c (List.mem_cons_of_mem _ hc)) (by omega)
theorem parse_le : ∀ (l : List UInt8) (acc u : Nat), acc ≤ 4294967295 → Lib.parseUintM 4294967295 acc l = .ok u → u ≤ 4294967295
  | [], acc, u, h, hp => by
    simp only [Lib.parseUintM, Lib.NumEnd.ok.injEq] at hp
    omega
  | c :: r, acc, u, h, hp => by
    unfold Lib.parseUintM at hp
    split at hp
    · split at hp
      · cases hp
      · split at hp
        · cases hp
        · exact parse_le r _ u (by omega) hp
    · cases hp
theorem parse32_le {l : List UInt8} {u : Nat} (h : Lib.parseUintB 32 l = .ok u) : u ≤ 4294967295 := by
  unfold Lib.parseUintB at h
  split at h
  · cases h
  · exact parse_le l 0 u (by omega) h

/-- The arc whose numeral it is. -/
def arcF (p : List UInt8) : Option Nat := match valD 0 p with
  | some n => match decide (p ≠ []) && decide (n ≤ 4294967295) && decide (decDigits n = p) with
    | true => some n
    | false => none
  | none => none
theorem arcF_some {p : List UInt8} {n : Nat} : arcF p = some n ↔ n ≤ 4294967295 ∧ decDigits n = p := by
  constructor
  · intro h
    unfold arcF at h
    split at h
    · split at h
      · rename_i hb
        cases h
        simp only [Bool.and_eq_true, decide_eq_true_eq] at hb
        exact ⟨hb.1.2, hb.2⟩
      · cases h
    · cases h
  · rintro ⟨h1, rfl⟩
    unfold arcF
    rw [valD_dv _ 0 (dec_dig n) (by rw [dec_dv]; exact h1), dec_dv]
    have e1 : decide (decDigits n ≠ []) = true := decide_eq_true (dec_ne n)
    have e2 : decide (n ≤ 4294967295) = true := decide_eq_true h1
    simp only [e1, e2, decide_true, Bool.and_self]
theorem arcF_dec {n : Nat} (h : n ≤ 4294967295) : arcF (decDigits n) = some n := arcF_some.2 ⟨h, rfl⟩
theorem parse_dec {n : Nat} (h : n ≤ 4294967295) : Lib.parseUintB 32 (decDigits n) = .ok n := by
  unfold Lib.parseUintB
  rw [if_neg (dec_ne n)]
  have := parse_dv (decDigits n) 0 (dec_dig n) (by rw [dec_dv]; exact h)
  rwa [dec_dv] at this
theorem arcF_parse (p : List UInt8) : arcF p = match Lib.parseUintB 32 p with
    | .ok u => (match decide (decDigits u = p) with
      | true => some u
      | false => none)
    | _ => none := by
  cases h : arcF p with
  | some n =>
    obtain ⟨h1, h2⟩ := arcF_some.1 h
    rw [← h2, parse_dec h1]
    simp
  | none =>
    cases hp : Lib.parseUintB 32 p with
    | ok u =>
      simp only
      split
      · rename_i hd
        have := arcF_some.2 ⟨parse32_le hp, of_decide_eq_true hd⟩
        rw [h] at this
        cases this
      · rfl
    | _ => rfl

def rightF : List Nat → Bool
  | x :: y :: _ => (decide (x < 2) && decide (y < 40)) || (decide (x = 2) && decide (y ≤ 4294967215))
  | _ => false
/-- The arcs of a string. -/
def okF (s : List UInt8) : Option (List Nat) := match (splitL s).mapM arcF with
  | some a => match rightF a with
    | true => some a
    | false => none
  | none => none

theorem mapM_snoc {α β : Type} {f : α → Option β} : ∀ (l : List α) (x : α), (l ++ [x]).mapM f = match l.mapM f, f x with
    | some a, some b => some (a ++ [b])
    | _, _ => none
  | [], x => by
    simp only [List.nil_append, List.mapM_cons, List.mapM_nil]
    cases f x <;> rfl
  | y :: l, x => by
    simp only [List.cons_append, List.mapM_cons, mapM_snoc l x]
    cases f y with
    | none => rfl
    | some b =>
      cases l.mapM f with
      | none => rfl
      | some a => cases f x <;> rfl
theorem mapM_none_of {α β : Type} {f : α → Option β} : ∀ {l : List α} {x : α}, x ∈ l → f x = none → l.mapM f = none
  | y :: l, x, h, hf => by
    rw [List.mapM_cons]
    rcases List.mem_cons.1 h with rfl | h
    · rw [hf]; rfl
    · cases f y with
      | none => rfl
      | some b => rw [mapM_none_of h hf]; rfl
theorem mapM_arcs : ∀ {l : List (List UInt8)} {a : List Nat}, l.mapM arcF = some a → l = a.map decDigits ∧ ∀ n ∈ a, n ≤ 4294967295
  | [], a, h => by cases h; simp
  | p :: l, a, h => by
    rw [List.mapM_cons] at h
    cases hp : arcF p with
    | none => rw [hp] at h; cases h
    | some n =>
      cases hl : l.mapM arcF with
      | none => rw [hp, hl] at h; cases h
      | some b =>
        rw [hp, hl] at h
        cases h
        obtain ⟨h1, h2⟩ := mapM_arcs hl
        obtain ⟨h3, h4⟩ := arcF_some.1 hp
        refine ⟨by rw [h1, ← h4]; rfl, fun m hm => ?_⟩
        rcases List.mem_cons.1 hm with rfl | hm
        · exact h3
        · exact h2 m hm
theorem arcs_mapM : ∀ {a : List Nat}, (∀ n ∈ a, n ≤ 4294967295) → (a.map decDigits).mapM arcF = some a
  | [], _ => rfl
  | n :: a, h => by
    rw [List.map_cons, List.mapM_cons, arcF_dec (h n (List.mem_cons_self ..)), arcs_mapM (fun m hm => h m (List.mem_cons_of_mem _ hm))]
    rfl
theorem splitL_app {p : List UInt8} (h : ∀ c ∈ p, c ≠ 46) (r : List UInt8) : splitL (p ++ 46 :: r) = p :: splitL r := by
  induction p with
  | nil => simp [splitL]
  | cons c p ih =>
    have h1 : ¬ c = 46 := h c (List.mem_cons_self ..)
    simp only [List.cons_append, splitL, if_neg h1, ih (fun c hc => h c (List.mem_cons_of_mem _ hc))]
theorem splitL_one {p : List UInt8} (h : ∀ c ∈ p, c ≠ 46) : splitL p = [p] := by
  induction p with
  | nil => rfl
  | cons c p ih =>
    have h1 : ¬ c = 46 := h c (List.mem_cons_self ..)
    simp only [splitL, if_neg h1, ih (fun c hc => h c (List.mem_cons_of_mem _ hc))]
/-- Pieces with dots between them. -/
def joinD : List (List UInt8) → List UInt8
  | [] => []
  | [p] => p
  | p :: q :: r => p ++ 46 :: joinD (q :: r)
theorem splitL_joinD : ∀ {ps : List (List UInt8)}, ps ≠ [] → (∀ p ∈ ps, ∀ c ∈ p, c ≠ 46) → splitL (joinD ps) = ps
  | [], h, _ => absurd rfl h
  | [p], _, h => splitL_one (h p (List.mem_cons_self ..))
  | p :: q :: r, _, h => by
    rw [joinD, splitL_app (h p (List.mem_cons_self ..)), splitL_joinD (by simp) (fun x hx => h x (List.mem_cons_of_mem _ hx))]
theorem joinD_splitL (s : List UInt8) : joinD (splitL s) = s := by
  induction s with
  | nil => rfl
  | cons c r ih =>
    simp only [splitL]
    by_cases h : c = 46
    · subst h
      rw [if_pos rfl]
      cases hs : splitL r with
      | nil => exact absurd hs (splitL_ne r)
      | cons p ps =>
        rw [hs] at ih
        rw [joinD, ih]
        rfl
    · rw [if_neg h]
      cases hs : splitL r with
      | nil => exact absurd hs (splitL_ne r)
      | cons p ps =>
        rw [hs] at ih
        cases ps with
        | nil => simp only [joinD] at ih ⊢; rw [ih]
        | cons q qs => simp only [joinD] at ih ⊢; rw [← ih]; rfl
def textF (a : List Nat) : List UInt8 := joinD (a.map decDigits)
theorem dec_nodot (n : Nat) : ∀ c ∈ decDigits n, c ≠ 46 := by
  intro c hc h
  subst h
  have := dec_dig n 46 hc
  revert this
  decide
theorem okF_text {s : List UInt8} {a : List Nat} (h : okF s = some a) : textF a = s ∧ rightF a = true ∧ ∀ n ∈ a, n ≤ 4294967295 := by
  unfold okF at h
  split at h
  · rename_i b hb
    split at h
    · rename_i hr
      cases h
      obtain ⟨h1, h2⟩ := mapM_arcs hb
      exact ⟨by rw [textF, ← h1, joinD_splitL], hr, h2⟩
    · cases h
  · cases h
theorem text_okF {a : List Nat} (h : rightF a = true) (hn : ∀ n ∈ a, n ≤ 4294967295) : okF (textF a) = some a := by
  unfold okF textF
  rw [splitL_joinD (by
    intro he
    cases a with
    | nil => simp [rightF] at h
    | cons x r => simp at he) (fun p hp => by
    obtain ⟨n, _, rfl⟩ := List.mem_map.1 hp
    exact dec_nodot n), arcs_mapM hn]
  simp only [h]
theorem joinD_lib : ∀ (ps : List (List UInt8)), Lib.join ps [46] = joinD ps
  | [] => rfl
  | [p] => by simp [joinD, Lib.join]
  | p :: q :: r => by
    rw [joinD, ← joinD_lib (q :: r)]
    simp [Lib.join]
theorem joinD_len : ∀ (ps : List (List UInt8)) (b : Nat), (∀ p ∈ ps, p.length ≤ b) → (joinD ps).length ≤ ps.length * (b + 1)
  | [], b, _ => by simp [joinD]
  | [p], b, h => by have := h p (List.mem_cons_self ..); simp [joinD]; omega
  | p :: q :: r, b, h => by
    have h1 := h p (List.mem_cons_self ..)
    have h2 := joinD_len (q :: r) b (fun x hx => h x (List.mem_cons_of_mem _ hx))
    rw [joinD]
    simp only [List.length_append, List.length_cons] at h2 ⊢
    rw [Nat.add_mul]
    omega
theorem textF_len (a : List Nat) (h : ∀ n ∈ a, n ≤ 4294967295) : (textF a).length ≤ a.length * 11 := by
  have := joinD_len (a.map decDigits) 10 (fun p hp => by
    obtain ⟨n, hn, rfl⟩ := List.mem_map.1 hp
    exact dec_len32 n (h n hn))
  simpa [textF] using this
end Go.Am

/- What the listed variables of Go's library hold: an environment for the walks. -/
namespace Go.Proofs.YtbbakpmedpcigaaDoor
open Go.Am
set_option linter.unusedSimpArgs false
set_option linter.unusedVariables false

def theLaid := Rows.usageNamesRow.laid
def LaidOk (w : World) : Prop := 8 ≤ w.heap.size ∧ Lib.TabIs Tryd.prog w "internal/strconv.uint64pow10" .u64 Lib.pow10Tab ∧ (∃ t p, w.var? Tryd.prog "strconv.ErrSyntax" = some #[.iface t p]) ∧ (∃ t p, w.var? Tryd.prog "strconv.ErrRange" = some #[.iface t p])
theorem var_stable {P : Program} {n : String} {g : Nat} (hg : P.globalNamed n = some g) {w w' : World} (h : w'.heap[g]? = w.heap[g]?) : w'.var? P n = w.var? P n := by
  simp only [World.var?, hg, Option.bind_some, h]
def envL : Env where
  ok := LaidOk
  lim := 8
  lim_le := fun w h => h.1
  stable := fun w w' h _ _ hs hb => by
    refine ⟨Nat.le_trans h.1 hs, ?_, ?_, ?_⟩
    · have := h.2.1
      unfold Lib.TabIs at this ⊢
      rw [var_stable (g := 2) (by kernel_rfl) (hb 2 (by omega))]
      exact this
    · rw [var_stable (g := 0) (by kernel_rfl) (hb 0 (by omega))]
      exact h.2.2.1
    · rw [var_stable (g := 1) (by kernel_rfl) (hb 1 (by omega))]
      exact h.2.2.2
  L := 0
theorem iface_of {H : Type} {enc : TypeId × Value → H} {P : Program} {w : World} {t : TypeId} {ms : Array (String × TypeId)} {fuel : Nat} {cs : Array Value} {nm : String} {d : DataW H} {p : List MemPlace} (hi : P.underlying t = some (.interface ms))
    (h : DataW.trod enc P w 0 (fun _ => true) false fuel t cs.toList = some (.iface nm d, p)) : ∃ u v, cs = #[.iface u v] := by
  obtain ⟨cs⟩ := cs
  cases fuel with
  | zero => simp [DataW.trod] at h
  | succ n =>
    unfold DataW.trod at h
    rw [hi] at h
    split at h <;> simp_all
theorem laid_ok {W : World} (h : laidMetH Tryd.prog theLaid W) : LaidOk W := by
  unfold theLaid at h
  rw [MakeChecks.laidMetH_plain _ _ _ (by kernel_rfl)] at h
  obtain ⟨ps, hv, _⟩ := h
  obtain ⟨g1, t1, c1, f1, p1, q1, a1, b1, v1, d1, hv, _⟩ := hv
  obtain ⟨g2, t2, c2, f2, p2, q2, a2, b2, v2, d2, hv, _⟩ := hv
  obtain ⟨g3, t3, c3, f3, p3, q3, a3, b3, v3, d3, hv, _⟩ := hv
  obtain ⟨g4, t4, c4, f4, p4, q4, a4, b4, v4, d4, hv, _⟩ := hv
  obtain ⟨g5, t5, c5, f5, p5, q5, a5, b5, v5, d5, hv, _⟩ := hv
  obtain ⟨g6, t6, c6, f6, p6, q6, a6, b6, v6, d6, hv, _⟩ := hv
  have hi : Tryd.prog.underlying 94 = some (.interface _) := Tryd.underlying94
  refine ⟨?_, ?_, ?_, ?_⟩
  · obtain rfl := Option.some.inj ((show Tryd.prog.globalNamed "math/bits.deBruijn64tab" = some 7 by kernel_rfl).symm.trans a2)
    have : W.heap[7]? ≠ none := by
      intro hn
      simp only [World.var?, a2, Option.bind_some, hn] at v2
      cases v2
    rcases Nat.lt_or_ge 7 W.heap.size with h | h
    · exact h
    · exact absurd (Array.getElem?_eq_none h) this
  · obtain rfl := Option.some.inj ((show Tryd.prog.globalNamed "internal/strconv.uint64pow10" = some 2 by kernel_rfl).symm.trans a3)
    unfold Lib.TabIs
    have hT : (Tryd.prog.globals[2]?).map (·.type) = some 129 := by kernel_rfl
    obtain rfl := Option.some.inj (hT.symm.trans b3)
    rw [v3, ← Lib.cells_of_tab (zs := Lib.pow10Tab) Tryd.underlying129 Tryd.underlying85 (by kernel_rfl) (by kernel_rfl) d3]
  · obtain rfl := Option.some.inj ((show Tryd.prog.globalNamed "strconv.ErrSyntax" = some 0 by kernel_rfl).symm.trans a6)
    obtain rfl := Option.some.inj ((show (Tryd.prog.globals[0]?).map (·.type) = some 94 by kernel_rfl).symm.trans b6)
    obtain ⟨u, v, rfl⟩ := iface_of hi d6
    exact ⟨u, v, v6⟩
  · obtain rfl := Option.some.inj ((show Tryd.prog.globalNamed "strconv.ErrRange" = some 1 by kernel_rfl).symm.trans a5)
    obtain rfl := Option.some.inj ((show (Tryd.prog.globals[1]?).map (·.type) = some 94 by kernel_rfl).symm.trans b5)
    obtain ⟨u, v, rfl⟩ := iface_of hi d5
    exact ⟨u, v, v5⟩
theorem env_of {W : World} (h : laidMetH Tryd.prog theLaid W) : envL.ok W := laid_ok h
end Go.Proofs.YtbbakpmedpcigaaDoor

/- Contracts of functions of Go's library, laid at this dump by the kit's own tool (lay-shelf.mjs, lay-plain.mjs), those that are used. -/

namespace Go.Proofs
open Go.Shelf
def Tryd.lays283_ren : Go.Shelf.Ren := ⟨fun | 283 => 81 | n => n, fun | 3 => 3 | 9 => 9 | 4 => 4 | n => n, fun | n => n⟩
theorem Tryd.lays283 : Go.Proofs.Lays.n283 Tryd.prog Tryd.lays283_ren := {
  mixed := by kernel_rfl
  f283 := Tryd.func81.trans (congrArg some (by kernel_rfl))
  t3 := Tryd.underlying3
  a3 := Tryd.isAgg3
  z3 := Tryd.sizeOf3
  v3 := Tryd.zeroValue3
  t4 := Tryd.underlying4
  a4 := Tryd.isAgg4
  z4 := Tryd.sizeOf4
  v4 := Tryd.zeroValue4
  t9 := Tryd.underlying9
  a9 := Tryd.isAgg9
  z9 := Tryd.sizeOf9
  v9 := Tryd.zeroValue9 }
open Go.Lib in
theorem Tryd.internal_strconv_small (i : Nat) (h : i < 100) (w : World) :
    Calls Tryd.prog 81 #[.int .i64 i] w fun e w' => e = .returned (.string ⟨(Lib.decDigits i).toArray⟩) ∧ w' = w := Any.internal_strconv_small Tryd.lays283 i h w
def Tryd.laysM284_ren : Go.Shelf.Ren := ⟨fun | 284 => 82 | 129 => 93 | 317 => 92 | 318 => 94 | n => n, fun | 53 => 85 | 3 => 3 | 212 => 129 | 0 => 0 | 4 => 4 | 46 => 47 | 5 => 5 | 9 => 9 | n => n, fun | 17 => 2 | n => n⟩
theorem Tryd.laysM284 : Go.Proofs.LaysM.n284 Tryd.prog Tryd.laysM284_ren := {
  mixed := by kernel_rfl
  f129 := Tryd.func93.trans (congrArg some (by kernel_rfl))
  f284 := Tryd.func82.trans (congrArg some (by kernel_rfl))
  f317 := Tryd.func92.trans (congrArg some (by kernel_rfl))
  f318 := Tryd.func94.trans (congrArg some (by kernel_rfl))
  t0 := Tryd.underlying0
  a0 := Tryd.isAgg0
  z0 := Tryd.sizeOf0
  v0 := Tryd.zeroValue0
  t3 := Tryd.underlying3
  a3 := Tryd.isAgg3
  z3 := Tryd.sizeOf3
  v3 := Tryd.zeroValue3
  t4 := Tryd.underlying4
  a4 := Tryd.isAgg4
  z4 := Tryd.sizeOf4
  v4 := Tryd.zeroValue4
  t5 := Tryd.underlying5
  a5 := Tryd.isAgg5
  z5 := Tryd.sizeOf5
  v5 := Tryd.zeroValue5
  t9 := Tryd.underlying9
  a9 := Tryd.isAgg9
  z9 := Tryd.sizeOf9
  v9 := Tryd.zeroValue9
  t46 := Tryd.underlying47
  a46 := Tryd.isAgg47
  z46 := Tryd.sizeOf47
  v46 := Tryd.zeroValue47
  t53 := Tryd.underlying85
  a53 := Tryd.isAgg85
  z53 := Tryd.sizeOf85
  v53 := Tryd.zeroValue85
  t212 := Tryd.underlying129
  a212 := Tryd.isAgg129
  z212 := Tryd.sizeOf129
  v212 := Tryd.zeroValue129
  g17 := by kernel_rfl
  i0 := by kernel_rfl
  i3 := by kernel_rfl
  i4 := by kernel_rfl
  i5 := by kernel_rfl
  i9 := by kernel_rfl
  i46 := by kernel_rfl
  i53 := by kernel_rfl
  i212 := by kernel_rfl
  m17 := by kernel_rfl }
open Go.Lib in
theorem Tryd.internal_strconv_numDigits (u : Nat) (h1 : 1 ≤ u) (h2 : u < 18446744073709551616) (w : World) (htab : Lib.TabIs Tryd.prog w "internal/strconv.uint64pow10" .u64 Lib.pow10Tab) :
    Calls Tryd.prog 82 #[.int .u64 u] w fun e w' => e = .returned (.int .i64 (Lib.nDigits u)) ∧ w' = w := Any.internal_strconv_numDigits Tryd.laysM284 u h1 h2 w htab
def Tryd.lays285_ren : Go.Shelf.Ren := ⟨fun | 285 => 83 | n => n, fun | 37 => 24 | 53 => 85 | 3 => 3 | 4 => 4 | 51 => 77 | 9 => 9 | 5 => 5 | 0 => 0 | n => n, fun | n => n⟩
theorem Tryd.lays285 : Go.Proofs.Lays.n285 Tryd.prog Tryd.lays285_ren := {
  mixed := by kernel_rfl
  f285 := Tryd.func83.trans (congrArg some (by kernel_rfl))
  t0 := Tryd.underlying0
  a0 := Tryd.isAgg0
  z0 := Tryd.sizeOf0
  v0 := Tryd.zeroValue0
  t3 := Tryd.underlying3
  a3 := Tryd.isAgg3
  z3 := Tryd.sizeOf3
  v3 := Tryd.zeroValue3
  t4 := Tryd.underlying4
  a4 := Tryd.isAgg4
  z4 := Tryd.sizeOf4
  v4 := Tryd.zeroValue4
  t5 := Tryd.underlying5
  a5 := Tryd.isAgg5
  z5 := Tryd.sizeOf5
  v5 := Tryd.zeroValue5
  t9 := Tryd.underlying9
  a9 := Tryd.isAgg9
  z9 := Tryd.sizeOf9
  v9 := Tryd.zeroValue9
  t37 := Tryd.underlying24
  a37 := Tryd.isAgg24
  z37 := Tryd.sizeOf24
  v37 := Tryd.zeroValue24
  t51 := Tryd.underlying77
  a51 := Tryd.isAgg77
  z51 := Tryd.sizeOf77
  v51 := Tryd.zeroValue77
  t53 := Tryd.underlying85
  a53 := Tryd.isAgg85
  z53 := Tryd.sizeOf85
  v53 := Tryd.zeroValue85 }
open Go.RowKit Go.Sort Go.Lib in
theorem Tryd.internal_strconv_formatBase10 (blk off cap : Nat) (u : Nat) (d : Array UInt8) (w : World) (hH : Holds (fun (b : UInt8) => Value.int .u8 (b.toNat : Int)) w blk off d) (hu : u < 10 ^ d.size) (hu64 : u < 18446744073709551616) (hsz : d.size < 4611686018427387904) :
    Calls Tryd.prog 83 #[.slice (some ⟨blk, off, none⟩) d.size cap, .int .u64 u] w fun e w' =>
      e = .returned (.tuple #[]) ∧ ∃ (n v' : Nat) (dk : Array UInt8), w' = (putRow (fun (b : UInt8) => Value.int .u8 (b.toNat : Int)) w blk off dk).drewN n ∧ FmtInv d.size u 0 v' dk := Any.internal_strconv_formatBase10 Tryd.lays285 blk off cap u d w hH hu hu64 hsz
def Tryd.laysPu14_ren : Go.Shelf.Ren := ⟨fun | 14 => 61 | 16 => 68 | 17 => 69 | 19 => 75 | 20 => 76 | 21 => 77 | 22 => 78 | 23 => 79 | 24 => 80 | 25 => 89 | 27 => 91 | 26 => 90 | 28 => 102 | 29 => 107 | 30 => 81 | 31 => 82 | 32 => 83 | 33 => 84 | 35 => 93 | 34 => 92 | 36 => 94 | 37 => 95 | 38 => 96 | 39 => 103 | 40 => 104 | n => n, fun | 9 => 9 | 3 => 3 | 22 => 85 | 24 => 94 | 25 => 95 | 4 => 4 | 34 => 108 | 5 => 5 | 36 => 47 | 37 => 24 | 0 => 0 | 39 => 110 | 21 => 21 | 44 => 125 | 47 => 132 | 50 => 135 | 48 => 133 | 2 => 2 | 52 => 114 | 55 => 117 | 59 => 129 | 60 => 77 | 20 => 20 | 61 => 130 | 65 => 144 | 66 => 145 | 67 => 146 | n => n, fun | 0 => 0 | 1 => 1 | 2 => 2 | 3 => 6 | 4 => 7 | n => n⟩
theorem Tryd.laysPu14 : Go.Proofs.LaysPu.n14 Tryd.prog Tryd.laysPu14_ren := {
  mixed := by kernel_rfl
  f14 := Tryd.func61.trans (congrArg some (by kernel_rfl))
  f16 := Tryd.func68.trans (congrArg some (by kernel_rfl))
  f17 := Tryd.func69.trans (congrArg some (by kernel_rfl))
  f19 := Tryd.func75.trans (congrArg some (by kernel_rfl))
  f20 := Tryd.func76.trans (congrArg some (by kernel_rfl))
  f21 := Tryd.func77.trans (congrArg some (by kernel_rfl))
  f22 := Tryd.func78.trans (congrArg some (by kernel_rfl))
  f23 := Tryd.func79.trans (congrArg some (by kernel_rfl))
  f24 := Tryd.func80.trans (congrArg some (by kernel_rfl))
  f25 := Tryd.func89.trans (congrArg some (by kernel_rfl))
  f26 := Tryd.func90.trans (congrArg some (by kernel_rfl))
  f27 := Tryd.func91.trans (congrArg some (by kernel_rfl))
  f28 := Tryd.func102.trans (congrArg some (by kernel_rfl))
  f29 := Tryd.func107.trans (congrArg some (by kernel_rfl))
  f30 := Tryd.func81.trans (congrArg some (by kernel_rfl))
  f31 := Tryd.func82.trans (congrArg some (by kernel_rfl))
  f32 := Tryd.func83.trans (congrArg some (by kernel_rfl))
  f33 := Tryd.func84.trans (congrArg some (by kernel_rfl))
  f34 := Tryd.func92.trans (congrArg some (by kernel_rfl))
  f35 := Tryd.func93.trans (congrArg some (by kernel_rfl))
  f36 := Tryd.func94.trans (congrArg some (by kernel_rfl))
  f37 := Tryd.func95.trans (congrArg some (by kernel_rfl))
  f38 := Tryd.func96.trans (congrArg some (by kernel_rfl))
  f39 := Tryd.func103.trans (congrArg some (by kernel_rfl))
  f40 := Tryd.func104.trans (congrArg some (by kernel_rfl))
  t0 := Tryd.underlying0
  a0 := Tryd.isAgg0
  z0 := Tryd.sizeOf0
  v0 := Tryd.zeroValue0
  i0 := by kernel_rfl
  t2 := Tryd.underlying2
  a2 := Tryd.isAgg2
  z2 := Tryd.sizeOf2
  v2 := Tryd.zeroValue2
  i2 := by kernel_rfl
  t3 := Tryd.underlying3
  a3 := Tryd.isAgg3
  z3 := Tryd.sizeOf3
  v3 := Tryd.zeroValue3
  i3 := by kernel_rfl
  t4 := Tryd.underlying4
  a4 := Tryd.isAgg4
  z4 := Tryd.sizeOf4
  v4 := Tryd.zeroValue4
  i4 := by kernel_rfl
  t5 := Tryd.underlying5
  a5 := Tryd.isAgg5
  z5 := Tryd.sizeOf5
  v5 := Tryd.zeroValue5
  i5 := by kernel_rfl
  t9 := Tryd.underlying9
  a9 := Tryd.isAgg9
  z9 := Tryd.sizeOf9
  v9 := Tryd.zeroValue9
  i9 := by kernel_rfl
  t20 := Tryd.underlying20
  a20 := Tryd.isAgg20
  z20 := Tryd.sizeOf20
  v20 := Tryd.zeroValue20
  i20 := by kernel_rfl
  t21 := Tryd.underlying21
  a21 := Tryd.isAgg21
  z21 := Tryd.sizeOf21
  v21 := Tryd.zeroValue21
  i21 := by kernel_rfl
  t22 := Tryd.underlying85
  a22 := Tryd.isAgg85
  z22 := Tryd.sizeOf85
  v22 := Tryd.zeroValue85
  i22 := by kernel_rfl
  t24 := Tryd.underlying94
  a24 := Tryd.isAgg94
  z24 := Tryd.sizeOf94
  v24 := Tryd.zeroValue94
  i24 := by kernel_rfl
  t25 := Tryd.underlying95
  a25 := Tryd.isAgg95
  z25 := Tryd.sizeOf95
  v25 := Tryd.zeroValue95
  i25 := by kernel_rfl
  t34 := Tryd.underlying108
  a34 := Tryd.isAgg108
  z34 := Tryd.sizeOf108
  v34 := Tryd.zeroValue108
  i34 := by kernel_rfl
  c34 := by kernel_rfl
  t36 := Tryd.underlying47
  a36 := Tryd.isAgg47
  z36 := Tryd.sizeOf47
  v36 := Tryd.zeroValue47
  i36 := by kernel_rfl
  t37 := Tryd.underlying24
  a37 := Tryd.isAgg24
  z37 := Tryd.sizeOf24
  v37 := Tryd.zeroValue24
  i37 := by kernel_rfl
  t39 := Tryd.underlying110
  a39 := Tryd.isAgg110
  z39 := Tryd.sizeOf110
  v39 := Tryd.zeroValue110
  i39 := by kernel_rfl
  t44 := Tryd.underlying125
  a44 := Tryd.isAgg125
  z44 := Tryd.sizeOf125
  v44 := Tryd.zeroValue125
  i44 := by kernel_rfl
  t47 := Tryd.underlying132
  a47 := Tryd.isAgg132
  z47 := Tryd.sizeOf132
  v47 := Tryd.zeroValue132
  i47 := by kernel_rfl
  t48 := Tryd.underlying133
  a48 := Tryd.isAgg133
  z48 := Tryd.sizeOf133
  v48 := Tryd.zeroValue133
  i48 := by kernel_rfl
  t50 := Tryd.underlying135
  a50 := Tryd.isAgg135
  z50 := Tryd.sizeOf135
  v50 := Tryd.zeroValue135
  i50 := by kernel_rfl
  t52 := Tryd.underlying114
  a52 := Tryd.isAgg114
  z52 := Tryd.sizeOf114
  v52 := Tryd.zeroValue114
  i52 := by kernel_rfl
  t55 := Tryd.underlying117
  a55 := Tryd.isAgg117
  z55 := Tryd.sizeOf117
  v55 := Tryd.zeroValue117
  i55 := by kernel_rfl
  t59 := Tryd.underlying129
  a59 := Tryd.isAgg129
  z59 := Tryd.sizeOf129
  v59 := Tryd.zeroValue129
  i59 := by kernel_rfl
  t60 := Tryd.underlying77
  a60 := Tryd.isAgg77
  z60 := Tryd.sizeOf77
  v60 := Tryd.zeroValue77
  i60 := by kernel_rfl
  t61 := Tryd.underlying130
  a61 := Tryd.isAgg130
  z61 := Tryd.sizeOf130
  t65 := Tryd.underlying144
  a65 := Tryd.isAgg144
  z65 := Tryd.sizeOf144
  v65 := Tryd.zeroValue144
  i65 := by kernel_rfl
  t66 := Tryd.underlying145
  a66 := Tryd.isAgg145
  z66 := Tryd.sizeOf145
  v66 := Tryd.zeroValue145
  i66 := by kernel_rfl
  t67 := Tryd.underlying146
  a67 := Tryd.isAgg146
  z67 := Tryd.sizeOf146
  v67 := Tryd.zeroValue146
  i67 := by kernel_rfl
  g0 := by kernel_rfl
  m0 := by kernel_rfl
  g1 := by kernel_rfl
  m1 := by kernel_rfl
  g2 := by kernel_rfl
  m2 := by kernel_rfl
  g3 := by kernel_rfl
  m3 := by kernel_rfl
  g4 := by kernel_rfl
  m4 := by kernel_rfl }
open Go.RowKit in
theorem Tryd.strconv_ParseUint_10_at32_ok (s : ByteArray) (hmax : s.size ≤ 9223372036854775806) (u : Nat) (h : Lib.parseUintB 32 s.data.toList = .ok u) (w : World) :
    Calls Tryd.prog 61 #[.string s, .int .i64 10, .int .i64 32] w fun e w' => e = .returned (.tuple #[.int .u64 u, .nilIface]) ∧ (w' = w ∨ w' = Lib.bytesWorld w 5 s) := Any.strconv_ParseUint_10_at32_ok Tryd.laysPu14 s hmax u h w
open Go.RowKit in
theorem Tryd.strconv_ParseUint_10_at32_syntax_var (s : ByteArray) (hlim : s.size ≤ 281474976710656) (h : Lib.parseUintB 32 s.data.toList = Lib.parseUintB 32 []) (tp : TypeId) (p : Value) (w : World) (hvar : w.var? Tryd.prog "strconv.ErrSyntax" = some #[.iface tp p]) :
    Calls Tryd.prog 61 #[.string s, .int .i64 10, .int .i64 32] w fun e w' => ∃ N, e = .returned (.tuple #[.int .u64 0, .iface 110 (.pointer (some ⟨N, 0, none⟩))]) ∧ w.heap.size ≤ N ∧ w'.heap[N]? = some (.cells #[.string ⟨#[80, 97, 114, 115, 101, 85, 105, 110, 116]⟩, .string s, .iface tp p] 125 (0, 0)) ∧ Below w.heap.size w w' := Any.strconv_ParseUint_10_at32_syntax_var Tryd.laysPu14 s hlim h tp p w hvar
open Go.RowKit in
theorem Tryd.strconv_ParseUint_10_at32_range_var (s : ByteArray) (hlim : s.size ≤ 281474976710656) (h : Lib.parseUintB 32 s.data.toList = .range) (tp : TypeId) (p : Value) (w : World) (hvar : w.var? Tryd.prog "strconv.ErrRange" = some #[.iface tp p]) :
    Calls Tryd.prog 61 #[.string s, .int .i64 10, .int .i64 32] w fun e w' => ∃ N, e = .returned (.tuple #[.int .u64 4294967295, .iface 110 (.pointer (some ⟨N, 0, none⟩))]) ∧ w.heap.size ≤ N ∧ w'.heap[N]? = some (.cells #[.string ⟨#[80, 97, 114, 115, 101, 85, 105, 110, 116]⟩, .string s, .iface tp p] 125 (0, 0)) ∧ Below w.heap.size w w' := Any.strconv_ParseUint_10_at32_range_var Tryd.laysPu14 s hlim h tp p w hvar
def Tryd.lays143_ren : Go.Shelf.Ren := ⟨fun | 143 => 74 | 219 => 88 | 217 => 98 | 225 => 99 | 224 => 100 | 267 => 101 | 266 => 105 | 314 => 106 | n => n, fun | 9 => 9 | 3 => 3 | 4 => 4 | 5 => 5 | 46 => 47 | 146 => 141 | 51 => 77 | n => n, fun | 1 => 3 | n => n⟩
theorem Tryd.lays143 : Go.Proofs.Lays.n143 Tryd.prog Tryd.lays143_ren := {
  mixed := by kernel_rfl
  f143 := Tryd.func74.trans (congrArg some (by kernel_rfl))
  f217 := Tryd.func98.trans (congrArg some (by kernel_rfl))
  f219 := Tryd.func88.trans (congrArg some (by kernel_rfl))
  f224 := Tryd.func100.trans (congrArg some (by kernel_rfl))
  f225 := Tryd.func99.trans (congrArg some (by kernel_rfl))
  f266 := Tryd.func105.trans (congrArg some (by kernel_rfl))
  f267 := Tryd.func101.trans (congrArg some (by kernel_rfl))
  f314 := Tryd.func106.trans (congrArg some (by kernel_rfl))
  t3 := Tryd.underlying3
  a3 := Tryd.isAgg3
  z3 := Tryd.sizeOf3
  v3 := Tryd.zeroValue3
  t4 := Tryd.underlying4
  a4 := Tryd.isAgg4
  z4 := Tryd.sizeOf4
  v4 := Tryd.zeroValue4
  t5 := Tryd.underlying5
  a5 := Tryd.isAgg5
  z5 := Tryd.sizeOf5
  v5 := Tryd.zeroValue5
  t9 := Tryd.underlying9
  a9 := Tryd.isAgg9
  z9 := Tryd.sizeOf9
  v9 := Tryd.zeroValue9
  t46 := Tryd.underlying47
  a46 := Tryd.isAgg47
  z46 := Tryd.sizeOf47
  v46 := Tryd.zeroValue47
  t51 := Tryd.underlying77
  a51 := Tryd.isAgg77
  z51 := Tryd.sizeOf77
  v51 := Tryd.zeroValue77
  t146 := Tryd.underlying141
  a146 := Tryd.isAgg141
  z146 := Tryd.sizeOf141
  v146 := Tryd.zeroValue141
  g1 := by kernel_rfl }
open Go.RowKit Go.Lib in
theorem Tryd.strings_Index_one (s : ByteArray) (c : UInt8) (w : World) :
    Calls Tryd.prog 74 #[.string s, .string ⟨#[c]⟩] w fun e w' => e = .returned (.int .i64 (Lib.indexByte s.data.toList c)) ∧ w' = w := Any.strings_Index_one Tryd.lays143 s c w
def Tryd.lays138_ren : Go.Shelf.Ren := ⟨fun | 138 => 73 | 195 => 85 | 218 => 87 | 143 => 74 | 219 => 88 | 217 => 98 | 225 => 99 | 224 => 100 | 267 => 101 | 266 => 105 | 314 => 106 | n => n, fun | 9 => 9 | 3 => 3 | 4 => 4 | 5 => 5 | 0 => 0 | 46 => 47 | 146 => 141 | 51 => 77 | n => n, fun | 1 => 3 | n => n⟩
theorem Tryd.lays138 : Go.Proofs.Lays.n138 Tryd.prog Tryd.lays138_ren := {
  mixed := by kernel_rfl
  f138 := Tryd.func73.trans (congrArg some (by kernel_rfl))
  f143 := Tryd.func74.trans (congrArg some (by kernel_rfl))
  f195 := Tryd.func85.trans (congrArg some (by kernel_rfl))
  f217 := Tryd.func98.trans (congrArg some (by kernel_rfl))
  f218 := Tryd.func87.trans (congrArg some (by kernel_rfl))
  f219 := Tryd.func88.trans (congrArg some (by kernel_rfl))
  f224 := Tryd.func100.trans (congrArg some (by kernel_rfl))
  f225 := Tryd.func99.trans (congrArg some (by kernel_rfl))
  f266 := Tryd.func105.trans (congrArg some (by kernel_rfl))
  f267 := Tryd.func101.trans (congrArg some (by kernel_rfl))
  f314 := Tryd.func106.trans (congrArg some (by kernel_rfl))
  t0 := Tryd.underlying0
  a0 := Tryd.isAgg0
  z0 := Tryd.sizeOf0
  v0 := Tryd.zeroValue0
  t3 := Tryd.underlying3
  a3 := Tryd.isAgg3
  z3 := Tryd.sizeOf3
  v3 := Tryd.zeroValue3
  t4 := Tryd.underlying4
  a4 := Tryd.isAgg4
  z4 := Tryd.sizeOf4
  v4 := Tryd.zeroValue4
  t5 := Tryd.underlying5
  a5 := Tryd.isAgg5
  z5 := Tryd.sizeOf5
  v5 := Tryd.zeroValue5
  t9 := Tryd.underlying9
  a9 := Tryd.isAgg9
  z9 := Tryd.sizeOf9
  v9 := Tryd.zeroValue9
  t46 := Tryd.underlying47
  a46 := Tryd.isAgg47
  z46 := Tryd.sizeOf47
  v46 := Tryd.zeroValue47
  t51 := Tryd.underlying77
  a51 := Tryd.isAgg77
  z51 := Tryd.sizeOf77
  v51 := Tryd.zeroValue77
  t146 := Tryd.underlying141
  a146 := Tryd.isAgg141
  z146 := Tryd.sizeOf141
  v146 := Tryd.zeroValue141
  g1 := by kernel_rfl }
open Go.RowKit Go.Lib in
theorem Tryd.strings_Count_one (s : ByteArray) (c : UInt8) (w : World) :
    Calls Tryd.prog 73 #[.string s, .string ⟨#[c]⟩] w fun e w' => e = .returned (.int .i64 (Lib.countByte s.data.toList c)) ∧ w' = w := Any.strings_Count_one Tryd.lays138 s c w
end Go.Proofs

/- Functions of Go's library that package oid calls, as contracts on data. -/
namespace Go.Proofs.YtbbakpmedpcigaaDoor
open Go.Am Go.RowKit Go.Sort
set_option linter.unusedSimpArgs false
set_option linter.unusedVariables false

theorem two_args {w : World} {pr : Nat → Bool} {vs : Array Value} {x y : Dat} (h1 : vs.size = [x, y].length) (h2 : ∀ (j : Nat) (z : Dat), [x, y][j]? = some z → RepD w pr z (vs.getD j undef)) : ∃ a b, vs = #[a, b] ∧ RepD w pr x a ∧ RepD w pr y b := by
  obtain ⟨l⟩ := vs
  match l, h1 with
  | [a, b], _ => exact ⟨a, b, rfl, by simpa using h2 0 x rfl, by simpa using h2 1 y rfl⟩
theorem three_args {w : World} {pr : Nat → Bool} {vs : Array Value} {x y u : Dat} (h1 : vs.size = [x, y, u].length) (h2 : ∀ (j : Nat) (z : Dat), [x, y, u][j]? = some z → RepD w pr z (vs.getD j undef)) : ∃ a b c, vs = #[a, b, c] ∧ RepD w pr x a ∧ RepD w pr y b ∧ RepD w pr u c := by
  obtain ⟨l⟩ := vs
  match l, h1 with
  | [a, b, c], _ => exact ⟨a, b, c, rfl, by simpa using h2 0 x rfl, by simpa using h2 1 y rfl, by simpa using h2 2 u rfl⟩

theorem isIndex : IsFn Tryd.prog 74 Tryd.f74 := ⟨Tryd.func74, by decide, rfl⟩
theorem isCount : IsFn Tryd.prog 73 Tryd.f73 := ⟨Tryd.func73, by decide, rfl⟩
theorem c_index (Γ : Env) (l : List UInt8) : ACalls Tryd.prog Γ 74 [sD l, sD [46]] (fun r => r = .d (.int .i64 (Lib.indexByte l 46))) := by
  refine ⟨⟨_, isIndex⟩, fun w pr vs hok hs hr => ?_⟩
  obtain ⟨a, b, rfl, h1, h2⟩ := two_args hs hr
  cases h1; cases h2
  refine (Tryd.strings_Index_one (bA l) 46 w).mono fun e w' ⟨he, hw⟩ => ?_
  subst hw
  exact ⟨_, .d (.int .i64 (Lib.indexByte l 46)), by rw [he, bA_list], Below.refl _ _, .int _ _, rfl⟩
theorem c_count (Γ : Env) (l : List UInt8) : ACalls Tryd.prog Γ 73 [sD l, sD [46]] (fun r => r = .d (.int .i64 (Lib.countByte l 46))) := by
  refine ⟨⟨_, isCount⟩, fun w pr vs hok hs hr => ?_⟩
  obtain ⟨a, b, rfl, h1, h2⟩ := two_args hs hr
  cases h1; cases h2
  refine (Tryd.strings_Count_one (bA l) 46 w).mono fun e w' ⟨he, hw⟩ => ?_
  subst hw
  exact ⟨_, .d (.int .i64 (Lib.countByte l 46)), by rw [he, bA_list], Below.refl _ _, .int _ _, rfl⟩

/-! ### ParseUint -/
def parR (l : List UInt8) (r : Res) : Prop := match Lib.parseUintB 32 l with
  | .ok u => r = .d (.tup [.int .u64 u, .nilIf])
  | .range => r = .d (.tup [.int .u64 4294967295, .someIf])
  | _ => r = .d (.tup [.int .u64 0, .someIf])
theorem tup2 {w : World} {pr : Nat → Bool} {x y : Dat} {a b : Value} (h1 : RepD w pr x a) (h2 : RepD w pr y b) : RepD w pr (.tup [x, y]) (.tuple #[a, b]) := by
  refine .tup _ _ rfl fun j z hj => ?_
  match j, hj with
  | 0, hj => simp at hj; subst hj; simpa using h1
  | 1, hj => simp at hj; subst hj; simpa using h2
theorem isParseUint : IsFn Tryd.prog 61 Tryd.f61 := ⟨Tryd.func61, by decide, rfl⟩
theorem c_parse (l : List UInt8) (hl : l.length ≤ 1099511627776) : ACalls Tryd.prog envL 61 [sD l, .int .i64 10, .int .i64 32] (parR l) := by
  refine ⟨⟨_, isParseUint⟩, fun w pr vs hok hs hr => ?_⟩
  obtain ⟨a, b, c, rfl, h1, h2, h3⟩ := three_args hs hr
  cases h1; cases h2; cases h3
  have hok' : LaidOk w := hok
  obtain ⟨_, _, ⟨t1, p1, v1⟩, t2, p2, v2⟩ := hok'
  have hsz := bA_size l
  have hli := bA_list l
  cases hp : Lib.parseUintB 32 l with
  | ok u =>
    refine (Tryd.strconv_ParseUint_10_at32_ok (bA l) (by omega) u (by rw [hli]; exact hp) w).mono fun e w' ⟨he, hw⟩ => ?_
    refine ⟨_, .d (.tup [.int .u64 u, .nilIf]), he, ?_, tup2 (.int _ _) .nilIf, by simp only [parR, hp]⟩
    rcases hw with rfl | rfl
    · exact Below.refl _ _
    · exact Lib.bytesWorld_below _ _ _
  | range =>
    refine (Tryd.strconv_ParseUint_10_at32_range_var (bA l) (by omega) (by rw [hli]; exact hp) t2 p2 w v2).mono fun e w' ⟨N, he, _, _, hb⟩ => ?_
    exact ⟨_, .d (.tup [.int .u64 4294967295, .someIf]), he, hb, tup2 (.int _ _) (.someIf _ _), by simp only [parR, hp]⟩
  | _ =>
    refine (Tryd.strconv_ParseUint_10_at32_syntax_var (bA l) (by omega) (by rw [hli]; exact hp) t1 p1 w v1).mono fun e w' ⟨N, he, _, _, hb⟩ => ?_
    exact ⟨_, .d (.tup [.int .u64 0, .someIf]), he, hb, tup2 (.int _ _) (.someIf _ _), by simp only [parR, hp]⟩

def joinL (l : List (List UInt8)) : List UInt8 := Lib.join l [46]
end Go.Proofs.YtbbakpmedpcigaaDoor

/- FormatUint at base 10, walked in the kit's own way; after the shelf's FormatInt. -/
namespace Go.Proofs.YtbbakpmedpcigaaDoor
open Go.Am Go.RowKit Go.Sort
set_option linter.unusedSimpArgs false
set_option linter.unusedVariables false

set_option maxHeartbeats 1600000 in
set_option maxRecDepth 100000 in
theorem fmt_small (i : Nat) (hi : i < 100) (w : World) : Calls Tryd.prog 70 #[.int .u64 i, .int .i64 10] w fun e w' => e = .returned (.string ⟨(Lib.decDigits i).toArray⟩) ∧ w' = w := by
  have hi2 : (i : Int) < 100 := by omega
  go_enter Tryd.func70, Tryd.ntmps70
  go_wp2_with (go_at_call 81; refine (Tryd.internal_strconv_small i hi _).mono ?_; rintro e w' ⟨rfl, rfl⟩)
  go_ret
  exact ⟨rfl, rfl⟩

set_option maxHeartbeats 6400000 in
set_option maxRecDepth 100000 in
theorem fmt_big (u : Nat) (hu : 100 ≤ u) (hu64 : u < 18446744073709551616) (w : World) (htab : Lib.TabIs Tryd.prog w "internal/strconv.uint64pow10" .u64 Lib.pow10Tab) :
    Calls Tryd.prog 70 #[.int .u64 u, .int .i64 10] w fun e w' => e = .returned (.string ⟨(Lib.decDigits u).toArray⟩) ∧ ∃ k os, w' = grow (w.drewN k) os := by
  have hu1 : 1 ≤ u := by omega
  have hnd20 : Lib.nDigits u ≤ 20 := by have := Lib.numDigits_eq u hu1 hu64; split at this <;> omega
  have hal : Tryd.prog.arrayLen 114 = 24 := by simp [Program.arrayLen, Tryd.underlying114]
  have hsl1 : ∀ W, (Instr.sliceAt 114 (.pointer (some ⟨w.heap.size, 0, none⟩)) none (some (.int .i64 (Lib.nDigits u : Int))) none).run Tryd.prog W = .ok (.slice (some ⟨w.heap.size, 0, none⟩) (Lib.nDigits u) 24) W := fun W => by
    rw [run_sliceAt_array_h W 114 ⟨w.heap.size, 0, none⟩ (by simp [Program.arrayLen, Program.elem, Tryd.underlying114]) .i64 (Lib.nDigits u : Int) (by omega) (by rw [hal]; omega)]
    go_simp
  have hH0 : Holds (fun (b : UInt8) => Value.int .u8 (b.toNat : Int)) (w.alloc (.cells Lib.zeros24 114)) w.heap.size 0 (Array.replicate (Lib.nDigits u) 0) := fun j hj => by
    have hj' : j < Lib.nDigits u := by simpa using hj
    refine ⟨?_, World.frozen?_alloc_new _ _ _ _⟩
    rw [World.cell?_alloc_new, Lib.zeros24_at _ (by omega), getElem!_pos _ j hj]
    simp
  have hfmt := Tryd.internal_strconv_formatBase10 w.heap.size 0 24 u (Array.replicate (Lib.nDigits u) 0) (w.alloc (.cells Lib.zeros24 114)) hH0 (by rw [Array.size_replicate]; exact Lib.lt_pow_nDigits u) hu64 (by rw [Array.size_replicate]; omega)
  rw [Array.size_replicate] at hfmt
  have HH0 := Lib.hid hH0
  clear hH0 hal
  have hb3 : ¬ (u : Int) < 100 := by omega
  go_enter Tryd.func70, Tryd.ntmps70
  go_wp2_with (first
    | (go_at_call 82; refine (Tryd.internal_strconv_numDigits u hu1 hu64 _ (Lib.tabIs_alloc htab _)).mono ?_; rintro e w' ⟨rfl, rfl⟩))
  go_at_call 83
  refine hfmt.mono ?_
  rintro e w' ⟨rfl, k, v', dk, rfl, hF⟩
  have hcv : (convert 24 9 (.slice (some ⟨w.heap.size, 0, none⟩) (Lib.nDigits u) 24)).run Tryd.prog ((putRow (fun (b : UInt8) => Value.int .u8 (b.toNat : Int)) (w.alloc (.cells Lib.zeros24 114)) w.heap.size 0 dk).drewN k) = .ok (.string ⟨(Lib.decDigits u).toArray⟩) ((putRow (fun (b : UInt8) => Value.int .u8 (b.toNat : Int)) (w.alloc (.cells Lib.zeros24 114)) w.heap.size 0 dk).drewN k) := by
    have h := run_convert_bytes_back (P := Tryd.prog) ((putRow (fun (b : UInt8) => Value.int .u8 (b.toNat : Int)) (w.alloc (.cells Lib.zeros24 114)) w.heap.size 0 dk).drewN k) 24 9 5 ⟨w.heap.size, 0, none⟩ 24 (Lib.decDigits u) Tryd.underlying24 Tryd.underlying5 Tryd.underlying9 (fun j hj => by
      rw [Lib.row_is_numeral hF j hj, Lib.add_plain, World.cell?_drewN]
      exact cell?_putRow (fun (b : UInt8) => Value.int .u8 (b.toNat : Int)) _ w.heap.size 0 _ dk HH0.out (by rw [hF.size, Array.size_replicate]) j (by rw [hF.size]; rw [Lib.decDigits_length] at hj; exact hj))
    rw [Lib.decDigits_length] at h
    exact h
  go_wp2
  go_ret
  refine ⟨rfl, k, ?_⟩
  rw [alloc_eq_grow]
  obtain ⟨os', _, e⟩ := putRow_grow_new (fun (b : UInt8) => Value.int .u8 (b.toNat : Int)) w #[.cells Lib.zeros24 114] w.heap.size 0 dk (Nat.le_refl _)
  exact ⟨os', by rw [e]; rfl⟩
theorem isFormatUintI : IsFn Tryd.prog 70 Tryd.f70 := ⟨Tryd.func70, by decide, rfl⟩
theorem c_formatI (u : Nat) (hu : u < 18446744073709551616) : ACalls Tryd.prog envL 70 [.int .u64 u, .int .i64 10] (fun r => r = .d (sD (Lib.decDigits u))) := by
  refine ⟨⟨_, isFormatUintI⟩, fun w pr vs hok hs hr => ?_⟩
  obtain ⟨a, b, rfl, h1, h2⟩ := two_args hs hr
  cases h1; cases h2
  by_cases h : u < 100
  · refine (fmt_small u h w).mono fun e w' ⟨he, hw⟩ => ?_
    subst hw
    exact ⟨_, .d (sD (Lib.decDigits u)), he, Below.refl _ _, .str _, rfl⟩
  · have hok' : LaidOk w := hok
    refine (fmt_big u (by omega) hu w hok'.2.1).mono fun e w' ⟨he, k, os, hw⟩ => ?_
    subst hw
    exact ⟨_, .d (sD (Lib.decDigits u)), he, Lib.below_grow _ _ (Nat.le_refl _) _ _, .str _, rfl⟩
theorem isFormatUint : IsFn Tryd.prog 62 Tryd.f62 := ⟨Tryd.func62, by decide, rfl⟩
theorem c_format (u : Nat) (hu : u < 18446744073709551616) : ACalls Tryd.prog envL 62 [.int .u64 u, .int .i64 10] (fun r => r = .d (sD (Lib.decDigits u))) := by
  refine acalls_of ty_ok isFormatUint rfl rfl ?_
  repeat' (first | ((with_reducible show AWp _ _ _ _ _); (first | refine awp_seq ?_ | refine awp_block ?_ | refine awp_skip ?_ | refine awp_exit ?_ | refine awp_scope ?_ | refine awp_label ?_ | refine awp_run ty_ok rfl sd ?_ | refine awp_ret ⟨_, _, rfl, rfl, ?_⟩ | refine awp_ret ⟨_, rfl, ?_⟩ | ((refine awp_cond (ty := ty) rfl (fun hc => ?_) (fun hc => ?_)) <;> (try simp only [nms, reduceCtorEq] at hc) <;> (try (exfalso; omega))))) | ((with_reducible show AOps _ _ _ _ _ _); (first | refine aops_nil ?_ | refine aops_go ty_ok rfl rfl sd ?_ | refine aops_gate ty_ok rfl rfl rfl sd ?_ | refine aops_callE (ty := ty) rfl rfl rfl rfl rfl rfl rfl (c_formatI u hu) rfl ?_ | refine aops_litE ty_ok rfl rfl rfl rfl rfl rfl rfl rfl rfl rfl rfl rfl ?_ | refine aops_cutE ty_ok rfl rfl rfl rfl rfl rfl rfl rfl rfl sd rfl ?_ | ((fail_if_success (refine aops_known rfl ?_)); (refine aops_split ty_ok rfl rfl rfl rfl rfl rfl (fun hc => ⟨?_, ?_⟩) (fun hc => ⟨?_, ?_⟩)) <;> (try simp only [nms, reduceCtorEq] at hc) <;> (try (exfalso; omega)) <;> (try exact sd)))) | ((fail_if_success (with_reducible show AWp _ _ _ _ _)); (fail_if_success (with_reducible show AOps _ _ _ _ _ _)); (first | (show AWp _ _ _ _ _) | (show AOps _ _ _ _ _ _))))
  rfl
end Go.Proofs.YtbbakpmedpcigaaDoor

/- strings.Split at a dot, walked by the abstract machine. -/
namespace Go.Proofs.YtbbakpmedpcigaaDoor
open Go.Am
set_option linter.unusedSimpArgs false
set_option linter.unusedVariables false

theorem minI_le {a b : Int} (h : a ≤ b) : minI a b = a := by
  unfold minI
  split <;> omega
theorem strs_app (x y : List (List UInt8)) : strs (x ++ y) = strs x ++ strs y := by simp [strs]
theorem c_index_at (Γ : Env) (l : List UInt8) (m : Nat) (h : Lib.indexByte l 46 = m) : ACalls Tryd.prog Γ 74 [sD l, sD [46]] (fun r => r = .d (.int .i64 m)) := (c_index Γ l).mono fun r hr => by rw [hr, h]
theorem isGenSplit : IsFn Tryd.prog 67 Tryd.f67 := ⟨Tryd.func67, by decide, rfl⟩
set_option maxHeartbeats 1000000 in
theorem c_gensplit (Γ : Env) (l : List UInt8) (hl : l.length ≤ 1000000000) : ACalls Tryd.prog Γ 67 [sD l, sD [46], .int .i64 0, .int .i64 (-1)] (fun r => r = .own none 9 (strs (splitL l))) := by
  refine acalls_of ty_ok isGenSplit rfl rfl ?_
  have hlen := splitL_len l
  have hc2 := count_le l
  have hm : minI ((Lib.countByte l 46 : Int) + 1) (((bA l).size : Int) + 1) = (Lib.countByte l 46 : Int) + 1 := minI_le (by rw [bA_size]; omega)
  repeat' (first | ((with_reducible show AWp _ _ _ _ _); (first | refine awp_seq ?_ | refine awp_block ?_ | refine awp_skip ?_ | refine awp_exit ?_ | refine awp_scope ?_ | refine awp_label ?_ | refine awp_run ty_ok rfl sd ?_ | refine awp_ret ⟨_, _, rfl, rfl, ?_⟩ | refine awp_ret ⟨_, rfl, ?_⟩ | ((refine awp_cond (ty := ty) rfl (fun hc => ?_) (fun hc => ?_)) <;> (try simp only [nms, reduceCtorEq] at hc) <;> (try (exfalso; omega))))) | ((with_reducible show AOps _ _ _ _ _ _); (first | refine aops_nil ?_ | refine aops_go ty_ok rfl rfl sd ?_ | refine aops_gate ty_ok rfl rfl rfl sd ?_ | refine aops_callE (ty := ty) rfl rfl rfl rfl rfl rfl rfl (c_count _ l) rfl ?_ | refine aops_litE ty_ok rfl rfl rfl rfl rfl rfl rfl rfl rfl rfl rfl rfl ?_ | refine aops_cutE ty_ok rfl rfl rfl rfl rfl rfl rfl rfl rfl sd rfl ?_ | ((fail_if_success (refine aops_known rfl ?_)); (refine aops_split ty_ok rfl rfl rfl rfl rfl rfl (fun hc => ⟨?_, ?_⟩) (fun hc => ⟨?_, ?_⟩)) <;> (try simp only [nms, reduceCtorEq] at hc) <;> (try (exfalso; omega)) <;> (try exact sd)))) | ((fail_if_success (with_reducible show AWp _ _ _ _ _)); (fail_if_success (with_reducible show AOps _ _ _ _ _ _)); (first | (show AWp _ _ _ _ _) | (show AOps _ _ _ _ _ _))))
  · exact absurd (congrArg ByteArray.size hc) (by decide)
  · rw [hm]
    repeat' (first | ((with_reducible show AWp _ _ _ _ _); (first | refine awp_seq ?_ | refine awp_block ?_ | refine awp_skip ?_ | refine awp_exit ?_ | refine awp_scope ?_ | refine awp_label ?_ | refine awp_run ty_ok rfl sd ?_ | refine awp_ret ⟨_, _, rfl, rfl, ?_⟩ | refine awp_ret ⟨_, rfl, ?_⟩ | ((refine awp_cond (ty := ty) rfl (fun hc => ?_) (fun hc => ?_)) <;> (try simp only [nms, reduceCtorEq] at hc) <;> (try (exfalso; omega))))) | ((with_reducible show AOps _ _ _ _ _ _); (first | refine aops_nil ?_ | refine aops_go ty_ok rfl rfl sd ?_ | refine aops_gate ty_ok rfl rfl rfl sd ?_ | refine aops_callE (ty := ty) rfl rfl rfl rfl rfl rfl rfl (c_count _ l) rfl ?_ | refine aops_litE ty_ok rfl rfl rfl rfl rfl rfl rfl rfl rfl rfl rfl rfl ?_ | refine aops_cutE ty_ok rfl rfl rfl rfl rfl rfl rfl rfl rfl sd rfl ?_ | ((fail_if_success (refine aops_known rfl ?_)); (refine aops_split ty_ok rfl rfl rfl rfl rfl rfl (fun hc => ⟨?_, ?_⟩) (fun hc => ⟨?_, ?_⟩)) <;> (try simp only [nms, reduceCtorEq] at hc) <;> (try (exfalso; omega)) <;> (try exact sd)))) | ((fail_if_success (with_reducible show AWp _ _ _ _ _)); (fail_if_success (with_reducible show AOps _ _ _ _ _ _)); (first | (show AWp _ _ _ _ _) | (show AOps _ _ _ _ _ _))))
    obtain ⟨N, hN⟩ : ∃ N, N = Lib.countByte l 46 := ⟨_, rfl⟩
    rw [← hN] at hlen hc2
    refine awp_loopR (G := { p : Nat × List UInt8 // p.1 ≤ N ∧ splitL p.2 = (splitL l).drop p.1 ∧ p.2.length ≤ l.length }) (fun p => ⟨Tryd.f67.ntmps, [(0, .d (sD p.1.2)), (1, .d (sD [46])), (2, .d (.int .i64 0)), (3, .d (.int .i64 N)), (9, .ref 0), (10, .d (.int .i64 p.1.1))], [(0, .row none 9 (strs ((splitL l).take p.1.1 ++ List.replicate (N + 1 - p.1.1) [])))], 1⟩) (fun p => N - p.1.1) ⟨(0, l), Nat.zero_le _, rfl, Nat.le_refl _⟩ [(0, 0)]
      (SubR.mk' rfl rfl ⟨⟨_, rfl, rfl⟩, ⟨_, rfl, rfl⟩, ⟨_, rfl, rfl⟩, ⟨_, rfl, congrArg (fun z : Int => AV.d (Dat.int IntKind.i64 z)) (by rw [hN]; omega)⟩, ⟨_, rfl, rfl⟩, ⟨_, rfl, rfl⟩, trivial⟩ ⟨⟨_, _, rfl, rfl, congrArg (AO.row none 9) (by
        rw [← hN]
        simp only [strs, List.take_zero, List.nil_append, List.map_replicate]
        rfl)⟩, trivial⟩) ?_
    rintro ⟨⟨i, s⟩, hi, hsp, hsl⟩
    simp only at hi hsp hsl
    have hsc := splitL_len s
    rw [hsp, List.length_drop] at hsc
    rcases Nat.lt_or_ge i N with hiN | hiN
    · rcases index_spec s with ⟨_, h2, _⟩ | ⟨m, h1, h2, h3, h4⟩
      · omega
      have hidx := c_index_at (Γ.at 0) s m h1
      have hrl : (strs ((splitL l).take i ++ List.replicate (N + 1 - i) [])).length = N + 1 := by
        simp [strs]
        omega
      repeat' (first | ((with_reducible show AWp _ _ _ _ _); (first | refine awp_seq ?_ | refine awp_block ?_ | refine awp_skip ?_ | refine awp_exit ?_ | refine awp_scope ?_ | refine awp_label ?_ | refine awp_run ty_ok rfl sd ?_ | refine awp_ret ⟨_, _, rfl, rfl, ?_⟩ | refine awp_ret ⟨_, rfl, ?_⟩ | ((refine awp_cond (ty := ty) rfl (fun hc => ?_) (fun hc => ?_)) <;> (try simp only [nms, reduceCtorEq] at hc) <;> (try (exfalso; omega))))) | ((with_reducible show AOps _ _ _ _ _ _); (first | refine aops_nil ?_ | refine aops_go ty_ok rfl rfl sd ?_ | refine aops_gate ty_ok rfl rfl rfl sd ?_ | refine aops_callE (ty := ty) rfl rfl rfl rfl rfl rfl rfl (hidx) rfl ?_ | refine aops_litE ty_ok rfl rfl rfl rfl rfl rfl rfl rfl rfl rfl rfl rfl ?_ | refine aops_cutE ty_ok rfl rfl rfl rfl rfl rfl rfl rfl rfl sd rfl ?_ | ((fail_if_success (refine aops_known rfl ?_)); (refine aops_split ty_ok rfl rfl rfl rfl rfl rfl (fun hc => ⟨?_, ?_⟩) (fun hc => ⟨?_, ?_⟩)) <;> (try simp only [nms, reduceCtorEq] at hc) <;> (try (exfalso; omega)) <;> (try exact sd)))) | ((fail_if_success (with_reducible show AWp _ _ _ _ _)); (fail_if_success (with_reducible show AOps _ _ _ _ _ _)); (first | (show AWp _ _ _ _ _) | (show AOps _ _ _ _ _ _))))
      have hd1 := splitL_len (s.drop (m + 1))
      have hnext : splitL (s.drop (m + 1)) = (splitL l).drop (i + 1) := by
        rw [← List.drop_drop (l := splitL l), ← hsp, h4, List.drop_one, List.tail_cons]
      have hget : (splitL l)[i]'(by omega) = s.take m := by
        have : (splitL s)[0]? = (splitL l)[i]? := by rw [hsp, List.getElem?_drop, Nat.add_zero]
        rw [h4] at this
        simp at this
        rw [List.getElem?_eq_getElem (by omega)] at this
        exact (Option.some.inj this).symm
      refine ⟨⟨(i + 1, s.drop (m + 1)), by omega, hnext, by simp; omega⟩, [(0, 0)], SubR.mk' rfl rfl ⟨⟨_, rfl, congrArg AV.d ?_⟩, ⟨_, rfl, rfl⟩, ⟨_, rfl, rfl⟩, ⟨_, rfl, rfl⟩, ⟨_, rfl, rfl⟩, ⟨_, rfl, rfl⟩, trivial⟩ ⟨⟨_, _, rfl, rfl, congrArg (AO.row none 9) ?_⟩, trivial⟩, by simp only; omega⟩
      · show Dat.str ((bA s).extract ((m : Int) + ((bA [46]).size : Nat)).toNat (bA s).size) = sD (s.drop (m + 1))
        rw [bA_ext, bA_size, bA_size]
        have : ((m : Int) + (([46] : List UInt8).length : Nat)).toNat = m + 1 := by simp
        rw [this]
        simp [cutL, sD]
      · show (strs ((splitL l).take i ++ List.replicate (N + 1 - i) [])).set (i : Int).toNat (Dat.str ((bA s).extract 0 ((m : Int) + 0).toNat)) = strs ((splitL l).take (i + 1) ++ List.replicate (N + 1 - (i + 1)) [])
        have e1 : (i : Int).toNat = i := by omega
        have e2 : ((m : Int) + 0).toNat = m := by omega
        rw [bA_ext, e1, e2, List.take_succ_eq_append_getElem (by omega), hget, show N + 1 - i = (N + 1 - (i + 1)) + 1 by omega, List.replicate_succ]
        have hti : ((splitL l).take i).length = i := by simp; omega
        simp only [strs, List.map_append, List.map_cons, List.map_nil, List.append_assoc, List.cons_append, List.nil_append]
        rw [List.set_append_right _ _ (by simp; omega)]
        simp [hti, cutL, sD, show min i (splitL l).length = i by omega]
    · have hie : i = N := by omega
      subst hie
      have hrl : (strs ((splitL l).take i ++ List.replicate (i + 1 - i) [])).length = i + 1 := by
        simp [strs]
        omega
      dsimp only
      repeat' (first | ((with_reducible show AWp _ _ _ _ _); (first | refine awp_seq ?_ | refine awp_block ?_ | refine awp_skip ?_ | refine awp_exit ?_ | refine awp_scope ?_ | refine awp_label ?_ | refine awp_run ty_ok rfl sd ?_ | refine awp_ret ⟨_, _, rfl, rfl, ?_⟩ | refine awp_ret ⟨_, rfl, ?_⟩ | ((refine awp_cond (ty := ty) rfl (fun hc => ?_) (fun hc => ?_)) <;> (try simp only [nms, reduceCtorEq] at hc) <;> (try (exfalso; omega))))) | ((with_reducible show AOps _ _ _ _ _ _); (first | refine aops_nil ?_ | refine aops_go ty_ok rfl rfl sd ?_ | refine aops_gate ty_ok rfl rfl rfl sd ?_ | refine aops_callE (ty := ty) rfl rfl rfl rfl rfl rfl rfl (c_count _ l) rfl ?_ | refine aops_litE ty_ok rfl rfl rfl rfl rfl rfl rfl rfl rfl rfl rfl rfl ?_ | refine aops_cutE ty_ok rfl rfl rfl rfl rfl rfl rfl rfl rfl sd rfl ?_ | ((fail_if_success (refine aops_known rfl ?_)); (refine aops_split ty_ok rfl rfl rfl rfl rfl rfl (fun hc => ⟨?_, ?_⟩) (fun hc => ⟨?_, ?_⟩)) <;> (try simp only [nms, reduceCtorEq] at hc) <;> (try (exfalso; omega)) <;> (try exact sd)))) | ((fail_if_success (with_reducible show AWp _ _ _ _ _)); (fail_if_success (with_reducible show AOps _ _ _ _ _ _)); (first | (show AWp _ _ _ _ _) | (show AOps _ _ _ _ _ _))))
      have hrow : (strs ((splitL l).take i ++ List.replicate (i + 1 - i) [])).set (i : Int).toNat (sD s) = strs (splitL l) := by
        have e1 : (i : Int).toNat = i := by omega
        have hs1 : [s] = (splitL l).drop i := by
          have hc0 : Lib.countByte s 46 = 0 := by omega
          rcases index_spec s with ⟨_, _, h3⟩ | ⟨m, _, _, h3, _⟩
          · rw [← hsp, h3]
          · omega
        have hti : ((splitL l).take i).length = i := by simp; omega
        rw [e1, show i + 1 - i = 1 by omega]
        conv => rhs; rw [← List.take_append_drop i (splitL l), ← hs1]
        simp only [strs, List.map_append, List.map_cons, List.map_nil, List.replicate_one]
        rw [List.set_append_right _ _ (by simp; omega)]
        simp [show min i (splitL l).length = i by omega]
      rw [hrow]
      repeat' (first | ((with_reducible show AWp _ _ _ _ _); (first | refine awp_seq ?_ | refine awp_block ?_ | refine awp_skip ?_ | refine awp_exit ?_ | refine awp_scope ?_ | refine awp_label ?_ | refine awp_run ty_ok rfl sd ?_ | refine awp_ret ⟨_, _, rfl, rfl, ?_⟩ | refine awp_ret ⟨_, rfl, ?_⟩ | ((refine awp_cond (ty := ty) rfl (fun hc => ?_) (fun hc => ?_)) <;> (try simp only [nms, reduceCtorEq] at hc) <;> (try (exfalso; omega))))) | ((with_reducible show AOps _ _ _ _ _ _); (first | refine aops_nil ?_ | refine aops_go ty_ok rfl rfl sd ?_ | refine aops_gate ty_ok rfl rfl rfl sd ?_ | refine aops_callE (ty := ty) rfl rfl rfl rfl rfl rfl rfl (c_count _ l) rfl ?_ | refine aops_litE ty_ok rfl rfl rfl rfl rfl rfl rfl rfl rfl rfl rfl rfl ?_ | refine aops_cutE ty_ok rfl rfl rfl rfl rfl rfl rfl rfl rfl sd rfl ?_ | ((fail_if_success (refine aops_known rfl ?_)); (refine aops_split ty_ok rfl rfl rfl rfl rfl rfl (fun hc => ⟨?_, ?_⟩) (fun hc => ⟨?_, ?_⟩)) <;> (try simp only [nms, reduceCtorEq] at hc) <;> (try (exfalso; omega)) <;> (try exact sd)))) | ((fail_if_success (with_reducible show AWp _ _ _ _ _)); (fail_if_success (with_reducible show AOps _ _ _ _ _ _)); (first | (show AWp _ _ _ _ _) | (show AOps _ _ _ _ _ _))))
      have : ((i : Int) + 1).toNat = (strs (splitL l)).length := by simp [strs]; omega
      rw [this, List.take_length]
theorem isSplit : IsFn Tryd.prog 60 Tryd.f60 := ⟨Tryd.func60, by decide, rfl⟩
theorem c_split (Γ : Env) (l : List UInt8) (hl : l.length ≤ 1000000000) : ACalls Tryd.prog Γ 60 [sD l, sD [46]] (fun r => r = .own none 9 (strs (splitL l))) := by
  refine acalls_of ty_ok isSplit rfl rfl ?_
  repeat' (first | ((with_reducible show AWp _ _ _ _ _); (first | refine awp_seq ?_ | refine awp_block ?_ | refine awp_skip ?_ | refine awp_exit ?_ | refine awp_scope ?_ | refine awp_label ?_ | refine awp_run ty_ok rfl sd ?_ | refine awp_ret ⟨_, _, rfl, rfl, ?_⟩ | refine awp_ret ⟨_, rfl, ?_⟩ | ((refine awp_cond (ty := ty) rfl (fun hc => ?_) (fun hc => ?_)) <;> (try simp only [nms, reduceCtorEq] at hc) <;> (try (exfalso; omega))))) | ((with_reducible show AOps _ _ _ _ _ _); (first | refine aops_nil ?_ | refine aops_go ty_ok rfl rfl sd ?_ | refine aops_gate ty_ok rfl rfl rfl sd ?_ | refine aops_callE (ty := ty) rfl rfl rfl rfl rfl rfl rfl (c_gensplit _ l hl) rfl ?_ | refine aops_litE ty_ok rfl rfl rfl rfl rfl rfl rfl rfl rfl rfl rfl rfl ?_ | refine aops_cutE ty_ok rfl rfl rfl rfl rfl rfl rfl rfl rfl sd rfl ?_ | ((fail_if_success (refine aops_known rfl ?_)); (refine aops_split ty_ok rfl rfl rfl rfl rfl rfl (fun hc => ⟨?_, ?_⟩) (fun hc => ⟨?_, ?_⟩)) <;> (try simp only [nms, reduceCtorEq] at hc) <;> (try (exfalso; omega)) <;> (try exact sd)))) | ((fail_if_success (with_reducible show AWp _ _ _ _ _)); (fail_if_success (with_reducible show AOps _ _ _ _ _ _)); (first | (show AWp _ _ _ _ _) | (show AOps _ _ _ _ _ _))))
  all_goals rfl
end Go.Proofs.YtbbakpmedpcigaaDoor

/- Functions of package oid and of its reference: right, digits, number. Walked by the abstract machine. -/
namespace Go.Proofs.YtbbakpmedpcigaaDoor
open Go.Am
open Go.Lib (decDigits)
set_option linter.unusedSimpArgs false
set_option linter.unusedVariables false

theorem isRight : IsFn Tryd.prog 63 Tryd.f63 := ⟨Tryd.func63, by decide, rfl⟩
theorem c_right (Γ : Env) (a : List Nat) : ACalls Tryd.prog Γ 63 [.sl none (u32s a)] (fun r => r = .d (.bool (rightF a))) := by
  refine acalls_of ty_ok isRight rfl rfl ?_
  match a with
  | [] =>
    repeat' (first | ((with_reducible show AWp _ _ _ _ _); (first | refine awp_seq ?_ | refine awp_block ?_ | refine awp_skip ?_ | refine awp_exit ?_ | refine awp_scope ?_ | refine awp_label ?_ | refine awp_run ty_ok rfl sd ?_ | refine awp_ret ⟨_, _, rfl, rfl, ?_⟩ | refine awp_ret ⟨_, rfl, ?_⟩ | ((refine awp_cond (ty := ty) rfl (fun hc => ?_) (fun hc => ?_)) <;> (try simp only [nms, reduceCtorEq] at hc) <;> (try (exfalso; omega))))) | ((with_reducible show AOps _ _ _ _ _ _); (first | refine aops_nil ?_ | refine aops_go ty_ok rfl rfl sd ?_ | refine aops_gate ty_ok rfl rfl rfl sd ?_ | refine aops_litE ty_ok rfl rfl rfl rfl rfl rfl rfl rfl rfl rfl rfl rfl ?_ | refine aops_cutE ty_ok rfl rfl rfl rfl rfl rfl rfl rfl rfl sd rfl ?_ | ((fail_if_success (refine aops_known rfl ?_)); (refine aops_split ty_ok rfl rfl rfl rfl rfl rfl (fun hc => ⟨?_, ?_⟩) (fun hc => ⟨?_, ?_⟩)) <;> (try simp only [nms, reduceCtorEq] at hc) <;> (try (exfalso; omega)) <;> (try exact sd)))) | ((fail_if_success (with_reducible show AWp _ _ _ _ _)); (fail_if_success (with_reducible show AOps _ _ _ _ _ _)); (first | (show AWp _ _ _ _ _) | (show AOps _ _ _ _ _ _))))
    all_goals first | rfl | (simp_all [u32s, Dat.num, rightF]; done) | (simp_all [u32s, Dat.num, rightF]; omega)
  | [x] =>
    repeat' (first | ((with_reducible show AWp _ _ _ _ _); (first | refine awp_seq ?_ | refine awp_block ?_ | refine awp_skip ?_ | refine awp_exit ?_ | refine awp_scope ?_ | refine awp_label ?_ | refine awp_run ty_ok rfl sd ?_ | refine awp_ret ⟨_, _, rfl, rfl, ?_⟩ | refine awp_ret ⟨_, rfl, ?_⟩ | ((refine awp_cond (ty := ty) rfl (fun hc => ?_) (fun hc => ?_)) <;> (try simp only [nms, reduceCtorEq] at hc) <;> (try (exfalso; omega))))) | ((with_reducible show AOps _ _ _ _ _ _); (first | refine aops_nil ?_ | refine aops_go ty_ok rfl rfl sd ?_ | refine aops_gate ty_ok rfl rfl rfl sd ?_ | refine aops_litE ty_ok rfl rfl rfl rfl rfl rfl rfl rfl rfl rfl rfl rfl ?_ | refine aops_cutE ty_ok rfl rfl rfl rfl rfl rfl rfl rfl rfl sd rfl ?_ | ((fail_if_success (refine aops_known rfl ?_)); (refine aops_split ty_ok rfl rfl rfl rfl rfl rfl (fun hc => ⟨?_, ?_⟩) (fun hc => ⟨?_, ?_⟩)) <;> (try simp only [nms, reduceCtorEq] at hc) <;> (try (exfalso; omega)) <;> (try exact sd)))) | ((fail_if_success (with_reducible show AWp _ _ _ _ _)); (fail_if_success (with_reducible show AOps _ _ _ _ _ _)); (first | (show AWp _ _ _ _ _) | (show AOps _ _ _ _ _ _))))
    all_goals first | rfl | (simp_all [u32s, Dat.num, rightF]; done) | (simp_all [u32s, Dat.num, rightF]; omega)
  | x :: y :: t =>
    have hl : (u32s (x :: y :: t)).length = t.length + 2 := by simp [u32s]
    have hx : ((u32s (x :: y :: t)).getD (Int.toNat 0) default).num = x := rfl
    have hy : ((u32s (x :: y :: t)).getD (Int.toNat 1) default).num = y := rfl
    repeat' (first | ((with_reducible show AWp _ _ _ _ _); (first | refine awp_seq ?_ | refine awp_block ?_ | refine awp_skip ?_ | refine awp_exit ?_ | refine awp_scope ?_ | refine awp_label ?_ | refine awp_run ty_ok rfl sd ?_ | refine awp_ret ⟨_, _, rfl, rfl, ?_⟩ | refine awp_ret ⟨_, rfl, ?_⟩ | ((refine awp_cond (ty := ty) rfl (fun hc => ?_) (fun hc => ?_)) <;> (try simp only [nms, reduceCtorEq] at hc) <;> (try (exfalso; omega))))) | ((with_reducible show AOps _ _ _ _ _ _); (first | refine aops_nil ?_ | refine aops_go ty_ok rfl rfl sd ?_ | refine aops_gate ty_ok rfl rfl rfl sd ?_ | refine aops_litE ty_ok rfl rfl rfl rfl rfl rfl rfl rfl rfl rfl rfl rfl ?_ | refine aops_cutE ty_ok rfl rfl rfl rfl rfl rfl rfl rfl rfl sd rfl ?_ | ((fail_if_success (refine aops_known rfl ?_)); (refine aops_split ty_ok rfl rfl rfl rfl rfl rfl (fun hc => ⟨?_, ?_⟩) (fun hc => ⟨?_, ?_⟩)) <;> (try simp only [nms, reduceCtorEq] at hc) <;> (try (exfalso; omega)) <;> (try exact sd)))) | ((fail_if_success (with_reducible show AWp _ _ _ _ _)); (fail_if_success (with_reducible show AOps _ _ _ _ _ _)); (first | (show AWp _ _ _ _ _) | (show AOps _ _ _ _ _ _))))
    all_goals simp only [hx, hy, Int.not_lt, Int.not_le] at *
    all_goals first | (exfalso; omega) | skip
    all_goals simp only [Res.d.injEq, Dat.bool.injEq, rightF]
    all_goals first | (simp; omega) | (rw [Bool.eq_iff_iff]; simp; omega)

end Go.Proofs.YtbbakpmedpcigaaDoor

/- digits and number of the reference, walked by the abstract machine. -/
namespace Go.Proofs.YtbbakpmedpcigaaDoor
open Go.Am
open Go.Lib (decDigits)
set_option linter.unusedSimpArgs false
set_option linter.unusedVariables false

theorem wrap_u64 (n : Nat) (h : n < 18446744073709551616) : IntKind.u64.wrap (n : Int) = n := by rw [IntKind.wrap_u64]; omega
theorem dig_cut (d : Nat) (h : d < 10) : ByteArray.extract ⟨#[48, 49, 50, 51, 52, 53, 54, 55, 56, 57]⟩ d (d + 1) = bA [UInt8.ofNat (48 + d)] := by
  have : ∀ d : Fin 10, ByteArray.extract ⟨#[48, 49, 50, 51, 52, 53, 54, 55, 56, 57]⟩ d.1 (d.1 + 1) = bA [UInt8.ofNat (48 + d.1)] := by decide
  exact this ⟨d, h⟩
def numV (p : List UInt8) : Int := match valD 0 p with
  | some n => n
  | none => 0
theorem valD_le : ∀ (l : List UInt8) (acc : Nat), acc ≤ 42949672959 → ∀ n, valD acc l = some n → n ≤ 42949672959
  | [], acc, h, n, hn => by cases hn; exact h
  | c :: r, acc, h, n, hn => by
    unfold valD at hn
    split at hn
    · rename_i hb
      simp only [digB, Bool.and_eq_true, decide_eq_true_eq] at hb
      exact valD_le r _ (by omega) n hn
    · cases hn
end Go.Proofs.YtbbakpmedpcigaaDoor

/- Arcs, Valid of package oid and of its reference, walked by the abstract machine. -/
namespace Go.Proofs.YtbbakpmedpcigaaDoor
open Go.Am
open Go.Lib (decDigits)
set_option linter.unusedSimpArgs false
set_option linter.unusedVariables false

theorem c_parse_ok (l : List UInt8) (hl : l.length ≤ 1000000000) (u : Nat) (h : Lib.parseUintB 32 l = .ok u) : ACalls Tryd.prog envL 61 [sD l, .int .i64 10, .int .i64 32] (fun r => r = .d (.tup [.int .u64 u, .nilIf])) := (c_parse l (by omega)).mono fun r hr => by
  simpa only [parR, h] using hr
theorem c_parse_syn (l : List UInt8) (hl : l.length ≤ 1000000000) (h : Lib.parseUintB 32 l = Lib.parseUintB 32 []) : ACalls Tryd.prog envL 61 [sD l, .int .i64 10, .int .i64 32] (fun r => r = .d (.tup [.int .u64 0, .someIf])) := (c_parse l (by omega)).mono fun r hr => by
  unfold parR at hr
  rw [h] at hr
  exact hr
theorem c_parse_rng (l : List UInt8) (hl : l.length ≤ 1000000000) (h : Lib.parseUintB 32 l = .range) : ACalls Tryd.prog envL 61 [sD l, .int .i64 10, .int .i64 32] (fun r => r = .d (.tup [.int .u64 4294967295, .someIf])) := (c_parse l (by omega)).mono fun r hr => by
  simpa only [parR, h] using hr
def arcsD (l : List UInt8) : Dat := match okF l with
  | some a => .tup [.sl none (u32s a), .int .i64 0]
  | none => .tup [.sl none [], .int .i64 11]
theorem u32s_app (x y : List Nat) : u32s (x ++ y) = u32s x ++ u32s y := by simp [u32s]
theorem wrap_u32 (n : Nat) (h : n ≤ 4294967295) : IntKind.u32.wrap (n : Int) = n := by rw [IntKind.wrap_u32]; omega
theorem okF_none_of {l p : List UInt8} (hm : p ∈ splitL l) (h : arcF p = none) : okF l = none := by
  unfold okF
  rw [mapM_none_of hm h]
theorem isArcs : IsFn Tryd.prog 48 Tryd.f48 := ⟨Tryd.func48, by decide, rfl⟩
set_option maxHeartbeats 1000000 in
theorem c_arcs (l : List UInt8) (hl : l.length ≤ 100000000) : ACalls Tryd.prog envL 48 [sD l] (fun r => r = .d (arcsD l)) := by
  refine acalls_of ty_ok isArcs rfl rfl ?_
  have hlen := splitL_len l
  have hcl := count_le l
  have hpl := splitL_drop l
  repeat' (first | ((with_reducible show AWp _ _ _ _ _); (first | refine awp_seq ?_ | refine awp_block ?_ | refine awp_skip ?_ | refine awp_exit ?_ | refine awp_scope ?_ | refine awp_label ?_ | refine awp_run ty_ok rfl sd ?_ | refine awp_ret ⟨_, _, rfl, rfl, ?_⟩ | refine awp_ret ⟨_, rfl, ?_⟩ | ((refine awp_cond (ty := ty) rfl (fun hc => ?_) (fun hc => ?_)) <;> (try simp only [nms, reduceCtorEq] at hc) <;> (try (exfalso; omega))))) | ((with_reducible show AOps _ _ _ _ _ _); (first | refine aops_nil ?_ | refine aops_go ty_ok rfl rfl sd ?_ | refine aops_gate ty_ok rfl rfl rfl sd ?_ | refine aops_callE (ty := ty) rfl rfl rfl rfl rfl rfl rfl (c_split _ l (by omega)) rfl ?_ | refine aops_litE ty_ok rfl rfl rfl rfl rfl rfl rfl rfl rfl rfl rfl rfl ?_ | refine aops_cutE ty_ok rfl rfl rfl rfl rfl rfl rfl rfl rfl sd rfl ?_ | ((fail_if_success (refine aops_known rfl ?_)); (refine aops_split ty_ok rfl rfl rfl rfl rfl rfl (fun hc => ⟨?_, ?_⟩) (fun hc => ⟨?_, ?_⟩)) <;> (try simp only [nms, reduceCtorEq] at hc) <;> (try (exfalso; omega)) <;> (try exact sd)))) | ((fail_if_success (with_reducible show AWp _ _ _ _ _)); (fail_if_success (with_reducible show AOps _ _ _ _ _ _)); (first | (show AWp _ _ _ _ _) | (show AOps _ _ _ _ _ _))))
  refine awp_nilrow 4 77 rfl ?_
  refine awp_loopR (G := { p : Nat × List Nat // p.1 ≤ (splitL l).length ∧ ((splitL l).take p.1).mapM arcF = some p.2 ∧ p.2.length = p.1 }) (fun p => ⟨Tryd.f48.ntmps, [(4, .ref 1), (10, .ref 0), (11, .d (.int .i64 (splitL l).length)), (12, .d (.int .i64 p.1.1))], [(0, .row none 9 (strs (splitL l))), (1, .row none 77 (u32s p.1.2))], 2⟩) (fun p => (splitL l).length - p.1.1) ⟨(0, []), Nat.zero_le _, rfl, rfl⟩ [(0, 0), (1, 1)]
    (SubR.mk' rfl rfl ⟨⟨_, rfl, rfl⟩, ⟨_, rfl, rfl⟩, ⟨_, rfl, congrArg (fun z : Nat => AV.d (Dat.int IntKind.i64 z)) (strs_len _)⟩, ⟨_, rfl, rfl⟩, trivial⟩ ⟨⟨_, _, rfl, rfl, rfl⟩, ⟨_, _, rfl, rfl, rfl⟩, trivial⟩) ?_
  rintro ⟨⟨k, a⟩, hk, ha, hal⟩
  simp only at hk ha hal
  dsimp only
  rcases Nat.lt_or_ge k (splitL l).length with hkl | hkl
  · obtain ⟨p, hp⟩ : ∃ p, p = (splitL l)[k] := ⟨_, rfl⟩
    have hmem : p ∈ splitL l := by rw [hp]; exact List.getElem_mem _
    have htx : ((strs (splitL l)).getD (k : Int).toNat default).txt = bA p := by
      rw [txt_strs, Int.toNat_natCast, List.getD_eq_getElem?_getD, List.getElem?_eq_getElem hkl, hp]
      rfl
    have hplen := hpl p hmem
    have hsnoc : ((splitL l).take (k + 1)).mapM arcF = match arcF p with
        | some n => some (a ++ [n])
        | none => none := by
      rw [List.take_succ_eq_append_getElem hkl, mapM_snoc, ha, ← hp]
      cases arcF p <;> rfl
    have hap := arcF_parse p
    cases hpu : Lib.parseUintB 32 p with
    | ok u =>
      have hu := parse32_le hpu
      have hc1 := c_parse_ok p (by omega) u hpu
      rw [hpu] at hap
      simp only at hap
      unfold sD at hc1
      rw [← htx] at hc1
      repeat' (first | ((with_reducible show AWp _ _ _ _ _); (first | refine awp_seq ?_ | refine awp_block ?_ | refine awp_skip ?_ | refine awp_exit ?_ | refine awp_scope ?_ | refine awp_label ?_ | refine awp_run ty_ok rfl sd ?_ | refine awp_ret ⟨_, _, rfl, rfl, ?_⟩ | refine awp_ret ⟨_, rfl, ?_⟩ | ((refine awp_cond (ty := ty) rfl (fun hc => ?_) (fun hc => ?_)) <;> (try simp only [nms, reduceCtorEq] at hc) <;> (try (exfalso; omega))))) | ((with_reducible show AOps _ _ _ _ _ _); (first | refine aops_nil ?_ | refine aops_go ty_ok rfl rfl sd ?_ | refine aops_gate ty_ok rfl rfl rfl sd ?_ | refine aops_callE (ty := ty) rfl rfl rfl rfl rfl rfl rfl (hc1) rfl ?_ | refine aops_callE (ty := ty) rfl rfl rfl rfl rfl rfl rfl (c_format u (by omega)) rfl ?_ | refine aops_litE ty_ok rfl rfl rfl rfl rfl rfl rfl rfl rfl rfl rfl rfl ?_ | refine aops_cutE ty_ok rfl rfl rfl rfl rfl rfl rfl rfl rfl sd rfl ?_ | ((fail_if_success (refine aops_known rfl ?_)); (refine aops_split ty_ok rfl rfl rfl rfl rfl rfl (fun hc => ⟨?_, ?_⟩) (fun hc => ⟨?_, ?_⟩)) <;> (try simp only [nms, reduceCtorEq] at hc) <;> (try (exfalso; omega)) <;> (try exact sd)))) | ((fail_if_success (with_reducible show AWp _ _ _ _ _)); (fail_if_success (with_reducible show AOps _ _ _ _ _ _)); (first | (show AWp _ _ _ _ _) | (show AOps _ _ _ _ _ _))))
      · rw [htx, bA_inj] at hc
        have : arcF p = none := by rw [hap, decide_eq_false hc]
        rw [arcsD, okF_none_of hmem this]
        rfl
      · rw [htx, bA_inj] at hc
        rw [decide_eq_true hc] at hap
        rw [hap] at hsnoc
        refine ⟨⟨(k + 1, a ++ [u]), hkl, hsnoc, by simp [hal]⟩, [(0, 0), (3, 1)], SubR.mk' rfl rfl ⟨⟨_, rfl, rfl⟩, ⟨_, rfl, rfl⟩, ⟨_, rfl, rfl⟩, ⟨_, rfl, rfl⟩, trivial⟩ ⟨⟨_, _, rfl, rfl, rfl⟩, ⟨_, _, rfl, rfl, congrArg (AO.row none 77) ?_⟩, trivial⟩, by simp only; omega⟩
        rw [u32s_app, wrap_u32 u hu]
        rfl
    | range =>
      have hc1 := c_parse_rng p (by omega) hpu
      rw [hpu] at hap
      simp only at hap
      unfold sD at hc1
      rw [← htx] at hc1
      repeat' (first | ((with_reducible show AWp _ _ _ _ _); (first | refine awp_seq ?_ | refine awp_block ?_ | refine awp_skip ?_ | refine awp_exit ?_ | refine awp_scope ?_ | refine awp_label ?_ | refine awp_run ty_ok rfl sd ?_ | refine awp_ret ⟨_, _, rfl, rfl, ?_⟩ | refine awp_ret ⟨_, rfl, ?_⟩ | ((refine awp_cond (ty := ty) rfl (fun hc => ?_) (fun hc => ?_)) <;> (try simp only [nms, reduceCtorEq] at hc) <;> (try (exfalso; omega))))) | ((with_reducible show AOps _ _ _ _ _ _); (first | refine aops_nil ?_ | refine aops_go ty_ok rfl rfl sd ?_ | refine aops_gate ty_ok rfl rfl rfl sd ?_ | refine aops_callE (ty := ty) rfl rfl rfl rfl rfl rfl rfl (hc1) rfl ?_ | refine aops_litE ty_ok rfl rfl rfl rfl rfl rfl rfl rfl rfl rfl rfl rfl ?_ | refine aops_cutE ty_ok rfl rfl rfl rfl rfl rfl rfl rfl rfl sd rfl ?_ | ((fail_if_success (refine aops_known rfl ?_)); (refine aops_split ty_ok rfl rfl rfl rfl rfl rfl (fun hc => ⟨?_, ?_⟩) (fun hc => ⟨?_, ?_⟩)) <;> (try simp only [nms, reduceCtorEq] at hc) <;> (try (exfalso; omega)) <;> (try exact sd)))) | ((fail_if_success (with_reducible show AWp _ _ _ _ _)); (fail_if_success (with_reducible show AOps _ _ _ _ _ _)); (first | (show AWp _ _ _ _ _) | (show AOps _ _ _ _ _ _))))
      rw [arcsD, okF_none_of hmem hap]
      rfl
    | _ =>
      have hc1 := c_parse_syn p (by omega) hpu
      rw [hpu] at hap
      simp only at hap
      unfold sD at hc1
      rw [← htx] at hc1
      repeat' (first | ((with_reducible show AWp _ _ _ _ _); (first | refine awp_seq ?_ | refine awp_block ?_ | refine awp_skip ?_ | refine awp_exit ?_ | refine awp_scope ?_ | refine awp_label ?_ | refine awp_run ty_ok rfl sd ?_ | refine awp_ret ⟨_, _, rfl, rfl, ?_⟩ | refine awp_ret ⟨_, rfl, ?_⟩ | ((refine awp_cond (ty := ty) rfl (fun hc => ?_) (fun hc => ?_)) <;> (try simp only [nms, reduceCtorEq] at hc) <;> (try (exfalso; omega))))) | ((with_reducible show AOps _ _ _ _ _ _); (first | refine aops_nil ?_ | refine aops_go ty_ok rfl rfl sd ?_ | refine aops_gate ty_ok rfl rfl rfl sd ?_ | refine aops_callE (ty := ty) rfl rfl rfl rfl rfl rfl rfl (hc1) rfl ?_ | refine aops_litE ty_ok rfl rfl rfl rfl rfl rfl rfl rfl rfl rfl rfl rfl ?_ | refine aops_cutE ty_ok rfl rfl rfl rfl rfl rfl rfl rfl rfl sd rfl ?_ | ((fail_if_success (refine aops_known rfl ?_)); (refine aops_split ty_ok rfl rfl rfl rfl rfl rfl (fun hc => ⟨?_, ?_⟩) (fun hc => ⟨?_, ?_⟩)) <;> (try simp only [nms, reduceCtorEq] at hc) <;> (try (exfalso; omega)) <;> (try exact sd)))) | ((fail_if_success (with_reducible show AWp _ _ _ _ _)); (fail_if_success (with_reducible show AOps _ _ _ _ _ _)); (first | (show AWp _ _ _ _ _) | (show AOps _ _ _ _ _ _))))
      rw [arcsD, okF_none_of hmem hap]
      rfl
  · have hke : k = (splitL l).length := by omega
    subst hke
    rw [List.take_length] at ha
    repeat' (first | ((with_reducible show AWp _ _ _ _ _); (first | refine awp_seq ?_ | refine awp_block ?_ | refine awp_skip ?_ | refine awp_exit ?_ | refine awp_scope ?_ | refine awp_label ?_ | refine awp_run ty_ok rfl sd ?_ | refine awp_ret ⟨_, _, rfl, rfl, ?_⟩ | refine awp_ret ⟨_, rfl, ?_⟩ | ((refine awp_cond (ty := ty) rfl (fun hc => ?_) (fun hc => ?_)) <;> (try simp only [nms, reduceCtorEq] at hc) <;> (try (exfalso; omega))))) | ((with_reducible show AOps _ _ _ _ _ _); (first | refine aops_nil ?_ | refine aops_go ty_ok rfl rfl sd ?_ | refine aops_gate ty_ok rfl rfl rfl sd ?_ | refine aops_callE (ty := ty) rfl rfl rfl rfl rfl rfl rfl (c_right _ a) rfl ?_ | refine aops_litE ty_ok rfl rfl rfl rfl rfl rfl rfl rfl rfl rfl rfl rfl ?_ | refine aops_cutE ty_ok rfl rfl rfl rfl rfl rfl rfl rfl rfl sd rfl ?_ | ((fail_if_success (refine aops_known rfl ?_)); (refine aops_split ty_ok rfl rfl rfl rfl rfl rfl (fun hc => ⟨?_, ?_⟩) (fun hc => ⟨?_, ?_⟩)) <;> (try simp only [nms, reduceCtorEq] at hc) <;> (try (exfalso; omega)) <;> (try exact sd)))) | ((fail_if_success (with_reducible show AWp _ _ _ _ _)); (fail_if_success (with_reducible show AOps _ _ _ _ _ _)); (first | (show AWp _ _ _ _ _) | (show AOps _ _ _ _ _ _))))
    · have : okF l = none := by
        unfold okF
        rw [ha]
        simp only [hc]
      rw [arcsD, this]
      rfl
    · have : okF l = some a := by
        unfold okF
        rw [ha]
        simp only [hc]
      rw [arcsD, this]

/-- Is it the string of an object identifier? -/
def oidV (l : List UInt8) : Bool := (okF l).isSome
theorem isOValid : IsFn Tryd.prog 47 Tryd.f47 := ⟨Tryd.func47, by decide, rfl⟩
theorem c_ovalid (l : List UInt8) (hl : l.length ≤ 100000000) : ACalls Tryd.prog envL 47 [sD l] (fun r => r = .d (.bool (oidV l))) := by
  refine acalls_of ty_ok isOValid rfl rfl ?_
  have hA := c_arcs l hl
  unfold oidV
  cases h : okF l with
  | none =>
    rw [arcsD, h] at hA
    repeat' (first | ((with_reducible show AWp _ _ _ _ _); (first | refine awp_seq ?_ | refine awp_block ?_ | refine awp_skip ?_ | refine awp_exit ?_ | refine awp_scope ?_ | refine awp_label ?_ | refine awp_run ty_ok rfl sd ?_ | refine awp_ret ⟨_, _, rfl, rfl, ?_⟩ | refine awp_ret ⟨_, rfl, ?_⟩ | ((refine awp_cond (ty := ty) rfl (fun hc => ?_) (fun hc => ?_)) <;> (try simp only [nms, reduceCtorEq] at hc) <;> (try (exfalso; omega))))) | ((with_reducible show AOps _ _ _ _ _ _); (first | refine aops_nil ?_ | refine aops_go ty_ok rfl rfl sd ?_ | refine aops_gate ty_ok rfl rfl rfl sd ?_ | refine aops_callE (ty := ty) rfl rfl rfl rfl rfl rfl rfl (hA) rfl ?_ | refine aops_litE ty_ok rfl rfl rfl rfl rfl rfl rfl rfl rfl rfl rfl rfl ?_ | refine aops_cutE ty_ok rfl rfl rfl rfl rfl rfl rfl rfl rfl sd rfl ?_ | ((fail_if_success (refine aops_known rfl ?_)); (refine aops_split ty_ok rfl rfl rfl rfl rfl rfl (fun hc => ⟨?_, ?_⟩) (fun hc => ⟨?_, ?_⟩)) <;> (try simp only [nms, reduceCtorEq] at hc) <;> (try (exfalso; omega)) <;> (try exact sd)))) | ((fail_if_success (with_reducible show AWp _ _ _ _ _)); (fail_if_success (with_reducible show AOps _ _ _ _ _ _)); (first | (show AWp _ _ _ _ _) | (show AOps _ _ _ _ _ _))))
    all_goals rfl
  | some a =>
    rw [arcsD, h] at hA
    repeat' (first | ((with_reducible show AWp _ _ _ _ _); (first | refine awp_seq ?_ | refine awp_block ?_ | refine awp_skip ?_ | refine awp_exit ?_ | refine awp_scope ?_ | refine awp_label ?_ | refine awp_run ty_ok rfl sd ?_ | refine awp_ret ⟨_, _, rfl, rfl, ?_⟩ | refine awp_ret ⟨_, rfl, ?_⟩ | ((refine awp_cond (ty := ty) rfl (fun hc => ?_) (fun hc => ?_)) <;> (try simp only [nms, reduceCtorEq] at hc) <;> (try (exfalso; omega))))) | ((with_reducible show AOps _ _ _ _ _ _); (first | refine aops_nil ?_ | refine aops_go ty_ok rfl rfl sd ?_ | refine aops_gate ty_ok rfl rfl rfl sd ?_ | refine aops_callE (ty := ty) rfl rfl rfl rfl rfl rfl rfl (hA) rfl ?_ | refine aops_litE ty_ok rfl rfl rfl rfl rfl rfl rfl rfl rfl rfl rfl rfl ?_ | refine aops_cutE ty_ok rfl rfl rfl rfl rfl rfl rfl rfl rfl sd rfl ?_ | ((fail_if_success (refine aops_known rfl ?_)); (refine aops_split ty_ok rfl rfl rfl rfl rfl rfl (fun hc => ⟨?_, ?_⟩) (fun hc => ⟨?_, ?_⟩)) <;> (try simp only [nms, reduceCtorEq] at hc) <;> (try (exfalso; omega)) <;> (try exact sd)))) | ((fail_if_success (with_reducible show AWp _ _ _ _ _)); (fail_if_success (with_reducible show AOps _ _ _ _ _ _)); (first | (show AWp _ _ _ _ _) | (show AOps _ _ _ _ _ _))))
    all_goals rfl
end Go.Proofs.YtbbakpmedpcigaaDoor

/- Arcs of the reference; Text of both; same. Walked by the abstract machine. -/
namespace Go.Proofs.YtbbakpmedpcigaaDoor
open Go.Am
open Go.Lib (decDigits)
set_option linter.unusedSimpArgs false
set_option linter.unusedVariables false

end Go.Proofs.YtbbakpmedpcigaaDoor

/- strings.Join at a dot, as a contract on data. -/
namespace Go.Proofs.YtbbakpmedpcigaaDoor
open Go.Am Go.RowKit Go.Sort
set_option linter.unusedSimpArgs false
set_option linter.unusedVariables false

/-! ### Join -/
end Go.Proofs.YtbbakpmedpcigaaDoor

/- Text of package oid and of its reference; same. Walked by the abstract machine. -/
namespace Go.Proofs.YtbbakpmedpcigaaDoor
open Go.Am
open Go.Lib (decDigits)
set_option linter.unusedSimpArgs false
set_option linter.unusedVariables false

def textD (a : List Nat) : Dat := match rightF a with
  | true => .tup [sD (textF a), .int .i64 0]
  | false => .tup [sD [], .int .i64 8]
theorem u32_at {a : List Nat} {k : Nat} (h : k < a.length) : ((u32s a).getD (k : Int).toNat default).num = (a[k] : Int) := by
  rw [num_u32s, Int.toNat_natCast, List.getD_eq_getElem?_getD, List.getElem?_eq_getElem h]
  rfl
theorem textF_len' {a : List Nat} (h : ∀ n ∈ a, n ≤ 4294967295) : (joinL (a.map decDigits)).length ≤ a.length * 11 := by
  rw [joinL, joinD_lib]
  exact textF_len a h
theorem joinD_snoc : ∀ (ps : List (List UInt8)) (p : List UInt8), ps ≠ [] → joinD (ps ++ [p]) = joinD ps ++ 46 :: p
  | [], p, h => absurd rfl h
  | [q], p, _ => by simp [joinD]
  | q :: q2 :: r, p, _ => by
    have := joinD_snoc (q2 :: r) p (by simp)
    simp only [List.cons_append, joinD] at this ⊢
    rw [this]
    simp
end Go.Proofs.YtbbakpmedpcigaaDoor

/- Contents octets of object identifiers: Encode of both. Walked by the abstract machine. -/
namespace Go.Proofs.YtbbakpmedpcigaaDoor
open Go.Am
open Go.Lib (decDigits)
set_option linter.unusedSimpArgs false
set_option linter.unusedVariables false

/-- The octets of a subidentifier. -/
def low7 (last : Bool) (n : Nat) : UInt8 := UInt8.ofNat (n % 128 + (match last with
  | true => 0
  | false => 128))
def b128 (last : Bool) (n : Nat) : List UInt8 := if n < 128 then [low7 last n] else b128 false (n / 128) ++ [low7 last n]
  termination_by n
  decreasing_by omega
theorem b128_small {last : Bool} {n : Nat} (h : n < 128) : b128 last n = [low7 last n] := by rw [b128, if_pos h]
theorem b128_big {last : Bool} {n : Nat} (h : ¬ n < 128) : b128 last n = b128 false (n / 128) ++ [low7 last n] := by rw [b128, if_neg h]
theorem b128_len (k : Nat) : ∀ last n, n < 128 ^ (k + 1) → (b128 last n).length ≤ k + 1 := by
  induction k with
  | zero =>
    intro last n h
    rw [b128_small (by simpa using h)]
    exact Nat.le_refl _
  | succ k ih =>
    intro last n h
    by_cases h1 : n < 128
    · rw [b128_small h1]
      exact Nat.succ_le_succ (Nat.zero_le _)
    · rw [b128_big h1]
      have h2 : n / 128 < 128 ^ (k + 1) := by
        rw [Nat.div_lt_iff_lt_mul (Nat.succ_pos 127), ← Nat.pow_succ]
        exact h
      have := ih false (n / 128) h2
      rw [List.length_append, List.length_singleton]
      omega
theorem b128_len32 (last : Bool) (n : Nat) (h : n ≤ 4294967295) : (b128 last n).length ≤ 5 := b128_len 4 last n (Nat.lt_of_le_of_lt h (by decide))
/-- The octets after the last one, lowest first. -/
def rest7 (n : Nat) : List UInt8 := if n = 0 then [] else low7 false n :: rest7 (n / 128)
  termination_by n
  decreasing_by omega
theorem rest7_zero : rest7 0 = [] := by rw [rest7, if_pos rfl]
theorem rest7_pos {n : Nat} (h : n ≠ 0) : rest7 n = low7 false n :: rest7 (n / 128) := by rw [rest7, if_neg h]
theorem rest7_b128 (n : Nat) (h : n ≠ 0) : (rest7 n).reverse = b128 false n := by
  induction n using Nat.strongRecOn with
  | _ n ih =>
    rw [rest7_pos h, List.reverse_cons]
    by_cases h1 : n < 128
    · rw [b128_small h1, show n / 128 = 0 by omega, rest7_zero]
      rfl
    · rw [b128_big h1, ih (n / 128) (by omega) (by omega)]
theorem b128_rest (n : Nat) : b128 true n = (low7 true n :: rest7 (n / 128)).reverse := by
  rw [List.reverse_cons]
  by_cases h1 : n < 128
  · rw [b128_small h1, show n / 128 = 0 by omega, rest7_zero]
    rfl
  · rw [b128_big h1, rest7_b128 _ (by omega)]
theorem low7_nat (n : Nat) : (low7 true n).toNat = n % 128 ∧ (low7 false n).toNat = n % 128 + 128 := by
  constructor <;> simp [low7, UInt8.toNat_ofNat'] <;> omega
theorem bys_one (b : UInt8) : bys [b] = [Dat.int .u8 b.toNat] := rfl

end Go.Proofs.YtbbakpmedpcigaaDoor
