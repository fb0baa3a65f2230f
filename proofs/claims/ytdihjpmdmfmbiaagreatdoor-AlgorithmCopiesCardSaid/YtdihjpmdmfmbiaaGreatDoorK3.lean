/- Part 3 of the texts of this proof: an abstract machine for walks, the walks of the functions, plain laws. Each part says in its own first lines what is proved there. -/
import Derived.Test.YtdihjpmdmfmbiaaGreatDoorK2
import Derived.Lib.Join
import Derived.LaidMore
import Derived.Lib.LaidTab
import Derived.MakeChecks
import Derived.Shelf.Strconv.Itoa3
import Derived.Shelf.Strings.Builder1
import Derived.Shelf.Strings.Builder2
import Derived.Shelf.Strings.OnBuilder
import Derived.Shelf.Strings.BuilderF
import Derived.Shelf.Strings.BuilderK
import Derived.Shelf.Strings.Builder2Cap
import Derived.Shelf.Strconv.Itoa0
import Derived.Shelf.Strconv.Itoa1
import Derived.Shelf.LaysM
import Derived.Shelf.Strconv.Itoa2
import Derived.Ground.MpProg
import Derived.Shelf.Pu.ParseUintPublic10
import Derived.Shelf.Pu.ErrVarParseUint
import Derived.Shelf.Strings.Search1
import Derived.Shelf.Strings.Search2
import Derived.Shelf.Strings.Search3
import Derived.Shelf.Strings.Count
import Derived.Shelf.Strings.Shaped
import Derived.Shelf.Strings.Split
import Derived.Shelf.Strings.SplitShaped
import Derived.Shelf.Unicode.DecodeSlow
import Derived.Shelf.Strings.BuilderCap
import Derived.Test.YtdihjpmdmfmbiaaGreatDoorProg
import Derived.Lib.Walk
import Derived.Lib.ItoaMem
import Derived.BigCall
import Derived.BigGuard
import Derived.BigFrame
import Derived.Lib.AppendIntMem

/- Elements, read: functions of packages tlv and element. Walked by the abstract machine. -/
namespace Go.Proofs.YtdihjpmdmfmbiaaGreatDoor
open Go.Am
set_option linter.unusedSimpArgs false
set_option linter.unusedVariables false

theorem u8_bits : ∀ n : Fin 256, bits .and .u8 (n.val : Int) 31 = ((n.val % 32 : Nat) : Int) ∧ bits .and .u8 (n.val : Int) 32 = ((n.val / 32 % 2 * 32 : Nat) : Int) ∧ shft .shr .u8 (n.val : Int) 6 = ((n.val / 64 : Nat) : Int) := by decide +kernel
theorem and31 (x : UInt8) : bits .and .u8 (x.toNat : Int) 31 = ((x.toNat % 32 : Nat) : Int) := (u8_bits ⟨x.toNat, u8_lt x⟩).1
theorem and32 (x : UInt8) : bits .and .u8 (x.toNat : Int) 32 = ((x.toNat / 32 % 2 * 32 : Nat) : Int) := (u8_bits ⟨x.toNat, u8_lt x⟩).2.1
theorem shr6 (x : UInt8) : shft .shr .u8 (x.toNat : Int) 6 = ((x.toNat / 64 : Nat) : Int) := (u8_bits ⟨x.toNat, u8_lt x⟩).2.2
/-- What an identifier octet says. -/
def idD (x : UInt8) : Dat := if x.toNat % 32 = 31 then .tup [.int .i64 0, .bool false, .int .i64 0, .int .i64 3] else .tup [clsD x, .bool (conB x), numD x, .int .i64 0]
theorem isReadIdentifier : IsFn Tryz.prog 121 Tryz.f121 := ⟨Tryz.func121, by decide, rfl⟩
theorem c_readid (Γ : Env) (x : UInt8) : ACalls Tryz.prog Γ 121 [.int .u8 x.toNat] (fun r => r = .d (idD x)) := by
  refine acalls_of ty_ok isReadIdentifier rfl rfl ?_
  have h1 := u8_lt x
  repeat' (first | ((with_reducible show AWp _ _ _ _ _); (first | refine awp_seq ?_ | refine awp_block ?_ | refine awp_skip ?_ | refine awp_exit ?_ | refine awp_scope ?_ | refine awp_label ?_ | refine awp_run ty_ok rfl sd ?_ | refine awp_ret ⟨_, _, rfl, rfl, ?_⟩ | refine awp_ret ⟨_, rfl, ?_⟩ | ((refine awp_cond (ty := ty) rfl (fun hc => ?_) (fun hc => ?_)) <;> (try simp only [nms, reduceCtorEq] at hc) <;> (try (exfalso; omega))))) | ((with_reducible show AOps _ _ _ _ _ _); (first | refine aops_nil ?_ | refine aops_go ty_ok rfl rfl sd ?_ | refine aops_gate ty_ok rfl rfl rfl sd ?_ | refine aops_litE ty_ok rfl rfl rfl rfl rfl rfl rfl rfl rfl rfl rfl rfl ?_ | refine aops_cutE ty_ok rfl rfl rfl rfl rfl rfl rfl rfl rfl sd rfl ?_ | ((fail_if_success (refine aops_known rfl ?_)); (refine aops_split ty_ok rfl rfl rfl rfl rfl rfl (fun hc => ⟨?_, ?_⟩) (fun hc => ⟨?_, ?_⟩)) <;> (try simp only [nms, reduceCtorEq] at hc) <;> (try (exfalso; omega)) <;> (try exact sd)))) | ((fail_if_success (with_reducible show AWp _ _ _ _ _)); (fail_if_success (with_reducible show AOps _ _ _ _ _ _)); (first | (show AWp _ _ _ _ _) | (show AOps _ _ _ _ _ _))))
  all_goals rw [and31] at hc
  · rw [idD, if_pos (by omega)]
  · rw [idD, if_neg (by omega), and31, and32, shr6, wrap_i64_nat _ (by omega), wrap_i64_nat _ (by omega), clsD, numD, conB]
    congr 6
    rcases (show x.toNat / 32 % 2 = 0 ∨ x.toNat / 32 % 2 = 1 by omega) with h | h <;> rw [h] <;> rfl
def errD (c o : Nat) : Dat := .agg [.int .i64 c, .int .i64 o]
def rlD : Ex (Nat × Nat) → Dat
  | .bad c o => .tup [.int .i64 0, .int .i64 0, errD c o]
  | .ok (n, s) => .tup [.int .i64 n, .int .i64 s, errD 0 0]
theorem isRLFail : IsFn Tryz.prog 138 Tryz.f138 := ⟨Tryz.func138, by decide, rfl⟩
theorem c_rlfail (Γ : Env) (c o : Nat) : ACalls Tryz.prog Γ 138 [.int .i64 c, .int .i64 o] (fun r => r = .d (.tup [.int .i64 0, .int .i64 0, errD c o])) := by
  refine acalls_of ty_ok isRLFail rfl rfl ?_
  repeat' (first | ((with_reducible show AWp _ _ _ _ _); (first | refine awp_seq ?_ | refine awp_block ?_ | refine awp_skip ?_ | refine awp_exit ?_ | refine awp_scope ?_ | refine awp_label ?_ | refine awp_run ty_ok rfl sd ?_ | refine awp_ret ⟨_, _, rfl, rfl, ?_⟩ | refine awp_ret ⟨_, rfl, ?_⟩ | ((refine awp_cond (ty := ty) rfl (fun hc => ?_) (fun hc => ?_)) <;> (try simp only [nms, reduceCtorEq] at hc) <;> (try (exfalso; omega))))) | ((with_reducible show AOps _ _ _ _ _ _); (first | refine aops_nil ?_ | refine aops_go ty_ok rfl rfl sd ?_ | refine aops_gate ty_ok rfl rfl rfl sd ?_ | refine aops_litE ty_ok rfl rfl rfl rfl rfl rfl rfl rfl rfl rfl rfl rfl ?_ | refine aops_cutE ty_ok rfl rfl rfl rfl rfl rfl rfl rfl rfl sd rfl ?_ | ((fail_if_success (refine aops_known rfl ?_)); (refine aops_split ty_ok rfl rfl rfl rfl rfl rfl (fun hc => ⟨?_, ?_⟩) (fun hc => ⟨?_, ?_⟩)) <;> (try simp only [nms, reduceCtorEq] at hc) <;> (try (exfalso; omega)) <;> (try exact sd)))) | ((fail_if_success (with_reducible show AWp _ _ _ _ _)); (fail_if_success (with_reducible show AOps _ _ _ _ _ _)); (first | (show AWp _ _ _ _ _) | (show AOps _ _ _ _ _ _))))
  rfl
theorem byte_at (l : List UInt8) (i : Nat) (h : i < l.length) : ((bys l).getD (i : Int).toNat default).num = (l[i].toNat : Int) := by
  rw [num_bys, Int.toNat_natCast, List.getD_eq_getElem?_getD, List.getElem?_eq_getElem h]
  rfl
theorem beF_snoc (l : List UInt8) (x : UInt8) : beF (l ++ [x]) = beF l * 256 + x.toNat := beT_snoc 0 l x
theorem beF_lt : ∀ (l : List UInt8), beF l < 256 ^ l.length := by
  intro l
  rcases List.eq_nil_or_concat l with h | ⟨q, m, h⟩
  · subst h; decide
  · subst h
    rw [List.concat_eq_append, beF_snoc]
    have := beF_lt q
    have := u8_lt m
    simp only [List.length_append, List.length_cons, List.length_nil, Nat.pow_succ, Nat.pow_zero]
    omega
  termination_by l => l.length
  decreasing_by subst h; simp
theorem shl_or (n x : Nat) (hn : n < 16777216) (hx : x < 256) : bits .or .i64 (shft .shl .i64 (n : Int) 8) (IntKind.i64.wrap (x : Int)) = ((n * 256 + x : Nat) : Int) := by
  have e1 : shft .shl .i64 (n : Int) 8 = ((n * 256 : Nat) : Int) := by
    show IntKind.i64.wrap ((n : Int) * 2 ^ (min (8 : Int).toNat IntKind.i64.bits)) = _
    rw [show (2 : Int) ^ (min (8 : Int).toNat IntKind.i64.bits) = 256 by decide, IntKind.wrap_i64]
    omega
  rw [e1, wrap_i64_nat x (by omega)]
  rw [(bits_nat .i64 62 (by decide) (fun n h0 h1 => by rw [IntKind.wrap_i64]; omega) _ _ (by omega) (by omega)).2]
  congr 1
  have := Nat.two_pow_add_eq_or_of_lt (i := 8) (b := x) (by omega) n
  rw [show 2 ^ 8 * n = n * 256 by omega] at this
  exact this.symm
theorem isReadLength : IsFn Tryz.prog 122 Tryz.f122 := ⟨Tryz.func122, by decide, rfl⟩
set_option maxHeartbeats 4000000 in
set_option maxRecDepth 100000 in
theorem c_readlen (Γ : Env) (b : List UInt8) (hb : b.length ≤ 1099511627776) : ACalls Tryz.prog Γ 122 [.sl none (bys b)] (fun r => r = .d (rlD (rlF b))) := by
  refine acalls_of ty_ok isReadLength rfl rfl ?_
  match b, hb with
  | [], _ =>
    repeat' (first | ((with_reducible show AWp _ _ _ _ _); (first | refine awp_seq ?_ | refine awp_block ?_ | refine awp_skip ?_ | refine awp_exit ?_ | refine awp_scope ?_ | refine awp_label ?_ | refine awp_run ty_ok rfl sd ?_ | refine awp_ret ⟨_, _, rfl, rfl, ?_⟩ | refine awp_ret ⟨_, rfl, ?_⟩ | ((refine awp_cond (ty := ty) rfl (fun hc => ?_) (fun hc => ?_)) <;> (try simp only [nms, reduceCtorEq] at hc) <;> (try (exfalso; omega))))) | ((with_reducible show AOps _ _ _ _ _ _); (first | refine aops_nil ?_ | refine aops_go ty_ok rfl rfl sd ?_ | refine aops_gate ty_ok rfl rfl rfl sd ?_ | refine aops_callE (ty := ty) rfl rfl rfl rfl rfl rfl rfl (c_rlfail _ 1 0) rfl ?_ | refine aops_litE ty_ok rfl rfl rfl rfl rfl rfl rfl rfl rfl rfl rfl rfl ?_ | refine aops_cutE ty_ok rfl rfl rfl rfl rfl rfl rfl rfl rfl sd rfl ?_ | ((fail_if_success (refine aops_known rfl ?_)); (refine aops_split ty_ok rfl rfl rfl rfl rfl rfl (fun hc => ⟨?_, ?_⟩) (fun hc => ⟨?_, ?_⟩)) <;> (try simp only [nms, reduceCtorEq] at hc) <;> (try (exfalso; omega)) <;> (try exact sd)))) | ((fail_if_success (with_reducible show AWp _ _ _ _ _)); (fail_if_success (with_reducible show AOps _ _ _ _ _ _)); (first | (show AWp _ _ _ _ _) | (show AOps _ _ _ _ _ _))))
    rfl
  | x :: r, hb =>
    have hx := u8_lt x
    have h0 : ((bys (x :: r)).getD (Int.toNat 0) default).num = (x.toNat : Int) := rfl
    have hw : IntKind.i64.wrap ((bys (x :: r)).getD (Int.toNat 0) default).num = (x.toNat : Int) := wrap_i64_nat _ (by omega)
    simp only [List.length_cons] at hb
    rw [rlF]
    by_cases h1 : x.toNat < 128
    · rw [if_pos h1]
      repeat' (first | ((with_reducible show AWp _ _ _ _ _); (first | refine awp_seq ?_ | refine awp_block ?_ | refine awp_skip ?_ | refine awp_exit ?_ | refine awp_scope ?_ | refine awp_label ?_ | refine awp_run ty_ok rfl sd ?_ | refine awp_ret ⟨_, _, rfl, rfl, ?_⟩ | refine awp_ret ⟨_, rfl, ?_⟩ | ((refine awp_cond (ty := ty) rfl (fun hc => ?_) (fun hc => ?_)) <;> (try simp only [nms, reduceCtorEq] at hc) <;> (try (exfalso; omega))))) | ((with_reducible show AOps _ _ _ _ _ _); (first | refine aops_nil ?_ | refine aops_go ty_ok rfl rfl sd ?_ | refine aops_gate ty_ok rfl rfl rfl sd ?_ | refine aops_litE ty_ok rfl rfl rfl rfl rfl rfl rfl rfl rfl rfl rfl rfl ?_ | refine aops_cutE ty_ok rfl rfl rfl rfl rfl rfl rfl rfl rfl sd rfl ?_ | ((fail_if_success (refine aops_known rfl ?_)); (refine aops_split ty_ok rfl rfl rfl rfl rfl rfl (fun hc => ⟨?_, ?_⟩) (fun hc => ⟨?_, ?_⟩)) <;> (try simp only [nms, reduceCtorEq] at hc) <;> (try (exfalso; omega)) <;> (try exact sd)))) | ((fail_if_success (with_reducible show AWp _ _ _ _ _)); (fail_if_success (with_reducible show AOps _ _ _ _ _ _)); (first | (show AWp _ _ _ _ _) | (show AOps _ _ _ _ _ _))))
      rw [hw]
      rfl
    rw [if_neg h1]
    by_cases h2 : x.toNat = 128 ∨ 132 < x.toNat
    · rw [if_pos h2]
      repeat' (first | ((with_reducible show AWp _ _ _ _ _); (first | refine awp_seq ?_ | refine awp_block ?_ | refine awp_skip ?_ | refine awp_exit ?_ | refine awp_scope ?_ | refine awp_label ?_ | refine awp_run ty_ok rfl sd ?_ | refine awp_ret ⟨_, _, rfl, rfl, ?_⟩ | refine awp_ret ⟨_, rfl, ?_⟩ | ((refine awp_cond (ty := ty) rfl (fun hc => ?_) (fun hc => ?_)) <;> (try simp only [nms, reduceCtorEq] at hc) <;> (try (exfalso; omega))))) | ((with_reducible show AOps _ _ _ _ _ _); (first | refine aops_nil ?_ | refine aops_go ty_ok rfl rfl sd ?_ | refine aops_gate ty_ok rfl rfl rfl sd ?_ | refine aops_callE (ty := ty) rfl rfl rfl rfl rfl rfl rfl (c_rlfail _ 4 0) rfl ?_ | refine aops_litE ty_ok rfl rfl rfl rfl rfl rfl rfl rfl rfl rfl rfl rfl ?_ | refine aops_cutE ty_ok rfl rfl rfl rfl rfl rfl rfl rfl rfl sd rfl ?_ | ((fail_if_success (refine aops_known rfl ?_)); (refine aops_split ty_ok rfl rfl rfl rfl rfl rfl (fun hc => ⟨?_, ?_⟩) (fun hc => ⟨?_, ?_⟩)) <;> (try simp only [nms, reduceCtorEq] at hc) <;> (try (exfalso; omega)) <;> (try exact sd)))) | ((fail_if_success (with_reducible show AWp _ _ _ _ _)); (fail_if_success (with_reducible show AOps _ _ _ _ _ _)); (first | (show AWp _ _ _ _ _) | (show AOps _ _ _ _ _ _))))
      all_goals rfl
    rw [if_neg h2]
    have hlen : (bys (x :: r)).length = r.length + 1 := by simp [bys_len]
    by_cases h3 : r.length < x.toNat - 128
    · rw [if_pos h3]
      have hf := c_rlfail (Γ.at 0) 1 (r.length + 1)
      rw [← hlen] at hf
      repeat' (first | ((with_reducible show AWp _ _ _ _ _); (first | refine awp_seq ?_ | refine awp_block ?_ | refine awp_skip ?_ | refine awp_exit ?_ | refine awp_scope ?_ | refine awp_label ?_ | refine awp_run ty_ok rfl sd ?_ | refine awp_ret ⟨_, _, rfl, rfl, ?_⟩ | refine awp_ret ⟨_, rfl, ?_⟩ | ((refine awp_cond (ty := ty) rfl (fun hc => ?_) (fun hc => ?_)) <;> (try simp only [nms, reduceCtorEq] at hc) <;> (try (exfalso; omega))))) | ((with_reducible show AOps _ _ _ _ _ _); (first | refine aops_nil ?_ | refine aops_go ty_ok rfl rfl sd ?_ | refine aops_gate ty_ok rfl rfl rfl sd ?_ | refine aops_callE (ty := ty) rfl rfl rfl rfl rfl rfl rfl (hf) rfl ?_ | refine aops_litE ty_ok rfl rfl rfl rfl rfl rfl rfl rfl rfl rfl rfl rfl ?_ | refine aops_cutE ty_ok rfl rfl rfl rfl rfl rfl rfl rfl rfl sd rfl ?_ | ((fail_if_success (refine aops_known rfl ?_)); (refine aops_split ty_ok rfl rfl rfl rfl rfl rfl (fun hc => ⟨?_, ?_⟩) (fun hc => ⟨?_, ?_⟩)) <;> (try simp only [nms, reduceCtorEq] at hc) <;> (try (exfalso; omega)) <;> (try exact sd)))) | ((fail_if_success (with_reducible show AWp _ _ _ _ _)); (fail_if_success (with_reducible show AOps _ _ _ _ _ _)); (first | (show AWp _ _ _ _ _) | (show AOps _ _ _ _ _ _))))
      rw [hlen]
      rfl
    rw [if_neg h3]
    obtain ⟨K, hK⟩ : ∃ K, x.toNat = K + 128 := ⟨x.toNat - 128, by omega⟩
    have hK2 : x.toNat - 128 = K := by omega
    have hwK : IntKind.i64.wrap ((bys (x :: r)).getD (Int.toNat 0) default).num - 128 = (K : Int) := by omega
    rw [hK2] at h3 ⊢
    repeat' (first | ((with_reducible show AWp _ _ _ _ _); (first | refine awp_seq ?_ | refine awp_block ?_ | refine awp_skip ?_ | refine awp_exit ?_ | refine awp_scope ?_ | refine awp_label ?_ | refine awp_run ty_ok rfl sd ?_ | refine awp_ret ⟨_, _, rfl, rfl, ?_⟩ | refine awp_ret ⟨_, rfl, ?_⟩ | ((refine awp_cond (ty := ty) rfl (fun hc => ?_) (fun hc => ?_)) <;> (try simp only [nms, reduceCtorEq] at hc) <;> (try (exfalso; omega))))) | ((with_reducible show AOps _ _ _ _ _ _); (first | refine aops_nil ?_ | refine aops_go ty_ok rfl rfl sd ?_ | refine aops_gate ty_ok rfl rfl rfl sd ?_ | refine aops_litE ty_ok rfl rfl rfl rfl rfl rfl rfl rfl rfl rfl rfl rfl ?_ | refine aops_cutE ty_ok rfl rfl rfl rfl rfl rfl rfl rfl rfl sd rfl ?_ | ((fail_if_success (refine aops_known rfl ?_)); (refine aops_split ty_ok rfl rfl rfl rfl rfl rfl (fun hc => ⟨?_, ?_⟩) (fun hc => ⟨?_, ?_⟩)) <;> (try simp only [nms, reduceCtorEq] at hc) <;> (try (exfalso; omega)) <;> (try exact sd)))) | ((fail_if_success (with_reducible show AWp _ _ _ _ _)); (fail_if_success (with_reducible show AOps _ _ _ _ _ _)); (first | (show AWp _ _ _ _ _) | (show AOps _ _ _ _ _ _))))
    refine awp_loopR (G := { i : Nat // i ≤ K }) (fun i => ⟨Tryz.f122.ntmps, [(0, .d (.sl none (bys (x :: r)))), (4, .ptr 0 0), (5, .fn 138 []), (6, .d (.int .i64 K)), (7, .d (.int .i64 (beF (r.take i.1)))), (8, .d (.int .i64 (i.1 + 1)))], [(0, .box 32 [.d (.int .i64 0), .d (.int .i64 0)])], 1⟩) (fun i => K - i.1) ⟨0, Nat.zero_le _⟩ [(0, 0)]
      (SubR.mk' rfl rfl ⟨⟨_, rfl, rfl⟩, ⟨_, rfl, rfl⟩, ⟨_, rfl, rfl⟩, ⟨_, rfl, congrArg (fun z : Int => AV.d (Dat.int IntKind.i64 z)) hwK⟩, ⟨_, rfl, rfl⟩, ⟨_, rfl, rfl⟩, trivial⟩ ⟨⟨_, _, rfl, rfl, rfl⟩, trivial⟩) ?_
    rintro ⟨i, hi⟩
    dsimp only
    rcases Nat.lt_or_ge i K with hik | hik
    · have hir : i < r.length := by omega
      have ht : r.take (i + 1) = r.take i ++ [r[i]] := List.take_succ_eq_append_getElem hir
      have hbt := beF_lt (r.take i)
      have hlt : (r.take i).length ≤ 3 := by rw [List.length_take]; omega
      have hpw := Nat.pow_le_pow_right (n := 256) (by omega) hlt
      have hel : ((bys (x :: r)).getD ((i : Int) + 1).toNat default).num = (r[i].toNat : Int) := by
        rw [num_bys, show ((i : Int) + 1).toNat = i + 1 by omega, List.getD_cons_succ, List.getD_eq_getElem?_getD, List.getElem?_eq_getElem hir]
        rfl
      repeat' (first | ((with_reducible show AWp _ _ _ _ _); (first | refine awp_seq ?_ | refine awp_block ?_ | refine awp_skip ?_ | refine awp_exit ?_ | refine awp_scope ?_ | refine awp_label ?_ | refine awp_run ty_ok rfl sd ?_ | refine awp_ret ⟨_, _, rfl, rfl, ?_⟩ | refine awp_ret ⟨_, rfl, ?_⟩ | ((refine awp_cond (ty := ty) rfl (fun hc => ?_) (fun hc => ?_)) <;> (try simp only [nms, reduceCtorEq] at hc) <;> (try (exfalso; omega))))) | ((with_reducible show AOps _ _ _ _ _ _); (first | refine aops_nil ?_ | refine aops_go ty_ok rfl rfl sd ?_ | refine aops_gate ty_ok rfl rfl rfl sd ?_ | refine aops_litE ty_ok rfl rfl rfl rfl rfl rfl rfl rfl rfl rfl rfl rfl ?_ | refine aops_cutE ty_ok rfl rfl rfl rfl rfl rfl rfl rfl rfl sd rfl ?_ | ((fail_if_success (refine aops_known rfl ?_)); (refine aops_split ty_ok rfl rfl rfl rfl rfl rfl (fun hc => ⟨?_, ?_⟩) (fun hc => ⟨?_, ?_⟩)) <;> (try simp only [nms, reduceCtorEq] at hc) <;> (try (exfalso; omega)) <;> (try exact sd)))) | ((fail_if_success (with_reducible show AWp _ _ _ _ _)); (fail_if_success (with_reducible show AOps _ _ _ _ _ _)); (first | (show AWp _ _ _ _ _) | (show AOps _ _ _ _ _ _))))
      refine ⟨⟨i + 1, hik⟩, [(0, 0)], SubR.mk' rfl rfl ⟨⟨_, rfl, rfl⟩, ⟨_, rfl, rfl⟩, ⟨_, rfl, rfl⟩, ⟨_, rfl, rfl⟩, ⟨_, rfl, congrArg (fun z : Int => AV.d (Dat.int IntKind.i64 z)) ?_⟩, ⟨_, rfl, rfl⟩, trivial⟩ ⟨⟨_, _, rfl, rfl, rfl⟩, trivial⟩, by simp only; omega⟩
      rw [hel, shl_or _ _ (by omega) (u8_lt _), ht, beF_snoc]
    · have hie : i = K := by omega
      subst hie
      have hbt := beF_lt (r.take i)
      have hpw := Nat.pow_le_pow_right (n := 256) (by omega) (show (r.take i).length ≤ 4 by rw [List.length_take]; omega)
      have h1' : ((bys (x :: r)).getD (Int.toNat 1) default).num = ((r.headD 0).toNat : Int) := by
        cases r with
        | nil => simp at h3; omega
        | cons y r => rfl
      by_cases h4 : (r.headD 0).toNat = 0 ∨ beF (r.take i) < 128 ∨ 2147483647 < beF (r.take i)
      · rw [if_pos h4]
        repeat' (first | ((with_reducible show AWp _ _ _ _ _); (first | refine awp_seq ?_ | refine awp_block ?_ | refine awp_skip ?_ | refine awp_exit ?_ | refine awp_scope ?_ | refine awp_label ?_ | refine awp_run ty_ok rfl sd ?_ | refine awp_ret ⟨_, _, rfl, rfl, ?_⟩ | refine awp_ret ⟨_, rfl, ?_⟩ | ((refine awp_cond (ty := ty) rfl (fun hc => ?_) (fun hc => ?_)) <;> (try simp only [nms, reduceCtorEq] at hc) <;> (try (exfalso; omega))))) | ((with_reducible show AOps _ _ _ _ _ _); (first | refine aops_nil ?_ | refine aops_go ty_ok rfl rfl sd ?_ | refine aops_gate ty_ok rfl rfl rfl sd ?_ | refine aops_callE (ty := ty) rfl rfl rfl rfl rfl rfl rfl (c_rlfail _ 4 0) rfl ?_ | refine aops_litE ty_ok rfl rfl rfl rfl rfl rfl rfl rfl rfl rfl rfl rfl ?_ | refine aops_cutE ty_ok rfl rfl rfl rfl rfl rfl rfl rfl rfl sd rfl ?_ | ((fail_if_success (refine aops_known rfl ?_)); (refine aops_split ty_ok rfl rfl rfl rfl rfl rfl (fun hc => ⟨?_, ?_⟩) (fun hc => ⟨?_, ?_⟩)) <;> (try simp only [nms, reduceCtorEq] at hc) <;> (try (exfalso; omega)) <;> (try exact sd)))) | ((fail_if_success (with_reducible show AWp _ _ _ _ _)); (fail_if_success (with_reducible show AOps _ _ _ _ _ _)); (first | (show AWp _ _ _ _ _) | (show AOps _ _ _ _ _ _))))
        all_goals rfl
      · rw [if_neg h4]
        repeat' (first | ((with_reducible show AWp _ _ _ _ _); (first | refine awp_seq ?_ | refine awp_block ?_ | refine awp_skip ?_ | refine awp_exit ?_ | refine awp_scope ?_ | refine awp_label ?_ | refine awp_run ty_ok rfl sd ?_ | refine awp_ret ⟨_, _, rfl, rfl, ?_⟩ | refine awp_ret ⟨_, rfl, ?_⟩ | ((refine awp_cond (ty := ty) rfl (fun hc => ?_) (fun hc => ?_)) <;> (try simp only [nms, reduceCtorEq] at hc) <;> (try (exfalso; omega))))) | ((with_reducible show AOps _ _ _ _ _ _); (first | refine aops_nil ?_ | refine aops_go ty_ok rfl rfl sd ?_ | refine aops_gate ty_ok rfl rfl rfl sd ?_ | refine aops_callE (ty := ty) rfl rfl rfl rfl rfl rfl rfl (c_rlfail _ 4 0) rfl ?_ | refine aops_litE ty_ok rfl rfl rfl rfl rfl rfl rfl rfl rfl rfl rfl rfl ?_ | refine aops_cutE ty_ok rfl rfl rfl rfl rfl rfl rfl rfl rfl sd rfl ?_ | ((fail_if_success (refine aops_known rfl ?_)); (refine aops_split ty_ok rfl rfl rfl rfl rfl rfl (fun hc => ⟨?_, ?_⟩) (fun hc => ⟨?_, ?_⟩)) <;> (try simp only [nms, reduceCtorEq] at hc) <;> (try (exfalso; omega)) <;> (try exact sd)))) | ((fail_if_success (with_reducible show AWp _ _ _ _ _)); (fail_if_success (with_reducible show AOps _ _ _ _ _ _)); (first | (show AWp _ _ _ _ _) | (show AOps _ _ _ _ _ _))))
        rw [show x.toNat - 127 = i + 1 by omega, show (1 : Int) + (i : Int) = ((i + 1 : Nat) : Int) by omega]
        rfl
/-! ### Headers -/
def hdrD (x : UInt8) (n s : Nat) : Dat := .agg [clsD x, numD x, .bool (conB x), .int .i64 n, .int .i64 s]
def hdr0 : Dat := .agg [.int .i64 0, .int .i64 0, .bool false, .int .i64 0, .int .i64 0]
def hdD : Ex (UInt8 × Nat × Nat) → Dat
  | .bad c o => .tup [hdr0, errD c o]
  | .ok (x, n, s) => .tup [hdrD x n s, errD 0 0]
theorem c_readid_bad (Γ : Env) (x : UInt8) (h : x.toNat % 32 = 31) : ACalls Tryz.prog Γ 121 [.int .u8 x.toNat] (fun r => r = .d (.tup [.int .i64 0, .bool false, .int .i64 0, .int .i64 3])) := (c_readid Γ x).mono fun r hr => by
  rw [hr, idD, if_pos h]
theorem c_readid_ok (Γ : Env) (x : UInt8) (h : ¬ x.toNat % 32 = 31) : ACalls Tryz.prog Γ 121 [.int .u8 x.toNat] (fun r => r = .d (.tup [clsD x, .bool (conB x), numD x, .int .i64 0])) := (c_readid Γ x).mono fun r hr => by
  rw [hr, idD, if_neg h]
theorem c_readlen_at (Γ : Env) (b : List UInt8) (hb : b.length ≤ 1099511627776) {v : Ex (Nat × Nat)} (h : rlF b = v) : ACalls Tryz.prog Γ 122 [.sl none (bys b)] (fun r => r = .d (rlD v)) := by
  subst h
  exact c_readlen Γ b hb
theorem isReadHeader : IsFn Tryz.prog 99 Tryz.f99 := ⟨Tryz.func99, by decide, rfl⟩
set_option maxHeartbeats 4000000 in
set_option maxRecDepth 100000 in
theorem c_readhd (Γ : Env) (b : List UInt8) (hb : b.length ≤ 1099511627776) : ACalls Tryz.prog Γ 99 [.sl none (bys b)] (fun r => r = .d (hdD (hdF b))) := by
  refine acalls_of ty_ok isReadHeader rfl rfl ?_
  match b, hb with
  | [], _ =>
    repeat' (first | ((with_reducible show AWp _ _ _ _ _); (first | refine awp_seq ?_ | refine awp_block ?_ | refine awp_skip ?_ | refine awp_exit ?_ | refine awp_scope ?_ | refine awp_label ?_ | refine awp_run ty_ok rfl sd ?_ | refine awp_ret ⟨_, _, rfl, rfl, ?_⟩ | refine awp_ret ⟨_, rfl, ?_⟩ | ((refine awp_cond (ty := ty) rfl (fun hc => ?_) (fun hc => ?_)) <;> (try simp only [nms, reduceCtorEq] at hc) <;> (try (exfalso; omega))))) | ((with_reducible show AOps _ _ _ _ _ _); (first | refine aops_nil ?_ | refine aops_go ty_ok rfl rfl sd ?_ | refine aops_gate ty_ok rfl rfl rfl sd ?_ | refine aops_litE ty_ok rfl rfl rfl rfl rfl rfl rfl rfl rfl rfl rfl rfl ?_ | refine aops_cutE ty_ok rfl rfl rfl rfl rfl rfl rfl rfl rfl sd rfl ?_ | ((fail_if_success (refine aops_known rfl ?_)); (refine aops_split ty_ok rfl rfl rfl rfl rfl rfl (fun hc => ⟨?_, ?_⟩) (fun hc => ⟨?_, ?_⟩)) <;> (try simp only [nms, reduceCtorEq] at hc) <;> (try (exfalso; omega)) <;> (try exact sd)))) | ((fail_if_success (with_reducible show AWp _ _ _ _ _)); (fail_if_success (with_reducible show AOps _ _ _ _ _ _)); (first | (show AWp _ _ _ _ _) | (show AOps _ _ _ _ _ _))))
    rfl
  | x :: r, hb =>
    have h0 : ((bys (x :: r)).getD (Int.toNat 0) default).num = (x.toNat : Int) := rfl
    simp only [List.length_cons] at hb
    rw [hdF]
    by_cases h1 : x.toNat % 32 = 31
    · rw [if_pos h1]
      have hc1 := c_readid_bad (Γ.at 0) x h1
      rw [← h0] at hc1
      repeat' (first | ((with_reducible show AWp _ _ _ _ _); (first | refine awp_seq ?_ | refine awp_block ?_ | refine awp_skip ?_ | refine awp_exit ?_ | refine awp_scope ?_ | refine awp_label ?_ | refine awp_run ty_ok rfl sd ?_ | refine awp_ret ⟨_, _, rfl, rfl, ?_⟩ | refine awp_ret ⟨_, rfl, ?_⟩ | ((refine awp_cond (ty := ty) rfl (fun hc => ?_) (fun hc => ?_)) <;> (try simp only [nms, reduceCtorEq] at hc) <;> (try (exfalso; omega))))) | ((with_reducible show AOps _ _ _ _ _ _); (first | refine aops_nil ?_ | refine aops_go ty_ok rfl rfl sd ?_ | refine aops_gate ty_ok rfl rfl rfl sd ?_ | refine aops_callE (ty := ty) rfl rfl rfl rfl rfl rfl rfl (hc1) rfl ?_ | refine aops_litE ty_ok rfl rfl rfl rfl rfl rfl rfl rfl rfl rfl rfl rfl ?_ | refine aops_cutE ty_ok rfl rfl rfl rfl rfl rfl rfl rfl rfl sd rfl ?_ | ((fail_if_success (refine aops_known rfl ?_)); (refine aops_split ty_ok rfl rfl rfl rfl rfl rfl (fun hc => ⟨?_, ?_⟩) (fun hc => ⟨?_, ?_⟩)) <;> (try simp only [nms, reduceCtorEq] at hc) <;> (try (exfalso; omega)) <;> (try exact sd)))) | ((fail_if_success (with_reducible show AWp _ _ _ _ _)); (fail_if_success (with_reducible show AOps _ _ _ _ _ _)); (first | (show AWp _ _ _ _ _) | (show AOps _ _ _ _ _ _))))
      rfl
    rw [if_neg h1]
    have hc1 := c_readid_ok (Γ.at 0) x h1
    rw [← h0] at hc1
    have hcut : cutL (bys (x :: r)) (Int.toNat 1) (bys (x :: r)).length = bys r := by rw [cutL_bys, bys_len]; simp [cutB]
    have hrb : ∀ c o, rlF r = .bad c o → (c = 1 ∨ c = 4) ∧ o ≤ r.length := fun c o h => rl_bad h
    have hrk : ∀ n s, rlF r = .ok (n, s) → s ≤ 9 := fun n s h => by have := (rl_inv h).2.1; have := lenB_len n; omega
    cases hr : rlF r with
    | bad c o =>
      have hc2 := c_readlen_at (Γ.at 0) r (by omega) hr
      rw [← hcut] at hc2
      have := hrb c o hr
      repeat' (first | ((with_reducible show AWp _ _ _ _ _); (first | refine awp_seq ?_ | refine awp_block ?_ | refine awp_skip ?_ | refine awp_exit ?_ | refine awp_scope ?_ | refine awp_label ?_ | refine awp_run ty_ok rfl sd ?_ | refine awp_ret ⟨_, _, rfl, rfl, ?_⟩ | refine awp_ret ⟨_, rfl, ?_⟩ | ((refine awp_cond (ty := ty) rfl (fun hc => ?_) (fun hc => ?_)) <;> (try simp only [nms, reduceCtorEq] at hc) <;> (try (exfalso; omega))) | refine awp_anyS 3 2 ty_ok mixed rfl rfl rfl rfl rfl rfl rfl rfl rfl (by kernel_rfl) ?_)) | ((with_reducible show AOps _ _ _ _ _ _); (first | refine aops_nil ?_ | refine aops_go ty_ok rfl rfl sd ?_ | refine aops_gate ty_ok rfl rfl rfl sd ?_ | refine aops_callE (ty := ty) rfl rfl rfl rfl rfl rfl rfl (hc1) rfl ?_ | refine aops_callE (ty := ty) rfl rfl rfl rfl rfl rfl rfl (hc2) rfl ?_ | refine aops_litE ty_ok rfl rfl rfl rfl rfl rfl rfl rfl rfl rfl rfl rfl ?_ | refine aops_cutE ty_ok rfl rfl rfl rfl rfl rfl rfl rfl rfl sd rfl ?_ | ((fail_if_success (refine aops_known rfl ?_)); (refine aops_split ty_ok rfl rfl rfl rfl rfl rfl (fun hc => ⟨?_, ?_⟩) (fun hc => ⟨?_, ?_⟩)) <;> (try simp only [nms, reduceCtorEq] at hc) <;> (try (exfalso; omega)) <;> (try exact sd)))) | ((with_reducible show HeadT _ _ _ _ _ _ _ _ _ _); (first | refine head_end ?_ | refine head_goP ty_ok rfl rfl sd ?_ | refine head_gate ty_ok rfl rfl rfl sd ?_ | refine head_callE (ty := ty) rfl rfl rfl rfl rfl rfl rfl (hc1) rfl ?_ | refine head_callE (ty := ty) rfl rfl rfl rfl rfl rfl rfl (hc2) rfl ?_ | ((fail_if_success (refine head_known rfl ?_)); (refine head_split ty_ok rfl rfl rfl rfl (fun hc => ⟨?_, ?_⟩) (fun hc => ⟨?_, ?_⟩)) <;> (try simp only [nms, reduceCtorEq] at hc) <;> (try (exfalso; omega)) <;> (try exact sd)))) | ((fail_if_success (with_reducible show AWp _ _ _ _ _)); (fail_if_success (with_reducible show AOps _ _ _ _ _ _)); (fail_if_success (with_reducible show HeadT _ _ _ _ _ _ _ _ _ _)); (first | (show AWp _ _ _ _ _) | (show AOps _ _ _ _ _ _) | refine st_go rfl rfl rfl rfl rfl rfl rfl ?_)))
      rfl
    | ok p =>
      obtain ⟨n, s⟩ := p
      have hc2 := c_readlen_at (Γ.at 0) r (by omega) hr
      rw [← hcut] at hc2
      have := hrk n s hr
      repeat' (first | ((with_reducible show AWp _ _ _ _ _); (first | refine awp_seq ?_ | refine awp_block ?_ | refine awp_skip ?_ | refine awp_exit ?_ | refine awp_scope ?_ | refine awp_label ?_ | refine awp_run ty_ok rfl sd ?_ | refine awp_ret ⟨_, _, rfl, rfl, ?_⟩ | refine awp_ret ⟨_, rfl, ?_⟩ | ((refine awp_cond (ty := ty) rfl (fun hc => ?_) (fun hc => ?_)) <;> (try simp only [nms, reduceCtorEq] at hc) <;> (try (exfalso; omega))) | refine awp_anyS 3 2 ty_ok mixed rfl rfl rfl rfl rfl rfl rfl rfl rfl (by kernel_rfl) ?_)) | ((with_reducible show AOps _ _ _ _ _ _); (first | refine aops_nil ?_ | refine aops_go ty_ok rfl rfl sd ?_ | refine aops_gate ty_ok rfl rfl rfl sd ?_ | refine aops_callE (ty := ty) rfl rfl rfl rfl rfl rfl rfl (hc1) rfl ?_ | refine aops_callE (ty := ty) rfl rfl rfl rfl rfl rfl rfl (hc2) rfl ?_ | refine aops_litE ty_ok rfl rfl rfl rfl rfl rfl rfl rfl rfl rfl rfl rfl ?_ | refine aops_cutE ty_ok rfl rfl rfl rfl rfl rfl rfl rfl rfl sd rfl ?_ | ((fail_if_success (refine aops_known rfl ?_)); (refine aops_split ty_ok rfl rfl rfl rfl rfl rfl (fun hc => ⟨?_, ?_⟩) (fun hc => ⟨?_, ?_⟩)) <;> (try simp only [nms, reduceCtorEq] at hc) <;> (try (exfalso; omega)) <;> (try exact sd)))) | ((with_reducible show HeadT _ _ _ _ _ _ _ _ _ _); (first | refine head_end ?_ | refine head_goP ty_ok rfl rfl sd ?_ | refine head_gate ty_ok rfl rfl rfl sd ?_ | refine head_callE (ty := ty) rfl rfl rfl rfl rfl rfl rfl (hc1) rfl ?_ | refine head_callE (ty := ty) rfl rfl rfl rfl rfl rfl rfl (hc2) rfl ?_ | ((fail_if_success (refine head_known rfl ?_)); (refine head_split ty_ok rfl rfl rfl rfl (fun hc => ⟨?_, ?_⟩) (fun hc => ⟨?_, ?_⟩)) <;> (try simp only [nms, reduceCtorEq] at hc) <;> (try (exfalso; omega)) <;> (try exact sd)))) | ((fail_if_success (with_reducible show AWp _ _ _ _ _)); (fail_if_success (with_reducible show AOps _ _ _ _ _ _)); (fail_if_success (with_reducible show HeadT _ _ _ _ _ _ _ _ _ _)); (first | (show AWp _ _ _ _ _) | (show AOps _ _ _ _ _ _) | refine st_go rfl rfl rfl rfl rfl rfl rfl ?_)))
      rfl

/-! ### Elements -/
def elD (e : El) : Dat := .agg [clsD e.x, numD e.x, .bool (conB e.x), .int .i64 e.st, .int .i64 e.bd, .int .i64 e.en]
def el0 : Dat := .agg [.int .i64 0, .int .i64 0, .bool false, .int .i64 0, .int .i64 0, .int .i64 0]
def exD : Ex El → Dat
  | .bad c o => .tup [el0, errD c o]
  | .ok e => .tup [elD e, errD 0 0]
theorem isNext : IsFn Tryz.prog 83 Tryz.f83 := ⟨Tryz.func83, by decide, rfl⟩
set_option maxHeartbeats 4000000 in
set_option maxRecDepth 100000 in
theorem c_next (Γ : Env) (b : List UInt8) (i j : Nat) (hb : b.length ≤ 1099511627776) (hij : i ≤ j) (hj : j ≤ b.length) : ACalls Tryz.prog Γ 83 [.sl none (bys b), .int .i64 i, .int .i64 j] (fun r => r = .d (exD (nxF b i j))) := by
  refine acalls_of ty_ok isNext rfl rfl ?_
  have hl := cut_len b i j hj
  have hc1 := c_readhd (Γ.at 0) (cut b i j) (by omega)
  have hcut : cutL (bys b) (i : Int).toNat (j : Int).toNat = bys (cut b i j) := by rw [cutL_bys, Int.toNat_natCast, Int.toNat_natCast]; rfl
  rw [← hcut] at hc1
  rw [nxF]
  cases hd : hdF (cut b i j) with
  | bad c o =>
    rw [hd] at hc1
    have := hd_bad hd
    repeat' (first | ((with_reducible show AWp _ _ _ _ _); (first | refine awp_seq ?_ | refine awp_block ?_ | refine awp_skip ?_ | refine awp_exit ?_ | refine awp_scope ?_ | refine awp_label ?_ | refine awp_run ty_ok rfl sd ?_ | refine awp_ret ⟨_, _, rfl, rfl, ?_⟩ | refine awp_ret ⟨_, rfl, ?_⟩ | ((refine awp_cond (ty := ty) rfl (fun hc => ?_) (fun hc => ?_)) <;> (try simp only [nms, reduceCtorEq] at hc) <;> (try (exfalso; omega))) | refine awp_anyS 3 2 ty_ok mixed rfl rfl rfl rfl rfl rfl rfl rfl rfl (by kernel_rfl) ?_)) | ((with_reducible show AOps _ _ _ _ _ _); (first | refine aops_nil ?_ | refine aops_go ty_ok rfl rfl sd ?_ | refine aops_gate ty_ok rfl rfl rfl sd ?_ | refine aops_callE (ty := ty) rfl rfl rfl rfl rfl rfl rfl (hc1) rfl ?_ | refine aops_litE ty_ok rfl rfl rfl rfl rfl rfl rfl rfl rfl rfl rfl rfl ?_ | refine aops_cutE ty_ok rfl rfl rfl rfl rfl rfl rfl rfl rfl sd rfl ?_ | ((fail_if_success (refine aops_known rfl ?_)); (refine aops_split ty_ok rfl rfl rfl rfl rfl rfl (fun hc => ⟨?_, ?_⟩) (fun hc => ⟨?_, ?_⟩)) <;> (try simp only [nms, reduceCtorEq] at hc) <;> (try (exfalso; omega)) <;> (try exact sd)))) | ((with_reducible show HeadT _ _ _ _ _ _ _ _ _ _); (first | refine head_end ?_ | refine head_goP ty_ok rfl rfl sd ?_ | refine head_gate ty_ok rfl rfl rfl sd ?_ | refine head_callE (ty := ty) rfl rfl rfl rfl rfl rfl rfl (hc1) rfl ?_ | ((fail_if_success (refine head_known rfl ?_)); (refine head_split ty_ok rfl rfl rfl rfl (fun hc => ⟨?_, ?_⟩) (fun hc => ⟨?_, ?_⟩)) <;> (try simp only [nms, reduceCtorEq] at hc) <;> (try (exfalso; omega)) <;> (try exact sd)))) | ((fail_if_success (with_reducible show AWp _ _ _ _ _)); (fail_if_success (with_reducible show AOps _ _ _ _ _ _)); (fail_if_success (with_reducible show HeadT _ _ _ _ _ _ _ _ _ _)); (first | (show AWp _ _ _ _ _) | (show AOps _ _ _ _ _ _) | refine st_go rfl rfl rfl rfl rfl rfl rfl ?_)))
    rfl
  | ok p =>
    obtain ⟨x, n, s⟩ := p
    rw [hd] at hc1
    obtain ⟨_, g1, g2, g3⟩ := hd_inv hd
    have g4 := lenB_len5 g1
    have g5 := congrArg List.length g3
    simp only [List.length_cons, List.length_append, List.length_drop] at g5
    by_cases h : j - i - s < n
    · simp only
      rw [if_pos h]
      repeat' (first | ((with_reducible show AWp _ _ _ _ _); (first | refine awp_seq ?_ | refine awp_block ?_ | refine awp_skip ?_ | refine awp_exit ?_ | refine awp_scope ?_ | refine awp_label ?_ | refine awp_run ty_ok rfl sd ?_ | refine awp_ret ⟨_, _, rfl, rfl, ?_⟩ | refine awp_ret ⟨_, rfl, ?_⟩ | ((refine awp_cond (ty := ty) rfl (fun hc => ?_) (fun hc => ?_)) <;> (try simp only [nms, reduceCtorEq] at hc) <;> (try (exfalso; omega))) | refine awp_anyS 3 2 ty_ok mixed rfl rfl rfl rfl rfl rfl rfl rfl rfl (by kernel_rfl) ?_)) | ((with_reducible show AOps _ _ _ _ _ _); (first | refine aops_nil ?_ | refine aops_go ty_ok rfl rfl sd ?_ | refine aops_gate ty_ok rfl rfl rfl sd ?_ | refine aops_callE (ty := ty) rfl rfl rfl rfl rfl rfl rfl (hc1) rfl ?_ | refine aops_litE ty_ok rfl rfl rfl rfl rfl rfl rfl rfl rfl rfl rfl rfl ?_ | refine aops_cutE ty_ok rfl rfl rfl rfl rfl rfl rfl rfl rfl sd rfl ?_ | ((fail_if_success (refine aops_known rfl ?_)); (refine aops_split ty_ok rfl rfl rfl rfl rfl rfl (fun hc => ⟨?_, ?_⟩) (fun hc => ⟨?_, ?_⟩)) <;> (try simp only [nms, reduceCtorEq] at hc) <;> (try (exfalso; omega)) <;> (try exact sd)))) | ((with_reducible show HeadT _ _ _ _ _ _ _ _ _ _); (first | refine head_end ?_ | refine head_goP ty_ok rfl rfl sd ?_ | refine head_gate ty_ok rfl rfl rfl sd ?_ | refine head_callE (ty := ty) rfl rfl rfl rfl rfl rfl rfl (hc1) rfl ?_ | ((fail_if_success (refine head_known rfl ?_)); (refine head_split ty_ok rfl rfl rfl rfl (fun hc => ⟨?_, ?_⟩) (fun hc => ⟨?_, ?_⟩)) <;> (try simp only [nms, reduceCtorEq] at hc) <;> (try (exfalso; omega)) <;> (try exact sd)))) | ((fail_if_success (with_reducible show AWp _ _ _ _ _)); (fail_if_success (with_reducible show AOps _ _ _ _ _ _)); (fail_if_success (with_reducible show HeadT _ _ _ _ _ _ _ _ _ _)); (first | (show AWp _ _ _ _ _) | (show AOps _ _ _ _ _ _) | refine st_go rfl rfl rfl rfl rfl rfl rfl ?_)))
      rfl
    · simp only
      rw [if_neg h]
      repeat' (first | ((with_reducible show AWp _ _ _ _ _); (first | refine awp_seq ?_ | refine awp_block ?_ | refine awp_skip ?_ | refine awp_exit ?_ | refine awp_scope ?_ | refine awp_label ?_ | refine awp_run ty_ok rfl sd ?_ | refine awp_ret ⟨_, _, rfl, rfl, ?_⟩ | refine awp_ret ⟨_, rfl, ?_⟩ | ((refine awp_cond (ty := ty) rfl (fun hc => ?_) (fun hc => ?_)) <;> (try simp only [nms, reduceCtorEq] at hc) <;> (try (exfalso; omega))) | refine awp_anyS 3 2 ty_ok mixed rfl rfl rfl rfl rfl rfl rfl rfl rfl (by kernel_rfl) ?_)) | ((with_reducible show AOps _ _ _ _ _ _); (first | refine aops_nil ?_ | refine aops_go ty_ok rfl rfl sd ?_ | refine aops_gate ty_ok rfl rfl rfl sd ?_ | refine aops_callE (ty := ty) rfl rfl rfl rfl rfl rfl rfl (hc1) rfl ?_ | refine aops_litE ty_ok rfl rfl rfl rfl rfl rfl rfl rfl rfl rfl rfl rfl ?_ | refine aops_cutE ty_ok rfl rfl rfl rfl rfl rfl rfl rfl rfl sd rfl ?_ | ((fail_if_success (refine aops_known rfl ?_)); (refine aops_split ty_ok rfl rfl rfl rfl rfl rfl (fun hc => ⟨?_, ?_⟩) (fun hc => ⟨?_, ?_⟩)) <;> (try simp only [nms, reduceCtorEq] at hc) <;> (try (exfalso; omega)) <;> (try exact sd)))) | ((with_reducible show HeadT _ _ _ _ _ _ _ _ _ _); (first | refine head_end ?_ | refine head_goP ty_ok rfl rfl sd ?_ | refine head_gate ty_ok rfl rfl rfl sd ?_ | refine head_callE (ty := ty) rfl rfl rfl rfl rfl rfl rfl (hc1) rfl ?_ | ((fail_if_success (refine head_known rfl ?_)); (refine head_split ty_ok rfl rfl rfl rfl (fun hc => ⟨?_, ?_⟩) (fun hc => ⟨?_, ?_⟩)) <;> (try simp only [nms, reduceCtorEq] at hc) <;> (try (exfalso; omega)) <;> (try exact sd)))) | ((fail_if_success (with_reducible show AWp _ _ _ _ _)); (fail_if_success (with_reducible show AOps _ _ _ _ _ _)); (fail_if_success (with_reducible show HeadT _ _ _ _ _ _ _ _ _ _)); (first | (show AWp _ _ _ _ _) | (show AOps _ _ _ _ _ _) | refine st_go rfl rfl rfl rfl rfl rfl rfl ?_)))
      rfl
theorem c_next_at (Γ : Env) (b : List UInt8) (i j : Nat) (hb : b.length ≤ 1099511627776) (hij : i ≤ j) (hj : j ≤ b.length) {v : Ex El} (h : nxF b i j = v) : ACalls Tryz.prog Γ 83 [.sl none (bys b), .int .i64 i, .int .i64 j] (fun r => r = .d (exD v)) := by
  subst h
  exact c_next Γ b i j hb hij hj
theorem isOne : IsFn Tryz.prog 61 Tryz.f61 := ⟨Tryz.func61, by decide, rfl⟩
set_option maxHeartbeats 4000000 in
set_option maxRecDepth 100000 in
theorem c_one (Γ : Env) (b : List UInt8) (hb : b.length ≤ 1099511627776) : ACalls Tryz.prog Γ 61 [.sl none (bys b)] (fun r => r = .d (exD (onF b))) := by
  refine acalls_of ty_ok isOne rfl rfl ?_
  rw [onF]
  cases hn : nxF b 0 b.length with
  | bad c o =>
    have hc1 := c_next_at (Γ.at 0) b 0 b.length hb (Nat.zero_le _) (Nat.le_refl _) hn
    rw [← bys_len b] at hc1
    have := nx_bad (Nat.zero_le _) (Nat.le_refl _) hn
    repeat' (first | ((with_reducible show AWp _ _ _ _ _); (first | refine awp_seq ?_ | refine awp_block ?_ | refine awp_skip ?_ | refine awp_exit ?_ | refine awp_scope ?_ | refine awp_label ?_ | refine awp_run ty_ok rfl sd ?_ | refine awp_ret ⟨_, _, rfl, rfl, ?_⟩ | refine awp_ret ⟨_, rfl, ?_⟩ | ((refine awp_cond (ty := ty) rfl (fun hc => ?_) (fun hc => ?_)) <;> (try simp only [nms, reduceCtorEq] at hc) <;> (try (exfalso; omega))) | refine awp_anyS 3 2 ty_ok mixed rfl rfl rfl rfl rfl rfl rfl rfl rfl (by kernel_rfl) ?_ | refine awp_anyS 5 4 ty_ok mixed rfl rfl rfl rfl rfl rfl rfl rfl rfl (by kernel_rfl) ?_)) | ((with_reducible show AOps _ _ _ _ _ _); (first | refine aops_nil ?_ | refine aops_go ty_ok rfl rfl sd ?_ | refine aops_gate ty_ok rfl rfl rfl sd ?_ | refine aops_callE (ty := ty) rfl rfl rfl rfl rfl rfl rfl (hc1) rfl ?_ | refine aops_litE ty_ok rfl rfl rfl rfl rfl rfl rfl rfl rfl rfl rfl rfl ?_ | refine aops_cutE ty_ok rfl rfl rfl rfl rfl rfl rfl rfl rfl sd rfl ?_ | ((fail_if_success (refine aops_known rfl ?_)); (refine aops_split ty_ok rfl rfl rfl rfl rfl rfl (fun hc => ⟨?_, ?_⟩) (fun hc => ⟨?_, ?_⟩)) <;> (try simp only [nms, reduceCtorEq] at hc) <;> (try (exfalso; omega)) <;> (try exact sd)))) | ((with_reducible show HeadT _ _ _ _ _ _ _ _ _ _); (first | refine head_end ?_ | refine head_goP ty_ok rfl rfl sd ?_ | refine head_gate ty_ok rfl rfl rfl sd ?_ | refine head_callE (ty := ty) rfl rfl rfl rfl rfl rfl rfl (hc1) rfl ?_ | ((fail_if_success (refine head_known rfl ?_)); (refine head_split ty_ok rfl rfl rfl rfl (fun hc => ⟨?_, ?_⟩) (fun hc => ⟨?_, ?_⟩)) <;> (try simp only [nms, reduceCtorEq] at hc) <;> (try (exfalso; omega)) <;> (try exact sd)))) | ((fail_if_success (with_reducible show AWp _ _ _ _ _)); (fail_if_success (with_reducible show AOps _ _ _ _ _ _)); (fail_if_success (with_reducible show HeadT _ _ _ _ _ _ _ _ _ _)); (first | (show AWp _ _ _ _ _) | (show AOps _ _ _ _ _ _) | refine st_go rfl rfl rfl rfl rfl rfl rfl ?_)))
    rfl
  | ok e =>
    have hc1 := c_next_at (Γ.at 0) b 0 b.length hb (Nat.zero_le _) (Nat.le_refl _) hn
    rw [← bys_len b] at hc1
    simp only
    by_cases h : e.en < b.length
    · rw [if_pos h]
      repeat' (first | ((with_reducible show AWp _ _ _ _ _); (first | refine awp_seq ?_ | refine awp_block ?_ | refine awp_skip ?_ | refine awp_exit ?_ | refine awp_scope ?_ | refine awp_label ?_ | refine awp_run ty_ok rfl sd ?_ | refine awp_ret ⟨_, _, rfl, rfl, ?_⟩ | refine awp_ret ⟨_, rfl, ?_⟩ | ((refine awp_cond (ty := ty) rfl (fun hc => ?_) (fun hc => ?_)) <;> (try simp only [nms, reduceCtorEq] at hc) <;> (try (exfalso; omega))) | refine awp_anyS 3 2 ty_ok mixed rfl rfl rfl rfl rfl rfl rfl rfl rfl (by kernel_rfl) ?_ | refine awp_anyS 5 4 ty_ok mixed rfl rfl rfl rfl rfl rfl rfl rfl rfl (by kernel_rfl) ?_)) | ((with_reducible show AOps _ _ _ _ _ _); (first | refine aops_nil ?_ | refine aops_go ty_ok rfl rfl sd ?_ | refine aops_gate ty_ok rfl rfl rfl sd ?_ | refine aops_callE (ty := ty) rfl rfl rfl rfl rfl rfl rfl (hc1) rfl ?_ | refine aops_litE ty_ok rfl rfl rfl rfl rfl rfl rfl rfl rfl rfl rfl rfl ?_ | refine aops_cutE ty_ok rfl rfl rfl rfl rfl rfl rfl rfl rfl sd rfl ?_ | ((fail_if_success (refine aops_known rfl ?_)); (refine aops_split ty_ok rfl rfl rfl rfl rfl rfl (fun hc => ⟨?_, ?_⟩) (fun hc => ⟨?_, ?_⟩)) <;> (try simp only [nms, reduceCtorEq] at hc) <;> (try (exfalso; omega)) <;> (try exact sd)))) | ((with_reducible show HeadT _ _ _ _ _ _ _ _ _ _); (first | refine head_end ?_ | refine head_goP ty_ok rfl rfl sd ?_ | refine head_gate ty_ok rfl rfl rfl sd ?_ | refine head_callE (ty := ty) rfl rfl rfl rfl rfl rfl rfl (hc1) rfl ?_ | ((fail_if_success (refine head_known rfl ?_)); (refine head_split ty_ok rfl rfl rfl rfl (fun hc => ⟨?_, ?_⟩) (fun hc => ⟨?_, ?_⟩)) <;> (try simp only [nms, reduceCtorEq] at hc) <;> (try (exfalso; omega)) <;> (try exact sd)))) | ((fail_if_success (with_reducible show AWp _ _ _ _ _)); (fail_if_success (with_reducible show AOps _ _ _ _ _ _)); (fail_if_success (with_reducible show HeadT _ _ _ _ _ _ _ _ _ _)); (first | (show AWp _ _ _ _ _) | (show AOps _ _ _ _ _ _) | refine st_go rfl rfl rfl rfl rfl rfl rfl ?_)))
      rfl
    · rw [if_neg h]
      repeat' (first | ((with_reducible show AWp _ _ _ _ _); (first | refine awp_seq ?_ | refine awp_block ?_ | refine awp_skip ?_ | refine awp_exit ?_ | refine awp_scope ?_ | refine awp_label ?_ | refine awp_run ty_ok rfl sd ?_ | refine awp_ret ⟨_, _, rfl, rfl, ?_⟩ | refine awp_ret ⟨_, rfl, ?_⟩ | ((refine awp_cond (ty := ty) rfl (fun hc => ?_) (fun hc => ?_)) <;> (try simp only [nms, reduceCtorEq] at hc) <;> (try (exfalso; omega))) | refine awp_anyS 3 2 ty_ok mixed rfl rfl rfl rfl rfl rfl rfl rfl rfl (by kernel_rfl) ?_ | refine awp_anyS 5 4 ty_ok mixed rfl rfl rfl rfl rfl rfl rfl rfl rfl (by kernel_rfl) ?_)) | ((with_reducible show AOps _ _ _ _ _ _); (first | refine aops_nil ?_ | refine aops_go ty_ok rfl rfl sd ?_ | refine aops_gate ty_ok rfl rfl rfl sd ?_ | refine aops_callE (ty := ty) rfl rfl rfl rfl rfl rfl rfl (hc1) rfl ?_ | refine aops_litE ty_ok rfl rfl rfl rfl rfl rfl rfl rfl rfl rfl rfl rfl ?_ | refine aops_cutE ty_ok rfl rfl rfl rfl rfl rfl rfl rfl rfl sd rfl ?_ | ((fail_if_success (refine aops_known rfl ?_)); (refine aops_split ty_ok rfl rfl rfl rfl rfl rfl (fun hc => ⟨?_, ?_⟩) (fun hc => ⟨?_, ?_⟩)) <;> (try simp only [nms, reduceCtorEq] at hc) <;> (try (exfalso; omega)) <;> (try exact sd)))) | ((with_reducible show HeadT _ _ _ _ _ _ _ _ _ _); (first | refine head_end ?_ | refine head_goP ty_ok rfl rfl sd ?_ | refine head_gate ty_ok rfl rfl rfl sd ?_ | refine head_callE (ty := ty) rfl rfl rfl rfl rfl rfl rfl (hc1) rfl ?_ | ((fail_if_success (refine head_known rfl ?_)); (refine head_split ty_ok rfl rfl rfl rfl (fun hc => ⟨?_, ?_⟩) (fun hc => ⟨?_, ?_⟩)) <;> (try simp only [nms, reduceCtorEq] at hc) <;> (try (exfalso; omega)) <;> (try exact sd)))) | ((fail_if_success (with_reducible show AWp _ _ _ _ _)); (fail_if_success (with_reducible show AOps _ _ _ _ _ _)); (fail_if_success (with_reducible show HeadT _ _ _ _ _ _ _ _ _ _)); (first | (show AWp _ _ _ _ _) | (show AOps _ _ _ _ _ _) | refine st_go rfl rfl rfl rfl rfl rfl rfl ?_)))
      rfl
theorem c_one_at (Γ : Env) (b : List UInt8) (hb : b.length ≤ 1099511627776) {v : Ex El} (h : onF b = v) : ACalls Tryz.prog Γ 61 [.sl none (bys b)] (fun r => r = .d (exD v)) := by
  subst h
  exact c_one Γ b hb
theorem isB_iff {x : UInt8} {cls num : Nat} {con : Bool} : isB x cls con num = true ↔ x.toNat / 64 = cls ∧ conB x = con ∧ x.toNat % 32 = num := by
  unfold isB conB
  rw [decide_eq_true_eq]
  cases con with
  | true => simp
  | false =>
    simp only [decide_eq_false_iff_not, Bool.false_eq_true, if_false]
    constructor
    · rintro ⟨h1, h2, h3⟩; exact ⟨h1, by omega, h3⟩
    · rintro ⟨h1, h2, h3⟩; exact ⟨h1, by omega, h3⟩
theorem isIs : IsFn Tryz.prog 40 Tryz.f40 := ⟨Tryz.func40, by decide, rfl⟩
set_option maxHeartbeats 4000000 in
theorem c_is (Γ : Env) (e : El) (cls num : Nat) (con : Bool) : ACalls Tryz.prog Γ 40 [elD e, .int .i64 cls, .bool con, .int .i64 num] (fun r => r = .d (.bool (isB e.x cls con num))) := by
  refine acalls_of ty_ok isIs rfl rfl ?_
  repeat' (first | ((with_reducible show AWp _ _ _ _ _); (first | refine awp_seq ?_ | refine awp_block ?_ | refine awp_skip ?_ | refine awp_exit ?_ | refine awp_scope ?_ | refine awp_label ?_ | refine awp_run ty_ok rfl sd ?_ | refine awp_ret ⟨_, _, rfl, rfl, ?_⟩ | refine awp_ret ⟨_, rfl, ?_⟩ | ((refine awp_cond (ty := ty) rfl (fun hc => ?_) (fun hc => ?_)) <;> (try simp only [nms, reduceCtorEq] at hc) <;> (try (exfalso; omega))))) | ((with_reducible show AOps _ _ _ _ _ _); (first | refine aops_nil ?_ | refine aops_go ty_ok rfl rfl sd ?_ | refine aops_gate ty_ok rfl rfl rfl sd ?_ | refine aops_litE ty_ok rfl rfl rfl rfl rfl rfl rfl rfl rfl rfl rfl rfl ?_ | refine aops_cutE ty_ok rfl rfl rfl rfl rfl rfl rfl rfl rfl sd rfl ?_ | ((fail_if_success (refine aops_known rfl ?_)); (refine aops_split ty_ok rfl rfl rfl rfl rfl rfl (fun hc => ⟨?_, ?_⟩) (fun hc => ⟨?_, ?_⟩)) <;> (try simp only [nms, reduceCtorEq] at hc) <;> (try (exfalso; omega)) <;> (try exact sd)))) | ((fail_if_success (with_reducible show AWp _ _ _ _ _)); (fail_if_success (with_reducible show AOps _ _ _ _ _ _)); (first | (show AWp _ _ _ _ _) | (show AOps _ _ _ _ _ _))))
  all_goals refine congrArg (fun b => Res.d (Dat.bool b)) ?_
  · rw [Bool.eq_iff_iff, isB_iff, beq_iff_eq]
    exact ⟨fun h => ⟨by omega, hc, by omega⟩, fun ⟨_, _, h⟩ => by omega⟩
  · symm
    rw [Bool.eq_false_iff, ne_eq, isB_iff]
    exact fun ⟨_, h, _⟩ => hc h
  · symm
    rw [Bool.eq_false_iff, ne_eq, isB_iff]
    exact fun ⟨h, _, _⟩ => hc (by omega)
theorem c_is_at (Γ : Env) (e : El) (cls num : Nat) (con : Bool) {v : Bool} (h : isB e.x cls con num = v) : ACalls Tryz.prog Γ 40 [elD e, .int .i64 cls, .bool con, .int .i64 num] (fun r => r = .d (.bool v)) := by
  subst h
  exact c_is Γ e cls num con
end Go.Proofs.YtdihjpmdmfmbiaaGreatDoor

/- The abstract machine, twenty-sixth part: a slice of one struct; arrays. No program. -/
namespace Go.Am
open Go.RowKit
set_option linter.unusedSimpArgs false
set_option linter.unusedVariables false
section
variable {P : Program} {Γ : Env} {Q : Exit → St → Prop} {σ : St} {ty : TypeId → Option TI}
theorem run_lit1 {t e : TypeId} {v z : Value} {j : TypeInfo} (hu : P.underlying t = some (.slice e)) (hie : P.info? e = some j) (hz : j.zero = some z) (hs : v.cells.size = j.size) (h0 : 0 < j.size) (hm : j.size ≤ 16777216) (w : World) :
    (Instr.buildSlice t 1 #[(0, v)]).run P w = .ok (.slice (some ⟨w.heap.size, 0, none⟩) 1 1) (w.alloc (.cells (v.cells.zipIdx.foldl (fun (cs : Array Value) (x : Value × Nat) => cs.setIfInBounds (0 + x.2) x.1) ((Array.range (1 * j.size)).map (z.cells[· % z.cells.size]!))) e)) := by
  have h1 : ¬ 1 * j.size > 2 ^ 24 := by omega
  have h2 : ¬ 1 * j.size = 0 := by omega
  have hf : Instr.fill (fun i => some (i * j.size, j.size)) ((Array.range (1 * j.size)).map (z.cells[· % z.cells.size]!)) [(0, v)] = some (v.cells.zipIdx.foldl (fun (cs : Array Value) (x : Value × Nat) => cs.setIfInBounds (0 + x.2) x.1) ((Array.range (1 * j.size)).map (z.cells[· % z.cells.size]!))) := by
    have h3 : ((Array.range (1 * j.size)).map (z.cells[· % z.cells.size]!)).size = j.size := by simp
    simp only [Instr.fill, Nat.zero_mul, hs, Nat.zero_add, h3]
    rw [if_neg (by simp)]
  have h4 : ¬ 16777216 < j.size := by omega
  have h5 : ¬ j.size = 0 := by omega
  simp [Instr.buildSlice, run_underlying hu, sizeOf, typeInfo, zeroValue, hie, hz, h4, h5, newRow] at hf ⊢
  simp [hf]
theorem aops_litA (hT : TyOk P ty) {ops rest : List Oper} {o : Oper} {t e : TypeId} {x : Operand} {ti ei : TI} {y : AV} {ds : List Dat} {sz nx : Nat} {tm : List (Nat × AV)} {ob : List (Nat × AO)} {sz' nx' : Nat} {tm' : List (Nat × AV)} {ob' : List (Nat × AO)} (ho : o.op = .buildSlice t 1 #[(0, x)]) (ht : ty t = some ti) (hde : ti.desc = .slice e) (he : ty e = some ei) (hek : ei.agg = true)
    (hx0 : σ.ev ty e x = some y) (hf : frzAN σ y = ⟨sz, tm, ob, nx⟩) (hw : wantedA ops ⟨sz, tm, ob, nx⟩ o = some true) (hd : dstOk ⟨sz, tm, ob, nx⟩ o.dst = true) (hx : (⟨sz, tm, ob, nx⟩ : St).ev ty e x = some y) (hp : datOf ⟨sz, tm, ob, nx⟩ y = some (.agg ds)) (hl : Nat.beq ds.length ei.size = true) (h1 : ds.all (·.one) = true) (h0 : Nat.ble 1 ei.size = true) (hN : Nat.ble ei.size 16777216 = true)
    (hr : addPut ⟨sz, tm, ob, nx⟩ none (.row (some ei.size) e [.agg ds]) o.dst .ref = ⟨sz', tm', ob', nx'⟩) (k : AOps P Γ ops Q rest ⟨sz', tm', ob', nx'⟩) : AOps P Γ ops Q (o :: rest) σ := by
  refine aops_freeze [y] ?_
  have hfe : frzAll σ [y] = ⟨sz, tm, ob, nx⟩ := by
    rw [frzAll, frzAll, ← frzAN_eq]
    exact hf
  rw [hfe]
  have hl' := Nat.eq_of_beq_eq_true hl
  have h0' := Nat.le_of_ble_eq_true h0
  have hN' := Nat.le_of_ble_eq_true hN
  have h1' : ∀ z ∈ ds, z.one = true := List.all_eq_true.1 h1
  refine aops_step hw fun C0 a C K R b ev m hk => ?_
  have hB := (b.evo ev).B
  obtain ⟨j, hj, hjs, _, hjz⟩ := hT.info _ _ he
  obtain ⟨hz1, hz2⟩ := hT.zsize _ _ he
  have hu := hT.und _ _ ht
  rw [hde] at hu
  have hrd := datOf_sound m hp (ev_sound m hx)
  obtain ⟨v, hv⟩ : ∃ v, v = a.eval x := ⟨_, rfl⟩
  rw [← hv] at hrd
  cases hrd with
  | agg _ vs hvl _ hvr =>
    have hvs : (Value.agg vs).cells.size = j.size := by
      show vs.size = _
      rw [hvl, hl', hjs]
    have hzr := hT.zrep _ _ he
    have hzo := hT.zone _ _ he
    have hinit : CsRep C (ei.zd.map .d) ((Array.range (1 * j.size)).map (ei.zero.cells[· % ei.zero.cells.size]!)) := by
      refine ⟨by simp [hjs, hz2], ?_, ?_⟩
      · intro y hy
        obtain ⟨q, hq, rfl⟩ := List.mem_map.1 hy
        exact hzo q hq
      · intro i y hy
        rw [List.getElem?_map] at hy
        obtain ⟨q, hq, rfl⟩ := Option.map_eq_some_iff.1 hy
        have hil : i < ei.size := by rw [← hz2]; exact (List.getElem?_eq_some_iff.1 hq).1
        have e1 : ((Array.range (1 * j.size)).map (ei.zero.cells[· % ei.zero.cells.size]!)).getD i undef = ei.zero.cells.getD i undef := by
          have h2 : i < ei.zero.cells.size := by rw [hz1]; exact hil
          simp [hjs, hil, Nat.mod_eq_of_lt h2, h2]
        rw [e1]
        exact .d (hzr C.w C.pr i q hq)
    have hset := setAll_sound (c := C) 0 (ds.map .d) vs.toList 0 _ _ hinit (by simp [hvl]) (by
      intro y hy
      obtain ⟨q, hq, rfl⟩ := List.mem_map.1 hy
      exact h1' q hq) (by
      intro i y hy
      rw [List.getElem?_map] at hy
      obtain ⟨q, hq, rfl⟩ := Option.map_eq_some_iff.1 hy
      have := hvr i q hq
      simpa using Rep.d (c := C) this)
    obtain ⟨cs, hcs⟩ : ∃ cs, cs = (Value.agg vs).cells.zipIdx.foldl (fun (cs : Array Value) (x : Value × Nat) => cs.setIfInBounds (0 + x.2) x.1) ((Array.range (1 * j.size)).map (ei.zero.cells[· % ei.zero.cells.size]!)) := ⟨_, rfl⟩
    have hset' : CsRep C (setAll (ei.zd.map .d) 0 (ds.map .d)) cs := by
      rw [hcs, ← Array.foldl_toList, Array.toList_zipIdx]
      exact hset
    have hrun : (execOp a.eval o).run P C.w = .ok (.value (.slice (some ⟨C.w.heap.size, 0, none⟩) 1 1)) (C.w.alloc (.cells cs e)) := by
      unfold execOp
      simp only [ho]
      refine run_value ?_
      have := run_lit1 (v := .agg vs) hu hj hjz hvs (by rw [hjs]; omega) (by rw [hjs]; omega) C.w
      rw [← hcs] at this
      have e2 : (#[(0, x)] : Array (Nat × Operand)).map (fun (i, x) => (i, a.eval x)) = #[(0, Value.agg vs)] := by simp [← hv]
      rw [e2]
      exact this
    have hcsz : cs.size = ei.size := by
      rw [hset'.1, setAll_length, List.length_map, hz2]
    have m' := m.new hB (.cells cs e) (.slice (some ⟨C.w.heap.size, 0, none⟩) 1 1) rfl (.row (some ei.size) e [.agg ds]) (by
      have := new_row (C := C) m.fresh hB (ek := some ei.size) (e := e) (xs := [.agg ds]) (vs := cs) 1 (by simp) (by simp [maxLen]) (by simp [hcsz, esz]) (by
        intro k d hk
        match k, hk with
        | 0, hk =>
          simp only [List.getElem?_cons_zero, Option.some.injEq] at hk
          subst hk
          refine ⟨⟨ds, rfl, hl', h1'⟩, fun i y hy => ?_⟩
          have hil : i < ds.length := (List.getElem?_eq_some_iff.1 hy).1
          have hlt : i < (setAll (ei.zd.map AV.d) 0 (ds.map .d)).length := by rw [setAll_length, List.length_map, hz2, ← hl']; exact hil
          have hget := List.getElem?_eq_getElem hlt
          rcases setAll_get (by simp [hz2, hl']) hget with ⟨h, _⟩ | ⟨_, _, h⟩ | ⟨h, _⟩
          · omega
          · rw [Nat.sub_zero, List.getElem?_map] at h
            have hy' : ds[i]? = some y := hy
            rw [hy'] at h
            simp only [Option.map_some, Option.some.injEq] at h
            have hrep := hset'.2.2 i _ hget
            rw [← h] at hrep
            refine ⟨cs.getD i undef, ?_, ?_⟩
            · have : i < cs.size := by rw [hcsz, ← hl']; exact hil
              simp [this]
            · cases hrep with
              | d hh => exact hh
          · simp at h
            omega)
      exact this)
    rw [addPut_eq] at hr
    rw [← hr] at k
    refine upon_value hrun (hk _ (C.new _ _ _) _ (m'.put (v := .slice (some ⟨C.w.heap.size, 0, none⟩) 1 1) ?_ (dstOk_spec hd)) (ev.trans (Ct.new_evo m.fresh hB _ _)) k)
    exact .ref _ (by simp [Ct.new]) _ (by simp [Ct.new]) rfl

/-! ### Arrays -/
def partsA (σ : St) (ty : TypeId → Option TI) (e : TypeId) : Nat → List (Nat × Operand) → Option (List AV)
  | _, [] => some []
  | k, (i, x) :: r => match Nat.beq i k with
    | true => match σ.ev ty e x with
      | some y => match y.one, partsA σ ty e (k + 1) r with
        | true, some l => some (y :: l)
        | _, _ => none
      | none => none
    | false => none
theorem partsA_sound {a : Act} {C : Ct} (m : Models σ a C) {e : TypeId} : ∀ {l : List (Nat × Operand)} {k : Nat} {ys : List AV}, partsA σ ty e k l = some ys → ys.length = l.length ∧ (∀ y ∈ ys, y.one = true) ∧
    (∀ (j : Nat) (p : Nat × Operand), l[j]? = some p → p.1 = k + j) ∧ ∀ (j : Nat) (p : Nat × Operand) (y : AV), l[j]? = some p → ys[j]? = some y → Rep C y (a.eval p.2)
  | [], k, ys, h => by
    cases h
    simp
  | (i, x) :: r, k, ys, h => by
    rw [partsA] at h
    split at h
    · rename_i hik
      split at h
      · rename_i y hy
        split at h
        · rename_i l hone hl
          cases h
          obtain ⟨h1, h2, h3, h4⟩ := partsA_sound m hl
          refine ⟨by simp [h1], ?_, ?_, ?_⟩
          · intro z hz
            rcases List.mem_cons.1 hz with rfl | hz
            · exact hone
            · exact h2 z hz
          · intro j p hj
            cases j with
            | zero =>
              simp only [List.getElem?_cons_zero, Option.some.injEq] at hj
              subst hj
              exact Nat.eq_of_beq_eq_true hik
            | succ j =>
              have := h3 j p (by simpa using hj)
              omega
          · intro j p z hj hz
            cases j with
            | zero =>
              simp only [List.getElem?_cons_zero, Option.some.injEq] at hj hz
              subst hj; subst hz
              exact ev_sound m hy
            | succ j => exact h4 j p z (by simpa using hj) (by simpa using hz)
        · cases h
      · cases h
    · cases h
/-- An array literal, each element of it given, each one cell. -/
theorem aops_buildArr (hT : TyOk P ty) {ops rest : List Oper} {o : Oper} {t e : TypeId} {n : Nat} {parts : Array (Nat × Operand)} {ti ei : TI} {ys : List AV} {sz nx : Nat} {tm : List (Nat × AV)} {ob : List (Nat × AO)} (hw : wantedA ops σ o = some true) (hd : dstOk σ o.dst = true) (ho : o.op = .build t parts) (ht : ty t = some ti) (hde : ti.desc = .array n e) (he : ty e = some ei) (hek : ei.agg = false)
    (hp : partsA σ ty e 0 parts.toList = some ys) (hn : Nat.beq ys.length ti.size = true) (hr : put' σ o.dst (.agg ys) = ⟨sz, tm, ob, nx⟩) (k : AOps P Γ ops Q rest ⟨sz, tm, ob, nx⟩) : AOps P Γ ops Q (o :: rest) σ := by
  refine aops_step hw fun C0 a C K R b ev m hk => ?_
  obtain ⟨j, hj, hjs, _, hjz⟩ := hT.info _ _ ht
  obtain ⟨je, hje, hjes, _, _⟩ := hT.info _ _ he
  obtain ⟨hz1, hz2⟩ := hT.zsize _ _ ht
  have h1s := hT.one _ _ he hek
  have hu := hT.und _ _ ht
  rw [hde] at hu
  have hn' := Nat.eq_of_beq_eq_true hn
  obtain ⟨i1, i2, i3, i4⟩ := partsA_sound m hp
  obtain ⟨L, hL⟩ : ∃ L, L = parts.toList.map fun (i, x) => (i, a.eval x) := ⟨_, rfl⟩
  have hget : ∀ (j : Nat) (q : Nat × Value), L[j]? = some q → ∃ p, parts.toList[j]? = some p ∧ q = (p.1, a.eval p.2) := by
    intro j q hq
    rw [hL, List.getElem?_map] at hq
    obtain ⟨p, hp, rfl⟩ := Option.map_eq_some_iff.1 hq
    exact ⟨p, hp, rfl⟩
  have hone : ∀ (j : Nat) (q : Nat × Value), L[j]? = some q → q.1 = 0 + j ∧ q.2.cells = #[q.2] := by
    intro j q hq
    obtain ⟨p, hp1, rfl⟩ := hget j q hq
    refine ⟨i3 j p hp1, ?_⟩
    have hjl : j < ys.length := by rw [i1]; exact (List.getElem?_eq_some_iff.1 hp1).1
    have hr := i4 j p ys[j] hp1 (List.getElem?_eq_getElem hjl)
    exact one_cells (hr.oneCell (i2 _ (List.getElem_mem hjl)))
  have hLl : L.length = ys.length := by rw [hL, List.length_map, i1]
  obtain ⟨cs, f1, f2, _, f4⟩ := fill_lit L 0 ti.zero.cells hone (by rw [hLl, hz1, hn']; omega)
  have hpl : (parts.map fun (i, x) => (i, a.eval x)).toList = L := by rw [hL]; simp
  have hrun : (execOp a.eval o).run P C.w = .ok (.value (.agg cs)) C.w := by
    unfold execOp
    simp only [ho]
    refine run_value ?_
    unfold Instr.build
    simp only [Nat.mul_one] at f1
    have hz0 : (zeroValue t).run P C.w = .ok ti.zero C.w := by simp [zeroValue, typeInfo, hj, hjz]
    have hse : (sizeOf e).run P C.w = .ok 1 C.w := by simp [sizeOf, typeInfo, hje, hjes, h1s]
    simp only [Sem.run_bind, hz0, Result.andThen_ok, run_underlying hu, hse, Nat.mul_one]
    have hpl' : (Array.map (fun x => (x.fst, a.eval x.snd)) parts).toList = L := hpl
    rw [hpl', f1]
    rfl
  refine upon_value hrun (hk _ C _ (m.put (x := .agg ys) ?_ (dstOk_spec hd)) ev (by rw [← put'_eq, hr]; exact k))
  refine .agg ys cs (by rw [f2, hz1, hn']) i2 (fun j y hj => ?_)
  have hjl : j < parts.toList.length := by rw [← i1]; exact (List.getElem?_eq_some_iff.1 hj).1
  have hpj := List.getElem?_eq_getElem hjl
  have h5 := f4 j (parts.toList[j].1, a.eval parts.toList[j].2) (by rw [hL, List.getElem?_map, hpj]; rfl)
  have h6 := i4 j _ y hpj hj
  rw [Nat.zero_add] at h5
  have : cs.getD j undef = a.eval parts.toList[j].2 := by simp [h5]
  rw [this]
  exact h6
/-- The address of an element of an array that lies in a box. -/
theorem aops_indexArr (hT : TyOk P ty) {ops rest : List Oper} {o : Oper} {t e : TypeId} {n : Nat} {x z : Operand} {ti ei : TI} {i off : Nat} {kq : IntKind} {q : Int} {sz nx : Nat} {tm : List (Nat × AV)} {ob : List (Nat × AO)} (hw : wantedA ops σ o = some true) (hd : dstOk σ o.dst = true) (ho : o.op = .indexAddr t x z) (ht : ty t = some ti) (hde : ti.desc = .array n e) (he : ty e = some ei) (h1 : Nat.beq ei.size 1 = true)
    (hx : σ.ev ty t x = some (.ptr i off)) (hz : σ.ev ty 0 z = some (.d (.int kq q))) (hr : put' σ o.dst (.ptr i (off + q.toNat)) = ⟨sz, tm, ob, nx⟩) (hq : 0 ≤ q ∧ q < n) (k : AOps P Γ ops Q rest ⟨sz, tm, ob, nx⟩) : AOps P Γ ops Q (o :: rest) σ := by
  refine aops_step hw fun C0 a C K R b ev m hk => ?_
  have hu := hT.und _ _ ht
  rw [hde] at hu
  have h1' := Nat.eq_of_beq_eq_true h1
  have hxr := ev_sound m hx
  have hzr := Rep.int_inv (ev_sound m hz)
  obtain ⟨v, hv⟩ : ∃ v, v = a.eval x := ⟨_, rfl⟩
  rw [← hv] at hxr
  cases hxr with
  | ptr _ _ g hi hg =>
    have hrun : (execOp a.eval o).run P C.w = .ok (.value (.pointer (some ⟨g, off + q.toNat, none⟩))) C.w := by
      unfold execOp
      simp only [ho]
      refine run_value ?_
      rw [← hv, hzr]
      have hs := hT.run_size he C.w
      simp [Instr.indexAt, run_underlying hu, asIntOf, Instr.sureAddr, hq.1, hq.2, hs, h1', Addr.add_lit]
    exact upon_value hrun (hk _ C _ (m.put (x := .ptr i (off + q.toNat)) (.ptr i _ g hi hg) (dstOk_spec hd)) ev (by rw [← put'_eq, hr]; exact k))
end
end Go.Am

/- Elements in a row, and in a constructed element: List and Parts of package element. Walked by the abstract machine. -/
namespace Go.Proofs.YtdihjpmdmfmbiaaGreatDoor
open Go.Am
set_option linter.unusedSimpArgs false
set_option linter.unusedVariables false
-- withAmZ

def els (l : List El) : List Dat := l.map elD
theorem els_len (l : List El) : (els l).length = l.length := by simp [els]
theorem els_app (a b : List El) : els (a ++ b) = els a ++ els b := by simp [els]
def preX (acc : List El) : Ex (List El) → Ex (List El)
  | .bad c o => .bad c o
  | .ok l => .ok (acc ++ l)
def elsR : Ex (List El) → Res
  | .bad c o => .d (.tup [.sl (some 6) [], errD c o])
  | .ok l => .ownT (some 6) 66 (els l) [errD 0 0]
theorem isEList : IsFn Tryz.prog 62 Tryz.f62 := ⟨Tryz.func62, by decide, rfl⟩
set_option maxHeartbeats 4000000 in
set_option maxRecDepth 100000 in
theorem c_elist (Γ : Env) (b : List UInt8) (i j : Nat) (hb : b.length ≤ 1099511627) (hij : i ≤ j) (hj : j ≤ b.length) : ACalls Tryz.prog Γ 62 [.sl none (bys b), .int .i64 i, .int .i64 j] (fun r => r = elsR (lsF b i j)) := by
  refine acalls_of ty_ok isEList rfl rfl ?_
  repeat' (first | ((with_reducible show AWp _ _ _ _ _); (first | refine awp_seq ?_ | refine awp_block ?_ | refine awp_skip ?_ | refine awp_exit ?_ | refine awp_scope ?_ | refine awp_label ?_ | refine awp_run ty_ok rfl sd ?_ | refine awp_ret ⟨_, _, rfl, rfl, ?_⟩ | refine awp_ret ⟨_, rfl, ?_⟩ | ((refine awp_cond (ty := ty) rfl (fun hc => ?_) (fun hc => ?_)) <;> (try simp only [nms, reduceCtorEq] at hc) <;> (try (exfalso; omega))))) | ((with_reducible show AOps _ _ _ _ _ _); (first | refine aops_nil ?_ | refine aops_go ty_ok rfl rfl sd ?_ | refine aops_gate ty_ok rfl rfl rfl sd ?_ | refine aops_litE ty_ok rfl rfl rfl rfl rfl rfl rfl rfl rfl rfl rfl rfl ?_ | refine aops_litA ty_ok rfl rfl rfl rfl rfl rfl rfl rfl rfl rfl rfl rfl rfl rfl rfl rfl ?_ | refine aops_buildArr ty_ok rfl rfl rfl rfl rfl rfl rfl rfl rfl rfl ?_ | refine aops_indexArr ty_ok rfl rfl rfl rfl rfl rfl rfl rfl rfl rfl sd ?_ | refine aops_cutE ty_ok rfl rfl rfl rfl rfl rfl rfl rfl rfl sd rfl ?_ | ((fail_if_success (refine aops_known rfl ?_)); (refine aops_split ty_ok rfl rfl rfl rfl rfl rfl (fun hc => ⟨?_, ?_⟩) (fun hc => ⟨?_, ?_⟩)) <;> (try simp only [nms, reduceCtorEq] at hc) <;> (try (exfalso; omega)) <;> (try exact sd)))) | ((fail_if_success (with_reducible show AWp _ _ _ _ _)); (fail_if_success (with_reducible show AOps _ _ _ _ _ _)); (first | (show AWp _ _ _ _ _) | (show AOps _ _ _ _ _ _))))
  refine awp_nilrow 8 66 rfl ?_
  refine awp_loopR (G := { p : List El × Nat // p.2 ≤ j ∧ p.1.length ≤ p.2 ∧ ∃ k, j - p.2 ≤ k ∧ lsF b i j = preX p.1 (lsT b j k p.2) }) (fun p => ⟨Tryz.f62.ntmps, [(0, .d (.sl none (bys b))), (2, .d (.int .i64 j)), (7, .ptr 0 0), (8, .ref 1), (9, .d (.int .i64 p.1.2))], [(0, .box 32 [.d (.int .i64 0), .d (.int .i64 0)]), (1, .row (some 6) 66 (els p.1.1))], 2⟩) (fun p => j - p.1.2) ⟨([], i), hij, Nat.zero_le _, j - i, Nat.le_refl _, by
      unfold lsF
      cases lsT b j (j - i) i <;> rfl⟩ [(0, 0), (1, 1)]
    (SubR.mk' rfl rfl ⟨⟨_, rfl, rfl⟩, ⟨_, rfl, rfl⟩, ⟨_, rfl, rfl⟩, ⟨_, rfl, rfl⟩, ⟨_, rfl, rfl⟩, trivial⟩ ⟨⟨_, _, rfl, rfl, rfl⟩, ⟨_, _, rfl, rfl, rfl⟩, trivial⟩) ?_
  rintro ⟨⟨acc, q⟩, hq, hacc, k, hk, hl⟩
  dsimp only at hq hacc hk hl ⊢
  by_cases h : q < j
  · obtain ⟨k, rfl⟩ : ∃ k', k = k' + 1 := ⟨k - 1, by omega⟩
    rw [lsT, if_pos h] at hl
    have hel : (els acc).length ≤ 1099511627 := by rw [els_len]; omega
    cases hn : nxF b q j with
    | bad c o =>
      rw [hn] at hl
      have hc1 := c_next_at (Γ.at 0) b q j (by omega) hq hj hn
      have := nx_bad hq hj hn
      repeat' (first | ((with_reducible show AWp _ _ _ _ _); (first | refine awp_seq ?_ | refine awp_block ?_ | refine awp_skip ?_ | refine awp_exit ?_ | refine awp_scope ?_ | refine awp_label ?_ | refine awp_run ty_ok rfl sd ?_ | refine awp_ret ⟨_, _, rfl, rfl, ?_⟩ | refine awp_ret ⟨_, rfl, ?_⟩ | ((refine awp_cond (ty := ty) rfl (fun hc => ?_) (fun hc => ?_)) <;> (try simp only [nms, reduceCtorEq] at hc) <;> (try (exfalso; omega))) | refine awp_anyL 2 mixed rfl (by kernel_rfl) ?_)) | ((with_reducible show AOps _ _ _ _ _ _); (first | refine aops_nil ?_ | refine aops_go ty_ok rfl rfl sd ?_ | refine aops_gate ty_ok rfl rfl rfl sd ?_ | refine aops_callE (ty := ty) rfl rfl rfl rfl rfl rfl rfl (hc1) rfl ?_ | refine aops_litE ty_ok rfl rfl rfl rfl rfl rfl rfl rfl rfl rfl rfl rfl ?_ | refine aops_litA ty_ok rfl rfl rfl rfl rfl rfl rfl rfl rfl rfl rfl rfl rfl rfl rfl rfl ?_ | refine aops_buildArr ty_ok rfl rfl rfl rfl rfl rfl rfl rfl rfl rfl ?_ | refine aops_indexArr ty_ok rfl rfl rfl rfl rfl rfl rfl rfl rfl rfl sd ?_ | refine aops_cutE ty_ok rfl rfl rfl rfl rfl rfl rfl rfl rfl sd rfl ?_ | ((fail_if_success (refine aops_known rfl ?_)); (refine aops_split ty_ok rfl rfl rfl rfl rfl rfl (fun hc => ⟨?_, ?_⟩) (fun hc => ⟨?_, ?_⟩)) <;> (try simp only [nms, reduceCtorEq] at hc) <;> (try (exfalso; omega)) <;> (try exact sd)))) | ((with_reducible show HeadT _ _ _ _ _ _ _ _ _ _); (first | refine head_end ?_ | refine head_goP ty_ok rfl rfl sd ?_ | refine head_gate ty_ok rfl rfl rfl sd ?_ | refine head_callE (ty := ty) rfl rfl rfl rfl rfl rfl rfl (hc1) rfl ?_ | ((fail_if_success (refine head_known rfl ?_)); (refine head_split ty_ok rfl rfl rfl rfl (fun hc => ⟨?_, ?_⟩) (fun hc => ⟨?_, ?_⟩)) <;> (try simp only [nms, reduceCtorEq] at hc) <;> (try (exfalso; omega)) <;> (try exact sd)))) | ((fail_if_success (with_reducible show AWp _ _ _ _ _)); (fail_if_success (with_reducible show AOps _ _ _ _ _ _)); (fail_if_success (with_reducible show HeadT _ _ _ _ _ _ _ _ _ _)); (first | (show AWp _ _ _ _ _) | (show AOps _ _ _ _ _ _))))
      rw [hl]
      rfl
    | ok e =>
      rw [hn] at hl
      simp only at hl
      have hc1 := c_next_at (Γ.at 0) b q j (by omega) hq hj hn
      obtain ⟨c, g1, g2, g3, g4, g5, g6, g7⟩ := nx_ok hq hj hn
      have hz := hsz_ge c
      have hen : e.en = q + hsz c + c.length := by rw [g4]
      repeat' (first | ((with_reducible show AWp _ _ _ _ _); (first | refine awp_seq ?_ | refine awp_block ?_ | refine awp_skip ?_ | refine awp_exit ?_ | refine awp_scope ?_ | refine awp_label ?_ | refine awp_run ty_ok rfl sd ?_ | refine awp_ret ⟨_, _, rfl, rfl, ?_⟩ | refine awp_ret ⟨_, rfl, ?_⟩ | ((refine awp_cond (ty := ty) rfl (fun hc => ?_) (fun hc => ?_)) <;> (try simp only [nms, reduceCtorEq] at hc) <;> (try (exfalso; omega))) | refine awp_anyL 2 mixed rfl (by kernel_rfl) ?_)) | ((with_reducible show AOps _ _ _ _ _ _); (first | refine aops_nil ?_ | refine aops_go ty_ok rfl rfl sd ?_ | refine aops_gate ty_ok rfl rfl rfl sd ?_ | refine aops_callE (ty := ty) rfl rfl rfl rfl rfl rfl rfl (hc1) rfl ?_ | refine aops_litE ty_ok rfl rfl rfl rfl rfl rfl rfl rfl rfl rfl rfl rfl ?_ | refine aops_litA ty_ok rfl rfl rfl rfl rfl rfl rfl rfl rfl rfl rfl rfl rfl rfl rfl rfl ?_ | refine aops_buildArr ty_ok rfl rfl rfl rfl rfl rfl rfl rfl rfl rfl ?_ | refine aops_indexArr ty_ok rfl rfl rfl rfl rfl rfl rfl rfl rfl rfl sd ?_ | refine aops_cutE ty_ok rfl rfl rfl rfl rfl rfl rfl rfl rfl sd rfl ?_ | ((fail_if_success (refine aops_known rfl ?_)); (refine aops_split ty_ok rfl rfl rfl rfl rfl rfl (fun hc => ⟨?_, ?_⟩) (fun hc => ⟨?_, ?_⟩)) <;> (try simp only [nms, reduceCtorEq] at hc) <;> (try (exfalso; omega)) <;> (try exact sd)))) | ((with_reducible show HeadT _ _ _ _ _ _ _ _ _ _); (first | refine head_end ?_ | refine head_goP ty_ok rfl rfl sd ?_ | refine head_gate ty_ok rfl rfl rfl sd ?_ | refine head_callE (ty := ty) rfl rfl rfl rfl rfl rfl rfl (hc1) rfl ?_ | ((fail_if_success (refine head_known rfl ?_)); (refine head_split ty_ok rfl rfl rfl rfl (fun hc => ⟨?_, ?_⟩) (fun hc => ⟨?_, ?_⟩)) <;> (try simp only [nms, reduceCtorEq] at hc) <;> (try (exfalso; omega)) <;> (try exact sd)))) | ((fail_if_success (with_reducible show AWp _ _ _ _ _)); (fail_if_success (with_reducible show AOps _ _ _ _ _ _)); (fail_if_success (with_reducible show HeadT _ _ _ _ _ _ _ _ _ _)); (first | (show AWp _ _ _ _ _) | (show AOps _ _ _ _ _ _))))
      refine ⟨⟨(acc ++ [e], e.en), by simp only; omega, by simp; omega, k, by simp only; omega, ?_⟩, [(0, 0), (5, 1)], SubR.mk' rfl rfl ⟨⟨_, rfl, rfl⟩, ⟨_, rfl, rfl⟩, ⟨_, rfl, rfl⟩, ⟨_, rfl, rfl⟩, ⟨_, rfl, rfl⟩, trivial⟩ ⟨⟨_, _, rfl, rfl, rfl⟩, ⟨_, _, rfl, rfl, congrArg (AO.row (some 6) 66) ?_⟩, trivial⟩, by simp only; omega⟩
      · rw [hl]
        simp only
        cases lsT b j k e.en with
        | bad c o => rfl
        | ok l => simp [preX]
      · rw [els_app]
        rfl
  · repeat' (first | ((with_reducible show AWp _ _ _ _ _); (first | refine awp_seq ?_ | refine awp_block ?_ | refine awp_skip ?_ | refine awp_exit ?_ | refine awp_scope ?_ | refine awp_label ?_ | refine awp_run ty_ok rfl sd ?_ | refine awp_ret ⟨_, _, rfl, rfl, ?_⟩ | refine awp_ret ⟨_, rfl, ?_⟩ | ((refine awp_cond (ty := ty) rfl (fun hc => ?_) (fun hc => ?_)) <;> (try simp only [nms, reduceCtorEq] at hc) <;> (try (exfalso; omega))))) | ((with_reducible show AOps _ _ _ _ _ _); (first | refine aops_nil ?_ | refine aops_go ty_ok rfl rfl sd ?_ | refine aops_gate ty_ok rfl rfl rfl sd ?_ | refine aops_litE ty_ok rfl rfl rfl rfl rfl rfl rfl rfl rfl rfl rfl rfl ?_ | refine aops_litA ty_ok rfl rfl rfl rfl rfl rfl rfl rfl rfl rfl rfl rfl rfl rfl rfl rfl ?_ | refine aops_buildArr ty_ok rfl rfl rfl rfl rfl rfl rfl rfl rfl rfl ?_ | refine aops_indexArr ty_ok rfl rfl rfl rfl rfl rfl rfl rfl rfl rfl sd ?_ | refine aops_cutE ty_ok rfl rfl rfl rfl rfl rfl rfl rfl rfl sd rfl ?_ | ((fail_if_success (refine aops_known rfl ?_)); (refine aops_split ty_ok rfl rfl rfl rfl rfl rfl (fun hc => ⟨?_, ?_⟩) (fun hc => ⟨?_, ?_⟩)) <;> (try simp only [nms, reduceCtorEq] at hc) <;> (try (exfalso; omega)) <;> (try exact sd)))) | ((fail_if_success (with_reducible show AWp _ _ _ _ _)); (fail_if_success (with_reducible show AOps _ _ _ _ _ _)); (first | (show AWp _ _ _ _ _) | (show AOps _ _ _ _ _ _))))
    have hz : lsT b j k q = .ok [] := by
      cases k with
      | zero => rfl
      | succ k => rw [lsT, if_neg h]
    rw [hl, hz]
    simp [preX, elsR]
    rfl
theorem c_elist_at (Γ : Env) (b : List UInt8) (i j : Nat) (hb : b.length ≤ 1099511627) (hij : i ≤ j) (hj : j ≤ b.length) {v : Ex (List El)} (h : lsF b i j = v) : ACalls Tryz.prog Γ 62 [.sl none (bys b), .int .i64 i, .int .i64 j] (fun r => r = elsR v) := by
  subst h
  exact c_elist Γ b i j hb hij hj
theorem isParts : IsFn Tryz.prog 38 Tryz.f38 := ⟨Tryz.func38, by decide, rfl⟩
set_option maxHeartbeats 4000000 in
theorem c_parts (Γ : Env) (b : List UInt8) (cls num : Nat) (hb : b.length ≤ 1099511627) : ACalls Tryz.prog Γ 38 [.sl none (bys b), .int .i64 cls, .int .i64 num] (fun r => r = elsR (ptF b cls num)) := by
  refine acalls_of ty_ok isParts rfl rfl ?_
  rw [ptF]
  cases ho : onF b with
  | bad c o =>
    have hc1 := c_one_at (Γ.at 0) b (by omega) ho
    have := on_bad ho
    repeat' (first | ((with_reducible show AWp _ _ _ _ _); (first | refine awp_seq ?_ | refine awp_block ?_ | refine awp_skip ?_ | refine awp_exit ?_ | refine awp_scope ?_ | refine awp_label ?_ | refine awp_run ty_ok rfl sd ?_ | refine awp_ret ⟨_, _, rfl, rfl, ?_⟩ | refine awp_ret ⟨_, rfl, ?_⟩ | ((refine awp_cond (ty := ty) rfl (fun hc => ?_) (fun hc => ?_)) <;> (try simp only [nms, reduceCtorEq] at hc) <;> (try (exfalso; omega))) | refine awp_anyL 2 mixed rfl (by kernel_rfl) ?_)) | ((with_reducible show AOps _ _ _ _ _ _); (first | refine aops_nil ?_ | refine aops_go ty_ok rfl rfl sd ?_ | refine aops_gate ty_ok rfl rfl rfl sd ?_ | refine aops_callE (ty := ty) rfl rfl rfl rfl rfl rfl rfl (hc1) rfl ?_ | refine aops_litE ty_ok rfl rfl rfl rfl rfl rfl rfl rfl rfl rfl rfl rfl ?_ | refine aops_litA ty_ok rfl rfl rfl rfl rfl rfl rfl rfl rfl rfl rfl rfl rfl rfl rfl rfl ?_ | refine aops_buildArr ty_ok rfl rfl rfl rfl rfl rfl rfl rfl rfl rfl ?_ | refine aops_indexArr ty_ok rfl rfl rfl rfl rfl rfl rfl rfl rfl rfl sd ?_ | refine aops_cutE ty_ok rfl rfl rfl rfl rfl rfl rfl rfl rfl sd rfl ?_ | ((fail_if_success (refine aops_known rfl ?_)); (refine aops_split ty_ok rfl rfl rfl rfl rfl rfl (fun hc => ⟨?_, ?_⟩) (fun hc => ⟨?_, ?_⟩)) <;> (try simp only [nms, reduceCtorEq] at hc) <;> (try (exfalso; omega)) <;> (try exact sd)))) | ((with_reducible show HeadT _ _ _ _ _ _ _ _ _ _); (first | refine head_end ?_ | refine head_goP ty_ok rfl rfl sd ?_ | refine head_gate ty_ok rfl rfl rfl sd ?_ | refine head_callE (ty := ty) rfl rfl rfl rfl rfl rfl rfl (hc1) rfl ?_ | ((fail_if_success (refine head_known rfl ?_)); (refine head_split ty_ok rfl rfl rfl rfl (fun hc => ⟨?_, ?_⟩) (fun hc => ⟨?_, ?_⟩)) <;> (try simp only [nms, reduceCtorEq] at hc) <;> (try (exfalso; omega)) <;> (try exact sd)))) | ((fail_if_success (with_reducible show AWp _ _ _ _ _)); (fail_if_success (with_reducible show AOps _ _ _ _ _ _)); (fail_if_success (with_reducible show HeadT _ _ _ _ _ _ _ _ _ _)); (first | (show AWp _ _ _ _ _) | (show AOps _ _ _ _ _ _))))
    rfl
  | ok e =>
    have hc1 := c_one_at (Γ.at 0) b (by omega) ho
    obtain ⟨c, _, _, _, _, _, h6, h7⟩ := on_ok ho
    simp only
    cases hi : isB e.x cls true num with
    | false =>
      rw [if_neg (by simp)]
      repeat' (first | ((with_reducible show AWp _ _ _ _ _); (first | refine awp_seq ?_ | refine awp_block ?_ | refine awp_skip ?_ | refine awp_exit ?_ | refine awp_scope ?_ | refine awp_label ?_ | refine awp_run ty_ok rfl sd ?_ | refine awp_ret ⟨_, _, rfl, rfl, ?_⟩ | refine awp_ret ⟨_, rfl, ?_⟩ | ((refine awp_cond (ty := ty) rfl (fun hc => ?_) (fun hc => ?_)) <;> (try simp only [nms, reduceCtorEq] at hc) <;> (try (exfalso; omega))) | refine awp_anyL 2 mixed rfl (by kernel_rfl) ?_)) | ((with_reducible show AOps _ _ _ _ _ _); (first | refine aops_nil ?_ | refine aops_go ty_ok rfl rfl sd ?_ | refine aops_gate ty_ok rfl rfl rfl sd ?_ | refine aops_callE (ty := ty) rfl rfl rfl rfl rfl rfl rfl (hc1) rfl ?_ | refine aops_callE (ty := ty) rfl rfl rfl rfl rfl rfl rfl (c_is_at _ e cls num true hi) rfl ?_ | refine aops_litE ty_ok rfl rfl rfl rfl rfl rfl rfl rfl rfl rfl rfl rfl ?_ | refine aops_litA ty_ok rfl rfl rfl rfl rfl rfl rfl rfl rfl rfl rfl rfl rfl rfl rfl rfl ?_ | refine aops_buildArr ty_ok rfl rfl rfl rfl rfl rfl rfl rfl rfl rfl ?_ | refine aops_indexArr ty_ok rfl rfl rfl rfl rfl rfl rfl rfl rfl rfl sd ?_ | refine aops_cutE ty_ok rfl rfl rfl rfl rfl rfl rfl rfl rfl sd rfl ?_ | ((fail_if_success (refine aops_known rfl ?_)); (refine aops_split ty_ok rfl rfl rfl rfl rfl rfl (fun hc => ⟨?_, ?_⟩) (fun hc => ⟨?_, ?_⟩)) <;> (try simp only [nms, reduceCtorEq] at hc) <;> (try (exfalso; omega)) <;> (try exact sd)))) | ((with_reducible show HeadT _ _ _ _ _ _ _ _ _ _); (first | refine head_end ?_ | refine head_goP ty_ok rfl rfl sd ?_ | refine head_gate ty_ok rfl rfl rfl sd ?_ | refine head_callE (ty := ty) rfl rfl rfl rfl rfl rfl rfl (hc1) rfl ?_ | refine head_callE (ty := ty) rfl rfl rfl rfl rfl rfl rfl (c_is_at _ e cls num true hi) rfl ?_ | ((fail_if_success (refine head_known rfl ?_)); (refine head_split ty_ok rfl rfl rfl rfl (fun hc => ⟨?_, ?_⟩) (fun hc => ⟨?_, ?_⟩)) <;> (try simp only [nms, reduceCtorEq] at hc) <;> (try (exfalso; omega)) <;> (try exact sd)))) | ((fail_if_success (with_reducible show AWp _ _ _ _ _)); (fail_if_success (with_reducible show AOps _ _ _ _ _ _)); (fail_if_success (with_reducible show HeadT _ _ _ _ _ _ _ _ _ _)); (first | (show AWp _ _ _ _ _) | (show AOps _ _ _ _ _ _))))
      rfl
    | true =>
      rw [if_pos rfl]
      cases hl : lsF b e.bd e.en with
      | bad c o =>
        have hc2 := c_elist_at (Γ.at 0) b e.bd e.en hb h6 (by omega) hl
        repeat' (first | ((with_reducible show AWp _ _ _ _ _); (first | refine awp_seq ?_ | refine awp_block ?_ | refine awp_skip ?_ | refine awp_exit ?_ | refine awp_scope ?_ | refine awp_label ?_ | refine awp_run ty_ok rfl sd ?_ | refine awp_ret ⟨_, _, rfl, rfl, ?_⟩ | refine awp_ret ⟨_, rfl, ?_⟩ | ((refine awp_cond (ty := ty) rfl (fun hc => ?_) (fun hc => ?_)) <;> (try simp only [nms, reduceCtorEq] at hc) <;> (try (exfalso; omega))) | refine awp_anyL 2 mixed rfl (by kernel_rfl) ?_)) | ((with_reducible show AOps _ _ _ _ _ _); (first | refine aops_nil ?_ | refine aops_go ty_ok rfl rfl sd ?_ | refine aops_gate ty_ok rfl rfl rfl sd ?_ | refine aops_callE (ty := ty) rfl rfl rfl rfl rfl rfl rfl (hc1) rfl ?_ | refine aops_callE (ty := ty) rfl rfl rfl rfl rfl rfl rfl (c_is_at _ e cls num true hi) rfl ?_ | refine aops_callE (ty := ty) rfl rfl rfl rfl rfl rfl rfl (hc2) rfl ?_ | refine aops_litE ty_ok rfl rfl rfl rfl rfl rfl rfl rfl rfl rfl rfl rfl ?_ | refine aops_litA ty_ok rfl rfl rfl rfl rfl rfl rfl rfl rfl rfl rfl rfl rfl rfl rfl rfl ?_ | refine aops_buildArr ty_ok rfl rfl rfl rfl rfl rfl rfl rfl rfl rfl ?_ | refine aops_indexArr ty_ok rfl rfl rfl rfl rfl rfl rfl rfl rfl rfl sd ?_ | refine aops_cutE ty_ok rfl rfl rfl rfl rfl rfl rfl rfl rfl sd rfl ?_ | ((fail_if_success (refine aops_known rfl ?_)); (refine aops_split ty_ok rfl rfl rfl rfl rfl rfl (fun hc => ⟨?_, ?_⟩) (fun hc => ⟨?_, ?_⟩)) <;> (try simp only [nms, reduceCtorEq] at hc) <;> (try (exfalso; omega)) <;> (try exact sd)))) | ((with_reducible show HeadT _ _ _ _ _ _ _ _ _ _); (first | refine head_end ?_ | refine head_goP ty_ok rfl rfl sd ?_ | refine head_gate ty_ok rfl rfl rfl sd ?_ | refine head_callE (ty := ty) rfl rfl rfl rfl rfl rfl rfl (hc1) rfl ?_ | refine head_callE (ty := ty) rfl rfl rfl rfl rfl rfl rfl (c_is_at _ e cls num true hi) rfl ?_ | refine head_callE (ty := ty) rfl rfl rfl rfl rfl rfl rfl (hc2) rfl ?_ | ((fail_if_success (refine head_known rfl ?_)); (refine head_split ty_ok rfl rfl rfl rfl (fun hc => ⟨?_, ?_⟩) (fun hc => ⟨?_, ?_⟩)) <;> (try simp only [nms, reduceCtorEq] at hc) <;> (try (exfalso; omega)) <;> (try exact sd)))) | ((fail_if_success (with_reducible show AWp _ _ _ _ _)); (fail_if_success (with_reducible show AOps _ _ _ _ _ _)); (fail_if_success (with_reducible show HeadT _ _ _ _ _ _ _ _ _ _)); (first | (show AWp _ _ _ _ _) | (show AOps _ _ _ _ _ _))))
        rfl
      | ok l =>
        have hc2 := c_elist_at (Γ.at 0) b e.bd e.en hb h6 (by omega) hl
        repeat' (first | ((with_reducible show AWp _ _ _ _ _); (first | refine awp_seq ?_ | refine awp_block ?_ | refine awp_skip ?_ | refine awp_exit ?_ | refine awp_scope ?_ | refine awp_label ?_ | refine awp_run ty_ok rfl sd ?_ | refine awp_ret ⟨_, _, rfl, rfl, ?_⟩ | refine awp_ret ⟨_, rfl, ?_⟩ | ((refine awp_cond (ty := ty) rfl (fun hc => ?_) (fun hc => ?_)) <;> (try simp only [nms, reduceCtorEq] at hc) <;> (try (exfalso; omega))) | refine awp_anyL 2 mixed rfl (by kernel_rfl) ?_)) | ((with_reducible show AOps _ _ _ _ _ _); (first | refine aops_nil ?_ | refine aops_go ty_ok rfl rfl sd ?_ | refine aops_gate ty_ok rfl rfl rfl sd ?_ | refine aops_callE (ty := ty) rfl rfl rfl rfl rfl rfl rfl (hc1) rfl ?_ | refine aops_callE (ty := ty) rfl rfl rfl rfl rfl rfl rfl (c_is_at _ e cls num true hi) rfl ?_ | refine aops_callE (ty := ty) rfl rfl rfl rfl rfl rfl rfl (hc2) rfl ?_ | refine aops_litE ty_ok rfl rfl rfl rfl rfl rfl rfl rfl rfl rfl rfl rfl ?_ | refine aops_litA ty_ok rfl rfl rfl rfl rfl rfl rfl rfl rfl rfl rfl rfl rfl rfl rfl rfl ?_ | refine aops_buildArr ty_ok rfl rfl rfl rfl rfl rfl rfl rfl rfl rfl ?_ | refine aops_indexArr ty_ok rfl rfl rfl rfl rfl rfl rfl rfl rfl rfl sd ?_ | refine aops_cutE ty_ok rfl rfl rfl rfl rfl rfl rfl rfl rfl sd rfl ?_ | ((fail_if_success (refine aops_known rfl ?_)); (refine aops_split ty_ok rfl rfl rfl rfl rfl rfl (fun hc => ⟨?_, ?_⟩) (fun hc => ⟨?_, ?_⟩)) <;> (try simp only [nms, reduceCtorEq] at hc) <;> (try (exfalso; omega)) <;> (try exact sd)))) | ((with_reducible show HeadT _ _ _ _ _ _ _ _ _ _); (first | refine head_end ?_ | refine head_goP ty_ok rfl rfl sd ?_ | refine head_gate ty_ok rfl rfl rfl sd ?_ | refine head_callE (ty := ty) rfl rfl rfl rfl rfl rfl rfl (hc1) rfl ?_ | refine head_callE (ty := ty) rfl rfl rfl rfl rfl rfl rfl (c_is_at _ e cls num true hi) rfl ?_ | refine head_callE (ty := ty) rfl rfl rfl rfl rfl rfl rfl (hc2) rfl ?_ | ((fail_if_success (refine head_known rfl ?_)); (refine head_split ty_ok rfl rfl rfl rfl (fun hc => ⟨?_, ?_⟩) (fun hc => ⟨?_, ?_⟩)) <;> (try simp only [nms, reduceCtorEq] at hc) <;> (try (exfalso; omega)) <;> (try exact sd)))) | ((fail_if_success (with_reducible show AWp _ _ _ _ _)); (fail_if_success (with_reducible show AOps _ _ _ _ _ _)); (fail_if_success (with_reducible show HeadT _ _ _ _ _ _ _ _ _ _)); (first | (show AWp _ _ _ _ _) | (show AOps _ _ _ _ _ _))))
        rfl
theorem c_parts_at (Γ : Env) (b : List UInt8) (cls num : Nat) (hb : b.length ≤ 1099511627) {v : Ex (List El)} (h : ptF b cls num = v) : ACalls Tryz.prog Γ 38 [.sl none (bys b), .int .i64 cls, .int .i64 num] (fun r => r = elsR v) := by
  subst h
  exact c_parts Γ b cls num hb
end Go.Proofs.YtdihjpmdmfmbiaaGreatDoor

/- Identifier and length octets, read by the reference. Walked by the abstract machine. -/
namespace Go.Proofs.YtdihjpmdmfmbiaaGreatDoor
open Go.Am
set_option linter.unusedSimpArgs false
set_option linter.unusedVariables false

theorem beF_zero (r : List UInt8) : beF ((0 : UInt8) :: r) = beF r := rfl
theorem u64_stepR (n x : Nat) (hn : n < 72057594037927936) (hx : x < 256) : IntKind.u64.wrap (IntKind.u64.wrap ((n : Int) * 256) + IntKind.u64.wrap (x : Int)) = ((n * 256 + x : Nat) : Int) := by
  rw [IntKind.wrap_u64, IntKind.wrap_u64, IntKind.wrap_u64]
  omega
theorem isRUint : IsFn Tryz.prog 151 Tryz.f151 := ⟨Tryz.func151, by decide, rfl⟩
set_option maxHeartbeats 1000000 in
theorem c_ruint (Γ : Env) (b : List UInt8) (hb : b.length ≤ 7) : ACalls Tryz.prog Γ 151 [.sl none (bys b)] (fun r => r = .d (.tup [.int .u64 (beF b), .bool true])) := by
  refine acalls_of ty_ok isRUint rfl rfl ?_
  repeat' (first | ((with_reducible show AWp _ _ _ _ _); (first | refine awp_seq ?_ | refine awp_block ?_ | refine awp_skip ?_ | refine awp_exit ?_ | refine awp_scope ?_ | refine awp_label ?_ | refine awp_run ty_ok rfl sd ?_ | refine awp_ret ⟨_, _, rfl, rfl, ?_⟩ | refine awp_ret ⟨_, rfl, ?_⟩ | ((refine awp_cond (ty := ty) rfl (fun hc => ?_) (fun hc => ?_)) <;> (try simp only [nms, reduceCtorEq] at hc) <;> (try (exfalso; omega))))) | ((with_reducible show AOps _ _ _ _ _ _); (first | refine aops_nil ?_ | refine aops_go ty_ok rfl rfl sd ?_ | refine aops_gate ty_ok rfl rfl rfl sd ?_ | refine aops_litE ty_ok rfl rfl rfl rfl rfl rfl rfl rfl rfl rfl rfl rfl ?_ | refine aops_cutE ty_ok rfl rfl rfl rfl rfl rfl rfl rfl rfl sd rfl ?_ | ((fail_if_success (refine aops_known rfl ?_)); (refine aops_split ty_ok rfl rfl rfl rfl rfl rfl (fun hc => ⟨?_, ?_⟩) (fun hc => ⟨?_, ?_⟩)) <;> (try simp only [nms, reduceCtorEq] at hc) <;> (try (exfalso; omega)) <;> (try exact sd)))) | ((fail_if_success (with_reducible show AWp _ _ _ _ _)); (fail_if_success (with_reducible show AOps _ _ _ _ _ _)); (first | (show AWp _ _ _ _ _) | (show AOps _ _ _ _ _ _))))
  refine awp_loopR (G := { c : List UInt8 // beF c = beF b ∧ c.length ≤ 7 }) (fun c => ⟨Tryz.f151.ntmps, [(0, .d (.sl none (bys c.1)))], [], 0⟩) (fun c => c.1.length) ⟨b, rfl, hb⟩ []
    (SubR.mk' rfl rfl ⟨⟨_, rfl, rfl⟩, trivial⟩ trivial) ?_
  rintro ⟨c, hc1, hc2⟩
  dsimp only
  have hfin : (c.headD 1).toNat ≠ 0 → AWp Tryz.prog (Γ.at 0) (Code.skip) (fun _ _ => True) ⟨0, [], [], 0⟩ := fun _ => awp_skip trivial
  by_cases hz : ∃ r, c = 0 :: r
  · obtain ⟨r, rfl⟩ := hz
    have h0 : ((bys ((0 : UInt8) :: r)).getD (Int.toNat 0) default).num = 0 := rfl
    repeat' (first | ((with_reducible show AWp _ _ _ _ _); (first | refine awp_seq ?_ | refine awp_block ?_ | refine awp_skip ?_ | refine awp_exit ?_ | refine awp_scope ?_ | refine awp_label ?_ | refine awp_run ty_ok rfl sd ?_ | refine awp_ret ⟨_, _, rfl, rfl, ?_⟩ | refine awp_ret ⟨_, rfl, ?_⟩ | ((refine awp_cond (ty := ty) rfl (fun hc => ?_) (fun hc => ?_)) <;> (try simp only [nms, reduceCtorEq] at hc) <;> (try (exfalso; omega))))) | ((with_reducible show AOps _ _ _ _ _ _); (first | refine aops_nil ?_ | refine aops_go ty_ok rfl rfl sd ?_ | refine aops_gate ty_ok rfl rfl rfl sd ?_ | refine aops_litE ty_ok rfl rfl rfl rfl rfl rfl rfl rfl rfl rfl rfl rfl ?_ | refine aops_cutE ty_ok rfl rfl rfl rfl rfl rfl rfl rfl rfl sd rfl ?_ | ((fail_if_success (refine aops_known rfl ?_)); (refine aops_split ty_ok rfl rfl rfl rfl rfl rfl (fun hc => ⟨?_, ?_⟩) (fun hc => ⟨?_, ?_⟩)) <;> (try simp only [nms, reduceCtorEq] at hc) <;> (try (exfalso; omega)) <;> (try exact sd)))) | ((fail_if_success (with_reducible show AWp _ _ _ _ _)); (fail_if_success (with_reducible show AOps _ _ _ _ _ _)); (first | (show AWp _ _ _ _ _) | (show AOps _ _ _ _ _ _))))
    refine ⟨⟨r, by rw [← hc1, beF_zero], by simp at hc2; omega⟩, [], SubR.mk' rfl rfl ⟨⟨_, rfl, congrArg (fun z => AV.d (Dat.sl none z)) ?_⟩, trivial⟩ trivial, by simp⟩
    rw [cutL_bys, bys_len]
    simp [cutB]
  · have h0 : c ≠ [] → ((bys c).getD (Int.toNat 0) default).num ≠ 0 := fun hne => by
      match c, hne with
      | x :: r, _ =>
        show (x.toNat : Int) ≠ 0
        intro h
        exact hz ⟨r, by rw [show x = 0 from u8_ext (by simpa using h)]⟩
    have hlo : c.length = 0 ∨ ((bys c).getD (Int.toNat 0) default).num ≠ 0 := by
      cases c with
      | nil => exact .inl rfl
      | cons x r => exact .inr (h0 (by simp))
    repeat' (first | ((with_reducible show AWp _ _ _ _ _); (first | refine awp_seq ?_ | refine awp_block ?_ | refine awp_skip ?_ | refine awp_exit ?_ | refine awp_scope ?_ | refine awp_label ?_ | refine awp_run ty_ok rfl sd ?_ | refine awp_ret ⟨_, _, rfl, rfl, ?_⟩ | refine awp_ret ⟨_, rfl, ?_⟩ | ((refine awp_cond (ty := ty) rfl (fun hc => ?_) (fun hc => ?_)) <;> (try simp only [nms, reduceCtorEq] at hc) <;> (try (exfalso; omega))))) | ((with_reducible show AOps _ _ _ _ _ _); (first | refine aops_nil ?_ | refine aops_go ty_ok rfl rfl sd ?_ | refine aops_gate ty_ok rfl rfl rfl sd ?_ | refine aops_litE ty_ok rfl rfl rfl rfl rfl rfl rfl rfl rfl rfl rfl rfl ?_ | refine aops_cutE ty_ok rfl rfl rfl rfl rfl rfl rfl rfl rfl sd rfl ?_ | ((fail_if_success (refine aops_known rfl ?_)); (refine aops_split ty_ok rfl rfl rfl rfl rfl rfl (fun hc => ⟨?_, ?_⟩) (fun hc => ⟨?_, ?_⟩)) <;> (try simp only [nms, reduceCtorEq] at hc) <;> (try (exfalso; omega)) <;> (try exact sd)))) | ((fail_if_success (with_reducible show AWp _ _ _ _ _)); (fail_if_success (with_reducible show AOps _ _ _ _ _ _)); (first | (show AWp _ _ _ _ _) | (show AOps _ _ _ _ _ _))))
    all_goals try (exfalso; omega)
    all_goals
      refine awp_loopR (G := { i : Nat // i ≤ c.length }) (fun i => ⟨Tryz.f151.ntmps, [(0, .d (.sl none (bys c))), (4, .d (.int .u64 (beF (c.take i.1)))), (5, .d (.int .i64 i.1))], [], 0⟩) (fun i => c.length - i.1) ⟨0, Nat.zero_le _⟩ []
        (SubR.mk' rfl rfl ⟨⟨_, rfl, rfl⟩, ⟨_, rfl, rfl⟩, ⟨_, rfl, rfl⟩, trivial⟩ trivial) ?_
      rintro ⟨i, hi⟩
      dsimp only
      rcases Nat.lt_or_ge i c.length with hil | hil
      · have hbt := beF_lt (c.take i)
        have hpw := Nat.pow_le_pow_right (n := 256) (by omega) (show (c.take i).length ≤ 7 by rw [List.length_take]; omega)
        have hel : ((bys c).getD (i : Int).toNat default).num = (c[i].toNat : Int) := byte_at c i hil
        have hxl := u8_lt c[i]
        repeat' (first | ((with_reducible show AWp _ _ _ _ _); (first | refine awp_seq ?_ | refine awp_block ?_ | refine awp_skip ?_ | refine awp_exit ?_ | refine awp_scope ?_ | refine awp_label ?_ | refine awp_run ty_ok rfl sd ?_ | refine awp_ret ⟨_, _, rfl, rfl, ?_⟩ | refine awp_ret ⟨_, rfl, ?_⟩ | ((refine awp_cond (ty := ty) rfl (fun hc => ?_) (fun hc => ?_)) <;> (try simp only [nms, reduceCtorEq] at hc) <;> (try (exfalso; omega))))) | ((with_reducible show AOps _ _ _ _ _ _); (first | refine aops_nil ?_ | refine aops_go ty_ok rfl rfl sd ?_ | refine aops_gate ty_ok rfl rfl rfl sd ?_ | refine aops_litE ty_ok rfl rfl rfl rfl rfl rfl rfl rfl rfl rfl rfl rfl ?_ | refine aops_cutE ty_ok rfl rfl rfl rfl rfl rfl rfl rfl rfl sd rfl ?_ | ((fail_if_success (refine aops_known rfl ?_)); (refine aops_split ty_ok rfl rfl rfl rfl rfl rfl (fun hc => ⟨?_, ?_⟩) (fun hc => ⟨?_, ?_⟩)) <;> (try simp only [nms, reduceCtorEq] at hc) <;> (try (exfalso; omega)) <;> (try exact sd)))) | ((fail_if_success (with_reducible show AWp _ _ _ _ _)); (fail_if_success (with_reducible show AOps _ _ _ _ _ _)); (first | (show AWp _ _ _ _ _) | (show AOps _ _ _ _ _ _))))
        all_goals refine ⟨⟨i + 1, hil⟩, [], SubR.mk' rfl rfl ⟨⟨_, rfl, rfl⟩, ⟨_, rfl, congrArg (fun z : Int => AV.d (Dat.int IntKind.u64 z)) ?_⟩, ⟨_, rfl, rfl⟩, trivial⟩ trivial, by simp only; omega⟩
        all_goals rw [hel, u64_stepR _ _ (by omega) hxl, List.take_succ_eq_append_getElem hil, beF_snoc]
      · have hie : i = c.length := by omega
        subst hie
        repeat' (first | ((with_reducible show AWp _ _ _ _ _); (first | refine awp_seq ?_ | refine awp_block ?_ | refine awp_skip ?_ | refine awp_exit ?_ | refine awp_scope ?_ | refine awp_label ?_ | refine awp_run ty_ok rfl sd ?_ | refine awp_ret ⟨_, _, rfl, rfl, ?_⟩ | refine awp_ret ⟨_, rfl, ?_⟩ | ((refine awp_cond (ty := ty) rfl (fun hc => ?_) (fun hc => ?_)) <;> (try simp only [nms, reduceCtorEq] at hc) <;> (try (exfalso; omega))))) | ((with_reducible show AOps _ _ _ _ _ _); (first | refine aops_nil ?_ | refine aops_go ty_ok rfl rfl sd ?_ | refine aops_gate ty_ok rfl rfl rfl sd ?_ | refine aops_litE ty_ok rfl rfl rfl rfl rfl rfl rfl rfl rfl rfl rfl rfl ?_ | refine aops_cutE ty_ok rfl rfl rfl rfl rfl rfl rfl rfl rfl sd rfl ?_ | ((fail_if_success (refine aops_known rfl ?_)); (refine aops_split ty_ok rfl rfl rfl rfl rfl rfl (fun hc => ⟨?_, ?_⟩) (fun hc => ⟨?_, ?_⟩)) <;> (try simp only [nms, reduceCtorEq] at hc) <;> (try (exfalso; omega)) <;> (try exact sd)))) | ((fail_if_success (with_reducible show AWp _ _ _ _ _)); (fail_if_success (with_reducible show AOps _ _ _ _ _ _)); (first | (show AWp _ _ _ _ _) | (show AOps _ _ _ _ _ _))))
        try rw [List.take_length, hc1]
def cmpB : List UInt8 → List UInt8 → Int
  | [], [] => 0
  | [], _ :: _ => -1
  | _ :: _, [] => 1
  | a :: x, b :: y => if a.toNat < b.toNat then -1 else if b.toNat < a.toNat then 1 else cmpB x y
theorem cmpB_zero : ∀ (x y : List UInt8), cmpB x y = 0 ↔ x = y
  | [], [] => by simp [cmpB]
  | [], _ :: _ => by simp [cmpB]
  | _ :: _, [] => by simp [cmpB]
  | a :: x, b :: y => by
    rw [cmpB]
    by_cases h1 : a.toNat < b.toNat
    · rw [if_pos h1]
      have : a ≠ b := fun e => by rw [e] at h1; omega
      simp [this]
    · rw [if_neg h1]
      by_cases h2 : b.toNat < a.toNat
      · rw [if_pos h2]
        have : a ≠ b := fun e => by rw [e] at h2; omega
        simp [this]
      · rw [if_neg h2, cmpB_zero x y, show a = b from u8_ext (by omega)]
        simp
theorem cmpB_drop {x y : List UInt8} {k : Nat} (hx : k < x.length) (hy : k < y.length) : cmpB (x.drop k) (y.drop k) = if x[k].toNat < y[k].toNat then -1 else if y[k].toNat < x[k].toNat then 1 else cmpB (x.drop (k + 1)) (y.drop (k + 1)) := by
  rw [List.drop_eq_getElem_cons hx, List.drop_eq_getElem_cons hy, cmpB]
theorem cmpB_end {x y : List UInt8} {k : Nat} (h : ¬ (k < x.length ∧ k < y.length)) (hx : k ≤ x.length) (hy : k ≤ y.length) : cmpB (x.drop k) (y.drop k) = if x.length < y.length then -1 else if y.length < x.length then 1 else 0 := by
  cases h1 : x.drop k with
  | nil =>
    have := List.drop_eq_nil_iff.1 h1
    cases h2 : y.drop k with
    | nil =>
      have := List.drop_eq_nil_iff.1 h2
      rw [if_neg (by omega), if_neg (by omega)]
      rfl
    | cons b r =>
      have : k < y.length := by
        apply Nat.lt_of_not_le
        intro hle
        rw [List.drop_eq_nil_iff.2 hle] at h2
        cases h2
      rw [if_pos (by omega)]
      rfl
  | cons a r =>
    have hkx : k < x.length := by
      apply Nat.lt_of_not_le
      intro hle
      rw [List.drop_eq_nil_iff.2 hle] at h1
      cases h1
    have h2 : y.drop k = [] := List.drop_eq_nil_iff.2 (by omega)
    rw [h2, if_neg (by omega), if_pos (by omega)]
    rfl
theorem isRCompare1 : IsFn Tryz.prog 152 Tryz.f152 := ⟨Tryz.func152, by decide, rfl⟩
set_option maxHeartbeats 1000000 in
theorem c_rcmp (Γ : Env) (x y : List UInt8) (hx : x.length ≤ 1099511627) : ACalls Tryz.prog Γ 152 [.sl none (bys x), .sl none (bys y)] (fun r => r = .d (.int .i64 (cmpB x y))) := by
  refine acalls_of ty_ok isRCompare1 rfl rfl ?_
  repeat' (first | ((with_reducible show AWp _ _ _ _ _); (first | refine awp_seq ?_ | refine awp_block ?_ | refine awp_skip ?_ | refine awp_exit ?_ | refine awp_scope ?_ | refine awp_label ?_ | refine awp_run ty_ok rfl sd ?_ | refine awp_ret ⟨_, _, rfl, rfl, ?_⟩ | refine awp_ret ⟨_, rfl, ?_⟩ | ((refine awp_cond (ty := ty) rfl (fun hc => ?_) (fun hc => ?_)) <;> (try simp only [nms, reduceCtorEq] at hc) <;> (try (exfalso; omega))))) | ((with_reducible show AOps _ _ _ _ _ _); (first | refine aops_nil ?_ | refine aops_go ty_ok rfl rfl sd ?_ | refine aops_gate ty_ok rfl rfl rfl sd ?_ | refine aops_litE ty_ok rfl rfl rfl rfl rfl rfl rfl rfl rfl rfl rfl rfl ?_ | refine aops_cutE ty_ok rfl rfl rfl rfl rfl rfl rfl rfl rfl sd rfl ?_ | ((fail_if_success (refine aops_known rfl ?_)); (refine aops_split ty_ok rfl rfl rfl rfl rfl rfl (fun hc => ⟨?_, ?_⟩) (fun hc => ⟨?_, ?_⟩)) <;> (try simp only [nms, reduceCtorEq] at hc) <;> (try (exfalso; omega)) <;> (try exact sd)))) | ((fail_if_success (with_reducible show AWp _ _ _ _ _)); (fail_if_success (with_reducible show AOps _ _ _ _ _ _)); (first | (show AWp _ _ _ _ _) | (show AOps _ _ _ _ _ _))))
  refine awp_loopR (G := { k : Nat // k ≤ x.length ∧ k ≤ y.length ∧ cmpB x y = cmpB (x.drop k) (y.drop k) }) (fun k => ⟨Tryz.f152.ntmps, [(0, .d (.sl none (bys x))), (1, .d (.sl none (bys y))), (5, .d (.int .i64 k.1))], [], 0⟩) (fun k => x.length - k.1) ⟨0, by simp⟩ []
      (SubR.mk' rfl rfl ⟨⟨_, rfl, rfl⟩, ⟨_, rfl, rfl⟩, ⟨_, rfl, rfl⟩, trivial⟩ trivial) ?_
  rintro ⟨k, hk1, hk2, hk3⟩
  dsimp only
  by_cases h : k < x.length ∧ k < y.length
  · have e1 := byte_at x k h.1
    have e2 := byte_at y k h.2
    rw [cmpB_drop h.1 h.2] at hk3
    repeat' (first | ((with_reducible show AWp _ _ _ _ _); (first | refine awp_seq ?_ | refine awp_block ?_ | refine awp_skip ?_ | refine awp_exit ?_ | refine awp_scope ?_ | refine awp_label ?_ | refine awp_run ty_ok rfl sd ?_ | refine awp_ret ⟨_, _, rfl, rfl, ?_⟩ | refine awp_ret ⟨_, rfl, ?_⟩ | ((refine awp_cond (ty := ty) rfl (fun hc => ?_) (fun hc => ?_)) <;> (try simp only [nms, reduceCtorEq] at hc) <;> (try (exfalso; omega))) | refine awp_anyL 8 mixed rfl (by kernel_rfl) ?_)) | ((with_reducible show AOps _ _ _ _ _ _); (first | refine aops_nil ?_ | refine aops_go ty_ok rfl rfl sd ?_ | refine aops_gate ty_ok rfl rfl rfl sd ?_ | refine aops_litE ty_ok rfl rfl rfl rfl rfl rfl rfl rfl rfl rfl rfl rfl ?_ | refine aops_cutE ty_ok rfl rfl rfl rfl rfl rfl rfl rfl rfl sd rfl ?_ | ((fail_if_success (refine aops_known rfl ?_)); (refine aops_split ty_ok rfl rfl rfl rfl rfl rfl (fun hc => ⟨?_, ?_⟩) (fun hc => ⟨?_, ?_⟩)) <;> (try simp only [nms, reduceCtorEq] at hc) <;> (try (exfalso; omega)) <;> (try exact sd)))) | ((with_reducible show HeadT _ _ _ _ _ _ _ _ _ _); (first | refine head_end ?_ | refine head_goP ty_ok rfl rfl sd ?_ | refine head_gate ty_ok rfl rfl rfl sd ?_ | ((fail_if_success (refine head_known rfl ?_)); (refine head_split ty_ok rfl rfl rfl rfl (fun hc => ⟨?_, ?_⟩) (fun hc => ⟨?_, ?_⟩)) <;> (try simp only [nms, reduceCtorEq] at hc) <;> (try (exfalso; omega)) <;> (try exact sd)))) | ((fail_if_success (with_reducible show AWp _ _ _ _ _)); (fail_if_success (with_reducible show AOps _ _ _ _ _ _)); (fail_if_success (with_reducible show HeadT _ _ _ _ _ _ _ _ _ _)); (first | (show AWp _ _ _ _ _) | (show AOps _ _ _ _ _ _))))
    · rw [hk3, if_pos (by omega)]
    · rw [hk3, if_neg (by omega), if_pos (by omega)]
    · rw [if_neg (by omega), if_neg (by omega)] at hk3
      exact ⟨⟨k + 1, h.1, h.2, hk3⟩, [], SubR.mk' rfl rfl ⟨⟨_, rfl, rfl⟩, ⟨_, rfl, rfl⟩, ⟨_, rfl, rfl⟩, trivial⟩ trivial, by simp only; omega⟩
  · rw [cmpB_end h hk1 hk2] at hk3
    repeat' (first | ((with_reducible show AWp _ _ _ _ _); (first | refine awp_seq ?_ | refine awp_block ?_ | refine awp_skip ?_ | refine awp_exit ?_ | refine awp_scope ?_ | refine awp_label ?_ | refine awp_run ty_ok rfl sd ?_ | refine awp_ret ⟨_, _, rfl, rfl, ?_⟩ | refine awp_ret ⟨_, rfl, ?_⟩ | ((refine awp_cond (ty := ty) rfl (fun hc => ?_) (fun hc => ?_)) <;> (try simp only [nms, reduceCtorEq] at hc) <;> (try (exfalso; omega))))) | ((with_reducible show AOps _ _ _ _ _ _); (first | refine aops_nil ?_ | refine aops_go ty_ok rfl rfl sd ?_ | refine aops_gate ty_ok rfl rfl rfl sd ?_ | refine aops_litE ty_ok rfl rfl rfl rfl rfl rfl rfl rfl rfl rfl rfl rfl ?_ | refine aops_cutE ty_ok rfl rfl rfl rfl rfl rfl rfl rfl rfl sd rfl ?_ | ((fail_if_success (refine aops_known rfl ?_)); (refine aops_split ty_ok rfl rfl rfl rfl rfl rfl (fun hc => ⟨?_, ?_⟩) (fun hc => ⟨?_, ?_⟩)) <;> (try simp only [nms, reduceCtorEq] at hc) <;> (try (exfalso; omega)) <;> (try exact sd)))) | ((fail_if_success (with_reducible show AWp _ _ _ _ _)); (fail_if_success (with_reducible show AOps _ _ _ _ _ _)); (first | (show AWp _ _ _ _ _) | (show AOps _ _ _ _ _ _))))
    all_goals first | (exfalso; omega) | skip
    all_goals rw [hk3]
    all_goals first | (rw [if_pos (by omega)]; done) | (rw [if_neg (by omega), if_pos (by omega)]; done) | (rw [if_neg (by omega), if_neg (by omega)]; done)

theorem tm32 (x : UInt8) : Int.tmod (IntKind.i64.wrap (x.toNat : Int)) 32 = ((x.toNat % 32 : Nat) : Int) := by
  rw [wrap_i64_nat _ (by have := u8_lt x; omega)]
  rfl
theorem td_nat (x : UInt8) (k : Nat) (hk : 0 < k) : IntKind.i64.wrap (Int.tdiv (IntKind.i64.wrap (x.toNat : Int)) (k : Int)) = ((x.toNat / k : Nat) : Int) := by
  have := u8_lt x
  have h2 : x.toNat / k ≤ x.toNat := Nat.div_le_self _ _
  rw [wrap_i64_nat _ (by omega), ← Int.ofNat_tdiv, wrap_i64_nat _ (by omega)]
theorem isRReadIdentifier : IsFn Tryz.prog 141 Tryz.f141 := ⟨Tryz.func141, by decide, rfl⟩
theorem c_rreadid (Γ : Env) (x : UInt8) : ACalls Tryz.prog Γ 141 [.int .u8 x.toNat] (fun r => r = .d (idD x)) := by
  refine acalls_of ty_ok isRReadIdentifier rfl rfl ?_
  have h1 := u8_lt x
  have h2 := tm32 x
  repeat' (first | ((with_reducible show AWp _ _ _ _ _); (first | refine awp_seq ?_ | refine awp_block ?_ | refine awp_skip ?_ | refine awp_exit ?_ | refine awp_scope ?_ | refine awp_label ?_ | refine awp_run ty_ok rfl sd ?_ | refine awp_ret ⟨_, _, rfl, rfl, ?_⟩ | refine awp_ret ⟨_, rfl, ?_⟩ | ((refine awp_cond (ty := ty) rfl (fun hc => ?_) (fun hc => ?_)) <;> (try simp only [nms, reduceCtorEq] at hc) <;> (try (exfalso; omega))))) | ((with_reducible show AOps _ _ _ _ _ _); (first | refine aops_nil ?_ | refine aops_go ty_ok rfl rfl sd ?_ | refine aops_gate ty_ok rfl rfl rfl sd ?_ | refine aops_litE ty_ok rfl rfl rfl rfl rfl rfl rfl rfl rfl rfl rfl rfl ?_ | refine aops_cutE ty_ok rfl rfl rfl rfl rfl rfl rfl rfl rfl sd rfl ?_ | ((fail_if_success (refine aops_known rfl ?_)); (refine aops_split ty_ok rfl rfl rfl rfl rfl rfl (fun hc => ⟨?_, ?_⟩) (fun hc => ⟨?_, ?_⟩)) <;> (try simp only [nms, reduceCtorEq] at hc) <;> (try (exfalso; omega)) <;> (try exact sd)))) | ((fail_if_success (with_reducible show AWp _ _ _ _ _)); (fail_if_success (with_reducible show AOps _ _ _ _ _ _)); (first | (show AWp _ _ _ _ _) | (show AOps _ _ _ _ _ _))))
  · rw [idD, if_pos (by omega)]
  · rw [idD, if_neg (by omega)]
    have e1 := td_nat x 64 (by omega)
    have e2 := td_nat x 32 (by omega)
    simp only [Int.cast_ofNat_Int] at e1 e2
    rw [e1, e2, h2, clsD, numD, conB]
    congr 6
    rw [Bool.eq_iff_iff, beq_iff_eq, decide_eq_true_eq, show Int.tmod ((x.toNat / 32 : Nat) : Int) 2 = ((x.toNat / 32 % 2 : Nat) : Int) from rfl]
    omega
/-- A length is minimal if it is written as it was read. -/
theorem rl_min {x : UInt8} {r : List UInt8} {k : Nat} (hx : x.toNat = k + 128) (hk : 1 ≤ k) (hk4 : k ≤ 4) (hr : k ≤ r.length) (hn : beF (r.take k) ≤ 2147483647) : lenB (beF (r.take k)) = (x :: r).take (1 + k) ↔ ¬ ((r.headD 0).toNat = 0 ∨ beF (r.take k) < 128 ∨ 2147483647 < beF (r.take k)) := by
  have hf : rlF (x :: r) = if (r.headD 0).toNat = 0 ∨ beF (r.take k) < 128 ∨ 2147483647 < beF (r.take k) then .bad 4 0 else .ok (beF (r.take k), 1 + k) := by
    rw [rlF, if_neg (by omega), if_neg (by omega), show x.toNat - 128 = k by omega, if_neg (by omega), show x.toNat - 127 = 1 + k by omega]
  constructor
  · intro h hc
    rw [if_pos hc] at hf
    have e : x :: r = lenB (beF (r.take k)) ++ (x :: r).drop (1 + k) := by rw [h, List.take_append_drop]
    rw [e, rl_put _ _ hn] at hf
    cases hf
  · intro hc
    rw [if_neg hc] at hf
    obtain ⟨h1, h2, h3⟩ := rl_inv hf
    have : (x :: r).take (1 + k) = (lenB (beF (r.take k)) ++ (x :: r).drop (1 + k)).take (1 + k) := by rw [← h3]
    rw [this, List.take_append_of_le_length (by omega)]
    exact (List.take_of_length_le (by omega)).symm

theorem isRReadLength : IsFn Tryz.prog 142 Tryz.f142 := ⟨Tryz.func142, by decide, rfl⟩
set_option maxHeartbeats 4000000 in
set_option maxRecDepth 100000 in
theorem c_rreadlen (Γ : Env) (b : List UInt8) (hb : b.length ≤ 1099511627) : ACalls Tryz.prog Γ 142 [.sl none (bys b)] (fun r => r = .d (rlD (rlF b))) := by
  refine acalls_of ty_ok isRReadLength rfl rfl ?_
  match b, hb with
  | [], _ =>
    repeat' (first | ((with_reducible show AWp _ _ _ _ _); (first | refine awp_seq ?_ | refine awp_block ?_ | refine awp_skip ?_ | refine awp_exit ?_ | refine awp_scope ?_ | refine awp_label ?_ | refine awp_run ty_ok rfl sd ?_ | refine awp_ret ⟨_, _, rfl, rfl, ?_⟩ | refine awp_ret ⟨_, rfl, ?_⟩ | ((refine awp_cond (ty := ty) rfl (fun hc => ?_) (fun hc => ?_)) <;> (try simp only [nms, reduceCtorEq] at hc) <;> (try (exfalso; omega))))) | ((with_reducible show AOps _ _ _ _ _ _); (first | refine aops_nil ?_ | refine aops_go ty_ok rfl rfl sd ?_ | refine aops_gate ty_ok rfl rfl rfl sd ?_ | refine aops_litE ty_ok rfl rfl rfl rfl rfl rfl rfl rfl rfl rfl rfl rfl ?_ | refine aops_cutE ty_ok rfl rfl rfl rfl rfl rfl rfl rfl rfl sd rfl ?_ | ((fail_if_success (refine aops_known rfl ?_)); (refine aops_split ty_ok rfl rfl rfl rfl rfl rfl (fun hc => ⟨?_, ?_⟩) (fun hc => ⟨?_, ?_⟩)) <;> (try simp only [nms, reduceCtorEq] at hc) <;> (try (exfalso; omega)) <;> (try exact sd)))) | ((fail_if_success (with_reducible show AWp _ _ _ _ _)); (fail_if_success (with_reducible show AOps _ _ _ _ _ _)); (first | (show AWp _ _ _ _ _) | (show AOps _ _ _ _ _ _))))
    rfl
  | x :: r, hb =>
    have hx := u8_lt x
    have h0 : ((bys (x :: r)).getD (Int.toNat 0) default).num = (x.toNat : Int) := rfl
    have hw : IntKind.i64.wrap ((bys (x :: r)).getD (Int.toNat 0) default).num = (x.toNat : Int) := wrap_i64_nat _ (by omega)
    simp only [List.length_cons] at hb
    rw [rlF]
    by_cases h1 : x.toNat < 128
    · rw [if_pos h1]
      repeat' (first | ((with_reducible show AWp _ _ _ _ _); (first | refine awp_seq ?_ | refine awp_block ?_ | refine awp_skip ?_ | refine awp_exit ?_ | refine awp_scope ?_ | refine awp_label ?_ | refine awp_run ty_ok rfl sd ?_ | refine awp_ret ⟨_, _, rfl, rfl, ?_⟩ | refine awp_ret ⟨_, rfl, ?_⟩ | ((refine awp_cond (ty := ty) rfl (fun hc => ?_) (fun hc => ?_)) <;> (try simp only [nms, reduceCtorEq] at hc) <;> (try (exfalso; omega))))) | ((with_reducible show AOps _ _ _ _ _ _); (first | refine aops_nil ?_ | refine aops_go ty_ok rfl rfl sd ?_ | refine aops_gate ty_ok rfl rfl rfl sd ?_ | refine aops_litE ty_ok rfl rfl rfl rfl rfl rfl rfl rfl rfl rfl rfl rfl ?_ | refine aops_cutE ty_ok rfl rfl rfl rfl rfl rfl rfl rfl rfl sd rfl ?_ | ((fail_if_success (refine aops_known rfl ?_)); (refine aops_split ty_ok rfl rfl rfl rfl rfl rfl (fun hc => ⟨?_, ?_⟩) (fun hc => ⟨?_, ?_⟩)) <;> (try simp only [nms, reduceCtorEq] at hc) <;> (try (exfalso; omega)) <;> (try exact sd)))) | ((fail_if_success (with_reducible show AWp _ _ _ _ _)); (fail_if_success (with_reducible show AOps _ _ _ _ _ _)); (first | (show AWp _ _ _ _ _) | (show AOps _ _ _ _ _ _))))
      rw [hw]
      rfl
    rw [if_neg h1]
    by_cases h2 : x.toNat = 128 ∨ 132 < x.toNat
    · rw [if_pos h2]
      repeat' (first | ((with_reducible show AWp _ _ _ _ _); (first | refine awp_seq ?_ | refine awp_block ?_ | refine awp_skip ?_ | refine awp_exit ?_ | refine awp_scope ?_ | refine awp_label ?_ | refine awp_run ty_ok rfl sd ?_ | refine awp_ret ⟨_, _, rfl, rfl, ?_⟩ | refine awp_ret ⟨_, rfl, ?_⟩ | ((refine awp_cond (ty := ty) rfl (fun hc => ?_) (fun hc => ?_)) <;> (try simp only [nms, reduceCtorEq] at hc) <;> (try (exfalso; omega))))) | ((with_reducible show AOps _ _ _ _ _ _); (first | refine aops_nil ?_ | refine aops_go ty_ok rfl rfl sd ?_ | refine aops_gate ty_ok rfl rfl rfl sd ?_ | refine aops_litE ty_ok rfl rfl rfl rfl rfl rfl rfl rfl rfl rfl rfl rfl ?_ | refine aops_cutE ty_ok rfl rfl rfl rfl rfl rfl rfl rfl rfl sd rfl ?_ | ((fail_if_success (refine aops_known rfl ?_)); (refine aops_split ty_ok rfl rfl rfl rfl rfl rfl (fun hc => ⟨?_, ?_⟩) (fun hc => ⟨?_, ?_⟩)) <;> (try simp only [nms, reduceCtorEq] at hc) <;> (try (exfalso; omega)) <;> (try exact sd)))) | ((fail_if_success (with_reducible show AWp _ _ _ _ _)); (fail_if_success (with_reducible show AOps _ _ _ _ _ _)); (first | (show AWp _ _ _ _ _) | (show AOps _ _ _ _ _ _))))
      all_goals rfl
    rw [if_neg h2]
    have hlen : (bys (x :: r)).length = r.length + 1 := by simp [bys_len]
    by_cases h3 : r.length < x.toNat - 128
    · rw [if_pos h3]
      repeat' (first | ((with_reducible show AWp _ _ _ _ _); (first | refine awp_seq ?_ | refine awp_block ?_ | refine awp_skip ?_ | refine awp_exit ?_ | refine awp_scope ?_ | refine awp_label ?_ | refine awp_run ty_ok rfl sd ?_ | refine awp_ret ⟨_, _, rfl, rfl, ?_⟩ | refine awp_ret ⟨_, rfl, ?_⟩ | ((refine awp_cond (ty := ty) rfl (fun hc => ?_) (fun hc => ?_)) <;> (try simp only [nms, reduceCtorEq] at hc) <;> (try (exfalso; omega))))) | ((with_reducible show AOps _ _ _ _ _ _); (first | refine aops_nil ?_ | refine aops_go ty_ok rfl rfl sd ?_ | refine aops_gate ty_ok rfl rfl rfl sd ?_ | refine aops_litE ty_ok rfl rfl rfl rfl rfl rfl rfl rfl rfl rfl rfl rfl ?_ | refine aops_cutE ty_ok rfl rfl rfl rfl rfl rfl rfl rfl rfl sd rfl ?_ | ((fail_if_success (refine aops_known rfl ?_)); (refine aops_split ty_ok rfl rfl rfl rfl rfl rfl (fun hc => ⟨?_, ?_⟩) (fun hc => ⟨?_, ?_⟩)) <;> (try simp only [nms, reduceCtorEq] at hc) <;> (try (exfalso; omega)) <;> (try exact sd)))) | ((fail_if_success (with_reducible show AWp _ _ _ _ _)); (fail_if_success (with_reducible show AOps _ _ _ _ _ _)); (first | (show AWp _ _ _ _ _) | (show AOps _ _ _ _ _ _))))
      rw [hlen]
      rfl
    rw [if_neg h3]
    obtain ⟨K, hK⟩ : ∃ K, x.toNat = K + 128 := ⟨x.toNat - 128, by omega⟩
    have hK2 : x.toNat - 128 = K := by omega
    have hwK : IntKind.i64.wrap ((bys (x :: r)).getD (Int.toNat 0) default).num - 128 = (K : Int) := by omega
    rw [hK2] at h3 ⊢
    have hbt := beF_lt (r.take K)
    have hpw := Nat.pow_le_pow_right (n := 256) (by omega) (show (r.take K).length ≤ 4 by rw [List.length_take]; omega)
    have hc1 := c_ruint (Γ.at 0) (r.take K) (by rw [List.length_take]; omega)
    have hcut1 : cutL (bys (x :: r)) (Int.toNat 1) (Int.toNat (1 + (IntKind.i64.wrap ((bys (x :: r)).getD (Int.toNat 0) default).num - 128))) = bys (r.take K) := by
      rw [hwK, cutL_bys, show (1 + (K : Int)).toNat = K + 1 by omega]
      simp [cutB]
    rw [← hcut1] at hc1
    by_cases h5 : beF (r.take K) ≤ 2147483647
    · have hc2 := c_rlen02 (Γ.at 0) (beF (r.take K)) h5
      rw [← wrap_i64_nat (beF (r.take K)) (by omega)] at hc2
      have hlb := lenB_len5 h5
      have hwn : IntKind.i64.wrap ((beF (r.take K) : Nat) : Int) = (beF (r.take K) : Int) := wrap_i64_nat _ (by omega)
      have hmin := rl_min hK (by omega) (by omega) (by omega) h5
      have hc3 := c_rcmp (Γ.at 0) (lenB (beF (r.take K))) ((x :: r).take (1 + K)) (by omega)
      have hcut2 : cutL (bys (x :: r)) 0 (Int.toNat (1 + (IntKind.i64.wrap ((bys (x :: r)).getD (Int.toNat 0) default).num - 128))) = bys ((x :: r).take (1 + K)) := by
        rw [hwK, cutL_bys, show (1 + (K : Int)).toNat = 1 + K by omega]
        simp [cutB]
      rw [← hcut2] at hc3
      have hz := cmpB_zero (lenB (beF (r.take K))) ((x :: r).take (1 + K))
      by_cases h4 : (r.headD 0).toNat = 0 ∨ beF (r.take K) < 128 ∨ 2147483647 < beF (r.take K)
      · rw [if_pos h4]
        have hne : cmpB (lenB (beF (r.take K))) ((x :: r).take (1 + K)) ≠ 0 := fun e => (hmin.1 (hz.1 e)) h4
        repeat' (first | ((with_reducible show AWp _ _ _ _ _); (first | refine awp_seq ?_ | refine awp_block ?_ | refine awp_skip ?_ | refine awp_exit ?_ | refine awp_scope ?_ | refine awp_label ?_ | refine awp_run ty_ok rfl sd ?_ | refine awp_ret ⟨_, _, rfl, rfl, ?_⟩ | refine awp_ret ⟨_, rfl, ?_⟩ | ((refine awp_cond (ty := ty) rfl (fun hc => ?_) (fun hc => ?_)) <;> (try simp only [nms, reduceCtorEq] at hc) <;> (try (exfalso; omega))))) | ((with_reducible show AOps _ _ _ _ _ _); (first | refine aops_nil ?_ | refine aops_go ty_ok rfl rfl sd ?_ | refine aops_gate ty_ok rfl rfl rfl sd ?_ | refine aops_callE (ty := ty) rfl rfl rfl rfl rfl rfl rfl (hc1) rfl ?_ | refine aops_callE (ty := ty) rfl rfl rfl rfl rfl rfl rfl (hc2) rfl ?_ | refine aops_callE (ty := ty) rfl rfl rfl rfl rfl rfl rfl (hc3) rfl ?_ | refine aops_litE ty_ok rfl rfl rfl rfl rfl rfl rfl rfl rfl rfl rfl rfl ?_ | refine aops_cutE ty_ok rfl rfl rfl rfl rfl rfl rfl rfl rfl sd rfl ?_ | ((fail_if_success (refine aops_known rfl ?_)); (refine aops_split ty_ok rfl rfl rfl rfl rfl rfl (fun hc => ⟨?_, ?_⟩) (fun hc => ⟨?_, ?_⟩)) <;> (try simp only [nms, reduceCtorEq] at hc) <;> (try (exfalso; omega)) <;> (try exact sd)))) | ((fail_if_success (with_reducible show AWp _ _ _ _ _)); (fail_if_success (with_reducible show AOps _ _ _ _ _ _)); (first | (show AWp _ _ _ _ _) | (show AOps _ _ _ _ _ _))))
        all_goals rfl
      · rw [if_neg h4]
        have he : cmpB (lenB (beF (r.take K))) ((x :: r).take (1 + K)) = 0 := hz.2 (hmin.2 h4)
        repeat' (first | ((with_reducible show AWp _ _ _ _ _); (first | refine awp_seq ?_ | refine awp_block ?_ | refine awp_skip ?_ | refine awp_exit ?_ | refine awp_scope ?_ | refine awp_label ?_ | refine awp_run ty_ok rfl sd ?_ | refine awp_ret ⟨_, _, rfl, rfl, ?_⟩ | refine awp_ret ⟨_, rfl, ?_⟩ | ((refine awp_cond (ty := ty) rfl (fun hc => ?_) (fun hc => ?_)) <;> (try simp only [nms, reduceCtorEq] at hc) <;> (try (exfalso; omega))))) | ((with_reducible show AOps _ _ _ _ _ _); (first | refine aops_nil ?_ | refine aops_go ty_ok rfl rfl sd ?_ | refine aops_gate ty_ok rfl rfl rfl sd ?_ | refine aops_callE (ty := ty) rfl rfl rfl rfl rfl rfl rfl (hc1) rfl ?_ | refine aops_callE (ty := ty) rfl rfl rfl rfl rfl rfl rfl (hc2) rfl ?_ | refine aops_callE (ty := ty) rfl rfl rfl rfl rfl rfl rfl (hc3) rfl ?_ | refine aops_litE ty_ok rfl rfl rfl rfl rfl rfl rfl rfl rfl rfl rfl rfl ?_ | refine aops_cutE ty_ok rfl rfl rfl rfl rfl rfl rfl rfl rfl sd rfl ?_ | ((fail_if_success (refine aops_known rfl ?_)); (refine aops_split ty_ok rfl rfl rfl rfl rfl rfl (fun hc => ⟨?_, ?_⟩) (fun hc => ⟨?_, ?_⟩)) <;> (try simp only [nms, reduceCtorEq] at hc) <;> (try (exfalso; omega)) <;> (try exact sd)))) | ((fail_if_success (with_reducible show AWp _ _ _ _ _)); (fail_if_success (with_reducible show AOps _ _ _ _ _ _)); (first | (show AWp _ _ _ _ _) | (show AOps _ _ _ _ _ _))))
        rw [hwn, hwK, show x.toNat - 127 = K + 1 by omega, show (1 : Int) + (K : Int) = ((K + 1 : Nat) : Int) by omega]
        rfl
    · rw [if_pos (by omega)]
      repeat' (first | ((with_reducible show AWp _ _ _ _ _); (first | refine awp_seq ?_ | refine awp_block ?_ | refine awp_skip ?_ | refine awp_exit ?_ | refine awp_scope ?_ | refine awp_label ?_ | refine awp_run ty_ok rfl sd ?_ | refine awp_ret ⟨_, _, rfl, rfl, ?_⟩ | refine awp_ret ⟨_, rfl, ?_⟩ | ((refine awp_cond (ty := ty) rfl (fun hc => ?_) (fun hc => ?_)) <;> (try simp only [nms, reduceCtorEq] at hc) <;> (try (exfalso; omega))))) | ((with_reducible show AOps _ _ _ _ _ _); (first | refine aops_nil ?_ | refine aops_go ty_ok rfl rfl sd ?_ | refine aops_gate ty_ok rfl rfl rfl sd ?_ | refine aops_callE (ty := ty) rfl rfl rfl rfl rfl rfl rfl (hc1) rfl ?_ | refine aops_litE ty_ok rfl rfl rfl rfl rfl rfl rfl rfl rfl rfl rfl rfl ?_ | refine aops_cutE ty_ok rfl rfl rfl rfl rfl rfl rfl rfl rfl sd rfl ?_ | ((fail_if_success (refine aops_known rfl ?_)); (refine aops_split ty_ok rfl rfl rfl rfl rfl rfl (fun hc => ⟨?_, ?_⟩) (fun hc => ⟨?_, ?_⟩)) <;> (try simp only [nms, reduceCtorEq] at hc) <;> (try (exfalso; omega)) <;> (try exact sd)))) | ((fail_if_success (with_reducible show AWp _ _ _ _ _)); (fail_if_success (with_reducible show AOps _ _ _ _ _ _)); (first | (show AWp _ _ _ _ _) | (show AOps _ _ _ _ _ _))))
      rfl
end Go.Proofs.YtdihjpmdmfmbiaaGreatDoor

/- Trees of elements, read and written by the reference. Walked by the abstract machine. -/
namespace Go.Proofs.YtdihjpmdmfmbiaaGreatDoor
open Go.Am
set_option linter.unusedSimpArgs false
set_option linter.unusedVariables false
-- withAmZ

theorem c_rreadid_bad (Γ : Env) (x : UInt8) (h : x.toNat % 32 = 31) : ACalls Tryz.prog Γ 141 [.int .u8 x.toNat] (fun r => r = .d (.tup [.int .i64 0, .bool false, .int .i64 0, .int .i64 3])) := (c_rreadid Γ x).mono fun r hr => by
  rw [hr, idD, if_pos h]
theorem c_rreadid_ok (Γ : Env) (x : UInt8) (h : ¬ x.toNat % 32 = 31) : ACalls Tryz.prog Γ 141 [.int .u8 x.toNat] (fun r => r = .d (.tup [clsD x, .bool (conB x), numD x, .int .i64 0])) := (c_rreadid Γ x).mono fun r hr => by
  rw [hr, idD, if_neg h]
theorem c_rreadlen_at (Γ : Env) (b : List UInt8) (hb : b.length ≤ 1099511627) {v : Ex (Nat × Nat)} (h : rlF b = v) : ACalls Tryz.prog Γ 142 [.sl none (bys b)] (fun r => r = .d (rlD v)) := by
  subst h
  exact c_rreadlen Γ b hb
theorem isRReadHeader : IsFn Tryz.prog 125 Tryz.f125 := ⟨Tryz.func125, by decide, rfl⟩
set_option maxHeartbeats 4000000 in
set_option maxRecDepth 100000 in
theorem c_rreadhd (Γ : Env) (b : List UInt8) (hb : b.length ≤ 1099511627) : ACalls Tryz.prog Γ 125 [.sl none (bys b)] (fun r => r = .d (hdD (hdF b))) := by
  refine acalls_of ty_ok isRReadHeader rfl rfl ?_
  match b, hb with
  | [], _ =>
    repeat' (first | ((with_reducible show AWp _ _ _ _ _); (first | refine awp_seq ?_ | refine awp_block ?_ | refine awp_skip ?_ | refine awp_exit ?_ | refine awp_scope ?_ | refine awp_label ?_ | refine awp_run ty_ok rfl sd ?_ | refine awp_ret ⟨_, _, rfl, rfl, ?_⟩ | refine awp_ret ⟨_, rfl, ?_⟩ | ((refine awp_cond (ty := ty) rfl (fun hc => ?_) (fun hc => ?_)) <;> (try simp only [nms, reduceCtorEq] at hc) <;> (try (exfalso; omega))))) | ((with_reducible show AOps _ _ _ _ _ _); (first | refine aops_nil ?_ | refine aops_go ty_ok rfl rfl sd ?_ | refine aops_gate ty_ok rfl rfl rfl sd ?_ | refine aops_litE ty_ok rfl rfl rfl rfl rfl rfl rfl rfl rfl rfl rfl rfl ?_ | refine aops_litA ty_ok rfl rfl rfl rfl rfl rfl rfl rfl rfl rfl rfl rfl rfl rfl rfl rfl ?_ | refine aops_buildArr ty_ok rfl rfl rfl rfl rfl rfl rfl rfl rfl rfl ?_ | refine aops_indexArr ty_ok rfl rfl rfl rfl rfl rfl rfl rfl rfl rfl sd ?_ | refine aops_cutE ty_ok rfl rfl rfl rfl rfl rfl rfl rfl rfl sd rfl ?_ | ((fail_if_success (refine aops_known rfl ?_)); (refine aops_split ty_ok rfl rfl rfl rfl rfl rfl (fun hc => ⟨?_, ?_⟩) (fun hc => ⟨?_, ?_⟩)) <;> (try simp only [nms, reduceCtorEq] at hc) <;> (try (exfalso; omega)) <;> (try exact sd)))) | ((fail_if_success (with_reducible show AWp _ _ _ _ _)); (fail_if_success (with_reducible show AOps _ _ _ _ _ _)); (first | (show AWp _ _ _ _ _) | (show AOps _ _ _ _ _ _))))
    rfl
  | x :: r, hb =>
    have h0 : ((bys (x :: r)).getD (Int.toNat 0) default).num = (x.toNat : Int) := rfl
    simp only [List.length_cons] at hb
    rw [hdF]
    by_cases h1 : x.toNat % 32 = 31
    · rw [if_pos h1]
      have hc1 := c_rreadid_bad (Γ.at 0) x h1
      rw [← h0] at hc1
      repeat' (first | ((with_reducible show AWp _ _ _ _ _); (first | refine awp_seq ?_ | refine awp_block ?_ | refine awp_skip ?_ | refine awp_exit ?_ | refine awp_scope ?_ | refine awp_label ?_ | refine awp_run ty_ok rfl sd ?_ | refine awp_ret ⟨_, _, rfl, rfl, ?_⟩ | refine awp_ret ⟨_, rfl, ?_⟩ | ((refine awp_cond (ty := ty) rfl (fun hc => ?_) (fun hc => ?_)) <;> (try simp only [nms, reduceCtorEq] at hc) <;> (try (exfalso; omega))))) | ((with_reducible show AOps _ _ _ _ _ _); (first | refine aops_nil ?_ | refine aops_go ty_ok rfl rfl sd ?_ | refine aops_gate ty_ok rfl rfl rfl sd ?_ | refine aops_callE (ty := ty) rfl rfl rfl rfl rfl rfl rfl (hc1) rfl ?_ | refine aops_litE ty_ok rfl rfl rfl rfl rfl rfl rfl rfl rfl rfl rfl rfl ?_ | refine aops_litA ty_ok rfl rfl rfl rfl rfl rfl rfl rfl rfl rfl rfl rfl rfl rfl rfl rfl ?_ | refine aops_buildArr ty_ok rfl rfl rfl rfl rfl rfl rfl rfl rfl rfl ?_ | refine aops_indexArr ty_ok rfl rfl rfl rfl rfl rfl rfl rfl rfl rfl sd ?_ | refine aops_cutE ty_ok rfl rfl rfl rfl rfl rfl rfl rfl rfl sd rfl ?_ | ((fail_if_success (refine aops_known rfl ?_)); (refine aops_split ty_ok rfl rfl rfl rfl rfl rfl (fun hc => ⟨?_, ?_⟩) (fun hc => ⟨?_, ?_⟩)) <;> (try simp only [nms, reduceCtorEq] at hc) <;> (try (exfalso; omega)) <;> (try exact sd)))) | ((fail_if_success (with_reducible show AWp _ _ _ _ _)); (fail_if_success (with_reducible show AOps _ _ _ _ _ _)); (first | (show AWp _ _ _ _ _) | (show AOps _ _ _ _ _ _))))
      rfl
    rw [if_neg h1]
    have hc1 := c_rreadid_ok (Γ.at 0) x h1
    rw [← h0] at hc1
    have hcut : cutL (bys (x :: r)) (Int.toNat 1) (bys (x :: r)).length = bys r := by rw [cutL_bys, bys_len]; simp [cutB]
    have hrb : ∀ c o, rlF r = .bad c o → (c = 1 ∨ c = 4) ∧ o ≤ r.length := fun c o h => rl_bad h
    have hrk : ∀ n s, rlF r = .ok (n, s) → s ≤ 9 := fun n s h => by have := (rl_inv h).2.1; have := lenB_len n; omega
    cases hr : rlF r with
    | bad c o =>
      have hc2 := c_rreadlen_at (Γ.at 0) r (by omega) hr
      rw [← hcut] at hc2
      have := hrb c o hr
      repeat' (first | ((with_reducible show AWp _ _ _ _ _); (first | refine awp_seq ?_ | refine awp_block ?_ | refine awp_skip ?_ | refine awp_exit ?_ | refine awp_scope ?_ | refine awp_label ?_ | refine awp_run ty_ok rfl sd ?_ | refine awp_ret ⟨_, _, rfl, rfl, ?_⟩ | refine awp_ret ⟨_, rfl, ?_⟩ | ((refine awp_cond (ty := ty) rfl (fun hc => ?_) (fun hc => ?_)) <;> (try simp only [nms, reduceCtorEq] at hc) <;> (try (exfalso; omega))) | refine awp_anyS 8 7 ty_ok mixed rfl rfl rfl rfl rfl rfl rfl rfl rfl (by kernel_rfl) ?_)) | ((with_reducible show AOps _ _ _ _ _ _); (first | refine aops_nil ?_ | refine aops_go ty_ok rfl rfl sd ?_ | refine aops_gate ty_ok rfl rfl rfl sd ?_ | refine aops_callE (ty := ty) rfl rfl rfl rfl rfl rfl rfl (hc1) rfl ?_ | refine aops_callE (ty := ty) rfl rfl rfl rfl rfl rfl rfl (hc2) rfl ?_ | refine aops_litE ty_ok rfl rfl rfl rfl rfl rfl rfl rfl rfl rfl rfl rfl ?_ | refine aops_litA ty_ok rfl rfl rfl rfl rfl rfl rfl rfl rfl rfl rfl rfl rfl rfl rfl rfl ?_ | refine aops_buildArr ty_ok rfl rfl rfl rfl rfl rfl rfl rfl rfl rfl ?_ | refine aops_indexArr ty_ok rfl rfl rfl rfl rfl rfl rfl rfl rfl rfl sd ?_ | refine aops_cutE ty_ok rfl rfl rfl rfl rfl rfl rfl rfl rfl sd rfl ?_ | ((fail_if_success (refine aops_known rfl ?_)); (refine aops_split ty_ok rfl rfl rfl rfl rfl rfl (fun hc => ⟨?_, ?_⟩) (fun hc => ⟨?_, ?_⟩)) <;> (try simp only [nms, reduceCtorEq] at hc) <;> (try (exfalso; omega)) <;> (try exact sd)))) | ((with_reducible show HeadT _ _ _ _ _ _ _ _ _ _); (first | refine head_end ?_ | refine head_goP ty_ok rfl rfl sd ?_ | refine head_gate ty_ok rfl rfl rfl sd ?_ | refine head_callE (ty := ty) rfl rfl rfl rfl rfl rfl rfl (hc1) rfl ?_ | refine head_callE (ty := ty) rfl rfl rfl rfl rfl rfl rfl (hc2) rfl ?_ | ((fail_if_success (refine head_known rfl ?_)); (refine head_split ty_ok rfl rfl rfl rfl (fun hc => ⟨?_, ?_⟩) (fun hc => ⟨?_, ?_⟩)) <;> (try simp only [nms, reduceCtorEq] at hc) <;> (try (exfalso; omega)) <;> (try exact sd)))) | ((fail_if_success (with_reducible show AWp _ _ _ _ _)); (fail_if_success (with_reducible show AOps _ _ _ _ _ _)); (fail_if_success (with_reducible show HeadT _ _ _ _ _ _ _ _ _ _)); (first | (show AWp _ _ _ _ _) | (show AOps _ _ _ _ _ _) | refine st_go rfl rfl rfl rfl rfl rfl rfl ?_)))
      rfl
    | ok p =>
      obtain ⟨n, s⟩ := p
      have hc2 := c_rreadlen_at (Γ.at 0) r (by omega) hr
      rw [← hcut] at hc2
      have := hrk n s hr
      repeat' (first | ((with_reducible show AWp _ _ _ _ _); (first | refine awp_seq ?_ | refine awp_block ?_ | refine awp_skip ?_ | refine awp_exit ?_ | refine awp_scope ?_ | refine awp_label ?_ | refine awp_run ty_ok rfl sd ?_ | refine awp_ret ⟨_, _, rfl, rfl, ?_⟩ | refine awp_ret ⟨_, rfl, ?_⟩ | ((refine awp_cond (ty := ty) rfl (fun hc => ?_) (fun hc => ?_)) <;> (try simp only [nms, reduceCtorEq] at hc) <;> (try (exfalso; omega))) | refine awp_anyS 8 7 ty_ok mixed rfl rfl rfl rfl rfl rfl rfl rfl rfl (by kernel_rfl) ?_)) | ((with_reducible show AOps _ _ _ _ _ _); (first | refine aops_nil ?_ | refine aops_go ty_ok rfl rfl sd ?_ | refine aops_gate ty_ok rfl rfl rfl sd ?_ | refine aops_callE (ty := ty) rfl rfl rfl rfl rfl rfl rfl (hc1) rfl ?_ | refine aops_callE (ty := ty) rfl rfl rfl rfl rfl rfl rfl (hc2) rfl ?_ | refine aops_litE ty_ok rfl rfl rfl rfl rfl rfl rfl rfl rfl rfl rfl rfl ?_ | refine aops_litA ty_ok rfl rfl rfl rfl rfl rfl rfl rfl rfl rfl rfl rfl rfl rfl rfl rfl ?_ | refine aops_buildArr ty_ok rfl rfl rfl rfl rfl rfl rfl rfl rfl rfl ?_ | refine aops_indexArr ty_ok rfl rfl rfl rfl rfl rfl rfl rfl rfl rfl sd ?_ | refine aops_cutE ty_ok rfl rfl rfl rfl rfl rfl rfl rfl rfl sd rfl ?_ | ((fail_if_success (refine aops_known rfl ?_)); (refine aops_split ty_ok rfl rfl rfl rfl rfl rfl (fun hc => ⟨?_, ?_⟩) (fun hc => ⟨?_, ?_⟩)) <;> (try simp only [nms, reduceCtorEq] at hc) <;> (try (exfalso; omega)) <;> (try exact sd)))) | ((with_reducible show HeadT _ _ _ _ _ _ _ _ _ _); (first | refine head_end ?_ | refine head_goP ty_ok rfl rfl sd ?_ | refine head_gate ty_ok rfl rfl rfl sd ?_ | refine head_callE (ty := ty) rfl rfl rfl rfl rfl rfl rfl (hc1) rfl ?_ | refine head_callE (ty := ty) rfl rfl rfl rfl rfl rfl rfl (hc2) rfl ?_ | ((fail_if_success (refine head_known rfl ?_)); (refine head_split ty_ok rfl rfl rfl rfl (fun hc => ⟨?_, ?_⟩) (fun hc => ⟨?_, ?_⟩)) <;> (try simp only [nms, reduceCtorEq] at hc) <;> (try (exfalso; omega)) <;> (try exact sd)))) | ((fail_if_success (with_reducible show AWp _ _ _ _ _)); (fail_if_success (with_reducible show AOps _ _ _ _ _ _)); (fail_if_success (with_reducible show HeadT _ _ _ _ _ _ _ _ _ _)); (first | (show AWp _ _ _ _ _) | (show AOps _ _ _ _ _ _) | refine st_go rfl rfl rfl rfl rfl rfl rfl ?_)))
      rfl
/-- An element at the beginning, what is in it, what is behind it. -/
def ntD (b : List UInt8) : Ex (UInt8 × Nat × Nat) → Dat
  | .bad c o => .tup [hdr0, .sl none [], .sl none [], errD c o]
  | .ok (x, n, s) => if b.length - s < n then .tup [hdr0, .sl none [], .sl none [], errD 1 b.length] else .tup [hdrD x n s, .sl none (bys (cut b s (s + n))), .sl none (bys (b.drop (s + n))), errD 0 0]
theorem isRNext : IsFn Tryz.prog 104 Tryz.f104 := ⟨Tryz.func104, by decide, rfl⟩
set_option maxHeartbeats 4000000 in
set_option maxRecDepth 100000 in
theorem c_rnext (Γ : Env) (b : List UInt8) (hb : b.length ≤ 1099511627) : ACalls Tryz.prog Γ 104 [.sl none (bys b)] (fun r => r = .d (ntD b (hdF b))) := by
  refine acalls_of ty_ok isRNext rfl rfl ?_
  have hc1 := c_rreadhd (Γ.at 0) b hb
  cases hd : hdF b with
  | bad c o =>
    rw [hd] at hc1
    have := hd_bad hd
    repeat' (first | ((with_reducible show AWp _ _ _ _ _); (first | refine awp_seq ?_ | refine awp_block ?_ | refine awp_skip ?_ | refine awp_exit ?_ | refine awp_scope ?_ | refine awp_label ?_ | refine awp_run ty_ok rfl sd ?_ | refine awp_ret ⟨_, _, rfl, rfl, ?_⟩ | refine awp_ret ⟨_, rfl, ?_⟩ | ((refine awp_cond (ty := ty) rfl (fun hc => ?_) (fun hc => ?_)) <;> (try simp only [nms, reduceCtorEq] at hc) <;> (try (exfalso; omega))) | refine awp_anyS 5 2 ty_ok mixed rfl rfl rfl rfl rfl rfl rfl rfl rfl (by kernel_rfl) ?_)) | ((with_reducible show AOps _ _ _ _ _ _); (first | refine aops_nil ?_ | refine aops_go ty_ok rfl rfl sd ?_ | refine aops_gate ty_ok rfl rfl rfl sd ?_ | refine aops_callE (ty := ty) rfl rfl rfl rfl rfl rfl rfl (hc1) rfl ?_ | refine aops_litE ty_ok rfl rfl rfl rfl rfl rfl rfl rfl rfl rfl rfl rfl ?_ | refine aops_litA ty_ok rfl rfl rfl rfl rfl rfl rfl rfl rfl rfl rfl rfl rfl rfl rfl rfl ?_ | refine aops_buildArr ty_ok rfl rfl rfl rfl rfl rfl rfl rfl rfl rfl ?_ | refine aops_indexArr ty_ok rfl rfl rfl rfl rfl rfl rfl rfl rfl rfl sd ?_ | refine aops_cutE ty_ok rfl rfl rfl rfl rfl rfl rfl rfl rfl sd rfl ?_ | ((fail_if_success (refine aops_known rfl ?_)); (refine aops_split ty_ok rfl rfl rfl rfl rfl rfl (fun hc => ⟨?_, ?_⟩) (fun hc => ⟨?_, ?_⟩)) <;> (try simp only [nms, reduceCtorEq] at hc) <;> (try (exfalso; omega)) <;> (try exact sd)))) | ((with_reducible show HeadT _ _ _ _ _ _ _ _ _ _); (first | refine head_end ?_ | refine head_goP ty_ok rfl rfl sd ?_ | refine head_gate ty_ok rfl rfl rfl sd ?_ | refine head_callE (ty := ty) rfl rfl rfl rfl rfl rfl rfl (hc1) rfl ?_ | ((fail_if_success (refine head_known rfl ?_)); (refine head_split ty_ok rfl rfl rfl rfl (fun hc => ⟨?_, ?_⟩) (fun hc => ⟨?_, ?_⟩)) <;> (try simp only [nms, reduceCtorEq] at hc) <;> (try (exfalso; omega)) <;> (try exact sd)))) | ((fail_if_success (with_reducible show AWp _ _ _ _ _)); (fail_if_success (with_reducible show AOps _ _ _ _ _ _)); (fail_if_success (with_reducible show HeadT _ _ _ _ _ _ _ _ _ _)); (first | (show AWp _ _ _ _ _) | (show AOps _ _ _ _ _ _) | refine st_go rfl rfl rfl rfl rfl rfl rfl ?_)))
    rfl
  | ok p =>
    obtain ⟨x, n, s⟩ := p
    rw [hd] at hc1
    obtain ⟨_, g1, g2, g3⟩ := hd_inv hd
    have g4 := lenB_len5 g1
    have g5 := congrArg List.length g3
    simp only [List.length_cons, List.length_append, List.length_drop] at g5
    rw [ntD]
    by_cases h : b.length - s < n
    · rw [if_pos h]
      repeat' (first | ((with_reducible show AWp _ _ _ _ _); (first | refine awp_seq ?_ | refine awp_block ?_ | refine awp_skip ?_ | refine awp_exit ?_ | refine awp_scope ?_ | refine awp_label ?_ | refine awp_run ty_ok rfl sd ?_ | refine awp_ret ⟨_, _, rfl, rfl, ?_⟩ | refine awp_ret ⟨_, rfl, ?_⟩ | ((refine awp_cond (ty := ty) rfl (fun hc => ?_) (fun hc => ?_)) <;> (try simp only [nms, reduceCtorEq] at hc) <;> (try (exfalso; omega))) | refine awp_anyS 5 2 ty_ok mixed rfl rfl rfl rfl rfl rfl rfl rfl rfl (by kernel_rfl) ?_)) | ((with_reducible show AOps _ _ _ _ _ _); (first | refine aops_nil ?_ | refine aops_go ty_ok rfl rfl sd ?_ | refine aops_gate ty_ok rfl rfl rfl sd ?_ | refine aops_callE (ty := ty) rfl rfl rfl rfl rfl rfl rfl (hc1) rfl ?_ | refine aops_litE ty_ok rfl rfl rfl rfl rfl rfl rfl rfl rfl rfl rfl rfl ?_ | refine aops_litA ty_ok rfl rfl rfl rfl rfl rfl rfl rfl rfl rfl rfl rfl rfl rfl rfl rfl ?_ | refine aops_buildArr ty_ok rfl rfl rfl rfl rfl rfl rfl rfl rfl rfl ?_ | refine aops_indexArr ty_ok rfl rfl rfl rfl rfl rfl rfl rfl rfl rfl sd ?_ | refine aops_cutE ty_ok rfl rfl rfl rfl rfl rfl rfl rfl rfl sd rfl ?_ | ((fail_if_success (refine aops_known rfl ?_)); (refine aops_split ty_ok rfl rfl rfl rfl rfl rfl (fun hc => ⟨?_, ?_⟩) (fun hc => ⟨?_, ?_⟩)) <;> (try simp only [nms, reduceCtorEq] at hc) <;> (try (exfalso; omega)) <;> (try exact sd)))) | ((with_reducible show HeadT _ _ _ _ _ _ _ _ _ _); (first | refine head_end ?_ | refine head_goP ty_ok rfl rfl sd ?_ | refine head_gate ty_ok rfl rfl rfl sd ?_ | refine head_callE (ty := ty) rfl rfl rfl rfl rfl rfl rfl (hc1) rfl ?_ | ((fail_if_success (refine head_known rfl ?_)); (refine head_split ty_ok rfl rfl rfl rfl (fun hc => ⟨?_, ?_⟩) (fun hc => ⟨?_, ?_⟩)) <;> (try simp only [nms, reduceCtorEq] at hc) <;> (try (exfalso; omega)) <;> (try exact sd)))) | ((fail_if_success (with_reducible show AWp _ _ _ _ _)); (fail_if_success (with_reducible show AOps _ _ _ _ _ _)); (fail_if_success (with_reducible show HeadT _ _ _ _ _ _ _ _ _ _)); (first | (show AWp _ _ _ _ _) | (show AOps _ _ _ _ _ _) | refine st_go rfl rfl rfl rfl rfl rfl rfl ?_)))
      rw [bys_len]
      rfl
    · rw [if_neg h]
      have e1 : cutL (bys b) (s : Int).toNat ((s : Int) + (n : Int)).toNat = bys (cut b s (s + n)) := by
        rw [cutL_bys, show ((s : Int) + (n : Int)).toNat = s + n by omega]
        rfl
      have e2 : cutL (bys b) ((s : Int) + (n : Int)).toNat (bys b).length = bys (b.drop (s + n)) := by
        rw [cutL_bys, show ((s : Int) + (n : Int)).toNat = s + n by omega, bys_len]
        simp [cutB]
      repeat' (first | ((with_reducible show AWp _ _ _ _ _); (first | refine awp_seq ?_ | refine awp_block ?_ | refine awp_skip ?_ | refine awp_exit ?_ | refine awp_scope ?_ | refine awp_label ?_ | refine awp_run ty_ok rfl sd ?_ | refine awp_ret ⟨_, _, rfl, rfl, ?_⟩ | refine awp_ret ⟨_, rfl, ?_⟩ | ((refine awp_cond (ty := ty) rfl (fun hc => ?_) (fun hc => ?_)) <;> (try simp only [nms, reduceCtorEq] at hc) <;> (try (exfalso; omega))) | refine awp_anyS 21 18 ty_ok mixed rfl rfl rfl rfl rfl rfl rfl rfl rfl (by kernel_rfl) ?_)) | ((with_reducible show AOps _ _ _ _ _ _); (first | refine aops_nil ?_ | refine aops_go ty_ok rfl rfl sd ?_ | refine aops_gate ty_ok rfl rfl rfl sd ?_ | refine aops_callE (ty := ty) rfl rfl rfl rfl rfl rfl rfl (hc1) rfl ?_ | refine aops_litE ty_ok rfl rfl rfl rfl rfl rfl rfl rfl rfl rfl rfl rfl ?_ | refine aops_litA ty_ok rfl rfl rfl rfl rfl rfl rfl rfl rfl rfl rfl rfl rfl rfl rfl rfl ?_ | refine aops_buildArr ty_ok rfl rfl rfl rfl rfl rfl rfl rfl rfl rfl ?_ | refine aops_indexArr ty_ok rfl rfl rfl rfl rfl rfl rfl rfl rfl rfl sd ?_ | refine aops_cutE ty_ok rfl rfl rfl rfl rfl rfl rfl rfl rfl sd rfl ?_ | ((fail_if_success (refine aops_known rfl ?_)); (refine aops_split ty_ok rfl rfl rfl rfl rfl rfl (fun hc => ⟨?_, ?_⟩) (fun hc => ⟨?_, ?_⟩)) <;> (try simp only [nms, reduceCtorEq] at hc) <;> (try (exfalso; omega)) <;> (try exact sd)))) | ((with_reducible show HeadT _ _ _ _ _ _ _ _ _ _); (first | refine head_end ?_ | refine head_goP ty_ok rfl rfl sd ?_ | refine head_gate ty_ok rfl rfl rfl sd ?_ | refine head_callE (ty := ty) rfl rfl rfl rfl rfl rfl rfl (hc1) rfl ?_ | ((fail_if_success (refine head_known rfl ?_)); (refine head_split ty_ok rfl rfl rfl rfl (fun hc => ⟨?_, ?_⟩) (fun hc => ⟨?_, ?_⟩)) <;> (try simp only [nms, reduceCtorEq] at hc) <;> (try (exfalso; omega)) <;> (try exact sd)))) | ((fail_if_success (with_reducible show AWp _ _ _ _ _)); (fail_if_success (with_reducible show AOps _ _ _ _ _ _)); (fail_if_success (with_reducible show HeadT _ _ _ _ _ _ _ _ _ _)); (first | (show AWp _ _ _ _ _) | (show AOps _ _ _ _ _ _) | refine st_go rfl rfl rfl rfl rfl rfl rfl ?_)))
      rw [e1, e2]
      rfl
/-! ### Trees -/
def node0 : Dat := .agg [.int .i64 0, .int .i64 0, .bool false, .sl none [], .sl (some 5) []]
def rdD : Ex (Dat × Nat) → Dat
  | .bad c o => .tup [node0, .int .i64 0, errD c o]
  | .ok (n, s) => .tup [n, .int .i64 s, errD 0 0]
def preK (acc : List Dat) : Ex (List Dat) → Ex (List Dat)
  | .bad c o => .bad c o
  | .ok l => .ok (acc ++ l)
theorem tr_node {d : Nat} {n : Dat} {b : List UInt8} (h : Tr d n b) : ∃ x c ks, n = nodeD x c ks := by
  cases h with
  | prim d x c => exact ⟨x, c, [], rfl⟩
  | cons d x ks bs => exact ⟨x, [], ks, rfl⟩
theorem kd_bad {rd : List UInt8 → Ex (Dat × Nat)} {hs : Nat} {c : List UInt8} (hrd : ∀ b e o, rd b = .bad e o → 0 < e ∧ o ≤ b.length) : ∀ (k i : Nat) {e o : Nat}, kdT rd hs c k i = .bad e o → 0 < e ∧ o ≤ hs + c.length
  | k + 1, i, e, o, h => by
    rw [kdT] at h
    split at h
    · rename_i hi
      cases hr : rd (c.drop i) with
      | bad e' o' =>
        rw [hr] at h
        cases h
        have := hrd _ _ _ hr
        rw [List.length_drop] at this
        omega
      | ok p =>
        obtain ⟨n, s⟩ := p
        rw [hr] at h
        simp only at h
        cases hk : kdT rd hs c k (i + s) with
        | bad e' o' =>
          rw [hk] at h
          cases h
          exact kd_bad hrd k (i + s) hk
        | ok l => rw [hk] at h; cases h
    · cases h
theorem rd_bad : ∀ (d : Nat) (b : List UInt8) (e o : Nat), rdF d b = .bad e o → 0 < e ∧ o ≤ b.length
  | 0, b, e, o, h => by cases h; exact ⟨by omega, by omega⟩
  | d + 1, b, e, o, h => by
    rw [rd_of_nx] at h
    cases hn : nxF b 0 b.length with
    | bad c' o' =>
      rw [hn] at h
      cases h
      have := nx_bad (Nat.zero_le _) (Nat.le_refl _) hn
      exact ⟨by omega, this.2⟩
    | ok el =>
      rw [hn] at h
      simp only at h
      obtain ⟨c, _, _, _, g4, g5, g6, _⟩ := nx_ok (Nat.zero_le _) (Nat.le_refl _) hn
      have hen : el.en = 0 + hsz c + c.length := by rw [g4]
      have hbd : el.bd = 0 + hsz c := by rw [g4]
      cases hc : conB el.x with
      | false => rw [hc] at h; cases h
      | true =>
        rw [hc] at h
        simp only at h
        cases hk : kdT (rdF d) el.bd (cut b el.bd el.en) (el.en - el.bd) 0 with
        | bad e' o' =>
          rw [hk] at h
          cases h
          have := kd_bad (rd_bad d) _ _ hk
          rw [g6] at this
          omega
        | ok ks => rw [hk] at h; cases h
theorem isRRead : IsFn Tryz.prog 86 Tryz.f86 := ⟨Tryz.func86, by decide, rfl⟩
set_option maxHeartbeats 8000000 in
set_option maxRecDepth 100000 in
theorem c_rread (Γ : Env) : ∀ (d : Nat), d ≤ 60 → ∀ (b : List UInt8), b.length ≤ 1000000 → ACalls Tryz.prog Γ 86 [.sl none (bys b), .int .i64 d] (fun r => r = .d (rdD (rdF d b)))
  | 0, _, b, hb => by
    refine acalls_of ty_ok isRRead rfl rfl ?_
    repeat' (first | ((with_reducible show AWp _ _ _ _ _); (first | refine awp_seq ?_ | refine awp_block ?_ | refine awp_skip ?_ | refine awp_exit ?_ | refine awp_scope ?_ | refine awp_label ?_ | refine awp_run ty_ok rfl sd ?_ | refine awp_ret ⟨_, _, rfl, rfl, ?_⟩ | refine awp_ret ⟨_, rfl, ?_⟩ | ((refine awp_cond (ty := ty) rfl (fun hc => ?_) (fun hc => ?_)) <;> (try simp only [nms, reduceCtorEq] at hc) <;> (try (exfalso; omega))))) | ((with_reducible show AOps _ _ _ _ _ _); (first | refine aops_nil ?_ | refine aops_go ty_ok rfl rfl sd ?_ | refine aops_gate ty_ok rfl rfl rfl sd ?_ | refine aops_litE ty_ok rfl rfl rfl rfl rfl rfl rfl rfl rfl rfl rfl rfl ?_ | refine aops_litA ty_ok rfl rfl rfl rfl rfl rfl rfl rfl rfl rfl rfl rfl rfl rfl rfl rfl ?_ | refine aops_buildArr ty_ok rfl rfl rfl rfl rfl rfl rfl rfl rfl rfl ?_ | refine aops_indexArr ty_ok rfl rfl rfl rfl rfl rfl rfl rfl rfl rfl sd ?_ | refine aops_cutE ty_ok rfl rfl rfl rfl rfl rfl rfl rfl rfl sd rfl ?_ | ((fail_if_success (refine aops_known rfl ?_)); (refine aops_split ty_ok rfl rfl rfl rfl rfl rfl (fun hc => ⟨?_, ?_⟩) (fun hc => ⟨?_, ?_⟩)) <;> (try simp only [nms, reduceCtorEq] at hc) <;> (try (exfalso; omega)) <;> (try exact sd)))) | ((fail_if_success (with_reducible show AWp _ _ _ _ _)); (fail_if_success (with_reducible show AOps _ _ _ _ _ _)); (first | (show AWp _ _ _ _ _) | (show AOps _ _ _ _ _ _))))
    rfl
  | d + 1, hd60, b, hb => by
    refine acalls_of ty_ok isRRead rfl rfl ?_
    rw [rdF]
    have hc1 := c_rnext (Γ.at 0) b (by omega)
    cases hd : hdF b with
    | bad c o =>
      rw [hd] at hc1
      have := hd_bad hd
      repeat' (first | ((with_reducible show AWp _ _ _ _ _); (first | refine awp_seq ?_ | refine awp_block ?_ | refine awp_skip ?_ | refine awp_exit ?_ | refine awp_scope ?_ | refine awp_label ?_ | refine awp_run ty_ok rfl sd ?_ | refine awp_ret ⟨_, _, rfl, rfl, ?_⟩ | refine awp_ret ⟨_, rfl, ?_⟩ | ((refine awp_cond (ty := ty) rfl (fun hc => ?_) (fun hc => ?_)) <;> (try simp only [nms, reduceCtorEq] at hc) <;> (try (exfalso; omega))) | refine awp_anyS 4 2 ty_ok mixed rfl rfl rfl rfl rfl rfl rfl rfl rfl (by kernel_rfl) ?_)) | ((with_reducible show AOps _ _ _ _ _ _); (first | refine aops_nil ?_ | refine aops_go ty_ok rfl rfl sd ?_ | refine aops_gate ty_ok rfl rfl rfl sd ?_ | refine aops_callE (ty := ty) rfl rfl rfl rfl rfl rfl rfl (hc1) rfl ?_ | refine aops_litE ty_ok rfl rfl rfl rfl rfl rfl rfl rfl rfl rfl rfl rfl ?_ | refine aops_litA ty_ok rfl rfl rfl rfl rfl rfl rfl rfl rfl rfl rfl rfl rfl rfl rfl rfl ?_ | refine aops_buildArr ty_ok rfl rfl rfl rfl rfl rfl rfl rfl rfl rfl ?_ | refine aops_indexArr ty_ok rfl rfl rfl rfl rfl rfl rfl rfl rfl rfl sd ?_ | refine aops_cutE ty_ok rfl rfl rfl rfl rfl rfl rfl rfl rfl sd rfl ?_ | ((fail_if_success (refine aops_known rfl ?_)); (refine aops_split ty_ok rfl rfl rfl rfl rfl rfl (fun hc => ⟨?_, ?_⟩) (fun hc => ⟨?_, ?_⟩)) <;> (try simp only [nms, reduceCtorEq] at hc) <;> (try (exfalso; omega)) <;> (try exact sd)))) | ((with_reducible show HeadT _ _ _ _ _ _ _ _ _ _); (first | refine head_end ?_ | refine head_goP ty_ok rfl rfl sd ?_ | refine head_gate ty_ok rfl rfl rfl sd ?_ | refine head_callE (ty := ty) rfl rfl rfl rfl rfl rfl rfl (hc1) rfl ?_ | ((fail_if_success (refine head_known rfl ?_)); (refine head_split ty_ok rfl rfl rfl rfl (fun hc => ⟨?_, ?_⟩) (fun hc => ⟨?_, ?_⟩)) <;> (try simp only [nms, reduceCtorEq] at hc) <;> (try (exfalso; omega)) <;> (try exact sd)))) | ((fail_if_success (with_reducible show AWp _ _ _ _ _)); (fail_if_success (with_reducible show AOps _ _ _ _ _ _)); (fail_if_success (with_reducible show HeadT _ _ _ _ _ _ _ _ _ _)); (first | (show AWp _ _ _ _ _) | (show AOps _ _ _ _ _ _) | refine st_go rfl rfl rfl rfl rfl rfl rfl ?_)))
      rfl
    | ok p =>
      obtain ⟨x, n, s⟩ := p
      rw [hd, ntD] at hc1
      obtain ⟨_, g1, g2, g3⟩ := hd_inv hd
      have g4 := lenB_len5 g1
      have g5 := congrArg List.length g3
      simp only [List.length_cons, List.length_append, List.length_drop] at g5
      simp only
      by_cases h : b.length - s < n
      · rw [if_pos h] at hc1 ⊢
        repeat' (first | ((with_reducible show AWp _ _ _ _ _); (first | refine awp_seq ?_ | refine awp_block ?_ | refine awp_skip ?_ | refine awp_exit ?_ | refine awp_scope ?_ | refine awp_label ?_ | refine awp_run ty_ok rfl sd ?_ | refine awp_ret ⟨_, _, rfl, rfl, ?_⟩ | refine awp_ret ⟨_, rfl, ?_⟩ | ((refine awp_cond (ty := ty) rfl (fun hc => ?_) (fun hc => ?_)) <;> (try simp only [nms, reduceCtorEq] at hc) <;> (try (exfalso; omega))) | refine awp_anyS 4 2 ty_ok mixed rfl rfl rfl rfl rfl rfl rfl rfl rfl (by kernel_rfl) ?_)) | ((with_reducible show AOps _ _ _ _ _ _); (first | refine aops_nil ?_ | refine aops_go ty_ok rfl rfl sd ?_ | refine aops_gate ty_ok rfl rfl rfl sd ?_ | refine aops_callE (ty := ty) rfl rfl rfl rfl rfl rfl rfl (hc1) rfl ?_ | refine aops_litE ty_ok rfl rfl rfl rfl rfl rfl rfl rfl rfl rfl rfl rfl ?_ | refine aops_litA ty_ok rfl rfl rfl rfl rfl rfl rfl rfl rfl rfl rfl rfl rfl rfl rfl rfl ?_ | refine aops_buildArr ty_ok rfl rfl rfl rfl rfl rfl rfl rfl rfl rfl ?_ | refine aops_indexArr ty_ok rfl rfl rfl rfl rfl rfl rfl rfl rfl rfl sd ?_ | refine aops_cutE ty_ok rfl rfl rfl rfl rfl rfl rfl rfl rfl sd rfl ?_ | ((fail_if_success (refine aops_known rfl ?_)); (refine aops_split ty_ok rfl rfl rfl rfl rfl rfl (fun hc => ⟨?_, ?_⟩) (fun hc => ⟨?_, ?_⟩)) <;> (try simp only [nms, reduceCtorEq] at hc) <;> (try (exfalso; omega)) <;> (try exact sd)))) | ((with_reducible show HeadT _ _ _ _ _ _ _ _ _ _); (first | refine head_end ?_ | refine head_goP ty_ok rfl rfl sd ?_ | refine head_gate ty_ok rfl rfl rfl sd ?_ | refine head_callE (ty := ty) rfl rfl rfl rfl rfl rfl rfl (hc1) rfl ?_ | ((fail_if_success (refine head_known rfl ?_)); (refine head_split ty_ok rfl rfl rfl rfl (fun hc => ⟨?_, ?_⟩) (fun hc => ⟨?_, ?_⟩)) <;> (try simp only [nms, reduceCtorEq] at hc) <;> (try (exfalso; omega)) <;> (try exact sd)))) | ((fail_if_success (with_reducible show AWp _ _ _ _ _)); (fail_if_success (with_reducible show AOps _ _ _ _ _ _)); (fail_if_success (with_reducible show HeadT _ _ _ _ _ _ _ _ _ _)); (first | (show AWp _ _ _ _ _) | (show AOps _ _ _ _ _ _) | refine st_go rfl rfl rfl rfl rfl rfl rfl ?_)))
        rfl
      rw [if_neg h] at hc1 ⊢
      have hcl := cut_len b s (s + n) (by omega)
      cases hcon : conB x with
      | false =>
        rw [hdrD, hcon] at hc1
        repeat' (first | ((with_reducible show AWp _ _ _ _ _); (first | refine awp_seq ?_ | refine awp_block ?_ | refine awp_skip ?_ | refine awp_exit ?_ | refine awp_scope ?_ | refine awp_label ?_ | refine awp_run ty_ok rfl sd ?_ | refine awp_ret ⟨_, _, rfl, rfl, ?_⟩ | refine awp_ret ⟨_, rfl, ?_⟩ | ((refine awp_cond (ty := ty) rfl (fun hc => ?_) (fun hc => ?_)) <;> (try simp only [nms, reduceCtorEq] at hc) <;> (try (exfalso; omega))) | refine awp_anyS 9 7 ty_ok mixed rfl rfl rfl rfl rfl rfl rfl rfl rfl (by kernel_rfl) ?_)) | ((with_reducible show AOps _ _ _ _ _ _); (first | refine aops_nil ?_ | refine aops_go ty_ok rfl rfl sd ?_ | refine aops_gate ty_ok rfl rfl rfl sd ?_ | refine aops_callE (ty := ty) rfl rfl rfl rfl rfl rfl rfl (hc1) rfl ?_ | refine aops_litE ty_ok rfl rfl rfl rfl rfl rfl rfl rfl rfl rfl rfl rfl ?_ | refine aops_litA ty_ok rfl rfl rfl rfl rfl rfl rfl rfl rfl rfl rfl rfl rfl rfl rfl rfl ?_ | refine aops_buildArr ty_ok rfl rfl rfl rfl rfl rfl rfl rfl rfl rfl ?_ | refine aops_indexArr ty_ok rfl rfl rfl rfl rfl rfl rfl rfl rfl rfl sd ?_ | refine aops_cutE ty_ok rfl rfl rfl rfl rfl rfl rfl rfl rfl sd rfl ?_ | ((fail_if_success (refine aops_known rfl ?_)); (refine aops_split ty_ok rfl rfl rfl rfl rfl rfl (fun hc => ⟨?_, ?_⟩) (fun hc => ⟨?_, ?_⟩)) <;> (try simp only [nms, reduceCtorEq] at hc) <;> (try (exfalso; omega)) <;> (try exact sd)))) | ((with_reducible show HeadT _ _ _ _ _ _ _ _ _ _); (first | refine head_end ?_ | refine head_goP ty_ok rfl rfl sd ?_ | refine head_gate ty_ok rfl rfl rfl sd ?_ | refine head_callE (ty := ty) rfl rfl rfl rfl rfl rfl rfl (hc1) rfl ?_ | ((fail_if_success (refine head_known rfl ?_)); (refine head_split ty_ok rfl rfl rfl rfl (fun hc => ⟨?_, ?_⟩) (fun hc => ⟨?_, ?_⟩)) <;> (try simp only [nms, reduceCtorEq] at hc) <;> (try (exfalso; omega)) <;> (try exact sd)))) | ((fail_if_success (with_reducible show AWp _ _ _ _ _)); (fail_if_success (with_reducible show AOps _ _ _ _ _ _)); (fail_if_success (with_reducible show HeadT _ _ _ _ _ _ _ _ _ _)); (first | (show AWp _ _ _ _ _) | (show AOps _ _ _ _ _ _) | refine st_go rfl rfl rfl rfl rfl rfl rfl ?_)))
        rw [nodeD, hcon]
        rfl
      | true =>
        rw [hdrD, hcon] at hc1
        obtain ⟨C, hC⟩ : ∃ C, cut b s (s + n) = C := ⟨_, rfl⟩
        rw [hC] at hc1 hcl
        simp only [hC]
        repeat' (first | ((with_reducible show AWp _ _ _ _ _); (first | refine awp_seq ?_ | refine awp_block ?_ | refine awp_skip ?_ | refine awp_exit ?_ | refine awp_scope ?_ | refine awp_label ?_ | refine awp_run ty_ok rfl sd ?_ | refine awp_ret ⟨_, _, rfl, rfl, ?_⟩ | refine awp_ret ⟨_, rfl, ?_⟩ | ((refine awp_cond (ty := ty) rfl (fun hc => ?_) (fun hc => ?_)) <;> (try simp only [nms, reduceCtorEq] at hc) <;> (try (exfalso; omega))))) | ((with_reducible show AOps _ _ _ _ _ _); (first | refine aops_nil ?_ | refine aops_go ty_ok rfl rfl sd ?_ | refine aops_gate ty_ok rfl rfl rfl sd ?_ | refine aops_callE (ty := ty) rfl rfl rfl rfl rfl rfl rfl (hc1) rfl ?_ | refine aops_litE ty_ok rfl rfl rfl rfl rfl rfl rfl rfl rfl rfl rfl rfl ?_ | refine aops_litA ty_ok rfl rfl rfl rfl rfl rfl rfl rfl rfl rfl rfl rfl rfl rfl rfl rfl ?_ | refine aops_buildArr ty_ok rfl rfl rfl rfl rfl rfl rfl rfl rfl rfl ?_ | refine aops_indexArr ty_ok rfl rfl rfl rfl rfl rfl rfl rfl rfl rfl sd ?_ | refine aops_cutE ty_ok rfl rfl rfl rfl rfl rfl rfl rfl rfl sd rfl ?_ | ((fail_if_success (refine aops_known rfl ?_)); (refine aops_split ty_ok rfl rfl rfl rfl rfl rfl (fun hc => ⟨?_, ?_⟩) (fun hc => ⟨?_, ?_⟩)) <;> (try simp only [nms, reduceCtorEq] at hc) <;> (try (exfalso; omega)) <;> (try exact sd)))) | ((fail_if_success (with_reducible show AWp _ _ _ _ _)); (fail_if_success (with_reducible show AOps _ _ _ _ _ _)); (first | (show AWp _ _ _ _ _) | (show AOps _ _ _ _ _ _))))
        refine awp_nilcell 4 4 73 rfl rfl rfl rfl ?_
        refine awp_loopR (G := { p : List Dat × Nat // p.2 ≤ C.length ∧ p.1.length ≤ p.2 ∧ ∃ k, C.length - p.2 ≤ k ∧ kdT (rdF d) s C n 0 = preK p.1 (kdT (rdF d) s C k p.2) }) (fun p => ⟨Tryz.f86.ntmps, [(1, .d (.int .i64 ((d + 1 : Nat) : Int))), (4, .ptr 0 0), (6, .ptr 1 0), (7, .ptr 2 0), (8, .d (.sl none (bys C))), (11, .ptr 3 0), (12, .d (.int .i64 p.1.2))], [(0, .box 73 [.d (.int .i64 0), .d (.int .i64 0), .d (.bool false), .nil none, .nil (some 5)]), (1, .box 32 [.d (.int .i64 0), .d (.int .i64 0)]), (2, .box 139 [.d (clsD x), .d (numD x), .d (.bool true), .d (.int .i64 n), .d (.int .i64 s)]), (3, .box 73 [.d (clsD x), .d (numD x), .d (.bool true), .nil none, .ref 4]), (4, .row (some 5) 73 p.1.1)], 5⟩) (fun p => C.length - p.1.2) ⟨([], 0), Nat.zero_le _, Nat.zero_le _, n, by simp only; omega, by
            cases kdT (rdF d) s C n 0 <;> rfl⟩ [(0, 0), (1, 1), (2, 2), (4, 3), (5, 4)]
          (SubR.mk' rfl rfl ⟨⟨_, rfl, rfl⟩, ⟨_, rfl, rfl⟩, ⟨_, rfl, rfl⟩, ⟨_, rfl, rfl⟩, ⟨_, rfl, rfl⟩, ⟨_, rfl, rfl⟩, ⟨_, rfl, rfl⟩, trivial⟩ ⟨⟨_, _, rfl, rfl, rfl⟩, ⟨_, _, rfl, rfl, rfl⟩, ⟨_, _, rfl, rfl, rfl⟩, ⟨_, _, rfl, rfl, rfl⟩, ⟨_, _, rfl, rfl, rfl⟩, trivial⟩) ?_
        rintro ⟨⟨acc, q⟩, hq, hacc, k, hk, hl⟩
        dsimp only at hq hacc hk hl ⊢
        by_cases hqc : q < C.length
        · obtain ⟨k, rfl⟩ : ∃ k', k = k' + 1 := ⟨k - 1, by omega⟩
          rw [kdT, if_pos hqc] at hl
          have hc2 := c_rread (Γ.at 0) d (by omega) (C.drop q) (by rw [List.length_drop]; omega)
          have hcut : cutL (bys C) (q : Int).toNat (bys C).length = bys (C.drop q) := by
            rw [cutL_bys, Int.toNat_natCast, bys_len]
            simp [cutB]
          have hd1 : ((d + 1 : Nat) : Int) - 1 = (d : Int) := by omega
          rw [← hcut, ← hd1] at hc2
          cases hr : rdF d (C.drop q) with
          | bad e o =>
            rw [hr] at hl hc2
            have := rd_bad _ _ _ _ hr
            rw [List.length_drop] at this
            repeat' (first | ((with_reducible show AWp _ _ _ _ _); (first | refine awp_seq ?_ | refine awp_block ?_ | refine awp_skip ?_ | refine awp_exit ?_ | refine awp_scope ?_ | refine awp_label ?_ | refine awp_run ty_ok rfl sd ?_ | refine awp_ret ⟨_, _, rfl, rfl, ?_⟩ | refine awp_ret ⟨_, rfl, ?_⟩ | ((refine awp_cond (ty := ty) rfl (fun hc => ?_) (fun hc => ?_)) <;> (try simp only [nms, reduceCtorEq] at hc) <;> (try (exfalso; omega))) | refine awp_anyS 13 11 ty_ok mixed rfl rfl rfl rfl rfl rfl rfl rfl rfl (by kernel_rfl) ?_)) | ((with_reducible show AOps _ _ _ _ _ _); (first | refine aops_nil ?_ | refine aops_go ty_ok rfl rfl sd ?_ | refine aops_gate ty_ok rfl rfl rfl sd ?_ | refine aops_callE (ty := ty) rfl rfl rfl rfl rfl rfl rfl (hc2) rfl ?_ | refine aops_litE ty_ok rfl rfl rfl rfl rfl rfl rfl rfl rfl rfl rfl rfl ?_ | refine aops_litA ty_ok rfl rfl rfl rfl rfl rfl rfl rfl rfl rfl rfl rfl rfl rfl rfl rfl ?_ | refine aops_buildArr ty_ok rfl rfl rfl rfl rfl rfl rfl rfl rfl rfl ?_ | refine aops_indexArr ty_ok rfl rfl rfl rfl rfl rfl rfl rfl rfl rfl sd ?_ | refine aops_cutE ty_ok rfl rfl rfl rfl rfl rfl rfl rfl rfl sd rfl ?_ | ((fail_if_success (refine aops_known rfl ?_)); (refine aops_split ty_ok rfl rfl rfl rfl rfl rfl (fun hc => ⟨?_, ?_⟩) (fun hc => ⟨?_, ?_⟩)) <;> (try simp only [nms, reduceCtorEq] at hc) <;> (try (exfalso; omega)) <;> (try exact sd)))) | ((with_reducible show HeadT _ _ _ _ _ _ _ _ _ _); (first | refine head_end ?_ | refine head_goP ty_ok rfl rfl sd ?_ | refine head_gate ty_ok rfl rfl rfl sd ?_ | refine head_callE (ty := ty) rfl rfl rfl rfl rfl rfl rfl (hc2) rfl ?_ | ((fail_if_success (refine head_known rfl ?_)); (refine head_split ty_ok rfl rfl rfl rfl (fun hc => ⟨?_, ?_⟩) (fun hc => ⟨?_, ?_⟩)) <;> (try simp only [nms, reduceCtorEq] at hc) <;> (try (exfalso; omega)) <;> (try exact sd)))) | ((fail_if_success (with_reducible show AWp _ _ _ _ _)); (fail_if_success (with_reducible show AOps _ _ _ _ _ _)); (fail_if_success (with_reducible show HeadT _ _ _ _ _ _ _ _ _ _)); (first | (show AWp _ _ _ _ _) | (show AOps _ _ _ _ _ _) | refine st_go rfl rfl rfl rfl rfl rfl rfl ?_)))
            rw [hl]
            simp only [preK, rdD]
            rfl
          | ok pr =>
            obtain ⟨nd, sz⟩ := pr
            rw [hr] at hl hc2
            simp only at hl
            obtain ⟨h1, h2⟩ := rd_ok _ _ _ _ hr
            have h3 := h2.pos
            rw [List.length_take, List.length_drop] at h3
            rw [List.length_drop] at h1
            obtain ⟨nx, nc, nk, rfl⟩ := tr_node h2
            repeat' (first | ((with_reducible show AWp _ _ _ _ _); (first | refine awp_seq ?_ | refine awp_block ?_ | refine awp_skip ?_ | refine awp_exit ?_ | refine awp_scope ?_ | refine awp_label ?_ | refine awp_run ty_ok rfl sd ?_ | refine awp_ret ⟨_, _, rfl, rfl, ?_⟩ | refine awp_ret ⟨_, rfl, ?_⟩ | ((refine awp_cond (ty := ty) rfl (fun hc => ?_) (fun hc => ?_)) <;> (try simp only [nms, reduceCtorEq] at hc) <;> (try (exfalso; omega))) | refine awp_anyS 13 11 ty_ok mixed rfl rfl rfl rfl rfl rfl rfl rfl rfl (by kernel_rfl) ?_)) | ((with_reducible show AOps _ _ _ _ _ _); (first | refine aops_nil ?_ | refine aops_go ty_ok rfl rfl sd ?_ | refine aops_gate ty_ok rfl rfl rfl sd ?_ | refine aops_callE (ty := ty) rfl rfl rfl rfl rfl rfl rfl (hc2) rfl ?_ | refine aops_litE ty_ok rfl rfl rfl rfl rfl rfl rfl rfl rfl rfl rfl rfl ?_ | refine aops_litA ty_ok rfl rfl rfl rfl rfl rfl rfl rfl rfl rfl rfl rfl rfl rfl rfl rfl ?_ | refine aops_buildArr ty_ok rfl rfl rfl rfl rfl rfl rfl rfl rfl rfl ?_ | refine aops_indexArr ty_ok rfl rfl rfl rfl rfl rfl rfl rfl rfl rfl sd ?_ | refine aops_cutE ty_ok rfl rfl rfl rfl rfl rfl rfl rfl rfl sd rfl ?_ | ((fail_if_success (refine aops_known rfl ?_)); (refine aops_split ty_ok rfl rfl rfl rfl rfl rfl (fun hc => ⟨?_, ?_⟩) (fun hc => ⟨?_, ?_⟩)) <;> (try simp only [nms, reduceCtorEq] at hc) <;> (try (exfalso; omega)) <;> (try exact sd)))) | ((with_reducible show HeadT _ _ _ _ _ _ _ _ _ _); (first | refine head_end ?_ | refine head_goP ty_ok rfl rfl sd ?_ | refine head_gate ty_ok rfl rfl rfl sd ?_ | refine head_callE (ty := ty) rfl rfl rfl rfl rfl rfl rfl (hc2) rfl ?_ | ((fail_if_success (refine head_known rfl ?_)); (refine head_split ty_ok rfl rfl rfl rfl (fun hc => ⟨?_, ?_⟩) (fun hc => ⟨?_, ?_⟩)) <;> (try simp only [nms, reduceCtorEq] at hc) <;> (try (exfalso; omega)) <;> (try exact sd)))) | ((fail_if_success (with_reducible show AWp _ _ _ _ _)); (fail_if_success (with_reducible show AOps _ _ _ _ _ _)); (fail_if_success (with_reducible show HeadT _ _ _ _ _ _ _ _ _ _)); (first | (show AWp _ _ _ _ _) | (show AOps _ _ _ _ _ _) | refine st_go rfl rfl rfl rfl rfl rfl rfl ?_)))
            refine ⟨⟨(acc ++ [nodeD nx nc nk], q + sz), by simp only; omega, by simp; omega, k, by simp only; omega, ?_⟩, [(0, 0), (1, 1), (2, 2), (3, 3), (8, 4)], SubR.mk' rfl rfl ⟨⟨_, rfl, rfl⟩, ⟨_, rfl, rfl⟩, ⟨_, rfl, rfl⟩, ⟨_, rfl, rfl⟩, ⟨_, rfl, rfl⟩, ⟨_, rfl, rfl⟩, ⟨_, rfl, rfl⟩, trivial⟩ ⟨⟨_, _, rfl, rfl, rfl⟩, ⟨_, _, rfl, rfl, rfl⟩, ⟨_, _, rfl, rfl, rfl⟩, ⟨_, _, rfl, rfl, rfl⟩, ⟨_, _, rfl, rfl, rfl⟩, trivial⟩, by simp only; omega⟩
            rw [hl]
            simp only
            cases kdT (rdF d) s C k (q + sz) with
            | bad c o => rfl
            | ok l => simp [preK]
        · have hz : kdT (rdF d) s C k q = .ok [] := by
            cases k with
            | zero => rfl
            | succ k => rw [kdT, if_neg hqc]
          rw [hz] at hl
          repeat' (first | ((with_reducible show AWp _ _ _ _ _); (first | refine awp_seq ?_ | refine awp_block ?_ | refine awp_skip ?_ | refine awp_exit ?_ | refine awp_scope ?_ | refine awp_label ?_ | refine awp_run ty_ok rfl sd ?_ | refine awp_ret ⟨_, _, rfl, rfl, ?_⟩ | refine awp_ret ⟨_, rfl, ?_⟩ | ((refine awp_cond (ty := ty) rfl (fun hc => ?_) (fun hc => ?_)) <;> (try simp only [nms, reduceCtorEq] at hc) <;> (try (exfalso; omega))) | refine awp_anyS 9 7 ty_ok mixed rfl rfl rfl rfl rfl rfl rfl rfl rfl (by kernel_rfl) ?_)) | ((with_reducible show AOps _ _ _ _ _ _); (first | refine aops_nil ?_ | refine aops_go ty_ok rfl rfl sd ?_ | refine aops_gate ty_ok rfl rfl rfl sd ?_ | refine aops_litE ty_ok rfl rfl rfl rfl rfl rfl rfl rfl rfl rfl rfl rfl ?_ | refine aops_litA ty_ok rfl rfl rfl rfl rfl rfl rfl rfl rfl rfl rfl rfl rfl rfl rfl rfl ?_ | refine aops_buildArr ty_ok rfl rfl rfl rfl rfl rfl rfl rfl rfl rfl ?_ | refine aops_indexArr ty_ok rfl rfl rfl rfl rfl rfl rfl rfl rfl rfl sd ?_ | refine aops_cutE ty_ok rfl rfl rfl rfl rfl rfl rfl rfl rfl sd rfl ?_ | ((fail_if_success (refine aops_known rfl ?_)); (refine aops_split ty_ok rfl rfl rfl rfl rfl rfl (fun hc => ⟨?_, ?_⟩) (fun hc => ⟨?_, ?_⟩)) <;> (try simp only [nms, reduceCtorEq] at hc) <;> (try (exfalso; omega)) <;> (try exact sd)))) | ((with_reducible show HeadT _ _ _ _ _ _ _ _ _ _); (first | refine head_end ?_ | refine head_goP ty_ok rfl rfl sd ?_ | refine head_gate ty_ok rfl rfl rfl sd ?_ | ((fail_if_success (refine head_known rfl ?_)); (refine head_split ty_ok rfl rfl rfl rfl (fun hc => ⟨?_, ?_⟩) (fun hc => ⟨?_, ?_⟩)) <;> (try simp only [nms, reduceCtorEq] at hc) <;> (try (exfalso; omega)) <;> (try exact sd)))) | ((fail_if_success (with_reducible show AWp _ _ _ _ _)); (fail_if_success (with_reducible show AOps _ _ _ _ _ _)); (fail_if_success (with_reducible show HeadT _ _ _ _ _ _ _ _ _ _)); (first | (show AWp _ _ _ _ _) | (show AOps _ _ _ _ _ _) | refine st_go rfl rfl rfl rfl rfl rfl rfl ?_)))
          rw [hl]
          simp only [preK, List.append_nil, rdD, nodeD, hcon]
          rfl
def wiD : Ex Dat → Dat
  | .bad c o => .tup [node0, errD c o]
  | .ok n => .tup [n, errD 0 0]
theorem c_rread_at (Γ : Env) (d : Nat) (hd : d ≤ 60) (b : List UInt8) (hb : b.length ≤ 1000000) {v : Ex (Dat × Nat)} (h : rdF d b = v) : ACalls Tryz.prog Γ 86 [.sl none (bys b), .int .i64 d] (fun r => r = .d (rdD v)) := by
  subst h
  exact c_rread Γ d hd b hb
theorem isRWithin : IsFn Tryz.prog 65 Tryz.f65 := ⟨Tryz.func65, by decide, rfl⟩
set_option maxHeartbeats 1000000 in
theorem c_rwithin (Γ : Env) (d : Nat) (hd : d ≤ 60) (b : List UInt8) (hb : b.length ≤ 1000000) : ACalls Tryz.prog Γ 65 [.sl none (bys b), .int .i64 d] (fun r => r = .d (wiD (wiF d b))) := by
  refine acalls_of ty_ok isRWithin rfl rfl ?_
  rw [wiF]
  cases hr : rdF d b with
  | bad e o =>
    have := rd_bad _ _ _ _ hr
    repeat' (first | ((with_reducible show AWp _ _ _ _ _); (first | refine awp_seq ?_ | refine awp_block ?_ | refine awp_skip ?_ | refine awp_exit ?_ | refine awp_scope ?_ | refine awp_label ?_ | refine awp_run ty_ok rfl sd ?_ | refine awp_ret ⟨_, _, rfl, rfl, ?_⟩ | refine awp_ret ⟨_, rfl, ?_⟩ | ((refine awp_cond (ty := ty) rfl (fun hc => ?_) (fun hc => ?_)) <;> (try simp only [nms, reduceCtorEq] at hc) <;> (try (exfalso; omega))) | refine awp_anyS 3 2 ty_ok mixed rfl rfl rfl rfl rfl rfl rfl rfl rfl (by kernel_rfl) ?_)) | ((with_reducible show AOps _ _ _ _ _ _); (first | refine aops_nil ?_ | refine aops_go ty_ok rfl rfl sd ?_ | refine aops_gate ty_ok rfl rfl rfl sd ?_ | refine aops_callE (ty := ty) rfl rfl rfl rfl rfl rfl rfl (c_rread_at _ d hd b hb hr) rfl ?_ | refine aops_litE ty_ok rfl rfl rfl rfl rfl rfl rfl rfl rfl rfl rfl rfl ?_ | refine aops_litA ty_ok rfl rfl rfl rfl rfl rfl rfl rfl rfl rfl rfl rfl rfl rfl rfl rfl ?_ | refine aops_buildArr ty_ok rfl rfl rfl rfl rfl rfl rfl rfl rfl rfl ?_ | refine aops_indexArr ty_ok rfl rfl rfl rfl rfl rfl rfl rfl rfl rfl sd ?_ | refine aops_cutE ty_ok rfl rfl rfl rfl rfl rfl rfl rfl rfl sd rfl ?_ | ((fail_if_success (refine aops_known rfl ?_)); (refine aops_split ty_ok rfl rfl rfl rfl rfl rfl (fun hc => ⟨?_, ?_⟩) (fun hc => ⟨?_, ?_⟩)) <;> (try simp only [nms, reduceCtorEq] at hc) <;> (try (exfalso; omega)) <;> (try exact sd)))) | ((with_reducible show HeadT _ _ _ _ _ _ _ _ _ _); (first | refine head_end ?_ | refine head_goP ty_ok rfl rfl sd ?_ | refine head_gate ty_ok rfl rfl rfl sd ?_ | refine head_callE (ty := ty) rfl rfl rfl rfl rfl rfl rfl (c_rread_at _ d hd b hb hr) rfl ?_ | ((fail_if_success (refine head_known rfl ?_)); (refine head_split ty_ok rfl rfl rfl rfl (fun hc => ⟨?_, ?_⟩) (fun hc => ⟨?_, ?_⟩)) <;> (try simp only [nms, reduceCtorEq] at hc) <;> (try (exfalso; omega)) <;> (try exact sd)))) | ((fail_if_success (with_reducible show AWp _ _ _ _ _)); (fail_if_success (with_reducible show AOps _ _ _ _ _ _)); (fail_if_success (with_reducible show HeadT _ _ _ _ _ _ _ _ _ _)); (first | (show AWp _ _ _ _ _) | (show AOps _ _ _ _ _ _) | refine st_go rfl rfl rfl rfl rfl rfl rfl ?_)))
    rfl
  | ok p =>
    obtain ⟨n, s⟩ := p
    obtain ⟨h1, h2⟩ := rd_ok _ _ _ _ hr
    obtain ⟨x, c, ks, rfl⟩ := tr_node h2
    simp only
    by_cases h : s < b.length
    · rw [if_pos h]
      repeat' (first | ((with_reducible show AWp _ _ _ _ _); (first | refine awp_seq ?_ | refine awp_block ?_ | refine awp_skip ?_ | refine awp_exit ?_ | refine awp_scope ?_ | refine awp_label ?_ | refine awp_run ty_ok rfl sd ?_ | refine awp_ret ⟨_, _, rfl, rfl, ?_⟩ | refine awp_ret ⟨_, rfl, ?_⟩ | ((refine awp_cond (ty := ty) rfl (fun hc => ?_) (fun hc => ?_)) <;> (try simp only [nms, reduceCtorEq] at hc) <;> (try (exfalso; omega))) | refine awp_anyS 3 2 ty_ok mixed rfl rfl rfl rfl rfl rfl rfl rfl rfl (by kernel_rfl) ?_)) | ((with_reducible show AOps _ _ _ _ _ _); (first | refine aops_nil ?_ | refine aops_go ty_ok rfl rfl sd ?_ | refine aops_gate ty_ok rfl rfl rfl sd ?_ | refine aops_callE (ty := ty) rfl rfl rfl rfl rfl rfl rfl (c_rread_at _ d hd b hb hr) rfl ?_ | refine aops_litE ty_ok rfl rfl rfl rfl rfl rfl rfl rfl rfl rfl rfl rfl ?_ | refine aops_litA ty_ok rfl rfl rfl rfl rfl rfl rfl rfl rfl rfl rfl rfl rfl rfl rfl rfl ?_ | refine aops_buildArr ty_ok rfl rfl rfl rfl rfl rfl rfl rfl rfl rfl ?_ | refine aops_indexArr ty_ok rfl rfl rfl rfl rfl rfl rfl rfl rfl rfl sd ?_ | refine aops_cutE ty_ok rfl rfl rfl rfl rfl rfl rfl rfl rfl sd rfl ?_ | ((fail_if_success (refine aops_known rfl ?_)); (refine aops_split ty_ok rfl rfl rfl rfl rfl rfl (fun hc => ⟨?_, ?_⟩) (fun hc => ⟨?_, ?_⟩)) <;> (try simp only [nms, reduceCtorEq] at hc) <;> (try (exfalso; omega)) <;> (try exact sd)))) | ((with_reducible show HeadT _ _ _ _ _ _ _ _ _ _); (first | refine head_end ?_ | refine head_goP ty_ok rfl rfl sd ?_ | refine head_gate ty_ok rfl rfl rfl sd ?_ | refine head_callE (ty := ty) rfl rfl rfl rfl rfl rfl rfl (c_rread_at _ d hd b hb hr) rfl ?_ | ((fail_if_success (refine head_known rfl ?_)); (refine head_split ty_ok rfl rfl rfl rfl (fun hc => ⟨?_, ?_⟩) (fun hc => ⟨?_, ?_⟩)) <;> (try simp only [nms, reduceCtorEq] at hc) <;> (try (exfalso; omega)) <;> (try exact sd)))) | ((fail_if_success (with_reducible show AWp _ _ _ _ _)); (fail_if_success (with_reducible show AOps _ _ _ _ _ _)); (fail_if_success (with_reducible show HeadT _ _ _ _ _ _ _ _ _ _)); (first | (show AWp _ _ _ _ _) | (show AOps _ _ _ _ _ _) | refine st_go rfl rfl rfl rfl rfl rfl rfl ?_)))
      rfl
    · rw [if_neg h]
      repeat' (first | ((with_reducible show AWp _ _ _ _ _); (first | refine awp_seq ?_ | refine awp_block ?_ | refine awp_skip ?_ | refine awp_exit ?_ | refine awp_scope ?_ | refine awp_label ?_ | refine awp_run ty_ok rfl sd ?_ | refine awp_ret ⟨_, _, rfl, rfl, ?_⟩ | refine awp_ret ⟨_, rfl, ?_⟩ | ((refine awp_cond (ty := ty) rfl (fun hc => ?_) (fun hc => ?_)) <;> (try simp only [nms, reduceCtorEq] at hc) <;> (try (exfalso; omega))) | refine awp_anyS 3 2 ty_ok mixed rfl rfl rfl rfl rfl rfl rfl rfl rfl (by kernel_rfl) ?_)) | ((with_reducible show AOps _ _ _ _ _ _); (first | refine aops_nil ?_ | refine aops_go ty_ok rfl rfl sd ?_ | refine aops_gate ty_ok rfl rfl rfl sd ?_ | refine aops_callE (ty := ty) rfl rfl rfl rfl rfl rfl rfl (c_rread_at _ d hd b hb hr) rfl ?_ | refine aops_litE ty_ok rfl rfl rfl rfl rfl rfl rfl rfl rfl rfl rfl rfl ?_ | refine aops_litA ty_ok rfl rfl rfl rfl rfl rfl rfl rfl rfl rfl rfl rfl rfl rfl rfl rfl ?_ | refine aops_buildArr ty_ok rfl rfl rfl rfl rfl rfl rfl rfl rfl rfl ?_ | refine aops_indexArr ty_ok rfl rfl rfl rfl rfl rfl rfl rfl rfl rfl sd ?_ | refine aops_cutE ty_ok rfl rfl rfl rfl rfl rfl rfl rfl rfl sd rfl ?_ | ((fail_if_success (refine aops_known rfl ?_)); (refine aops_split ty_ok rfl rfl rfl rfl rfl rfl (fun hc => ⟨?_, ?_⟩) (fun hc => ⟨?_, ?_⟩)) <;> (try simp only [nms, reduceCtorEq] at hc) <;> (try (exfalso; omega)) <;> (try exact sd)))) | ((with_reducible show HeadT _ _ _ _ _ _ _ _ _ _); (first | refine head_end ?_ | refine head_goP ty_ok rfl rfl sd ?_ | refine head_gate ty_ok rfl rfl rfl sd ?_ | refine head_callE (ty := ty) rfl rfl rfl rfl rfl rfl rfl (c_rread_at _ d hd b hb hr) rfl ?_ | ((fail_if_success (refine head_known rfl ?_)); (refine head_split ty_ok rfl rfl rfl rfl (fun hc => ⟨?_, ?_⟩) (fun hc => ⟨?_, ?_⟩)) <;> (try simp only [nms, reduceCtorEq] at hc) <;> (try (exfalso; omega)) <;> (try exact sd)))) | ((fail_if_success (with_reducible show AWp _ _ _ _ _)); (fail_if_success (with_reducible show AOps _ _ _ _ _ _)); (fail_if_success (with_reducible show HeadT _ _ _ _ _ _ _ _ _ _)); (first | (show AWp _ _ _ _ _) | (show AOps _ _ _ _ _ _) | refine st_go rfl rfl rfl rfl rfl rfl rfl ?_)))
      rfl
theorem c_rwithin_at (Γ : Env) (d : Nat) (hd : d ≤ 60) (b : List UInt8) (hb : b.length ≤ 1000000) {v : Ex Dat} (h : wiF d b = v) : ACalls Tryz.prog Γ 65 [.sl none (bys b), .int .i64 d] (fun r => r = .d (wiD v)) := by
  subst h
  exact c_rwithin Γ d hd b hb
def deD : Ex Dat → Dat
  | .bad _ _ => .tup [node0, .bool false]
  | .ok n => .tup [n, .bool true]
theorem wi_bad {d : Nat} {b : List UInt8} {e o : Nat} (h : wiF d b = .bad e o) : 0 < e := by
  unfold wiF at h
  cases hr : rdF d b with
  | bad e' o' =>
    rw [hr] at h
    cases h
    exact (rd_bad _ _ _ _ hr).1
  | ok p =>
    obtain ⟨n, s⟩ := p
    rw [hr] at h
    simp only at h
    split at h
    · cases h; omega
    · cases h
theorem isRDeep : IsFn Tryz.prog 44 Tryz.f44 := ⟨Tryz.func44, by decide, rfl⟩
theorem c_rdeep (Γ : Env) (b : List UInt8) (hb : b.length ≤ 1000000) : ACalls Tryz.prog Γ 44 [.sl none (bys b)] (fun r => r = .d (deD (wiF 60 b))) := by
  refine acalls_of ty_ok isRDeep rfl rfl ?_
  cases hr : wiF 60 b with
  | bad e o =>
    have := wi_bad hr
    repeat' (first | ((with_reducible show AWp _ _ _ _ _); (first | refine awp_seq ?_ | refine awp_block ?_ | refine awp_skip ?_ | refine awp_exit ?_ | refine awp_scope ?_ | refine awp_label ?_ | refine awp_run ty_ok rfl sd ?_ | refine awp_ret ⟨_, _, rfl, rfl, ?_⟩ | refine awp_ret ⟨_, rfl, ?_⟩ | ((refine awp_cond (ty := ty) rfl (fun hc => ?_) (fun hc => ?_)) <;> (try simp only [nms, reduceCtorEq] at hc) <;> (try (exfalso; omega))) | refine awp_anyS 5 4 ty_ok mixed rfl rfl rfl rfl rfl rfl rfl rfl rfl (by kernel_rfl) ?_)) | ((with_reducible show AOps _ _ _ _ _ _); (first | refine aops_nil ?_ | refine aops_go ty_ok rfl rfl sd ?_ | refine aops_gate ty_ok rfl rfl rfl sd ?_ | refine aops_callE (ty := ty) rfl rfl rfl rfl rfl rfl rfl (c_rwithin_at _ 60 (by omega) b hb hr) rfl ?_ | refine aops_litE ty_ok rfl rfl rfl rfl rfl rfl rfl rfl rfl rfl rfl rfl ?_ | refine aops_litA ty_ok rfl rfl rfl rfl rfl rfl rfl rfl rfl rfl rfl rfl rfl rfl rfl rfl ?_ | refine aops_buildArr ty_ok rfl rfl rfl rfl rfl rfl rfl rfl rfl rfl ?_ | refine aops_indexArr ty_ok rfl rfl rfl rfl rfl rfl rfl rfl rfl rfl sd ?_ | refine aops_cutE ty_ok rfl rfl rfl rfl rfl rfl rfl rfl rfl sd rfl ?_ | ((fail_if_success (refine aops_known rfl ?_)); (refine aops_split ty_ok rfl rfl rfl rfl rfl rfl (fun hc => ⟨?_, ?_⟩) (fun hc => ⟨?_, ?_⟩)) <;> (try simp only [nms, reduceCtorEq] at hc) <;> (try (exfalso; omega)) <;> (try exact sd)))) | ((with_reducible show HeadT _ _ _ _ _ _ _ _ _ _); (first | refine head_end ?_ | refine head_goP ty_ok rfl rfl sd ?_ | refine head_gate ty_ok rfl rfl rfl sd ?_ | refine head_callE (ty := ty) rfl rfl rfl rfl rfl rfl rfl (c_rwithin_at _ 60 (by omega) b hb hr) rfl ?_ | ((fail_if_success (refine head_known rfl ?_)); (refine head_split ty_ok rfl rfl rfl rfl (fun hc => ⟨?_, ?_⟩) (fun hc => ⟨?_, ?_⟩)) <;> (try simp only [nms, reduceCtorEq] at hc) <;> (try (exfalso; omega)) <;> (try exact sd)))) | ((fail_if_success (with_reducible show AWp _ _ _ _ _)); (fail_if_success (with_reducible show AOps _ _ _ _ _ _)); (fail_if_success (with_reducible show HeadT _ _ _ _ _ _ _ _ _ _)); (first | (show AWp _ _ _ _ _) | (show AOps _ _ _ _ _ _) | refine st_go rfl rfl rfl rfl rfl rfl rfl ?_)))
    simp only [deD]
    rw [beq_eq_false_iff_ne.2 (by omega)]
    rfl
  | ok n =>
    obtain ⟨x, c, ks, rfl⟩ := tr_node (wi_ok.1 hr)
    repeat' (first | ((with_reducible show AWp _ _ _ _ _); (first | refine awp_seq ?_ | refine awp_block ?_ | refine awp_skip ?_ | refine awp_exit ?_ | refine awp_scope ?_ | refine awp_label ?_ | refine awp_run ty_ok rfl sd ?_ | refine awp_ret ⟨_, _, rfl, rfl, ?_⟩ | refine awp_ret ⟨_, rfl, ?_⟩ | ((refine awp_cond (ty := ty) rfl (fun hc => ?_) (fun hc => ?_)) <;> (try simp only [nms, reduceCtorEq] at hc) <;> (try (exfalso; omega))) | refine awp_anyS 5 4 ty_ok mixed rfl rfl rfl rfl rfl rfl rfl rfl rfl (by kernel_rfl) ?_)) | ((with_reducible show AOps _ _ _ _ _ _); (first | refine aops_nil ?_ | refine aops_go ty_ok rfl rfl sd ?_ | refine aops_gate ty_ok rfl rfl rfl sd ?_ | refine aops_callE (ty := ty) rfl rfl rfl rfl rfl rfl rfl (c_rwithin_at _ 60 (by omega) b hb hr) rfl ?_ | refine aops_litE ty_ok rfl rfl rfl rfl rfl rfl rfl rfl rfl rfl rfl rfl ?_ | refine aops_litA ty_ok rfl rfl rfl rfl rfl rfl rfl rfl rfl rfl rfl rfl rfl rfl rfl rfl ?_ | refine aops_buildArr ty_ok rfl rfl rfl rfl rfl rfl rfl rfl rfl rfl ?_ | refine aops_indexArr ty_ok rfl rfl rfl rfl rfl rfl rfl rfl rfl rfl sd ?_ | refine aops_cutE ty_ok rfl rfl rfl rfl rfl rfl rfl rfl rfl sd rfl ?_ | ((fail_if_success (refine aops_known rfl ?_)); (refine aops_split ty_ok rfl rfl rfl rfl rfl rfl (fun hc => ⟨?_, ?_⟩) (fun hc => ⟨?_, ?_⟩)) <;> (try simp only [nms, reduceCtorEq] at hc) <;> (try (exfalso; omega)) <;> (try exact sd)))) | ((with_reducible show HeadT _ _ _ _ _ _ _ _ _ _); (first | refine head_end ?_ | refine head_goP ty_ok rfl rfl sd ?_ | refine head_gate ty_ok rfl rfl rfl sd ?_ | refine head_callE (ty := ty) rfl rfl rfl rfl rfl rfl rfl (c_rwithin_at _ 60 (by omega) b hb hr) rfl ?_ | ((fail_if_success (refine head_known rfl ?_)); (refine head_split ty_ok rfl rfl rfl rfl (fun hc => ⟨?_, ?_⟩) (fun hc => ⟨?_, ?_⟩)) <;> (try simp only [nms, reduceCtorEq] at hc) <;> (try (exfalso; omega)) <;> (try exact sd)))) | ((fail_if_success (with_reducible show AWp _ _ _ _ _)); (fail_if_success (with_reducible show AOps _ _ _ _ _ _)); (fail_if_success (with_reducible show HeadT _ _ _ _ _ _ _ _ _ _)); (first | (show AWp _ _ _ _ _) | (show AOps _ _ _ _ _ _) | refine st_go rfl rfl rfl rfl rfl rfl rfl ?_)))
    rfl
theorem c_rdeep_at (Γ : Env) (b : List UInt8) (hb : b.length ≤ 1000000) {v : Ex Dat} (h : wiF 60 b = v) : ACalls Tryz.prog Γ 44 [.sl none (bys b)] (fun r => r = .d (deD v)) := by
  subst h
  exact c_rdeep Γ b hb
theorem isRPut3 : IsFn Tryz.prog 32 Tryz.f32 := ⟨Tryz.func32, by decide, rfl⟩
theorem c_rput3 (Γ : Env) (x : UInt8) (ps : List (List UInt8)) (hp : ps.length ≤ 1099511627) (hl : ps.flatten.length ≤ 2147483647) : ACalls Tryz.prog Γ 32 [.int .u8 x.toNat, .sl none (byss ps)] (fun r => r = .own none 5 (bys (putF x ps.flatten))) := by
  refine acalls_of ty_ok isRPut3 rfl rfl ?_
  repeat' (first | ((with_reducible show AWp _ _ _ _ _); (first | refine awp_seq ?_ | refine awp_block ?_ | refine awp_skip ?_ | refine awp_exit ?_ | refine awp_scope ?_ | refine awp_label ?_ | refine awp_run ty_ok rfl sd ?_ | refine awp_ret ⟨_, _, rfl, rfl, ?_⟩ | refine awp_ret ⟨_, rfl, ?_⟩ | ((refine awp_cond (ty := ty) rfl (fun hc => ?_) (fun hc => ?_)) <;> (try simp only [nms, reduceCtorEq] at hc) <;> (try (exfalso; omega))))) | ((with_reducible show AOps _ _ _ _ _ _); (first | refine aops_nil ?_ | refine aops_go ty_ok rfl rfl sd ?_ | refine aops_gate ty_ok rfl rfl rfl sd ?_ | refine aops_litE ty_ok rfl rfl rfl rfl rfl rfl rfl rfl rfl rfl rfl rfl ?_ | refine aops_litA ty_ok rfl rfl rfl rfl rfl rfl rfl rfl rfl rfl rfl rfl rfl rfl rfl rfl ?_ | refine aops_buildArr ty_ok rfl rfl rfl rfl rfl rfl rfl rfl rfl rfl ?_ | refine aops_indexArr ty_ok rfl rfl rfl rfl rfl rfl rfl rfl rfl rfl sd ?_ | refine aops_cutE ty_ok rfl rfl rfl rfl rfl rfl rfl rfl rfl sd rfl ?_ | ((fail_if_success (refine aops_known rfl ?_)); (refine aops_split ty_ok rfl rfl rfl rfl rfl rfl (fun hc => ⟨?_, ?_⟩) (fun hc => ⟨?_, ?_⟩)) <;> (try simp only [nms, reduceCtorEq] at hc) <;> (try (exfalso; omega)) <;> (try exact sd)))) | ((fail_if_success (with_reducible show AWp _ _ _ _ _)); (fail_if_success (with_reducible show AOps _ _ _ _ _ _)); (first | (show AWp _ _ _ _ _) | (show AOps _ _ _ _ _ _))))
  refine awp_nilrow 5 5 rfl ?_
  refine awp_loopR (G := { k : Nat // k ≤ ps.length }) (fun k => ⟨Tryz.f32.ntmps, [(0, .d (.int .u8 x.toNat)), (1, .d (.sl none (byss ps))), (5, .ref 0), (6, .d (.int .i64 k.1))], [(0, .row none 5 (bys (ps.take k.1).flatten))], 1⟩) (fun k => ps.length - k.1) ⟨0, Nat.zero_le _⟩ [(0, 0)]
    (SubR.mk' rfl rfl ⟨⟨_, rfl, rfl⟩, ⟨_, rfl, rfl⟩, ⟨_, rfl, rfl⟩, ⟨_, rfl, rfl⟩, trivial⟩ ⟨⟨_, _, rfl, rfl, rfl⟩, trivial⟩) ?_
  rintro ⟨k, hk⟩
  dsimp only
  rcases Nat.lt_or_ge k ps.length with hkl | hkl
  · have he : ((byss ps).getD (k : Int).toNat default).els = bys ps[k] := by
      rw [Int.toNat_natCast, els_byss]
      simp [hkl]
    have hs := sumL_take ps k hkl
    have hs2 := sumL_le ps (k + 1)
    have hfl := sumL_flat (ps.take k)
    have hfl2 := sumL_flat ps
    have hel : (((byss ps).getD k default).els).length = ps[k].length := by
      rw [Int.toNat_natCast] at he
      rw [he, bys_len]
    repeat' (first | ((with_reducible show AWp _ _ _ _ _); (first | refine awp_seq ?_ | refine awp_block ?_ | refine awp_skip ?_ | refine awp_exit ?_ | refine awp_scope ?_ | refine awp_label ?_ | refine awp_run ty_ok rfl sd ?_ | refine awp_ret ⟨_, _, rfl, rfl, ?_⟩ | refine awp_ret ⟨_, rfl, ?_⟩ | ((refine awp_cond (ty := ty) rfl (fun hc => ?_) (fun hc => ?_)) <;> (try simp only [nms, reduceCtorEq] at hc) <;> (try (exfalso; omega))))) | ((with_reducible show AOps _ _ _ _ _ _); (first | refine aops_nil ?_ | refine aops_go ty_ok rfl rfl sd ?_ | refine aops_gate ty_ok rfl rfl rfl sd ?_ | refine aops_litE ty_ok rfl rfl rfl rfl rfl rfl rfl rfl rfl rfl rfl rfl ?_ | refine aops_litA ty_ok rfl rfl rfl rfl rfl rfl rfl rfl rfl rfl rfl rfl rfl rfl rfl rfl ?_ | refine aops_buildArr ty_ok rfl rfl rfl rfl rfl rfl rfl rfl rfl rfl ?_ | refine aops_indexArr ty_ok rfl rfl rfl rfl rfl rfl rfl rfl rfl rfl sd ?_ | refine aops_cutE ty_ok rfl rfl rfl rfl rfl rfl rfl rfl rfl sd rfl ?_ | ((fail_if_success (refine aops_known rfl ?_)); (refine aops_split ty_ok rfl rfl rfl rfl rfl rfl (fun hc => ⟨?_, ?_⟩) (fun hc => ⟨?_, ?_⟩)) <;> (try simp only [nms, reduceCtorEq] at hc) <;> (try (exfalso; omega)) <;> (try exact sd)))) | ((fail_if_success (with_reducible show AWp _ _ _ _ _)); (fail_if_success (with_reducible show AOps _ _ _ _ _ _)); (first | (show AWp _ _ _ _ _) | (show AOps _ _ _ _ _ _))))
    refine ⟨⟨k + 1, hkl⟩, [(1, 0)], SubR.mk' rfl rfl ⟨⟨_, rfl, rfl⟩, ⟨_, rfl, rfl⟩, ⟨_, rfl, rfl⟩, ⟨_, rfl, rfl⟩, trivial⟩ ⟨⟨_, _, rfl, rfl, congrArg (AO.row none 5) ?_⟩, trivial⟩, by simp only; omega⟩
    rw [he, List.take_succ_eq_append_getElem hkl, List.flatten_append, bys_app]
    simp
  · have hke : k = ps.length := by omega
    subst hke
    rw [List.take_length]
    repeat' (first | ((with_reducible show AWp _ _ _ _ _); (first | refine awp_seq ?_ | refine awp_block ?_ | refine awp_skip ?_ | refine awp_exit ?_ | refine awp_scope ?_ | refine awp_label ?_ | refine awp_run ty_ok rfl sd ?_ | refine awp_ret ⟨_, _, rfl, rfl, ?_⟩ | refine awp_ret ⟨_, rfl, ?_⟩ | ((refine awp_cond (ty := ty) rfl (fun hc => ?_) (fun hc => ?_)) <;> (try simp only [nms, reduceCtorEq] at hc) <;> (try (exfalso; omega))))) | ((with_reducible show AOps _ _ _ _ _ _); (first | refine aops_nil ?_ | refine aops_go ty_ok rfl rfl sd ?_ | refine aops_gate ty_ok rfl rfl rfl sd ?_ | refine aops_callE (ty := ty) rfl rfl rfl rfl rfl rfl rfl (c_rput _ x ps.flatten hl) rfl ?_ | refine aops_litE ty_ok rfl rfl rfl rfl rfl rfl rfl rfl rfl rfl rfl rfl ?_ | refine aops_litA ty_ok rfl rfl rfl rfl rfl rfl rfl rfl rfl rfl rfl rfl rfl rfl rfl rfl ?_ | refine aops_buildArr ty_ok rfl rfl rfl rfl rfl rfl rfl rfl rfl rfl ?_ | refine aops_indexArr ty_ok rfl rfl rfl rfl rfl rfl rfl rfl rfl rfl sd ?_ | refine aops_cutE ty_ok rfl rfl rfl rfl rfl rfl rfl rfl rfl sd rfl ?_ | ((fail_if_success (refine aops_known rfl ?_)); (refine aops_split ty_ok rfl rfl rfl rfl rfl rfl (fun hc => ⟨?_, ?_⟩) (fun hc => ⟨?_, ?_⟩)) <;> (try simp only [nms, reduceCtorEq] at hc) <;> (try (exfalso; omega)) <;> (try exact sd)))) | ((fail_if_success (with_reducible show AWp _ _ _ _ _)); (fail_if_success (with_reducible show AOps _ _ _ _ _ _)); (first | (show AWp _ _ _ _ _) | (show AOps _ _ _ _ _ _))))
    rfl
end Go.Proofs.YtdihjpmdmfmbiaaGreatDoor

/- Functions of package cretulabase that the laws ask; named bits of a key usage. Walked by the abstract machine. -/
namespace Go.Proofs.YtdihjpmdmfmbiaaGreatDoor
open Go.Am
set_option linter.unusedSimpArgs false
set_option linter.unusedVariables false

theorem c_bytes_eq (Γ : Env) (x y : List UInt8) (h : x = y) : ACalls Tryz.prog Γ 15 [.sl none (bys x), .sl none (bys y)] (fun r => r = .d (.bool true)) := by
  have := c_bytes Γ x y
  rwa [decide_eq_true h] at this
def witF (c o n : Int) : Bool := decide ((c = 0 ∧ o = 0) ∨ (c > 0 ∧ 0 ≤ o ∧ o ≤ n))
end Go.Proofs.YtdihjpmdmfmbiaaGreatDoor

/- Functions of package bitstring, walked by the abstract machine. -/
namespace Go.Proofs.YtdihjpmdmfmbiaaGreatDoor
open Go.Am
set_option linter.unusedSimpArgs false
set_option linter.unusedVariables false

def bitsD (x : List UInt8) (u : Int) : Dat := .agg [.sl none (bys x), .int .i64 u]
theorem isValid : IsFn Tryz.prog 50 Tryz.f50 := ⟨Tryz.func50, by decide, rfl⟩
theorem c_valid (Γ : Env) (x : List UInt8) (u : Int) (hx : x.length ≤ 1099511627776) : ACalls Tryz.prog Γ 50 [bitsD x u] (fun r => r = .d (.bool (valF x u))) := by
  refine acalls_of ty_ok isValid rfl rfl ?_
  repeat (first | refine awp_reg ty_ok rfl sd ?_ | refine awp_seq ?_ | refine awp_all ty_ok rfl sd ?_ | refine awp_block ?_ | refine awp_skip ?_ | refine awp_exit ?_)
  refine awp_cond (ty := ty) rfl (fun hc => ?_) (fun hc => ?_)
  · repeat (first | refine awp_reg ty_ok rfl sd ?_ | refine awp_seq ?_ | refine awp_all ty_ok rfl sd ?_ | refine awp_block ?_ | refine awp_skip ?_ | refine awp_exit ?_)
    refine awp_ret ⟨_, _, rfl, rfl, ?_⟩
    cases x with
    | nil => simp [valF]; rfl
    | cons b x => simp [bys] at hc; omega
  repeat (first | refine awp_reg ty_ok rfl sd ?_ | refine awp_seq ?_ | refine awp_all ty_ok rfl sd ?_ | refine awp_block ?_ | refine awp_skip ?_ | refine awp_exit ?_)
  have h0 : 0 < x.length := by
    cases x with
    | nil => simp [bys] at hc
    | cons b x => simp
  refine awp_any 24 mixed (by kernel_rfl) ?_
  have hv : valF x u = decide (0 ≤ u ∧ u ≤ 7 ∧ (x.getD (x.length - 1) 0).toNat % 2 ^ u.toNat = 0) := by
    cases x with
    | nil => simp at h0
    | cons b x => rfl
  by_cases h1 : u ≥ 0
  · refine head_go ty_ok [] rfl sd ?_
    simp only [h1, decide_true]
    refine head_go ty_ok [3] rfl sd ?_
    by_cases h2 : u ≤ 7
    · simp only [h2, decide_true]
      refine head_go ty_ok [3, 8] rfl sd ?_
      refine head_end ?_
      refine aops_run ty_ok [] rfl sd ?_
      refine aops_nil ?_
      refine awp_ret ⟨_, _, rfl, rfl, ?_⟩
      rw [num_bys, bys_len, mask_u8 _ _ h1 h2, hv]
      have h3 : ((x.length : Int) - 1).toNat = x.length - 1 := by omega
      have h4 : 0 ≤ u := h1
      simp [h3, h4, h2]
    · simp only [h2, decide_false]
      refine head_go ty_ok [3, 8] rfl sd ?_
      refine head_end ?_
      refine aops_run ty_ok [] rfl sd ?_
      refine aops_nil ?_
      refine awp_ret ⟨_, _, rfl, rfl, ?_⟩
      rw [hv]
      simp [h2]
  · refine head_go ty_ok [] rfl sd ?_
    simp only [h1, decide_false]
    refine head_go ty_ok [3, 8] rfl sd ?_
    refine head_end ?_
    refine aops_run ty_ok [] rfl sd ?_
    refine aops_nil ?_
    refine awp_ret ⟨_, _, rfl, rfl, ?_⟩
    rw [hv]
    simp [h1]

end Go.Proofs.YtdihjpmdmfmbiaaGreatDoor

/- Encode and Decode of bit strings, walked by the abstract machine. -/
namespace Go.Proofs.YtdihjpmdmfmbiaaGreatDoor
open Go.Am
set_option linter.unusedSimpArgs false
set_option linter.unusedVariables false

def encR (x : List UInt8) (u : Int) (r : Res) : Prop := (valF x u = true → r = .ownT none 5 (bys (UInt8.ofNat u.toNat :: x)) [.int .i64 0]) ∧ (valF x u = false → r = .d (.tup [.sl none [], .int .i64 8]))
theorem isEncode : IsFn Tryz.prog 48 Tryz.f48 := ⟨Tryz.func48, by decide, rfl⟩
theorem c_encode (Γ : Env) (x : List UInt8) (u : Int) (hx : x.length ≤ 1099511627) : ACalls Tryz.prog Γ 48 [bitsD x u] (encR x u) := by
  refine acalls_of ty_ok isEncode rfl rfl ?_
  repeat (first | refine awp_reg ty_ok rfl sd ?_ | refine awp_seq ?_ | refine awp_all ty_ok rfl sd ?_ | refine awp_block ?_ | refine awp_skip ?_ | refine awp_exit ?_)
  refine awp_run ty_ok rfl sd ?_
  refine aops_call (ty := ty) rfl rfl rfl rfl rfl rfl rfl (c_valid _ x u (by omega)) (fun r hr => ?_)
  subst hr
  refine aops_run ty_ok [] rfl sd ?_
  refine aops_nil ?_
  refine awp_cond (ty := ty) rfl (fun hc => ?_) (fun hc => ?_)
  · have hv : valF x u = false := by simpa using hc
    repeat (first | refine awp_reg ty_ok rfl sd ?_ | refine awp_seq ?_ | refine awp_all ty_ok rfl sd ?_ | refine awp_block ?_ | refine awp_skip ?_ | refine awp_exit ?_)
    refine awp_ret ⟨_, _, rfl, rfl, ?_⟩
    exact ⟨fun h => (by rw [hv] at h; cases h), fun _ => rfl⟩
  · have hv : valF x u = true := by simpa using hc
    obtain ⟨h0, h7⟩ := valF_range hv
    have hw := wrap_u8 u h0 (by omega)
    repeat (first | refine awp_reg ty_ok rfl sd ?_ | refine awp_seq ?_ | refine awp_all ty_ok rfl sd ?_ | refine awp_block ?_ | refine awp_skip ?_ | refine awp_exit ?_)
    refine awp_run ty_ok rfl sd ?_
    simp only [hw]
    refine aops_freeze [.ref 1] ?_
    refine aops_run ty_ok [] rfl sd ?_
    refine aops_call (ty := ty) rfl rfl rfl rfl rfl rfl rfl (c_concat _ [[UInt8.ofNat u.toNat], x] (by simp) (by simp [sumL]; omega)) (fun r hr => ?_)
    subst hr
    refine aops_run ty_ok [] rfl sd ?_
    refine aops_nil ?_
    refine awp_ret ⟨_, _, rfl, rfl, ?_⟩
    exact ⟨fun _ => (by simp), fun h => (by rw [hv] at h; cases h)⟩

def decD (c : List UInt8) : Dat := .tup [bitsD (decF c).1 (decF c).2.1, .int .i64 (decF c).2.2]
theorem isDecode : IsFn Tryz.prog 52 Tryz.f52 := ⟨Tryz.func52, by decide, rfl⟩
theorem c_decode (Γ : Env) (c : List UInt8) (hx : c.length ≤ 1099511627) : ACalls Tryz.prog Γ 52 [.sl none (bys c)] (fun r => r = .d (decD c)) := by
  refine acalls_of ty_ok isDecode rfl rfl ?_
  repeat (first | refine awp_reg ty_ok rfl sd ?_ | refine awp_seq ?_ | refine awp_all ty_ok rfl sd ?_ | refine awp_block ?_ | refine awp_skip ?_ | refine awp_exit ?_)
  refine awp_cond (ty := ty) rfl (fun hc => ?_) (fun hc => ?_)
  · repeat (first | refine awp_reg ty_ok rfl sd ?_ | refine awp_seq ?_ | refine awp_all ty_ok rfl sd ?_ | refine awp_block ?_ | refine awp_skip ?_ | refine awp_exit ?_)
    refine awp_ret ⟨_, _, rfl, rfl, ?_⟩
    cases c with
    | nil => rfl
    | cons b x => simp [bys] at hc; omega
  cases c with
  | nil => simp [bys] at hc
  | cons b x =>
    simp at hx
    repeat (first | refine awp_reg ty_ok rfl sd ?_ | refine awp_seq ?_ | refine awp_all ty_ok rfl sd ?_ | refine awp_block ?_ | refine awp_skip ?_ | refine awp_exit ?_)
    refine awp_any 9 mixed (by kernel_rfl) ?_
    refine head_go ty_ok [] rfl sd ?_
    simp only [cutL_bys, show Int.toNat 1 = 1 from rfl, cutB_tail]
    refine head_call (ty := ty) (.sl none (bys x)) rfl rfl rfl rfl rfl rfl rfl (c_clone _ x (by omega)) (fun r hr => by rw [hr]; rfl) ?_
    refine head_go ty_ok [] rfl ?_ ?_
    · simp only [and_true, true_and, canon_bys, bys_len, List.length_cons, show Int.toNat 0 = 0 from rfl]
      omega
    have hb : b.toNat < 256 := b.toNat_lt
    have hw : IntKind.i64.wrap (b.toNat : Int) = b.toNat := by rw [IntKind.wrap_i64]; omega
    simp only [show Int.toNat 0 = 0 from rfl, num_bys, List.getD_cons_zero, hw]
    refine head_end ?_
    refine aops_run ty_ok [] rfl sd ?_
    refine aops_nil ?_
    repeat (first | refine awp_reg ty_ok rfl sd ?_ | refine awp_seq ?_ | refine awp_all ty_ok rfl sd ?_ | refine awp_block ?_ | refine awp_skip ?_ | refine awp_exit ?_)
    refine awp_run ty_ok rfl sd ?_
    refine aops_call (ty := ty) rfl rfl rfl rfl rfl rfl rfl (c_valid _ x b.toNat (by omega)) (fun r hr => ?_)
    subst hr
    refine aops_run ty_ok [] rfl sd ?_
    refine aops_nil ?_
    refine awp_cond (ty := ty) rfl (fun hc => ?_) (fun hc => ?_)
    · have hv : valF x b.toNat = false := by simpa using hc
      repeat (first | refine awp_reg ty_ok rfl sd ?_ | refine awp_seq ?_ | refine awp_all ty_ok rfl sd ?_ | refine awp_block ?_ | refine awp_skip ?_ | refine awp_exit ?_)
      refine awp_ret ⟨_, _, rfl, rfl, ?_⟩
      simp only [decD, decF, hv]
      rfl
    · have hv : valF x b.toNat = true := by simpa using hc
      repeat (first | refine awp_reg ty_ok rfl sd ?_ | refine awp_seq ?_ | refine awp_all ty_ok rfl sd ?_ | refine awp_block ?_ | refine awp_skip ?_ | refine awp_exit ?_)
      refine awp_ret ⟨_, _, rfl, rfl, ?_⟩
      simp only [decD, decF, hv]
      rfl

end Go.Proofs.YtdihjpmdmfmbiaaGreatDoor

/- Len and At of bit strings, walked by the abstract machine. -/
namespace Go.Proofs.YtdihjpmdmfmbiaaGreatDoor
open Go.Am
set_option linter.unusedSimpArgs false
set_option linter.unusedVariables false

end Go.Proofs.YtdihjpmdmfmbiaaGreatDoor

/- At of the reference, members of sets, walked by the abstract machine. -/
namespace Go.Proofs.YtdihjpmdmfmbiaaGreatDoor
open Go.Am
set_option linter.unusedSimpArgs false
set_option linter.unusedVariables false

end Go.Proofs.YtdihjpmdmfmbiaaGreatDoor

/- At of the reference, Ints, walked by the abstract machine. -/
namespace Go.Proofs.YtdihjpmdmfmbiaaGreatDoor
open Go.Am
set_option linter.unusedSimpArgs false
set_option linter.unusedVariables false

end Go.Proofs.YtdihjpmdmfmbiaaGreatDoor

/- EncodeNamed, walked by the abstract machine. -/
namespace Go.Proofs.YtdihjpmdmfmbiaaGreatDoor
open Go.Am
set_option linter.unusedSimpArgs false
set_option linter.unusedVariables false

def badF (n k : Int) : Bool := decide (k < 1 ∨ k > 32 ∨ n < 0 ∨ ¬ n.toNat < 2 ^ k.toNat)
def encNR (n k : Int) (r : Res) : Prop := (badF n k = true → r = .d (.tup [.sl none [], .int .i64 9])) ∧ (badF n k = false → memF n.toNat = [] → r = .ownT none 5 (bys [0]) [.int .i64 0]) ∧
  (badF n k = false → ∀ q m, memF n.toNat = q ++ [m] → r = .ownT none 5 (bys (outP (q ++ [m]) m)) [.int .i64 0])

end Go.Proofs.YtdihjpmdmfmbiaaGreatDoor

/- EncodeNamed of the reference, walked by the abstract machine. -/
namespace Go.Proofs.YtdihjpmdmfmbiaaGreatDoor
open Go.Am
set_option linter.unusedSimpArgs false
set_option linter.unusedVariables false

end Go.Proofs.YtdihjpmdmfmbiaaGreatDoor

/- DecodeNamed, walked by the abstract machine. -/
namespace Go.Proofs.YtdihjpmdmfmbiaaGreatDoor
open Go.Am
set_option linter.unusedSimpArgs false
set_option linter.unusedVariables false

def bitF (x : List UInt8) (u : Int) (i : Nat) : Bool := atF x u i
/-- The set of contents octets, and the code. -/
def dnF (c : List UInt8) (k : Int) : Int × Int := match decide (k < 1 ∨ k > 32) with
  | true => (0, 9)
  | false => match decide ((decF c).2.2 ≠ 0 ∨ lenF (decF c).1 (decF c).2.1 > k ∨ (lenF (decF c).1 (decF c).2.1 > 0 ∧ atF (decF c).1 (decF c).2.1 (lenF (decF c).1 (decF c).2.1 - 1) = false)) with
    | true => (0, 6)
    | false => ((setTo (bitF (decF c).1 (decF c).2.1) (lenF (decF c).1 (decF c).2.1).toNat : Int), 0)
end Go.Proofs.YtdihjpmdmfmbiaaGreatDoor

/- DecodeNamed of the reference, walked by the abstract machine. -/
namespace Go.Proofs.YtdihjpmdmfmbiaaGreatDoor
open Go.Am
set_option linter.unusedSimpArgs false
set_option linter.unusedVariables false

/-- The contents octets of a set. -/
def namF (S : Nat) : List UInt8 := match (memF S).getLast? with
  | none => [0]
  | some m => outP (memF S) m
def encRes (n k : Int) : Res := match badF n k with
  | true => .d (.tup [.sl none [], .int .i64 9])
  | false => .ownT none 5 (bys (namF n.toNat)) [.int .i64 0]
def rdnF (c : List UInt8) (k : Int) : Int × Int := match decide (k < 1 ∨ k > 32) with
  | true => (0, 9)
  | false => match decide (namF (setTo (bitF (decF c).1 (decF c).2.1) k.toNat) = c) with
    | true => ((setTo (bitF (decF c).1 (decF c).2.1) k.toNat : Int), 0)
    | false => (0, 6)
end Go.Proofs.YtdihjpmdmfmbiaaGreatDoor

/- Sets of named bits: contents octets and sets are one to one. Plain Lean over the functions of the walks. -/
namespace Go.Proofs.YtdihjpmdmfmbiaaGreatDoor
open Go.Am
set_option linter.unusedSimpArgs false
set_option linter.unusedVariables false

theorem decF_cases (c : List UInt8) : decF c = ([], 0, 6) ∨ ∃ b x, c = b :: x ∧ valF x b.toNat = true ∧ decF c = (x, (b.toNat : Int), 0) := by
  cases c with
  | nil => exact .inl rfl
  | cons b x =>
    cases hv : valF x b.toNat with
    | false => exact .inl (by simp only [decF, hv])
    | true => exact .inr ⟨b, x, rfl, hv, by simp only [decF, hv]⟩
end Go.Proofs.YtdihjpmdmfmbiaaGreatDoor

/- Key usages: functions of package usage and of its reference. Walked by the abstract machine. -/
namespace Go.Proofs.YtdihjpmdmfmbiaaGreatDoor
open Go.Am
set_option linter.unusedSimpArgs false
set_option linter.unusedVariables false

def keyV (n : Int) : Bool := decide (1 ≤ n ∧ n ≤ 511)
/-- The encoding of a key usage. -/
def keyF (S : Nat) : List UInt8 := putF 3 (namF S)
def keyR (n : Int) : Res := match keyV n with
  | true => .ownT none 5 (bys (keyF n.toNat)) [.int .i64 0]
  | false => .d (.tup [.sl none [], .int .i64 8])
/-- A key usage, parsed. -/
def pkF (b : List UInt8) : Ex Nat := match onF b with
  | .bad c o => .bad c o
  | .ok e => match isB e.x 0 false 3 with
    | false => .bad 3 0
    | true => match dnF (cut b e.bd e.en) 9 with
      | (s, c) => if c ≠ 0 ∨ s = 0 then .bad 6 e.bd else .ok s.toNat
def pkD : Ex Nat → Dat
  | .bad c o => .tup [.int .i64 0, errD c o]
  | .ok S => .tup [.int .i64 S, errD 0 0]
end Go.Proofs.YtdihjpmdmfmbiaaGreatDoor

/- Key usages: what is parsed and what is marshalled are one to one; the reference's ParseKey; Allows. -/
namespace Go.Proofs.YtdihjpmdmfmbiaaGreatDoor
open Go.Am
set_option linter.unusedSimpArgs false
set_option linter.unusedVariables false

def rpkD : Ex Nat → Dat
  | .bad c o => .tup [.int .i64 0, .bool false]
  | .ok S => .tup [.int .i64 S, .bool true]
/-! ### Allows -/
def allB (u n : Nat) : Bool := (List.range 9).all fun i => !n.testBit i || u.testBit i
def allF (u n : Int) : Bool := keyV u && keyV n && allB u.toNat n.toNat
/-! ### Allows of the reference -/
def allT (k u n : Nat) : Bool := (List.range k).all fun i => !n.testBit i || u.testBit i
end Go.Proofs.YtdihjpmdmfmbiaaGreatDoor

/- Arcs and their numerals: plain Lean. No program. -/
namespace Go.Am
open Go.Lib (decDigits)
set_option linter.unusedSimpArgs false
set_option linter.unusedVariables false

def digB (c : UInt8) : Bool := decide (48 ≤ c.toNat ∧ c.toNat ≤ 57)
def dv (acc : Nat) : List UInt8 → Nat
  | [] => acc
  | c :: r => dv (acc * 10 + (c.toNat - 48)) r
theorem dv_ge : ∀ (l : List UInt8) (acc : Nat), acc ≤ dv acc l
  | [], acc => Nat.le_refl _
  | c :: r, acc => Nat.le_trans (by omega) (dv_ge r _)
theorem dv_app : ∀ (l : List UInt8) (acc : Nat) (c : UInt8), dv acc (l ++ [c]) = dv acc l * 10 + (c.toNat - 48)
  | [], acc, c => rfl
  | x :: r, acc, c => dv_app r _ c
theorem dec_small {n : Nat} (h : n < 10) : decDigits n = [UInt8.ofNat (48 + n)] := by rw [Lib.decDigits, dif_pos h]
theorem dec_big {n : Nat} (h : ¬ n < 10) : decDigits n = decDigits (n / 10) ++ [UInt8.ofNat (48 + n % 10)] := by rw [Lib.decDigits, dif_neg h]
theorem dig_nat {d : Nat} (h : d < 10) : (UInt8.ofNat (48 + d)).toNat = 48 + d := by
  simp [UInt8.toNat_ofNat']
  omega
theorem dec_dig (n : Nat) : ∀ c ∈ decDigits n, digB c = true := by
  induction n using Nat.strongRecOn with
  | _ n ih =>
    by_cases h : n < 10
    · rw [dec_small h]
      intro c hc
      simp only [List.mem_singleton] at hc
      subst hc
      simp only [digB, dig_nat h, decide_eq_true_eq]
      omega
    · rw [dec_big h]
      intro c hc
      rcases List.mem_append.1 hc with hc | hc
      · exact ih (n / 10) (by omega) c hc
      · simp only [List.mem_singleton] at hc
        subst hc
        simp only [digB, dig_nat (show n % 10 < 10 by omega), decide_eq_true_eq]
        omega
theorem dv_one (a : Nat) (c : UInt8) : dv a [c] = a * 10 + (c.toNat - 48) := rfl
theorem dv_single (n : Nat) (x : UInt8) (l : List UInt8) (hl : l = [x]) (h : x.toNat = 48 + n) : dv 0 l = n := by
  subst hl
  rw [dv_one, h]
  omega
theorem dv_snoc (k d : Nat) (l r : List UInt8) (x : UInt8) (hl : l = r ++ [x]) (hr : dv 0 r = k) (h : x.toNat = 48 + d) : dv 0 l = k * 10 + d := by
  subst hl
  rw [dv_app, hr, h]
  omega
theorem dec_dv (n : Nat) : dv 0 (decDigits n) = n := by
  induction n using Nat.strongRecOn with
  | _ n ih =>
    by_cases h : n < 10
    · exact dv_single n _ _ (dec_small h) (dig_nat h)
    · have := dv_snoc (n / 10) (n % 10) _ _ _ (dec_big h) (ih (n / 10) (by omega)) (dig_nat (show n % 10 < 10 by omega))
      omega
theorem dec_ne (n : Nat) : decDigits n ≠ [] := by
  by_cases h : n < 10
  · rw [dec_small h]; simp
  · rw [dec_big h]; simp
theorem dec_len (k : Nat) : ∀ n, n < 10 ^ (k + 1) → (decDigits n).length ≤ k + 1 := by
  induction k with
  | zero =>
    intro n h
    rw [dec_small (by simpa using h)]
    exact Nat.le_refl _
  | succ k ih =>
    intro n h
    by_cases h1 : n < 10
    · rw [dec_small h1]
      exact Nat.succ_le_succ (Nat.zero_le _)
    · rw [dec_big h1]
      have h2 : n / 10 < 10 ^ (k + 1) := by
        rw [Nat.div_lt_iff_lt_mul (Nat.succ_pos 9), ← Nat.pow_succ]
        exact h
      have := ih (n / 10) h2
      rw [List.length_append, List.length_singleton]
      omega
theorem dec_len32 (n : Nat) (h : n ≤ 4294967295) : (decDigits n).length ≤ 10 := dec_len 9 n (Nat.lt_of_le_of_lt h (by decide))
theorem dec_len64 (n : Nat) (h : n < 18446744073709551616) : (decDigits n).length ≤ 20 := dec_len 19 n (Nat.lt_of_lt_of_le h (by decide))

/-- The value that is read from digits, as far as it fits. -/
def valD (acc : Nat) : List UInt8 → Option Nat
  | [] => some acc
  | c :: r => match digB c && decide (acc ≤ 4294967295) with
    | true => valD (acc * 10 + (c.toNat - 48)) r
    | false => none
theorem valD_dv : ∀ (l : List UInt8) (acc : Nat), (∀ c ∈ l, digB c = true) → dv acc l ≤ 4294967295 → valD acc l = some (dv acc l)
  | [], acc, _, _ => rfl
  | c :: r, acc, h, hM => by
    have h1 := h c (List.mem_cons_self ..)
    have h2 := dv_ge r (acc * 10 + (c.toNat - 48))
    have h3 : dv acc (c :: r) = dv (acc * 10 + (c.toNat - 48)) r := rfl
    have h4 : decide (acc ≤ 4294967295) = true := decide_eq_true (by omega)
    simp only [valD, h1, h4, Bool.and_self]
    exact valD_dv r _ (fun c hc => h c (List.mem_cons_of_mem _ hc)) (by omega)
theorem parse_dv : ∀ (l : List UInt8) (acc : Nat), (∀ c ∈ l, digB c = true) → dv acc l ≤ 4294967295 → Lib.parseUintM 4294967295 acc l = .ok (dv acc l)
  | [], acc, _, _ => rfl
  | c :: r, acc, h, hM => by
    have h1 := h c (List.mem_cons_self ..)
    have h2 := dv_ge r (acc * 10 + (c.toNat - 48))
    have h3 : dv acc (c :: r) = dv (acc * 10 + (c.toNat - 48)) r := rfl
    simp only [digB, decide_eq_true_eq] at h1
    unfold Lib.parseUintM
    rw [if_pos h1, if_neg (by omega), if_neg (by omega)]
    exact parse_dv r _ (fun c hc => h c (List.mem_cons_of_mem _ hc)) (by omega)
theorem parse_le : ∀ (l : List UInt8) (acc u : Nat), acc ≤ 4294967295 → Lib.parseUintM 4294967295 acc l = .ok u → u ≤ 4294967295
  | [], acc, u, h, hp => by
    simp only [Lib.parseUintM, Lib.NumEnd.ok.injEq] at hp
    omega
  | c :: r, acc, u, h, hp => by
    unfold Lib.parseUintM at hp
    split at hp
    · split at hp
      · cases hp
      · split at hp
        · cases hp
        · exact parse_le r _ u (by omega) hp
    · cases hp
theorem parse32_le {l : List UInt8} {u : Nat} (h : Lib.parseUintB 32 l = .ok u) : u ≤ 4294967295 := by
  unfold Lib.parseUintB at h
  split at h
  · cases h
  · exact parse_le l 0 u (by omega) h

/-- The arc whose numeral it is. -/
def arcF (p : List UInt8) : Option Nat := match valD 0 p with
  | some n => match decide (p ≠ []) && decide (n ≤ 4294967295) && decide (decDigits n = p) with
    | true => some n
    | false => none
  | none => none
theorem arcF_some {p : List UInt8} {n : Nat} : arcF p = some n ↔ n ≤ 4294967295 ∧ decDigits n = p := by
  constructor
  · intro h
    unfold arcF at h
    split at h
    · split at h
      · rename_i hb
        cases h
        simp only [Bool.and_eq_true, decide_eq_true_eq] at hb
        exact ⟨hb.1.2, hb.2⟩
      · cases h
    · cases h
  · rintro ⟨h1, rfl⟩
    unfold arcF
    rw [valD_dv _ 0 (dec_dig n) (by rw [dec_dv]; exact h1), dec_dv]
    have e1 : decide (decDigits n ≠ []) = true := decide_eq_true (dec_ne n)
    have e2 : decide (n ≤ 4294967295) = true := decide_eq_true h1
    simp only [e1, e2, decide_true, Bool.and_self]
theorem arcF_dec {n : Nat} (h : n ≤ 4294967295) : arcF (decDigits n) = some n := arcF_some.2 ⟨h, rfl⟩
theorem parse_dec {n : Nat} (h : n ≤ 4294967295) : Lib.parseUintB 32 (decDigits n) = .ok n := by
  unfold Lib.parseUintB
  rw [if_neg (dec_ne n)]
  have := parse_dv (decDigits n) 0 (dec_dig n) (by rw [dec_dv]; exact h)
  rwa [dec_dv] at this
theorem arcF_parse (p : List UInt8) : arcF p = match Lib.parseUintB 32 p with
    | .ok u => (match decide (decDigits u = p) with
      | true => some u
      | false => none)
    | _ => none := by
  cases h : arcF p with
  | some n =>
    obtain ⟨h1, h2⟩ := arcF_some.1 h
    rw [← h2, parse_dec h1]
    simp
  | none =>
    cases hp : Lib.parseUintB 32 p with
    | ok u =>
      simp only
      split
      · rename_i hd
        have := arcF_some.2 ⟨parse32_le hp, of_decide_eq_true hd⟩
        rw [h] at this
        cases this
      · rfl
    | _ => rfl

def rightF : List Nat → Bool
  | x :: y :: _ => (decide (x < 2) && decide (y < 40)) || (decide (x = 2) && decide (y ≤ 4294967215))
  | _ => false
/-- The arcs of a string. -/
def okF (s : List UInt8) : Option (List Nat) := match (splitL s).mapM arcF with
  | some a => match rightF a with
    | true => some a
    | false => none
  | none => none

theorem mapM_snoc {α β : Type} {f : α → Option β} : ∀ (l : List α) (x : α), (l ++ [x]).mapM f = match l.mapM f, f x with
    | some a, some b => some (a ++ [b])
    | _, _ => none
  | [], x => by
    simp only [List.nil_append, List.mapM_cons, List.mapM_nil]
    cases f x <;> rfl
  | y :: l, x => by
    simp only [List.cons_append, List.mapM_cons, mapM_snoc l x]
    cases f y with
    | none => rfl
    | some b =>
      cases l.mapM f with
      | none => rfl
      | some a => cases f x <;> rfl
theorem mapM_none_of {α β : Type} {f : α → Option β} : ∀ {l : List α} {x : α}, x ∈ l → f x = none → l.mapM f = none
  | y :: l, x, h, hf => by
    rw [List.mapM_cons]
    rcases List.mem_cons.1 h with rfl | h
    · rw [hf]; rfl
    · cases f y with
      | none => rfl
      | some b => rw [mapM_none_of h hf]; rfl
theorem mapM_arcs : ∀ {l : List (List UInt8)} {a : List Nat}, l.mapM arcF = some a → l = a.map decDigits ∧ ∀ n ∈ a, n ≤ 4294967295
  | [], a, h => by cases h; simp
  | p :: l, a, h => by
    rw [List.mapM_cons] at h
    cases hp : arcF p with
    | none => rw [hp] at h; cases h
    | some n =>
      cases hl : l.mapM arcF with
      | none => rw [hp, hl] at h; cases h
      | some b =>
        rw [hp, hl] at h
        cases h
        obtain ⟨h1, h2⟩ := mapM_arcs hl
        obtain ⟨h3, h4⟩ := arcF_some.1 hp
        refine ⟨by rw [h1, ← h4]; rfl, fun m hm => ?_⟩
        rcases List.mem_cons.1 hm with rfl | hm
        · exact h3
        · exact h2 m hm
theorem arcs_mapM : ∀ {a : List Nat}, (∀ n ∈ a, n ≤ 4294967295) → (a.map decDigits).mapM arcF = some a
  | [], _ => rfl
  | n :: a, h => by
    rw [List.map_cons, List.mapM_cons, arcF_dec (h n (List.mem_cons_self ..)), arcs_mapM (fun m hm => h m (List.mem_cons_of_mem _ hm))]
    rfl
theorem splitL_app {p : List UInt8} (h : ∀ c ∈ p, c ≠ 46) (r : List UInt8) : splitL (p ++ 46 :: r) = p :: splitL r := by
  induction p with
  | nil => simp [splitL]
  | cons c p ih =>
    have h1 : ¬ c = 46 := h c (List.mem_cons_self ..)
    simp only [List.cons_append, splitL, if_neg h1, ih (fun c hc => h c (List.mem_cons_of_mem _ hc))]
theorem splitL_one {p : List UInt8} (h : ∀ c ∈ p, c ≠ 46) : splitL p = [p] := by
  induction p with
  | nil => rfl
  | cons c p ih =>
    have h1 : ¬ c = 46 := h c (List.mem_cons_self ..)
    simp only [splitL, if_neg h1, ih (fun c hc => h c (List.mem_cons_of_mem _ hc))]
/-- Pieces with dots between them. -/
def joinD : List (List UInt8) → List UInt8
  | [] => []
  | [p] => p
  | p :: q :: r => p ++ 46 :: joinD (q :: r)
theorem splitL_joinD : ∀ {ps : List (List UInt8)}, ps ≠ [] → (∀ p ∈ ps, ∀ c ∈ p, c ≠ 46) → splitL (joinD ps) = ps
  | [], h, _ => absurd rfl h
  | [p], _, h => splitL_one (h p (List.mem_cons_self ..))
  | p :: q :: r, _, h => by
    rw [joinD, splitL_app (h p (List.mem_cons_self ..)), splitL_joinD (by simp) (fun x hx => h x (List.mem_cons_of_mem _ hx))]
theorem joinD_splitL (s : List UInt8) : joinD (splitL s) = s := by
  induction s with
  | nil => rfl
  | cons c r ih =>
    simp only [splitL]
    by_cases h : c = 46
    · subst h
      rw [if_pos rfl]
      cases hs : splitL r with
      | nil => exact absurd hs (splitL_ne r)
      | cons p ps =>
        rw [hs] at ih
        rw [joinD, ih]
        rfl
    · rw [if_neg h]
      cases hs : splitL r with
      | nil => exact absurd hs (splitL_ne r)
      | cons p ps =>
        rw [hs] at ih
        cases ps with
        | nil => simp only [joinD] at ih ⊢; rw [ih]
        | cons q qs => simp only [joinD] at ih ⊢; rw [← ih]; rfl
def textF (a : List Nat) : List UInt8 := joinD (a.map decDigits)
theorem dec_nodot (n : Nat) : ∀ c ∈ decDigits n, c ≠ 46 := by
  intro c hc h
  subst h
  have := dec_dig n 46 hc
  revert this
  decide
theorem okF_text {s : List UInt8} {a : List Nat} (h : okF s = some a) : textF a = s ∧ rightF a = true ∧ ∀ n ∈ a, n ≤ 4294967295 := by
  unfold okF at h
  split at h
  · rename_i b hb
    split at h
    · rename_i hr
      cases h
      obtain ⟨h1, h2⟩ := mapM_arcs hb
      exact ⟨by rw [textF, ← h1, joinD_splitL], hr, h2⟩
    · cases h
  · cases h
theorem text_okF {a : List Nat} (h : rightF a = true) (hn : ∀ n ∈ a, n ≤ 4294967295) : okF (textF a) = some a := by
  unfold okF textF
  rw [splitL_joinD (by
    intro he
    cases a with
    | nil => simp [rightF] at h
    | cons x r => simp at he) (fun p hp => by
    obtain ⟨n, _, rfl⟩ := List.mem_map.1 hp
    exact dec_nodot n), arcs_mapM hn]
  simp only [h]
theorem joinD_lib : ∀ (ps : List (List UInt8)), Lib.join ps [46] = joinD ps
  | [] => rfl
  | [p] => by simp [joinD, Lib.join]
  | p :: q :: r => by
    rw [joinD, ← joinD_lib (q :: r)]
    simp [Lib.join]
theorem joinD_len : ∀ (ps : List (List UInt8)) (b : Nat), (∀ p ∈ ps, p.length ≤ b) → (joinD ps).length ≤ ps.length * (b + 1)
  | [], b, _ => by simp [joinD]
  | [p], b, h => by have := h p (List.mem_cons_self ..); simp [joinD]; omega
  | p :: q :: r, b, h => by
    have h1 := h p (List.mem_cons_self ..)
    have h2 := joinD_len (q :: r) b (fun x hx => h x (List.mem_cons_of_mem _ hx))
    rw [joinD]
    simp only [List.length_append, List.length_cons] at h2 ⊢
    rw [Nat.add_mul]
    omega
theorem textF_len (a : List Nat) (h : ∀ n ∈ a, n ≤ 4294967295) : (textF a).length ≤ a.length * 11 := by
  have := joinD_len (a.map decDigits) 10 (fun p hp => by
    obtain ⟨n, hn, rfl⟩ := List.mem_map.1 hp
    exact dec_len32 n (h n hn))
  simpa [textF] using this
end Go.Am

/- What the listed variables of Go's library hold: an environment for the walks. -/
namespace Go.Proofs.YtdihjpmdmfmbiaaGreatDoor
open Go.Am
set_option linter.unusedSimpArgs false
set_option linter.unusedVariables false

def theLaid := Rows.algorithmMarshalsRow.laid
def LaidOk (w : World) : Prop := 3 ≤ w.heap.size ∧ Lib.TabIs Tryz.prog w "internal/strconv.uint64pow10" .u64 Lib.pow10Tab ∧ (∃ t p, w.var? Tryz.prog "strconv.ErrSyntax" = some #[.iface t p]) ∧ (∃ t p, w.var? Tryz.prog "strconv.ErrRange" = some #[.iface t p])
theorem var_stable {P : Program} {n : String} {g : Nat} (hg : P.globalNamed n = some g) {w w' : World} (h : w'.heap[g]? = w.heap[g]?) : w'.var? P n = w.var? P n := by
  simp only [World.var?, hg, Option.bind_some, h]
theorem var_lt {P : Program} {n : String} {g : Nat} {c : Array Value} (hg : P.globalNamed n = some g) {w : World} (h : w.var? P n = some c) : g < w.heap.size := by
  rcases Nat.lt_or_ge g w.heap.size with h1 | h1
  · exact h1
  · simp only [World.var?, hg, Option.bind_some, Array.getElem?_eq_none h1] at h
    cases h
def envL : Env where
  ok := LaidOk
  lim := 3
  lim_le := fun w h => h.1
  stable := fun w w' h _ _ hs hb => by
    refine ⟨Nat.le_trans h.1 hs, ?_, ?_, ?_⟩
    · have := h.2.1
      unfold Lib.TabIs at this ⊢
      rw [var_stable (g := 2) (by kernel_rfl) (hb 2 (by omega))]
      exact this
    · rw [var_stable (g := 0) (by kernel_rfl) (hb 0 (by omega))]
      exact h.2.2.1
    · rw [var_stable (g := 1) (by kernel_rfl) (hb 1 (by omega))]
      exact h.2.2.2
  L := 0
theorem iface_of {H : Type} {enc : TypeId × Value → H} {P : Program} {w : World} {t : TypeId} {ms : Array (String × TypeId)} {fuel : Nat} {cs : Array Value} {nm : String} {d : DataW H} {p : List MemPlace} (hi : P.underlying t = some (.interface ms))
    (h : DataW.trod enc P w 0 (fun _ => true) false fuel t cs.toList = some (.iface nm d, p)) : ∃ u v, cs = #[.iface u v] := by
  obtain ⟨cs⟩ := cs
  cases fuel with
  | zero => simp [DataW.trod] at h
  | succ n =>
    unfold DataW.trod at h
    rw [hi] at h
    split at h <;> simp_all
theorem laid_ok {W : World} (h : laidMetH Tryz.prog theLaid W) : LaidOk W := by
  unfold theLaid at h
  rw [MakeChecks.laidMetH_plain _ _ _ (by kernel_rfl)] at h
  obtain ⟨ps, hv, _⟩ := h
  obtain ⟨g1, t1, c1, f1, p1, q1, a1, b1, v1, d1, hv, _⟩ := hv
  obtain ⟨g2, t2, c2, f2, p2, q2, a2, b2, v2, d2, hv, _⟩ := hv
  obtain ⟨g3, t3, c3, f3, p3, q3, a3, b3, v3, d3, hv, _⟩ := hv
  obtain ⟨g4, t4, c4, f4, p4, q4, a4, b4, v4, d4, hv, _⟩ := hv
  obtain ⟨g5, t5, c5, f5, p5, q5, a5, b5, v5, d5, hv, _⟩ := hv
  obtain ⟨g6, t6, c6, f6, p6, q6, a6, b6, v6, d6, hv, _⟩ := hv
  have hi : Tryz.prog.underlying 118 = some (.interface _) := Tryz.underlying118
  refine ⟨?_, ?_, ?_, ?_⟩
  · have h1 := var_lt (show Tryz.prog.globalNamed "internal/strconv.uint64pow10" = some 2 by kernel_rfl) v3
    have h2 := var_lt (show Tryz.prog.globalNamed "strconv.ErrSyntax" = some 0 by kernel_rfl) v6
    have h3 := var_lt (show Tryz.prog.globalNamed "strconv.ErrRange" = some 1 by kernel_rfl) v5
    omega
  · obtain rfl := Option.some.inj ((show Tryz.prog.globalNamed "internal/strconv.uint64pow10" = some 2 by kernel_rfl).symm.trans a3)
    unfold Lib.TabIs
    have hT : (Tryz.prog.globals[2]?).map (·.type) = some 180 := by kernel_rfl
    obtain rfl := Option.some.inj (hT.symm.trans b3)
    rw [v3, ← Lib.cells_of_tab (zs := Lib.pow10Tab) Tryz.underlying180 Tryz.underlying95 (by kernel_rfl) (by kernel_rfl) d3]
  · obtain rfl := Option.some.inj ((show Tryz.prog.globalNamed "strconv.ErrSyntax" = some 0 by kernel_rfl).symm.trans a6)
    obtain rfl := Option.some.inj ((show (Tryz.prog.globals[0]?).map (·.type) = some 118 by kernel_rfl).symm.trans b6)
    obtain ⟨u, v, rfl⟩ := iface_of hi d6
    exact ⟨u, v, v6⟩
  · obtain rfl := Option.some.inj ((show Tryz.prog.globalNamed "strconv.ErrRange" = some 1 by kernel_rfl).symm.trans a5)
    obtain rfl := Option.some.inj ((show (Tryz.prog.globals[1]?).map (·.type) = some 118 by kernel_rfl).symm.trans b5)
    obtain ⟨u, v, rfl⟩ := iface_of hi d5
    exact ⟨u, v, v5⟩
theorem env_of {W : World} (h : laidMetH Tryz.prog theLaid W) : envL.ok W := laid_ok h
end Go.Proofs.YtdihjpmdmfmbiaaGreatDoor

/- Contracts of functions of Go's library, laid at this dump by the kit's own tool (lay-shelf.mjs, lay-plain.mjs), those that are used. -/

namespace Go.Proofs
open Go.Shelf
def Tryz.lays156_ren : Go.Shelf.Ren := ⟨fun | 156 => 84 | 165 => 100 | 166 => 101 | 169 => 102 | 240 => 123 | 241 => 124 | 276 => 139 | 277 => 140 | n => n, fun | 31 => 115 | 9 => 9 | 3 => 3 | 4 => 4 | 0 => 0 | 20 => 20 | 72 => 144 | 76 => 146 | 70 => 142 | 37 => 22 | 75 => 118 | 127 => 169 | 164 => 185 | 5 => 5 | 80 => 148 | n => n, fun | n => n⟩
theorem Tryz.lays156 : Go.Proofs.Lays.n156 Tryz.prog Tryz.lays156_ren := {
  mixed := by kernel_rfl
  f156 := Tryz.func84.trans (congrArg some (by kernel_rfl))
  f165 := Tryz.func100.trans (congrArg some (by kernel_rfl))
  f166 := Tryz.func101.trans (congrArg some (by kernel_rfl))
  f169 := Tryz.func102.trans (congrArg some (by kernel_rfl))
  f240 := Tryz.func123.trans (congrArg some (by kernel_rfl))
  f241 := Tryz.func124.trans (congrArg some (by kernel_rfl))
  f276 := Tryz.func139.trans (congrArg some (by kernel_rfl))
  f277 := Tryz.func140.trans (congrArg some (by kernel_rfl))
  t0 := Tryz.underlying0
  a0 := Tryz.isAgg0
  z0 := Tryz.sizeOf0
  v0 := Tryz.zeroValue0
  t3 := Tryz.underlying3
  a3 := Tryz.isAgg3
  z3 := Tryz.sizeOf3
  v3 := Tryz.zeroValue3
  t4 := Tryz.underlying4
  a4 := Tryz.isAgg4
  z4 := Tryz.sizeOf4
  v4 := Tryz.zeroValue4
  t9 := Tryz.underlying9
  a9 := Tryz.isAgg9
  z9 := Tryz.sizeOf9
  v9 := Tryz.zeroValue9
  t20 := Tryz.underlying20
  a20 := Tryz.isAgg20
  z20 := Tryz.sizeOf20
  v20 := Tryz.zeroValue20
  t31 := Tryz.underlying115
  a31 := Tryz.isAgg115
  z31 := Tryz.sizeOf115
  v31 := Tryz.zeroValue115
  t37 := Tryz.underlying22
  a37 := Tryz.isAgg22
  z37 := Tryz.sizeOf22
  v37 := Tryz.zeroValue22
  t70 := Tryz.underlying142
  a70 := Tryz.isAgg142
  z70 := Tryz.sizeOf142
  v70 := Tryz.zeroValue142
  t72 := Tryz.underlying144
  a72 := Tryz.isAgg144
  z72 := Tryz.sizeOf144
  v72 := Tryz.zeroValue144
  t75 := Tryz.underlying118
  a75 := Tryz.isAgg118
  z75 := Tryz.sizeOf118
  v75 := Tryz.zeroValue118
  t76 := Tryz.underlying146
  a76 := Tryz.isAgg146
  z76 := Tryz.sizeOf146
  v76 := Tryz.zeroValue146
  t127 := Tryz.underlying169
  a127 := Tryz.isAgg169
  z127 := Tryz.sizeOf169
  v127 := Tryz.zeroValue169
  t164 := Tryz.underlying185
  a164 := Tryz.isAgg185
  z164 := Tryz.sizeOf185
  v164 := Tryz.zeroValue185 }
theorem Tryz.Builder_Extra_156 : Builder.Extra Tryz.prog Tryz.lays156_ren := {
  sizeBuilder := by kernel_rfl
  liesBuilder := by kernel_rfl
  t5 := Tryz.underlying5
  a5 := Tryz.isAgg5
  z5 := Tryz.sizeOf5
  v5 := Tryz.zeroValue5
  infoByte := by kernel_rfl
  cellsByte := by kernel_rfl
  sizeByte := by kernel_rfl
  neB5 := by decide }
open Go.RowKit in
theorem Tryz.strings_Join_none (a : Option Addr) (c : Nat) (sep : ByteArray) (w : World) :
    Calls Tryz.prog 84 #[.slice a 0 c, .string sep] w fun e w' => e = .returned (.string ⟨#[]⟩) ∧ w' = w := Any.strings_Join_none Tryz.lays156 Tryz.Builder_Extra_156 a c sep w
open Go.RowKit in
theorem Tryz.strings_Join (bk o c : Nat) (xs : List ByteArray) (sep : ByteArray) (w : World) (hcells : ∀ (j : Nat) x, xs[j]? = some x → w.cell? ⟨bk, o + j, none⟩ = some (.string x)) (hbk : bk < w.heap.size) (hN : xs.length ≤ 140737488355328) (hcap : xs.length ≤ c) (hlen : (Lib.join (xs.map (·.data.toList)) sep.data.toList).length ≤ 140737488355328) :
    Calls Tryz.prog 84 #[.slice (some ⟨bk, o, none⟩) xs.length c, .string sep] w fun e w' => e = .returned (.string ⟨(Lib.join (xs.map (·.data.toList)) sep.data.toList).toArray⟩) ∧ Below w.heap.size w w' := Any.strings_Join Tryz.lays156 Tryz.Builder_Extra_156 bk o c xs sep w hcells hbk hN hcap hlen
def Tryz.lays283_ren : Go.Shelf.Ren := ⟨fun | 283 => 117 | n => n, fun | 3 => 3 | 9 => 9 | 4 => 4 | n => n, fun | n => n⟩
theorem Tryz.lays283 : Go.Proofs.Lays.n283 Tryz.prog Tryz.lays283_ren := {
  mixed := by kernel_rfl
  f283 := Tryz.func117.trans (congrArg some (by kernel_rfl))
  t3 := Tryz.underlying3
  a3 := Tryz.isAgg3
  z3 := Tryz.sizeOf3
  v3 := Tryz.zeroValue3
  t4 := Tryz.underlying4
  a4 := Tryz.isAgg4
  z4 := Tryz.sizeOf4
  v4 := Tryz.zeroValue4
  t9 := Tryz.underlying9
  a9 := Tryz.isAgg9
  z9 := Tryz.sizeOf9
  v9 := Tryz.zeroValue9 }
open Go.Lib in
theorem Tryz.internal_strconv_small (i : Nat) (h : i < 100) (w : World) :
    Calls Tryz.prog 117 #[.int .i64 i] w fun e w' => e = .returned (.string ⟨(Lib.decDigits i).toArray⟩) ∧ w' = w := Any.internal_strconv_small Tryz.lays283 i h w
def Tryz.laysM284_ren : Go.Shelf.Ren := ⟨fun | 284 => 118 | 129 => 134 | 317 => 133 | 318 => 135 | n => n, fun | 53 => 95 | 3 => 3 | 212 => 180 | 0 => 0 | 4 => 4 | 46 => 96 | 5 => 5 | 9 => 9 | n => n, fun | 17 => 2 | n => n⟩
theorem Tryz.laysM284 : Go.Proofs.LaysM.n284 Tryz.prog Tryz.laysM284_ren := {
  mixed := by kernel_rfl
  f129 := Tryz.func134.trans (congrArg some (by kernel_rfl))
  f284 := Tryz.func118.trans (congrArg some (by kernel_rfl))
  f317 := Tryz.func133.trans (congrArg some (by kernel_rfl))
  f318 := Tryz.func135.trans (congrArg some (by kernel_rfl))
  t0 := Tryz.underlying0
  a0 := Tryz.isAgg0
  z0 := Tryz.sizeOf0
  v0 := Tryz.zeroValue0
  t3 := Tryz.underlying3
  a3 := Tryz.isAgg3
  z3 := Tryz.sizeOf3
  v3 := Tryz.zeroValue3
  t4 := Tryz.underlying4
  a4 := Tryz.isAgg4
  z4 := Tryz.sizeOf4
  v4 := Tryz.zeroValue4
  t5 := Tryz.underlying5
  a5 := Tryz.isAgg5
  z5 := Tryz.sizeOf5
  v5 := Tryz.zeroValue5
  t9 := Tryz.underlying9
  a9 := Tryz.isAgg9
  z9 := Tryz.sizeOf9
  v9 := Tryz.zeroValue9
  t46 := Tryz.underlying96
  a46 := Tryz.isAgg96
  z46 := Tryz.sizeOf96
  v46 := Tryz.zeroValue96
  t53 := Tryz.underlying95
  a53 := Tryz.isAgg95
  z53 := Tryz.sizeOf95
  v53 := Tryz.zeroValue95
  t212 := Tryz.underlying180
  a212 := Tryz.isAgg180
  z212 := Tryz.sizeOf180
  v212 := Tryz.zeroValue180
  g17 := by kernel_rfl
  i0 := by kernel_rfl
  i3 := by kernel_rfl
  i4 := by kernel_rfl
  i5 := by kernel_rfl
  i9 := by kernel_rfl
  i46 := by kernel_rfl
  i53 := by kernel_rfl
  i212 := by kernel_rfl
  m17 := by kernel_rfl }
open Go.Lib in
theorem Tryz.internal_strconv_numDigits (u : Nat) (h1 : 1 ≤ u) (h2 : u < 18446744073709551616) (w : World) (htab : Lib.TabIs Tryz.prog w "internal/strconv.uint64pow10" .u64 Lib.pow10Tab) :
    Calls Tryz.prog 118 #[.int .u64 u] w fun e w' => e = .returned (.int .i64 (Lib.nDigits u)) ∧ w' = w := Any.internal_strconv_numDigits Tryz.laysM284 u h1 h2 w htab
def Tryz.lays285_ren : Go.Shelf.Ren := ⟨fun | 285 => 119 | n => n, fun | 37 => 22 | 53 => 95 | 3 => 3 | 4 => 4 | 51 => 97 | 9 => 9 | 5 => 5 | 0 => 0 | n => n, fun | n => n⟩
theorem Tryz.lays285 : Go.Proofs.Lays.n285 Tryz.prog Tryz.lays285_ren := {
  mixed := by kernel_rfl
  f285 := Tryz.func119.trans (congrArg some (by kernel_rfl))
  t0 := Tryz.underlying0
  a0 := Tryz.isAgg0
  z0 := Tryz.sizeOf0
  v0 := Tryz.zeroValue0
  t3 := Tryz.underlying3
  a3 := Tryz.isAgg3
  z3 := Tryz.sizeOf3
  v3 := Tryz.zeroValue3
  t4 := Tryz.underlying4
  a4 := Tryz.isAgg4
  z4 := Tryz.sizeOf4
  v4 := Tryz.zeroValue4
  t5 := Tryz.underlying5
  a5 := Tryz.isAgg5
  z5 := Tryz.sizeOf5
  v5 := Tryz.zeroValue5
  t9 := Tryz.underlying9
  a9 := Tryz.isAgg9
  z9 := Tryz.sizeOf9
  v9 := Tryz.zeroValue9
  t37 := Tryz.underlying22
  a37 := Tryz.isAgg22
  z37 := Tryz.sizeOf22
  v37 := Tryz.zeroValue22
  t51 := Tryz.underlying97
  a51 := Tryz.isAgg97
  z51 := Tryz.sizeOf97
  v51 := Tryz.zeroValue97
  t53 := Tryz.underlying95
  a53 := Tryz.isAgg95
  z53 := Tryz.sizeOf95
  v53 := Tryz.zeroValue95 }
open Go.RowKit Go.Sort Go.Lib in
theorem Tryz.internal_strconv_formatBase10 (blk off cap : Nat) (u : Nat) (d : Array UInt8) (w : World) (hH : Holds (fun (b : UInt8) => Value.int .u8 (b.toNat : Int)) w blk off d) (hu : u < 10 ^ d.size) (hu64 : u < 18446744073709551616) (hsz : d.size < 4611686018427387904) :
    Calls Tryz.prog 119 #[.slice (some ⟨blk, off, none⟩) d.size cap, .int .u64 u] w fun e w' =>
      e = .returned (.tuple #[]) ∧ ∃ (n v' : Nat) (dk : Array UInt8), w' = (putRow (fun (b : UInt8) => Value.int .u8 (b.toNat : Int)) w blk off dk).drewN n ∧ FmtInv d.size u 0 v' dk := Any.internal_strconv_formatBase10 Tryz.lays285 blk off cap u d w hH hu hu64 hsz
def Tryz.laysPu14_ren : Go.Shelf.Ren := ⟨fun | 14 => 78 | 16 => 95 | 17 => 96 | 19 => 111 | 20 => 112 | 21 => 113 | 22 => 114 | 23 => 115 | 24 => 116 | 25 => 130 | 27 => 132 | 26 => 131 | 28 => 148 | 29 => 155 | 30 => 117 | 31 => 118 | 32 => 119 | 33 => 120 | 35 => 134 | 34 => 133 | 36 => 135 | 37 => 136 | 38 => 137 | 39 => 149 | 40 => 150 | n => n, fun | 9 => 9 | 3 => 3 | 22 => 95 | 24 => 118 | 25 => 119 | 4 => 4 | 34 => 154 | 5 => 5 | 36 => 96 | 37 => 22 | 0 => 0 | 39 => 156 | 21 => 21 | 44 => 176 | 47 => 169 | 50 => 190 | 48 => 188 | 2 => 2 | 52 => 160 | 55 => 163 | 59 => 180 | 60 => 97 | 20 => 20 | 61 => 181 | 65 => 201 | 66 => 202 | 67 => 148 | n => n, fun | 0 => 0 | 1 => 1 | 2 => 2 | 3 => 6 | 4 => 7 | n => n⟩
theorem Tryz.laysPu14 : Go.Proofs.LaysPu.n14 Tryz.prog Tryz.laysPu14_ren := {
  mixed := by kernel_rfl
  f14 := Tryz.func78.trans (congrArg some (by kernel_rfl))
  f16 := Tryz.func95.trans (congrArg some (by kernel_rfl))
  f17 := Tryz.func96.trans (congrArg some (by kernel_rfl))
  f19 := Tryz.func111.trans (congrArg some (by kernel_rfl))
  f20 := Tryz.func112.trans (congrArg some (by kernel_rfl))
  f21 := Tryz.func113.trans (congrArg some (by kernel_rfl))
  f22 := Tryz.func114.trans (congrArg some (by kernel_rfl))
  f23 := Tryz.func115.trans (congrArg some (by kernel_rfl))
  f24 := Tryz.func116.trans (congrArg some (by kernel_rfl))
  f25 := Tryz.func130.trans (congrArg some (by kernel_rfl))
  f26 := Tryz.func131.trans (congrArg some (by kernel_rfl))
  f27 := Tryz.func132.trans (congrArg some (by kernel_rfl))
  f28 := Tryz.func148.trans (congrArg some (by kernel_rfl))
  f29 := Tryz.func155.trans (congrArg some (by kernel_rfl))
  f30 := Tryz.func117.trans (congrArg some (by kernel_rfl))
  f31 := Tryz.func118.trans (congrArg some (by kernel_rfl))
  f32 := Tryz.func119.trans (congrArg some (by kernel_rfl))
  f33 := Tryz.func120.trans (congrArg some (by kernel_rfl))
  f34 := Tryz.func133.trans (congrArg some (by kernel_rfl))
  f35 := Tryz.func134.trans (congrArg some (by kernel_rfl))
  f36 := Tryz.func135.trans (congrArg some (by kernel_rfl))
  f37 := Tryz.func136.trans (congrArg some (by kernel_rfl))
  f38 := Tryz.func137.trans (congrArg some (by kernel_rfl))
  f39 := Tryz.func149.trans (congrArg some (by kernel_rfl))
  f40 := Tryz.func150.trans (congrArg some (by kernel_rfl))
  t0 := Tryz.underlying0
  a0 := Tryz.isAgg0
  z0 := Tryz.sizeOf0
  v0 := Tryz.zeroValue0
  i0 := by kernel_rfl
  t2 := Tryz.underlying2
  a2 := Tryz.isAgg2
  z2 := Tryz.sizeOf2
  v2 := Tryz.zeroValue2
  i2 := by kernel_rfl
  t3 := Tryz.underlying3
  a3 := Tryz.isAgg3
  z3 := Tryz.sizeOf3
  v3 := Tryz.zeroValue3
  i3 := by kernel_rfl
  t4 := Tryz.underlying4
  a4 := Tryz.isAgg4
  z4 := Tryz.sizeOf4
  v4 := Tryz.zeroValue4
  i4 := by kernel_rfl
  t5 := Tryz.underlying5
  a5 := Tryz.isAgg5
  z5 := Tryz.sizeOf5
  v5 := Tryz.zeroValue5
  i5 := by kernel_rfl
  t9 := Tryz.underlying9
  a9 := Tryz.isAgg9
  z9 := Tryz.sizeOf9
  v9 := Tryz.zeroValue9
  i9 := by kernel_rfl
  t20 := Tryz.underlying20
  a20 := Tryz.isAgg20
  z20 := Tryz.sizeOf20
  v20 := Tryz.zeroValue20
  i20 := by kernel_rfl
  t21 := Tryz.underlying21
  a21 := Tryz.isAgg21
  z21 := Tryz.sizeOf21
  v21 := Tryz.zeroValue21
  i21 := by kernel_rfl
  t22 := Tryz.underlying95
  a22 := Tryz.isAgg95
  z22 := Tryz.sizeOf95
  v22 := Tryz.zeroValue95
  i22 := by kernel_rfl
  t24 := Tryz.underlying118
  a24 := Tryz.isAgg118
  z24 := Tryz.sizeOf118
  v24 := Tryz.zeroValue118
  i24 := by kernel_rfl
  t25 := Tryz.underlying119
  a25 := Tryz.isAgg119
  z25 := Tryz.sizeOf119
  v25 := Tryz.zeroValue119
  i25 := by kernel_rfl
  t34 := Tryz.underlying154
  a34 := Tryz.isAgg154
  z34 := Tryz.sizeOf154
  v34 := Tryz.zeroValue154
  i34 := by kernel_rfl
  c34 := by kernel_rfl
  t36 := Tryz.underlying96
  a36 := Tryz.isAgg96
  z36 := Tryz.sizeOf96
  v36 := Tryz.zeroValue96
  i36 := by kernel_rfl
  t37 := Tryz.underlying22
  a37 := Tryz.isAgg22
  z37 := Tryz.sizeOf22
  v37 := Tryz.zeroValue22
  i37 := by kernel_rfl
  t39 := Tryz.underlying156
  a39 := Tryz.isAgg156
  z39 := Tryz.sizeOf156
  v39 := Tryz.zeroValue156
  i39 := by kernel_rfl
  t44 := Tryz.underlying176
  a44 := Tryz.isAgg176
  z44 := Tryz.sizeOf176
  v44 := Tryz.zeroValue176
  i44 := by kernel_rfl
  t47 := Tryz.underlying169
  a47 := Tryz.isAgg169
  z47 := Tryz.sizeOf169
  v47 := Tryz.zeroValue169
  i47 := by kernel_rfl
  t48 := Tryz.underlying188
  a48 := Tryz.isAgg188
  z48 := Tryz.sizeOf188
  v48 := Tryz.zeroValue188
  i48 := by kernel_rfl
  t50 := Tryz.underlying190
  a50 := Tryz.isAgg190
  z50 := Tryz.sizeOf190
  v50 := Tryz.zeroValue190
  i50 := by kernel_rfl
  t52 := Tryz.underlying160
  a52 := Tryz.isAgg160
  z52 := Tryz.sizeOf160
  v52 := Tryz.zeroValue160
  i52 := by kernel_rfl
  t55 := Tryz.underlying163
  a55 := Tryz.isAgg163
  z55 := Tryz.sizeOf163
  v55 := Tryz.zeroValue163
  i55 := by kernel_rfl
  t59 := Tryz.underlying180
  a59 := Tryz.isAgg180
  z59 := Tryz.sizeOf180
  v59 := Tryz.zeroValue180
  i59 := by kernel_rfl
  t60 := Tryz.underlying97
  a60 := Tryz.isAgg97
  z60 := Tryz.sizeOf97
  v60 := Tryz.zeroValue97
  i60 := by kernel_rfl
  t61 := Tryz.underlying181
  a61 := Tryz.isAgg181
  z61 := Tryz.sizeOf181
  t65 := Tryz.underlying201
  a65 := Tryz.isAgg201
  z65 := Tryz.sizeOf201
  v65 := Tryz.zeroValue201
  i65 := by kernel_rfl
  t66 := Tryz.underlying202
  a66 := Tryz.isAgg202
  z66 := Tryz.sizeOf202
  v66 := Tryz.zeroValue202
  i66 := by kernel_rfl
  t67 := Tryz.underlying148
  a67 := Tryz.isAgg148
  z67 := Tryz.sizeOf148
  v67 := Tryz.zeroValue148
  i67 := by kernel_rfl
  g0 := by kernel_rfl
  m0 := by kernel_rfl
  g1 := by kernel_rfl
  m1 := by kernel_rfl
  g2 := by kernel_rfl
  m2 := by kernel_rfl
  g3 := by kernel_rfl
  m3 := by kernel_rfl
  g4 := by kernel_rfl
  m4 := by kernel_rfl }
open Go.RowKit in
theorem Tryz.strconv_ParseUint_10_at32_ok (s : ByteArray) (hmax : s.size ≤ 9223372036854775806) (u : Nat) (h : Lib.parseUintB 32 s.data.toList = .ok u) (w : World) :
    Calls Tryz.prog 78 #[.string s, .int .i64 10, .int .i64 32] w fun e w' => e = .returned (.tuple #[.int .u64 u, .nilIface]) ∧ (w' = w ∨ w' = Lib.bytesWorld w 5 s) := Any.strconv_ParseUint_10_at32_ok Tryz.laysPu14 s hmax u h w
open Go.RowKit in
theorem Tryz.strconv_ParseUint_10_at32_syntax_var (s : ByteArray) (hlim : s.size ≤ 281474976710656) (h : Lib.parseUintB 32 s.data.toList = Lib.parseUintB 32 []) (tp : TypeId) (p : Value) (w : World) (hvar : w.var? Tryz.prog "strconv.ErrSyntax" = some #[.iface tp p]) :
    Calls Tryz.prog 78 #[.string s, .int .i64 10, .int .i64 32] w fun e w' => ∃ N, e = .returned (.tuple #[.int .u64 0, .iface 156 (.pointer (some ⟨N, 0, none⟩))]) ∧ w.heap.size ≤ N ∧ w'.heap[N]? = some (.cells #[.string ⟨#[80, 97, 114, 115, 101, 85, 105, 110, 116]⟩, .string s, .iface tp p] 176 (0, 0)) ∧ Below w.heap.size w w' := Any.strconv_ParseUint_10_at32_syntax_var Tryz.laysPu14 s hlim h tp p w hvar
open Go.RowKit in
theorem Tryz.strconv_ParseUint_10_at32_range_var (s : ByteArray) (hlim : s.size ≤ 281474976710656) (h : Lib.parseUintB 32 s.data.toList = .range) (tp : TypeId) (p : Value) (w : World) (hvar : w.var? Tryz.prog "strconv.ErrRange" = some #[.iface tp p]) :
    Calls Tryz.prog 78 #[.string s, .int .i64 10, .int .i64 32] w fun e w' => ∃ N, e = .returned (.tuple #[.int .u64 4294967295, .iface 156 (.pointer (some ⟨N, 0, none⟩))]) ∧ w.heap.size ≤ N ∧ w'.heap[N]? = some (.cells #[.string ⟨#[80, 97, 114, 115, 101, 85, 105, 110, 116]⟩, .string s, .iface tp p] 176 (0, 0)) ∧ Below w.heap.size w w' := Any.strconv_ParseUint_10_at32_range_var Tryz.laysPu14 s hlim h tp p w hvar
def Tryz.lays143_ren : Go.Shelf.Ren := ⟨fun | 143 => 110 | 219 => 129 | 217 => 144 | 225 => 145 | 224 => 146 | 267 => 147 | 266 => 153 | 314 => 154 | n => n, fun | 9 => 9 | 3 => 3 | 4 => 4 | 5 => 5 | 46 => 96 | 146 => 198 | 51 => 97 | n => n, fun | 1 => 3 | n => n⟩
theorem Tryz.lays143 : Go.Proofs.Lays.n143 Tryz.prog Tryz.lays143_ren := {
  mixed := by kernel_rfl
  f143 := Tryz.func110.trans (congrArg some (by kernel_rfl))
  f217 := Tryz.func144.trans (congrArg some (by kernel_rfl))
  f219 := Tryz.func129.trans (congrArg some (by kernel_rfl))
  f224 := Tryz.func146.trans (congrArg some (by kernel_rfl))
  f225 := Tryz.func145.trans (congrArg some (by kernel_rfl))
  f266 := Tryz.func153.trans (congrArg some (by kernel_rfl))
  f267 := Tryz.func147.trans (congrArg some (by kernel_rfl))
  f314 := Tryz.func154.trans (congrArg some (by kernel_rfl))
  t3 := Tryz.underlying3
  a3 := Tryz.isAgg3
  z3 := Tryz.sizeOf3
  v3 := Tryz.zeroValue3
  t4 := Tryz.underlying4
  a4 := Tryz.isAgg4
  z4 := Tryz.sizeOf4
  v4 := Tryz.zeroValue4
  t5 := Tryz.underlying5
  a5 := Tryz.isAgg5
  z5 := Tryz.sizeOf5
  v5 := Tryz.zeroValue5
  t9 := Tryz.underlying9
  a9 := Tryz.isAgg9
  z9 := Tryz.sizeOf9
  v9 := Tryz.zeroValue9
  t46 := Tryz.underlying96
  a46 := Tryz.isAgg96
  z46 := Tryz.sizeOf96
  v46 := Tryz.zeroValue96
  t51 := Tryz.underlying97
  a51 := Tryz.isAgg97
  z51 := Tryz.sizeOf97
  v51 := Tryz.zeroValue97
  t146 := Tryz.underlying198
  a146 := Tryz.isAgg198
  z146 := Tryz.sizeOf198
  v146 := Tryz.zeroValue198
  g1 := by kernel_rfl }
open Go.RowKit Go.Lib in
theorem Tryz.strings_Index_one (s : ByteArray) (c : UInt8) (w : World) :
    Calls Tryz.prog 110 #[.string s, .string ⟨#[c]⟩] w fun e w' => e = .returned (.int .i64 (Lib.indexByte s.data.toList c)) ∧ w' = w := Any.strings_Index_one Tryz.lays143 s c w
def Tryz.lays138_ren : Go.Shelf.Ren := ⟨fun | 138 => 109 | 195 => 126 | 218 => 128 | 143 => 110 | 219 => 129 | 217 => 144 | 225 => 145 | 224 => 146 | 267 => 147 | 266 => 153 | 314 => 154 | n => n, fun | 9 => 9 | 3 => 3 | 4 => 4 | 5 => 5 | 0 => 0 | 46 => 96 | 146 => 198 | 51 => 97 | n => n, fun | 1 => 3 | n => n⟩
theorem Tryz.lays138 : Go.Proofs.Lays.n138 Tryz.prog Tryz.lays138_ren := {
  mixed := by kernel_rfl
  f138 := Tryz.func109.trans (congrArg some (by kernel_rfl))
  f143 := Tryz.func110.trans (congrArg some (by kernel_rfl))
  f195 := Tryz.func126.trans (congrArg some (by kernel_rfl))
  f217 := Tryz.func144.trans (congrArg some (by kernel_rfl))
  f218 := Tryz.func128.trans (congrArg some (by kernel_rfl))
  f219 := Tryz.func129.trans (congrArg some (by kernel_rfl))
  f224 := Tryz.func146.trans (congrArg some (by kernel_rfl))
  f225 := Tryz.func145.trans (congrArg some (by kernel_rfl))
  f266 := Tryz.func153.trans (congrArg some (by kernel_rfl))
  f267 := Tryz.func147.trans (congrArg some (by kernel_rfl))
  f314 := Tryz.func154.trans (congrArg some (by kernel_rfl))
  t0 := Tryz.underlying0
  a0 := Tryz.isAgg0
  z0 := Tryz.sizeOf0
  v0 := Tryz.zeroValue0
  t3 := Tryz.underlying3
  a3 := Tryz.isAgg3
  z3 := Tryz.sizeOf3
  v3 := Tryz.zeroValue3
  t4 := Tryz.underlying4
  a4 := Tryz.isAgg4
  z4 := Tryz.sizeOf4
  v4 := Tryz.zeroValue4
  t5 := Tryz.underlying5
  a5 := Tryz.isAgg5
  z5 := Tryz.sizeOf5
  v5 := Tryz.zeroValue5
  t9 := Tryz.underlying9
  a9 := Tryz.isAgg9
  z9 := Tryz.sizeOf9
  v9 := Tryz.zeroValue9
  t46 := Tryz.underlying96
  a46 := Tryz.isAgg96
  z46 := Tryz.sizeOf96
  v46 := Tryz.zeroValue96
  t51 := Tryz.underlying97
  a51 := Tryz.isAgg97
  z51 := Tryz.sizeOf97
  v51 := Tryz.zeroValue97
  t146 := Tryz.underlying198
  a146 := Tryz.isAgg198
  z146 := Tryz.sizeOf198
  v146 := Tryz.zeroValue198
  g1 := by kernel_rfl }
open Go.RowKit Go.Lib in
theorem Tryz.strings_Count_one (s : ByteArray) (c : UInt8) (w : World) :
    Calls Tryz.prog 109 #[.string s, .string ⟨#[c]⟩] w fun e w' => e = .returned (.int .i64 (Lib.countByte s.data.toList c)) ∧ w' = w := Any.strings_Count_one Tryz.lays138 s c w
end Go.Proofs

/- Functions of Go's library that package oid calls, as contracts on data. -/
namespace Go.Proofs.YtdihjpmdmfmbiaaGreatDoor
open Go.Am Go.RowKit Go.Sort
set_option linter.unusedSimpArgs false
set_option linter.unusedVariables false

theorem two_args {w : World} {pr : Nat → Bool} {vs : Array Value} {x y : Dat} (h1 : vs.size = [x, y].length) (h2 : ∀ (j : Nat) (z : Dat), [x, y][j]? = some z → RepD w pr z (vs.getD j undef)) : ∃ a b, vs = #[a, b] ∧ RepD w pr x a ∧ RepD w pr y b := by
  obtain ⟨l⟩ := vs
  match l, h1 with
  | [a, b], _ => exact ⟨a, b, rfl, by simpa using h2 0 x rfl, by simpa using h2 1 y rfl⟩
theorem three_args {w : World} {pr : Nat → Bool} {vs : Array Value} {x y u : Dat} (h1 : vs.size = [x, y, u].length) (h2 : ∀ (j : Nat) (z : Dat), [x, y, u][j]? = some z → RepD w pr z (vs.getD j undef)) : ∃ a b c, vs = #[a, b, c] ∧ RepD w pr x a ∧ RepD w pr y b ∧ RepD w pr u c := by
  obtain ⟨l⟩ := vs
  match l, h1 with
  | [a, b, c], _ => exact ⟨a, b, c, rfl, by simpa using h2 0 x rfl, by simpa using h2 1 y rfl, by simpa using h2 2 u rfl⟩

theorem isIndex : IsFn Tryz.prog 110 Tryz.f110 := ⟨Tryz.func110, by decide, rfl⟩
theorem isCount : IsFn Tryz.prog 109 Tryz.f109 := ⟨Tryz.func109, by decide, rfl⟩
theorem c_index (Γ : Env) (l : List UInt8) : ACalls Tryz.prog Γ 110 [sD l, sD [46]] (fun r => r = .d (.int .i64 (Lib.indexByte l 46))) := by
  refine ⟨⟨_, isIndex⟩, fun w pr vs hok hs hr => ?_⟩
  obtain ⟨a, b, rfl, h1, h2⟩ := two_args hs hr
  cases h1; cases h2
  refine (Tryz.strings_Index_one (bA l) 46 w).mono fun e w' ⟨he, hw⟩ => ?_
  subst hw
  exact ⟨_, .d (.int .i64 (Lib.indexByte l 46)), by rw [he, bA_list], Below.refl _ _, .int _ _, rfl⟩
theorem c_count (Γ : Env) (l : List UInt8) : ACalls Tryz.prog Γ 109 [sD l, sD [46]] (fun r => r = .d (.int .i64 (Lib.countByte l 46))) := by
  refine ⟨⟨_, isCount⟩, fun w pr vs hok hs hr => ?_⟩
  obtain ⟨a, b, rfl, h1, h2⟩ := two_args hs hr
  cases h1; cases h2
  refine (Tryz.strings_Count_one (bA l) 46 w).mono fun e w' ⟨he, hw⟩ => ?_
  subst hw
  exact ⟨_, .d (.int .i64 (Lib.countByte l 46)), by rw [he, bA_list], Below.refl _ _, .int _ _, rfl⟩

/-! ### ParseUint -/
def parR (l : List UInt8) (r : Res) : Prop := match Lib.parseUintB 32 l with
  | .ok u => r = .d (.tup [.int .u64 u, .nilIf])
  | .range => r = .d (.tup [.int .u64 4294967295, .someIf])
  | _ => r = .d (.tup [.int .u64 0, .someIf])
theorem tup2 {w : World} {pr : Nat → Bool} {x y : Dat} {a b : Value} (h1 : RepD w pr x a) (h2 : RepD w pr y b) : RepD w pr (.tup [x, y]) (.tuple #[a, b]) := by
  refine .tup _ _ rfl fun j z hj => ?_
  match j, hj with
  | 0, hj => simp at hj; subst hj; simpa using h1
  | 1, hj => simp at hj; subst hj; simpa using h2
theorem isParseUint : IsFn Tryz.prog 78 Tryz.f78 := ⟨Tryz.func78, by decide, rfl⟩
theorem c_parse (l : List UInt8) (hl : l.length ≤ 1099511627776) : ACalls Tryz.prog envL 78 [sD l, .int .i64 10, .int .i64 32] (parR l) := by
  refine ⟨⟨_, isParseUint⟩, fun w pr vs hok hs hr => ?_⟩
  obtain ⟨a, b, c, rfl, h1, h2, h3⟩ := three_args hs hr
  cases h1; cases h2; cases h3
  have hok' : LaidOk w := hok
  obtain ⟨_, _, ⟨t1, p1, v1⟩, t2, p2, v2⟩ := hok'
  have hsz := bA_size l
  have hli := bA_list l
  cases hp : Lib.parseUintB 32 l with
  | ok u =>
    refine (Tryz.strconv_ParseUint_10_at32_ok (bA l) (by omega) u (by rw [hli]; exact hp) w).mono fun e w' ⟨he, hw⟩ => ?_
    refine ⟨_, .d (.tup [.int .u64 u, .nilIf]), he, ?_, tup2 (.int _ _) .nilIf, by simp only [parR, hp]⟩
    rcases hw with rfl | rfl
    · exact Below.refl _ _
    · exact Lib.bytesWorld_below _ _ _
  | range =>
    refine (Tryz.strconv_ParseUint_10_at32_range_var (bA l) (by omega) (by rw [hli]; exact hp) t2 p2 w v2).mono fun e w' ⟨N, he, _, _, hb⟩ => ?_
    exact ⟨_, .d (.tup [.int .u64 4294967295, .someIf]), he, hb, tup2 (.int _ _) (.someIf _ _), by simp only [parR, hp]⟩
  | _ =>
    refine (Tryz.strconv_ParseUint_10_at32_syntax_var (bA l) (by omega) (by rw [hli]; exact hp) t1 p1 w v1).mono fun e w' ⟨N, he, _, _, hb⟩ => ?_
    exact ⟨_, .d (.tup [.int .u64 0, .someIf]), he, hb, tup2 (.int _ _) (.someIf _ _), by simp only [parR, hp]⟩

def joinL (l : List (List UInt8)) : List UInt8 := Lib.join l [46]
end Go.Proofs.YtdihjpmdmfmbiaaGreatDoor

/- FormatUint at base 10, walked in the kit's own way; after the shelf's FormatInt. -/
namespace Go.Proofs.YtdihjpmdmfmbiaaGreatDoor
open Go.Am Go.RowKit Go.Sort
set_option linter.unusedSimpArgs false
set_option linter.unusedVariables false

set_option maxHeartbeats 1600000 in
set_option maxRecDepth 100000 in
theorem fmt_small (i : Nat) (hi : i < 100) (w : World) : Calls Tryz.prog 97 #[.int .u64 i, .int .i64 10] w fun e w' => e = .returned (.string ⟨(Lib.decDigits i).toArray⟩) ∧ w' = w := by
  have hi2 : (i : Int) < 100 := by omega
  go_enter Tryz.func97, Tryz.ntmps97
  go_wp2_with (go_at_call 117; refine (Tryz.internal_strconv_small i hi _).mono ?_; rintro e w' ⟨rfl, rfl⟩)
  go_ret
  exact ⟨rfl, rfl⟩

set_option maxHeartbeats 6400000 in
set_option maxRecDepth 100000 in
theorem fmt_big (u : Nat) (hu : 100 ≤ u) (hu64 : u < 18446744073709551616) (w : World) (htab : Lib.TabIs Tryz.prog w "internal/strconv.uint64pow10" .u64 Lib.pow10Tab) :
    Calls Tryz.prog 97 #[.int .u64 u, .int .i64 10] w fun e w' => e = .returned (.string ⟨(Lib.decDigits u).toArray⟩) ∧ ∃ k os, w' = grow (w.drewN k) os := by
  have hu1 : 1 ≤ u := by omega
  have hnd20 : Lib.nDigits u ≤ 20 := by have := Lib.numDigits_eq u hu1 hu64; split at this <;> omega
  have hal : Tryz.prog.arrayLen 160 = 24 := by simp [Program.arrayLen, Tryz.underlying160]
  have hsl1 : ∀ W, (Instr.sliceAt 160 (.pointer (some ⟨w.heap.size, 0, none⟩)) none (some (.int .i64 (Lib.nDigits u : Int))) none).run Tryz.prog W = .ok (.slice (some ⟨w.heap.size, 0, none⟩) (Lib.nDigits u) 24) W := fun W => by
    rw [run_sliceAt_array_h W 160 ⟨w.heap.size, 0, none⟩ (by simp [Program.arrayLen, Program.elem, Tryz.underlying160]) .i64 (Lib.nDigits u : Int) (by omega) (by rw [hal]; omega)]
    go_simp
  have hH0 : Holds (fun (b : UInt8) => Value.int .u8 (b.toNat : Int)) (w.alloc (.cells Lib.zeros24 160)) w.heap.size 0 (Array.replicate (Lib.nDigits u) 0) := fun j hj => by
    have hj' : j < Lib.nDigits u := by simpa using hj
    refine ⟨?_, World.frozen?_alloc_new _ _ _ _⟩
    rw [World.cell?_alloc_new, Lib.zeros24_at _ (by omega), getElem!_pos _ j hj]
    simp
  have hfmt := Tryz.internal_strconv_formatBase10 w.heap.size 0 24 u (Array.replicate (Lib.nDigits u) 0) (w.alloc (.cells Lib.zeros24 160)) hH0 (by rw [Array.size_replicate]; exact Lib.lt_pow_nDigits u) hu64 (by rw [Array.size_replicate]; omega)
  rw [Array.size_replicate] at hfmt
  have HH0 := Lib.hid hH0
  clear hH0 hal
  have hb3 : ¬ (u : Int) < 100 := by omega
  go_enter Tryz.func97, Tryz.ntmps97
  go_wp2_with (first
    | (go_at_call 118; refine (Tryz.internal_strconv_numDigits u hu1 hu64 _ (Lib.tabIs_alloc htab _)).mono ?_; rintro e w' ⟨rfl, rfl⟩))
  go_at_call 119
  refine hfmt.mono ?_
  rintro e w' ⟨rfl, k, v', dk, rfl, hF⟩
  have hcv : (convert 22 9 (.slice (some ⟨w.heap.size, 0, none⟩) (Lib.nDigits u) 24)).run Tryz.prog ((putRow (fun (b : UInt8) => Value.int .u8 (b.toNat : Int)) (w.alloc (.cells Lib.zeros24 160)) w.heap.size 0 dk).drewN k) = .ok (.string ⟨(Lib.decDigits u).toArray⟩) ((putRow (fun (b : UInt8) => Value.int .u8 (b.toNat : Int)) (w.alloc (.cells Lib.zeros24 160)) w.heap.size 0 dk).drewN k) := by
    have h := run_convert_bytes_back (P := Tryz.prog) ((putRow (fun (b : UInt8) => Value.int .u8 (b.toNat : Int)) (w.alloc (.cells Lib.zeros24 160)) w.heap.size 0 dk).drewN k) 22 9 5 ⟨w.heap.size, 0, none⟩ 24 (Lib.decDigits u) Tryz.underlying22 Tryz.underlying5 Tryz.underlying9 (fun j hj => by
      rw [Lib.row_is_numeral hF j hj, Lib.add_plain, World.cell?_drewN]
      exact cell?_putRow (fun (b : UInt8) => Value.int .u8 (b.toNat : Int)) _ w.heap.size 0 _ dk HH0.out (by rw [hF.size, Array.size_replicate]) j (by rw [hF.size]; rw [Lib.decDigits_length] at hj; exact hj))
    rw [Lib.decDigits_length] at h
    exact h
  go_wp2
  go_ret
  refine ⟨rfl, k, ?_⟩
  rw [alloc_eq_grow]
  obtain ⟨os', _, e⟩ := putRow_grow_new (fun (b : UInt8) => Value.int .u8 (b.toNat : Int)) w #[.cells Lib.zeros24 160] w.heap.size 0 dk (Nat.le_refl _)
  exact ⟨os', by rw [e]; rfl⟩
theorem isFormatUintI : IsFn Tryz.prog 97 Tryz.f97 := ⟨Tryz.func97, by decide, rfl⟩
theorem c_formatI (u : Nat) (hu : u < 18446744073709551616) : ACalls Tryz.prog envL 97 [.int .u64 u, .int .i64 10] (fun r => r = .d (sD (Lib.decDigits u))) := by
  refine ⟨⟨_, isFormatUintI⟩, fun w pr vs hok hs hr => ?_⟩
  obtain ⟨a, b, rfl, h1, h2⟩ := two_args hs hr
  cases h1; cases h2
  by_cases h : u < 100
  · refine (fmt_small u h w).mono fun e w' ⟨he, hw⟩ => ?_
    subst hw
    exact ⟨_, .d (sD (Lib.decDigits u)), he, Below.refl _ _, .str _, rfl⟩
  · have hok' : LaidOk w := hok
    refine (fmt_big u (by omega) hu w hok'.2.1).mono fun e w' ⟨he, k, os, hw⟩ => ?_
    subst hw
    exact ⟨_, .d (sD (Lib.decDigits u)), he, Lib.below_grow _ _ (Nat.le_refl _) _ _, .str _, rfl⟩
theorem isFormatUint : IsFn Tryz.prog 79 Tryz.f79 := ⟨Tryz.func79, by decide, rfl⟩
theorem c_format (u : Nat) (hu : u < 18446744073709551616) : ACalls Tryz.prog envL 79 [.int .u64 u, .int .i64 10] (fun r => r = .d (sD (Lib.decDigits u))) := by
  refine acalls_of ty_ok isFormatUint rfl rfl ?_
  repeat' (first | ((with_reducible show AWp _ _ _ _ _); (first | refine awp_seq ?_ | refine awp_block ?_ | refine awp_skip ?_ | refine awp_exit ?_ | refine awp_scope ?_ | refine awp_label ?_ | refine awp_run ty_ok rfl sd ?_ | refine awp_ret ⟨_, _, rfl, rfl, ?_⟩ | refine awp_ret ⟨_, rfl, ?_⟩ | ((refine awp_cond (ty := ty) rfl (fun hc => ?_) (fun hc => ?_)) <;> (try simp only [nms, reduceCtorEq] at hc) <;> (try (exfalso; omega))))) | ((with_reducible show AOps _ _ _ _ _ _); (first | refine aops_nil ?_ | refine aops_go ty_ok rfl rfl sd ?_ | refine aops_gate ty_ok rfl rfl rfl sd ?_ | refine aops_callE (ty := ty) rfl rfl rfl rfl rfl rfl rfl (c_formatI u hu) rfl ?_ | refine aops_litE ty_ok rfl rfl rfl rfl rfl rfl rfl rfl rfl rfl rfl rfl ?_ | refine aops_cutE ty_ok rfl rfl rfl rfl rfl rfl rfl rfl rfl sd rfl ?_ | ((fail_if_success (refine aops_known rfl ?_)); (refine aops_split ty_ok rfl rfl rfl rfl rfl rfl (fun hc => ⟨?_, ?_⟩) (fun hc => ⟨?_, ?_⟩)) <;> (try simp only [nms, reduceCtorEq] at hc) <;> (try (exfalso; omega)) <;> (try exact sd)))) | ((fail_if_success (with_reducible show AWp _ _ _ _ _)); (fail_if_success (with_reducible show AOps _ _ _ _ _ _)); (first | (show AWp _ _ _ _ _) | (show AOps _ _ _ _ _ _))))
  rfl
end Go.Proofs.YtdihjpmdmfmbiaaGreatDoor

/- strings.Split at a dot, walked by the abstract machine. -/
namespace Go.Proofs.YtdihjpmdmfmbiaaGreatDoor
open Go.Am
set_option linter.unusedSimpArgs false
set_option linter.unusedVariables false

theorem minI_le {a b : Int} (h : a ≤ b) : minI a b = a := by
  unfold minI
  split <;> omega
theorem strs_app (x y : List (List UInt8)) : strs (x ++ y) = strs x ++ strs y := by simp [strs]
theorem c_index_at (Γ : Env) (l : List UInt8) (m : Nat) (h : Lib.indexByte l 46 = m) : ACalls Tryz.prog Γ 110 [sD l, sD [46]] (fun r => r = .d (.int .i64 m)) := (c_index Γ l).mono fun r hr => by rw [hr, h]
theorem isGenSplit : IsFn Tryz.prog 94 Tryz.f94 := ⟨Tryz.func94, by decide, rfl⟩
set_option maxHeartbeats 1000000 in
theorem c_gensplit (Γ : Env) (l : List UInt8) (hl : l.length ≤ 1000000000) : ACalls Tryz.prog Γ 94 [sD l, sD [46], .int .i64 0, .int .i64 (-1)] (fun r => r = .own none 9 (strs (splitL l))) := by
  refine acalls_of ty_ok isGenSplit rfl rfl ?_
  have hlen := splitL_len l
  have hc2 := count_le l
  have hm : minI ((Lib.countByte l 46 : Int) + 1) (((bA l).size : Int) + 1) = (Lib.countByte l 46 : Int) + 1 := minI_le (by rw [bA_size]; omega)
  repeat' (first | ((with_reducible show AWp _ _ _ _ _); (first | refine awp_seq ?_ | refine awp_block ?_ | refine awp_skip ?_ | refine awp_exit ?_ | refine awp_scope ?_ | refine awp_label ?_ | refine awp_run ty_ok rfl sd ?_ | refine awp_ret ⟨_, _, rfl, rfl, ?_⟩ | refine awp_ret ⟨_, rfl, ?_⟩ | ((refine awp_cond (ty := ty) rfl (fun hc => ?_) (fun hc => ?_)) <;> (try simp only [nms, reduceCtorEq] at hc) <;> (try (exfalso; omega))))) | ((with_reducible show AOps _ _ _ _ _ _); (first | refine aops_nil ?_ | refine aops_go ty_ok rfl rfl sd ?_ | refine aops_gate ty_ok rfl rfl rfl sd ?_ | refine aops_callE (ty := ty) rfl rfl rfl rfl rfl rfl rfl (c_count _ l) rfl ?_ | refine aops_litE ty_ok rfl rfl rfl rfl rfl rfl rfl rfl rfl rfl rfl rfl ?_ | refine aops_cutE ty_ok rfl rfl rfl rfl rfl rfl rfl rfl rfl sd rfl ?_ | ((fail_if_success (refine aops_known rfl ?_)); (refine aops_split ty_ok rfl rfl rfl rfl rfl rfl (fun hc => ⟨?_, ?_⟩) (fun hc => ⟨?_, ?_⟩)) <;> (try simp only [nms, reduceCtorEq] at hc) <;> (try (exfalso; omega)) <;> (try exact sd)))) | ((fail_if_success (with_reducible show AWp _ _ _ _ _)); (fail_if_success (with_reducible show AOps _ _ _ _ _ _)); (first | (show AWp _ _ _ _ _) | (show AOps _ _ _ _ _ _))))
  · exact absurd (congrArg ByteArray.size hc) (by decide)
  · rw [hm]
    repeat' (first | ((with_reducible show AWp _ _ _ _ _); (first | refine awp_seq ?_ | refine awp_block ?_ | refine awp_skip ?_ | refine awp_exit ?_ | refine awp_scope ?_ | refine awp_label ?_ | refine awp_run ty_ok rfl sd ?_ | refine awp_ret ⟨_, _, rfl, rfl, ?_⟩ | refine awp_ret ⟨_, rfl, ?_⟩ | ((refine awp_cond (ty := ty) rfl (fun hc => ?_) (fun hc => ?_)) <;> (try simp only [nms, reduceCtorEq] at hc) <;> (try (exfalso; omega))))) | ((with_reducible show AOps _ _ _ _ _ _); (first | refine aops_nil ?_ | refine aops_go ty_ok rfl rfl sd ?_ | refine aops_gate ty_ok rfl rfl rfl sd ?_ | refine aops_callE (ty := ty) rfl rfl rfl rfl rfl rfl rfl (c_count _ l) rfl ?_ | refine aops_litE ty_ok rfl rfl rfl rfl rfl rfl rfl rfl rfl rfl rfl rfl ?_ | refine aops_cutE ty_ok rfl rfl rfl rfl rfl rfl rfl rfl rfl sd rfl ?_ | ((fail_if_success (refine aops_known rfl ?_)); (refine aops_split ty_ok rfl rfl rfl rfl rfl rfl (fun hc => ⟨?_, ?_⟩) (fun hc => ⟨?_, ?_⟩)) <;> (try simp only [nms, reduceCtorEq] at hc) <;> (try (exfalso; omega)) <;> (try exact sd)))) | ((fail_if_success (with_reducible show AWp _ _ _ _ _)); (fail_if_success (with_reducible show AOps _ _ _ _ _ _)); (first | (show AWp _ _ _ _ _) | (show AOps _ _ _ _ _ _))))
    obtain ⟨N, hN⟩ : ∃ N, N = Lib.countByte l 46 := ⟨_, rfl⟩
    rw [← hN] at hlen hc2
    refine awp_loopR (G := { p : Nat × List UInt8 // p.1 ≤ N ∧ splitL p.2 = (splitL l).drop p.1 ∧ p.2.length ≤ l.length }) (fun p => ⟨Tryz.f94.ntmps, [(0, .d (sD p.1.2)), (1, .d (sD [46])), (2, .d (.int .i64 0)), (3, .d (.int .i64 N)), (9, .ref 0), (10, .d (.int .i64 p.1.1))], [(0, .row none 9 (strs ((splitL l).take p.1.1 ++ List.replicate (N + 1 - p.1.1) [])))], 1⟩) (fun p => N - p.1.1) ⟨(0, l), Nat.zero_le _, rfl, Nat.le_refl _⟩ [(0, 0)]
      (SubR.mk' rfl rfl ⟨⟨_, rfl, rfl⟩, ⟨_, rfl, rfl⟩, ⟨_, rfl, rfl⟩, ⟨_, rfl, congrArg (fun z : Int => AV.d (Dat.int IntKind.i64 z)) (by rw [hN]; omega)⟩, ⟨_, rfl, rfl⟩, ⟨_, rfl, rfl⟩, trivial⟩ ⟨⟨_, _, rfl, rfl, congrArg (AO.row none 9) (by
        rw [← hN]
        simp only [strs, List.take_zero, List.nil_append, List.map_replicate]
        rfl)⟩, trivial⟩) ?_
    rintro ⟨⟨i, s⟩, hi, hsp, hsl⟩
    simp only at hi hsp hsl
    have hsc := splitL_len s
    rw [hsp, List.length_drop] at hsc
    rcases Nat.lt_or_ge i N with hiN | hiN
    · rcases index_spec s with ⟨_, h2, _⟩ | ⟨m, h1, h2, h3, h4⟩
      · omega
      have hidx := c_index_at (Γ.at 0) s m h1
      have hrl : (strs ((splitL l).take i ++ List.replicate (N + 1 - i) [])).length = N + 1 := by
        simp [strs]
        omega
      repeat' (first | ((with_reducible show AWp _ _ _ _ _); (first | refine awp_seq ?_ | refine awp_block ?_ | refine awp_skip ?_ | refine awp_exit ?_ | refine awp_scope ?_ | refine awp_label ?_ | refine awp_run ty_ok rfl sd ?_ | refine awp_ret ⟨_, _, rfl, rfl, ?_⟩ | refine awp_ret ⟨_, rfl, ?_⟩ | ((refine awp_cond (ty := ty) rfl (fun hc => ?_) (fun hc => ?_)) <;> (try simp only [nms, reduceCtorEq] at hc) <;> (try (exfalso; omega))))) | ((with_reducible show AOps _ _ _ _ _ _); (first | refine aops_nil ?_ | refine aops_go ty_ok rfl rfl sd ?_ | refine aops_gate ty_ok rfl rfl rfl sd ?_ | refine aops_callE (ty := ty) rfl rfl rfl rfl rfl rfl rfl (hidx) rfl ?_ | refine aops_litE ty_ok rfl rfl rfl rfl rfl rfl rfl rfl rfl rfl rfl rfl ?_ | refine aops_cutE ty_ok rfl rfl rfl rfl rfl rfl rfl rfl rfl sd rfl ?_ | ((fail_if_success (refine aops_known rfl ?_)); (refine aops_split ty_ok rfl rfl rfl rfl rfl rfl (fun hc => ⟨?_, ?_⟩) (fun hc => ⟨?_, ?_⟩)) <;> (try simp only [nms, reduceCtorEq] at hc) <;> (try (exfalso; omega)) <;> (try exact sd)))) | ((fail_if_success (with_reducible show AWp _ _ _ _ _)); (fail_if_success (with_reducible show AOps _ _ _ _ _ _)); (first | (show AWp _ _ _ _ _) | (show AOps _ _ _ _ _ _))))
      have hd1 := splitL_len (s.drop (m + 1))
      have hnext : splitL (s.drop (m + 1)) = (splitL l).drop (i + 1) := by
        rw [← List.drop_drop (l := splitL l), ← hsp, h4, List.drop_one, List.tail_cons]
      have hget : (splitL l)[i]'(by omega) = s.take m := by
        have : (splitL s)[0]? = (splitL l)[i]? := by rw [hsp, List.getElem?_drop, Nat.add_zero]
        rw [h4] at this
        simp at this
        rw [List.getElem?_eq_getElem (by omega)] at this
        exact (Option.some.inj this).symm
      refine ⟨⟨(i + 1, s.drop (m + 1)), by omega, hnext, by simp; omega⟩, [(0, 0)], SubR.mk' rfl rfl ⟨⟨_, rfl, congrArg AV.d ?_⟩, ⟨_, rfl, rfl⟩, ⟨_, rfl, rfl⟩, ⟨_, rfl, rfl⟩, ⟨_, rfl, rfl⟩, ⟨_, rfl, rfl⟩, trivial⟩ ⟨⟨_, _, rfl, rfl, congrArg (AO.row none 9) ?_⟩, trivial⟩, by simp only; omega⟩
      · show Dat.str ((bA s).extract ((m : Int) + ((bA [46]).size : Nat)).toNat (bA s).size) = sD (s.drop (m + 1))
        rw [bA_ext, bA_size, bA_size]
        have : ((m : Int) + (([46] : List UInt8).length : Nat)).toNat = m + 1 := by simp
        rw [this]
        simp [cutL, sD]
      · show (strs ((splitL l).take i ++ List.replicate (N + 1 - i) [])).set (i : Int).toNat (Dat.str ((bA s).extract 0 ((m : Int) + 0).toNat)) = strs ((splitL l).take (i + 1) ++ List.replicate (N + 1 - (i + 1)) [])
        have e1 : (i : Int).toNat = i := by omega
        have e2 : ((m : Int) + 0).toNat = m := by omega
        rw [bA_ext, e1, e2, List.take_succ_eq_append_getElem (by omega), hget, show N + 1 - i = (N + 1 - (i + 1)) + 1 by omega, List.replicate_succ]
        have hti : ((splitL l).take i).length = i := by simp; omega
        simp only [strs, List.map_append, List.map_cons, List.map_nil, List.append_assoc, List.cons_append, List.nil_append]
        rw [List.set_append_right _ _ (by simp; omega)]
        simp [hti, cutL, sD, show min i (splitL l).length = i by omega]
    · have hie : i = N := by omega
      subst hie
      have hrl : (strs ((splitL l).take i ++ List.replicate (i + 1 - i) [])).length = i + 1 := by
        simp [strs]
        omega
      dsimp only
      repeat' (first | ((with_reducible show AWp _ _ _ _ _); (first | refine awp_seq ?_ | refine awp_block ?_ | refine awp_skip ?_ | refine awp_exit ?_ | refine awp_scope ?_ | refine awp_label ?_ | refine awp_run ty_ok rfl sd ?_ | refine awp_ret ⟨_, _, rfl, rfl, ?_⟩ | refine awp_ret ⟨_, rfl, ?_⟩ | ((refine awp_cond (ty := ty) rfl (fun hc => ?_) (fun hc => ?_)) <;> (try simp only [nms, reduceCtorEq] at hc) <;> (try (exfalso; omega))))) | ((with_reducible show AOps _ _ _ _ _ _); (first | refine aops_nil ?_ | refine aops_go ty_ok rfl rfl sd ?_ | refine aops_gate ty_ok rfl rfl rfl sd ?_ | refine aops_callE (ty := ty) rfl rfl rfl rfl rfl rfl rfl (c_count _ l) rfl ?_ | refine aops_litE ty_ok rfl rfl rfl rfl rfl rfl rfl rfl rfl rfl rfl rfl ?_ | refine aops_cutE ty_ok rfl rfl rfl rfl rfl rfl rfl rfl rfl sd rfl ?_ | ((fail_if_success (refine aops_known rfl ?_)); (refine aops_split ty_ok rfl rfl rfl rfl rfl rfl (fun hc => ⟨?_, ?_⟩) (fun hc => ⟨?_, ?_⟩)) <;> (try simp only [nms, reduceCtorEq] at hc) <;> (try (exfalso; omega)) <;> (try exact sd)))) | ((fail_if_success (with_reducible show AWp _ _ _ _ _)); (fail_if_success (with_reducible show AOps _ _ _ _ _ _)); (first | (show AWp _ _ _ _ _) | (show AOps _ _ _ _ _ _))))
      have hrow : (strs ((splitL l).take i ++ List.replicate (i + 1 - i) [])).set (i : Int).toNat (sD s) = strs (splitL l) := by
        have e1 : (i : Int).toNat = i := by omega
        have hs1 : [s] = (splitL l).drop i := by
          have hc0 : Lib.countByte s 46 = 0 := by omega
          rcases index_spec s with ⟨_, _, h3⟩ | ⟨m, _, _, h3, _⟩
          · rw [← hsp, h3]
          · omega
        have hti : ((splitL l).take i).length = i := by simp; omega
        rw [e1, show i + 1 - i = 1 by omega]
        conv => rhs; rw [← List.take_append_drop i (splitL l), ← hs1]
        simp only [strs, List.map_append, List.map_cons, List.map_nil, List.replicate_one]
        rw [List.set_append_right _ _ (by simp; omega)]
        simp [show min i (splitL l).length = i by omega]
      rw [hrow]
      repeat' (first | ((with_reducible show AWp _ _ _ _ _); (first | refine awp_seq ?_ | refine awp_block ?_ | refine awp_skip ?_ | refine awp_exit ?_ | refine awp_scope ?_ | refine awp_label ?_ | refine awp_run ty_ok rfl sd ?_ | refine awp_ret ⟨_, _, rfl, rfl, ?_⟩ | refine awp_ret ⟨_, rfl, ?_⟩ | ((refine awp_cond (ty := ty) rfl (fun hc => ?_) (fun hc => ?_)) <;> (try simp only [nms, reduceCtorEq] at hc) <;> (try (exfalso; omega))))) | ((with_reducible show AOps _ _ _ _ _ _); (first | refine aops_nil ?_ | refine aops_go ty_ok rfl rfl sd ?_ | refine aops_gate ty_ok rfl rfl rfl sd ?_ | refine aops_callE (ty := ty) rfl rfl rfl rfl rfl rfl rfl (c_count _ l) rfl ?_ | refine aops_litE ty_ok rfl rfl rfl rfl rfl rfl rfl rfl rfl rfl rfl rfl ?_ | refine aops_cutE ty_ok rfl rfl rfl rfl rfl rfl rfl rfl rfl sd rfl ?_ | ((fail_if_success (refine aops_known rfl ?_)); (refine aops_split ty_ok rfl rfl rfl rfl rfl rfl (fun hc => ⟨?_, ?_⟩) (fun hc => ⟨?_, ?_⟩)) <;> (try simp only [nms, reduceCtorEq] at hc) <;> (try (exfalso; omega)) <;> (try exact sd)))) | ((fail_if_success (with_reducible show AWp _ _ _ _ _)); (fail_if_success (with_reducible show AOps _ _ _ _ _ _)); (first | (show AWp _ _ _ _ _) | (show AOps _ _ _ _ _ _))))
      have : ((i : Int) + 1).toNat = (strs (splitL l)).length := by simp [strs]; omega
      rw [this, List.take_length]
theorem isSplit : IsFn Tryz.prog 77 Tryz.f77 := ⟨Tryz.func77, by decide, rfl⟩
theorem c_split (Γ : Env) (l : List UInt8) (hl : l.length ≤ 1000000000) : ACalls Tryz.prog Γ 77 [sD l, sD [46]] (fun r => r = .own none 9 (strs (splitL l))) := by
  refine acalls_of ty_ok isSplit rfl rfl ?_
  repeat' (first | ((with_reducible show AWp _ _ _ _ _); (first | refine awp_seq ?_ | refine awp_block ?_ | refine awp_skip ?_ | refine awp_exit ?_ | refine awp_scope ?_ | refine awp_label ?_ | refine awp_run ty_ok rfl sd ?_ | refine awp_ret ⟨_, _, rfl, rfl, ?_⟩ | refine awp_ret ⟨_, rfl, ?_⟩ | ((refine awp_cond (ty := ty) rfl (fun hc => ?_) (fun hc => ?_)) <;> (try simp only [nms, reduceCtorEq] at hc) <;> (try (exfalso; omega))))) | ((with_reducible show AOps _ _ _ _ _ _); (first | refine aops_nil ?_ | refine aops_go ty_ok rfl rfl sd ?_ | refine aops_gate ty_ok rfl rfl rfl sd ?_ | refine aops_callE (ty := ty) rfl rfl rfl rfl rfl rfl rfl (c_gensplit _ l hl) rfl ?_ | refine aops_litE ty_ok rfl rfl rfl rfl rfl rfl rfl rfl rfl rfl rfl rfl ?_ | refine aops_cutE ty_ok rfl rfl rfl rfl rfl rfl rfl rfl rfl sd rfl ?_ | ((fail_if_success (refine aops_known rfl ?_)); (refine aops_split ty_ok rfl rfl rfl rfl rfl rfl (fun hc => ⟨?_, ?_⟩) (fun hc => ⟨?_, ?_⟩)) <;> (try simp only [nms, reduceCtorEq] at hc) <;> (try (exfalso; omega)) <;> (try exact sd)))) | ((fail_if_success (with_reducible show AWp _ _ _ _ _)); (fail_if_success (with_reducible show AOps _ _ _ _ _ _)); (first | (show AWp _ _ _ _ _) | (show AOps _ _ _ _ _ _))))
  all_goals rfl
end Go.Proofs.YtdihjpmdmfmbiaaGreatDoor

/- Functions of package oid and of its reference: right, digits, number. Walked by the abstract machine. -/
namespace Go.Proofs.YtdihjpmdmfmbiaaGreatDoor
open Go.Am
open Go.Lib (decDigits)
set_option linter.unusedSimpArgs false
set_option linter.unusedVariables false

theorem isRight : IsFn Tryz.prog 80 Tryz.f80 := ⟨Tryz.func80, by decide, rfl⟩
theorem c_right (Γ : Env) (a : List Nat) : ACalls Tryz.prog Γ 80 [.sl none (u32s a)] (fun r => r = .d (.bool (rightF a))) := by
  refine acalls_of ty_ok isRight rfl rfl ?_
  match a with
  | [] =>
    repeat' (first | ((with_reducible show AWp _ _ _ _ _); (first | refine awp_seq ?_ | refine awp_block ?_ | refine awp_skip ?_ | refine awp_exit ?_ | refine awp_scope ?_ | refine awp_label ?_ | refine awp_run ty_ok rfl sd ?_ | refine awp_ret ⟨_, _, rfl, rfl, ?_⟩ | refine awp_ret ⟨_, rfl, ?_⟩ | ((refine awp_cond (ty := ty) rfl (fun hc => ?_) (fun hc => ?_)) <;> (try simp only [nms, reduceCtorEq] at hc) <;> (try (exfalso; omega))))) | ((with_reducible show AOps _ _ _ _ _ _); (first | refine aops_nil ?_ | refine aops_go ty_ok rfl rfl sd ?_ | refine aops_gate ty_ok rfl rfl rfl sd ?_ | refine aops_litE ty_ok rfl rfl rfl rfl rfl rfl rfl rfl rfl rfl rfl rfl ?_ | refine aops_cutE ty_ok rfl rfl rfl rfl rfl rfl rfl rfl rfl sd rfl ?_ | ((fail_if_success (refine aops_known rfl ?_)); (refine aops_split ty_ok rfl rfl rfl rfl rfl rfl (fun hc => ⟨?_, ?_⟩) (fun hc => ⟨?_, ?_⟩)) <;> (try simp only [nms, reduceCtorEq] at hc) <;> (try (exfalso; omega)) <;> (try exact sd)))) | ((fail_if_success (with_reducible show AWp _ _ _ _ _)); (fail_if_success (with_reducible show AOps _ _ _ _ _ _)); (first | (show AWp _ _ _ _ _) | (show AOps _ _ _ _ _ _))))
    all_goals first | rfl | (simp_all [u32s, Dat.num, rightF]; done) | (simp_all [u32s, Dat.num, rightF]; omega)
  | [x] =>
    repeat' (first | ((with_reducible show AWp _ _ _ _ _); (first | refine awp_seq ?_ | refine awp_block ?_ | refine awp_skip ?_ | refine awp_exit ?_ | refine awp_scope ?_ | refine awp_label ?_ | refine awp_run ty_ok rfl sd ?_ | refine awp_ret ⟨_, _, rfl, rfl, ?_⟩ | refine awp_ret ⟨_, rfl, ?_⟩ | ((refine awp_cond (ty := ty) rfl (fun hc => ?_) (fun hc => ?_)) <;> (try simp only [nms, reduceCtorEq] at hc) <;> (try (exfalso; omega))))) | ((with_reducible show AOps _ _ _ _ _ _); (first | refine aops_nil ?_ | refine aops_go ty_ok rfl rfl sd ?_ | refine aops_gate ty_ok rfl rfl rfl sd ?_ | refine aops_litE ty_ok rfl rfl rfl rfl rfl rfl rfl rfl rfl rfl rfl rfl ?_ | refine aops_cutE ty_ok rfl rfl rfl rfl rfl rfl rfl rfl rfl sd rfl ?_ | ((fail_if_success (refine aops_known rfl ?_)); (refine aops_split ty_ok rfl rfl rfl rfl rfl rfl (fun hc => ⟨?_, ?_⟩) (fun hc => ⟨?_, ?_⟩)) <;> (try simp only [nms, reduceCtorEq] at hc) <;> (try (exfalso; omega)) <;> (try exact sd)))) | ((fail_if_success (with_reducible show AWp _ _ _ _ _)); (fail_if_success (with_reducible show AOps _ _ _ _ _ _)); (first | (show AWp _ _ _ _ _) | (show AOps _ _ _ _ _ _))))
    all_goals first | rfl | (simp_all [u32s, Dat.num, rightF]; done) | (simp_all [u32s, Dat.num, rightF]; omega)
  | x :: y :: t =>
    have hl : (u32s (x :: y :: t)).length = t.length + 2 := by simp [u32s]
    have hx : ((u32s (x :: y :: t)).getD (Int.toNat 0) default).num = x := rfl
    have hy : ((u32s (x :: y :: t)).getD (Int.toNat 1) default).num = y := rfl
    repeat' (first | ((with_reducible show AWp _ _ _ _ _); (first | refine awp_seq ?_ | refine awp_block ?_ | refine awp_skip ?_ | refine awp_exit ?_ | refine awp_scope ?_ | refine awp_label ?_ | refine awp_run ty_ok rfl sd ?_ | refine awp_ret ⟨_, _, rfl, rfl, ?_⟩ | refine awp_ret ⟨_, rfl, ?_⟩ | ((refine awp_cond (ty := ty) rfl (fun hc => ?_) (fun hc => ?_)) <;> (try simp only [nms, reduceCtorEq] at hc) <;> (try (exfalso; omega))))) | ((with_reducible show AOps _ _ _ _ _ _); (first | refine aops_nil ?_ | refine aops_go ty_ok rfl rfl sd ?_ | refine aops_gate ty_ok rfl rfl rfl sd ?_ | refine aops_litE ty_ok rfl rfl rfl rfl rfl rfl rfl rfl rfl rfl rfl rfl ?_ | refine aops_cutE ty_ok rfl rfl rfl rfl rfl rfl rfl rfl rfl sd rfl ?_ | ((fail_if_success (refine aops_known rfl ?_)); (refine aops_split ty_ok rfl rfl rfl rfl rfl rfl (fun hc => ⟨?_, ?_⟩) (fun hc => ⟨?_, ?_⟩)) <;> (try simp only [nms, reduceCtorEq] at hc) <;> (try (exfalso; omega)) <;> (try exact sd)))) | ((fail_if_success (with_reducible show AWp _ _ _ _ _)); (fail_if_success (with_reducible show AOps _ _ _ _ _ _)); (first | (show AWp _ _ _ _ _) | (show AOps _ _ _ _ _ _))))
    all_goals simp only [hx, hy, Int.not_lt, Int.not_le] at *
    all_goals first | (exfalso; omega) | skip
    all_goals simp only [Res.d.injEq, Dat.bool.injEq, rightF]
    all_goals first | (simp; omega) | (rw [Bool.eq_iff_iff]; simp; omega)

theorem isRRight : IsFn Tryz.prog 82 Tryz.f82 := ⟨Tryz.func82, by decide, rfl⟩
theorem c_rright (Γ : Env) (a : List Nat) : ACalls Tryz.prog Γ 82 [.sl none (u32s a)] (fun r => r = .d (.bool (rightF a))) := by
  refine acalls_of ty_ok isRRight rfl rfl ?_
  match a with
  | [] =>
    repeat' (first | ((with_reducible show AWp _ _ _ _ _); (first | refine awp_seq ?_ | refine awp_block ?_ | refine awp_skip ?_ | refine awp_exit ?_ | refine awp_scope ?_ | refine awp_label ?_ | refine awp_run ty_ok rfl sd ?_ | refine awp_ret ⟨_, _, rfl, rfl, ?_⟩ | refine awp_ret ⟨_, rfl, ?_⟩ | ((refine awp_cond (ty := ty) rfl (fun hc => ?_) (fun hc => ?_)) <;> (try simp only [nms, reduceCtorEq] at hc) <;> (try (exfalso; omega))))) | ((with_reducible show AOps _ _ _ _ _ _); (first | refine aops_nil ?_ | refine aops_go ty_ok rfl rfl sd ?_ | refine aops_gate ty_ok rfl rfl rfl sd ?_ | refine aops_litE ty_ok rfl rfl rfl rfl rfl rfl rfl rfl rfl rfl rfl rfl ?_ | refine aops_cutE ty_ok rfl rfl rfl rfl rfl rfl rfl rfl rfl sd rfl ?_ | ((fail_if_success (refine aops_known rfl ?_)); (refine aops_split ty_ok rfl rfl rfl rfl rfl rfl (fun hc => ⟨?_, ?_⟩) (fun hc => ⟨?_, ?_⟩)) <;> (try simp only [nms, reduceCtorEq] at hc) <;> (try (exfalso; omega)) <;> (try exact sd)))) | ((fail_if_success (with_reducible show AWp _ _ _ _ _)); (fail_if_success (with_reducible show AOps _ _ _ _ _ _)); (first | (show AWp _ _ _ _ _) | (show AOps _ _ _ _ _ _))))
    all_goals first | rfl | (simp_all [u32s, Dat.num, rightF]; done) | (simp_all [u32s, Dat.num, rightF]; omega)
  | [x] =>
    repeat' (first | ((with_reducible show AWp _ _ _ _ _); (first | refine awp_seq ?_ | refine awp_block ?_ | refine awp_skip ?_ | refine awp_exit ?_ | refine awp_scope ?_ | refine awp_label ?_ | refine awp_run ty_ok rfl sd ?_ | refine awp_ret ⟨_, _, rfl, rfl, ?_⟩ | refine awp_ret ⟨_, rfl, ?_⟩ | ((refine awp_cond (ty := ty) rfl (fun hc => ?_) (fun hc => ?_)) <;> (try simp only [nms, reduceCtorEq] at hc) <;> (try (exfalso; omega))))) | ((with_reducible show AOps _ _ _ _ _ _); (first | refine aops_nil ?_ | refine aops_go ty_ok rfl rfl sd ?_ | refine aops_gate ty_ok rfl rfl rfl sd ?_ | refine aops_litE ty_ok rfl rfl rfl rfl rfl rfl rfl rfl rfl rfl rfl rfl ?_ | refine aops_cutE ty_ok rfl rfl rfl rfl rfl rfl rfl rfl rfl sd rfl ?_ | ((fail_if_success (refine aops_known rfl ?_)); (refine aops_split ty_ok rfl rfl rfl rfl rfl rfl (fun hc => ⟨?_, ?_⟩) (fun hc => ⟨?_, ?_⟩)) <;> (try simp only [nms, reduceCtorEq] at hc) <;> (try (exfalso; omega)) <;> (try exact sd)))) | ((fail_if_success (with_reducible show AWp _ _ _ _ _)); (fail_if_success (with_reducible show AOps _ _ _ _ _ _)); (first | (show AWp _ _ _ _ _) | (show AOps _ _ _ _ _ _))))
    all_goals first | rfl | (simp_all [u32s, Dat.num, rightF]; done) | (simp_all [u32s, Dat.num, rightF]; omega)
  | x :: y :: t =>
    have hl : (u32s (x :: y :: t)).length = t.length + 2 := by simp [u32s]
    have hx : ((u32s (x :: y :: t)).getD (Int.toNat 0) default).num = x := rfl
    have hy : ((u32s (x :: y :: t)).getD (Int.toNat 1) default).num = y := rfl
    repeat' (first | ((with_reducible show AWp _ _ _ _ _); (first | refine awp_seq ?_ | refine awp_block ?_ | refine awp_skip ?_ | refine awp_exit ?_ | refine awp_scope ?_ | refine awp_label ?_ | refine awp_run ty_ok rfl sd ?_ | refine awp_ret ⟨_, _, rfl, rfl, ?_⟩ | refine awp_ret ⟨_, rfl, ?_⟩ | ((refine awp_cond (ty := ty) rfl (fun hc => ?_) (fun hc => ?_)) <;> (try simp only [nms, reduceCtorEq] at hc) <;> (try (exfalso; omega))))) | ((with_reducible show AOps _ _ _ _ _ _); (first | refine aops_nil ?_ | refine aops_go ty_ok rfl rfl sd ?_ | refine aops_gate ty_ok rfl rfl rfl sd ?_ | refine aops_litE ty_ok rfl rfl rfl rfl rfl rfl rfl rfl rfl rfl rfl rfl ?_ | refine aops_cutE ty_ok rfl rfl rfl rfl rfl rfl rfl rfl rfl sd rfl ?_ | ((fail_if_success (refine aops_known rfl ?_)); (refine aops_split ty_ok rfl rfl rfl rfl rfl rfl (fun hc => ⟨?_, ?_⟩) (fun hc => ⟨?_, ?_⟩)) <;> (try simp only [nms, reduceCtorEq] at hc) <;> (try (exfalso; omega)) <;> (try exact sd)))) | ((fail_if_success (with_reducible show AWp _ _ _ _ _)); (fail_if_success (with_reducible show AOps _ _ _ _ _ _)); (first | (show AWp _ _ _ _ _) | (show AOps _ _ _ _ _ _))))
    all_goals simp only [hx, hy, Int.not_lt, Int.not_le] at *
    all_goals first | (exfalso; omega) | skip
    all_goals simp only [Res.d.injEq, Dat.bool.injEq, rightF]
    all_goals first | (simp; omega) | (rw [Bool.eq_iff_iff]; simp; omega)
end Go.Proofs.YtdihjpmdmfmbiaaGreatDoor

/- digits and number of the reference, walked by the abstract machine. -/
namespace Go.Proofs.YtdihjpmdmfmbiaaGreatDoor
open Go.Am
open Go.Lib (decDigits)
set_option linter.unusedSimpArgs false
set_option linter.unusedVariables false

theorem wrap_u64 (n : Nat) (h : n < 18446744073709551616) : IntKind.u64.wrap (n : Int) = n := by rw [IntKind.wrap_u64]; omega
theorem dig_cut (d : Nat) (h : d < 10) : ByteArray.extract ⟨#[48, 49, 50, 51, 52, 53, 54, 55, 56, 57]⟩ d (d + 1) = bA [UInt8.ofNat (48 + d)] := by
  have : ∀ d : Fin 10, ByteArray.extract ⟨#[48, 49, 50, 51, 52, 53, 54, 55, 56, 57]⟩ d.1 (d.1 + 1) = bA [UInt8.ofNat (48 + d.1)] := by decide
  exact this ⟨d, h⟩
theorem isDigits : IsFn Tryz.prog 98 Tryz.f98 := ⟨Tryz.func98, by decide, rfl⟩
theorem c_digits (Γ : Env) (n : Nat) (hn : n < 18446744073709551616) : ACalls Tryz.prog Γ 98 [.int .u64 n] (fun r => r = .d (sD (decDigits n))) := by
  induction n using Nat.strongRecOn with
  | _ n ih =>
    have htm : (n : Int).tmod 10 = ((n % 10 : Nat) : Int) := by rw [Int.tmod_eq_emod_of_nonneg (by omega)]; omega
    have hw1 : IntKind.u64.wrap (((n % 10 : Nat) : Int) + 1) = ((n % 10 + 1 : Nat) : Int) := by rw [IntKind.wrap_u64]; omega
    have hq : IntKind.u64.wrap ((n : Int).tdiv 10) = ((n / 10 : Nat) : Int) := by rw [Int.tdiv_eq_ediv_of_nonneg (by omega), IntKind.wrap_u64]; omega
    have hcut := dig_cut (n % 10) (by omega)
    refine acalls_of ty_ok isDigits rfl rfl ?_
    repeat' (first | ((with_reducible show AWp _ _ _ _ _); (first | refine awp_seq ?_ | refine awp_block ?_ | refine awp_skip ?_ | refine awp_exit ?_ | refine awp_scope ?_ | refine awp_label ?_ | refine awp_run ty_ok rfl sd ?_ | refine awp_ret ⟨_, _, rfl, rfl, ?_⟩ | refine awp_ret ⟨_, rfl, ?_⟩ | ((refine awp_cond (ty := ty) rfl (fun hc => ?_) (fun hc => ?_)) <;> (try simp only [nms, reduceCtorEq] at hc) <;> (try (exfalso; omega))))) | ((with_reducible show AOps _ _ _ _ _ _); (first | refine aops_nil ?_ | refine aops_go ty_ok rfl rfl sd ?_ | refine aops_gate ty_ok rfl rfl rfl sd ?_ | refine aops_litE ty_ok rfl rfl rfl rfl rfl rfl rfl rfl rfl rfl rfl rfl ?_ | refine aops_cutE ty_ok rfl rfl rfl rfl rfl rfl rfl rfl rfl sd rfl ?_ | ((fail_if_success (refine aops_known rfl ?_)); (refine aops_split ty_ok rfl rfl rfl rfl rfl rfl (fun hc => ⟨?_, ?_⟩) (fun hc => ⟨?_, ?_⟩)) <;> (try simp only [nms, reduceCtorEq] at hc) <;> (try (exfalso; omega)) <;> (try exact sd)))) | ((fail_if_success (with_reducible show AWp _ _ _ _ _)); (fail_if_success (with_reducible show AOps _ _ _ _ _ _)); (first | (show AWp _ _ _ _ _) | (show AOps _ _ _ _ _ _))))
    refine awp_run ty_ok rfl ?_ ?_
    · simp only [and_true, true_and, htm, hw1]
      have : ByteArray.size ⟨#[48, 49, 50, 51, 52, 53, 54, 55, 56, 57]⟩ = 10 := rfl
      rw [this]
      omega
    simp only [htm, hw1, Int.toNat_natCast, hcut]
    by_cases h : n < 10
    · repeat' (first | ((with_reducible show AWp _ _ _ _ _); (first | refine awp_seq ?_ | refine awp_block ?_ | refine awp_skip ?_ | refine awp_exit ?_ | refine awp_scope ?_ | refine awp_label ?_ | refine awp_run ty_ok rfl sd ?_ | refine awp_ret ⟨_, _, rfl, rfl, ?_⟩ | refine awp_ret ⟨_, rfl, ?_⟩ | ((refine awp_cond (ty := ty) rfl (fun hc => ?_) (fun hc => ?_)) <;> (try simp only [nms, reduceCtorEq] at hc) <;> (try (exfalso; omega))))) | ((with_reducible show AOps _ _ _ _ _ _); (first | refine aops_nil ?_ | refine aops_go ty_ok rfl rfl sd ?_ | refine aops_gate ty_ok rfl rfl rfl sd ?_ | refine aops_litE ty_ok rfl rfl rfl rfl rfl rfl rfl rfl rfl rfl rfl rfl ?_ | refine aops_cutE ty_ok rfl rfl rfl rfl rfl rfl rfl rfl rfl sd rfl ?_ | ((fail_if_success (refine aops_known rfl ?_)); (refine aops_split ty_ok rfl rfl rfl rfl rfl rfl (fun hc => ⟨?_, ?_⟩) (fun hc => ⟨?_, ?_⟩)) <;> (try simp only [nms, reduceCtorEq] at hc) <;> (try (exfalso; omega)) <;> (try exact sd)))) | ((fail_if_success (with_reducible show AWp _ _ _ _ _)); (fail_if_success (with_reducible show AOps _ _ _ _ _ _)); (first | (show AWp _ _ _ _ _) | (show AOps _ _ _ _ _ _))))
      rw [dec_small h, show n % 10 = n by omega]
      rfl
    · have hih := ih (n / 10) (by omega) (by omega)
      rw [← hq] at hih
      have hl := dec_len64 (n / 10) (by omega)
      repeat' (first | ((with_reducible show AWp _ _ _ _ _); (first | refine awp_seq ?_ | refine awp_block ?_ | refine awp_skip ?_ | refine awp_exit ?_ | refine awp_scope ?_ | refine awp_label ?_ | refine awp_run ty_ok rfl sd ?_ | refine awp_ret ⟨_, _, rfl, rfl, ?_⟩ | refine awp_ret ⟨_, rfl, ?_⟩ | ((refine awp_cond (ty := ty) rfl (fun hc => ?_) (fun hc => ?_)) <;> (try simp only [nms, reduceCtorEq] at hc) <;> (try (exfalso; omega))))) | ((with_reducible show AOps _ _ _ _ _ _); (first | refine aops_nil ?_ | refine aops_go ty_ok rfl rfl sd ?_ | refine aops_gate ty_ok rfl rfl rfl sd ?_ | refine aops_callE (ty := ty) rfl rfl rfl rfl rfl rfl rfl (hih) rfl ?_ | refine aops_litE ty_ok rfl rfl rfl rfl rfl rfl rfl rfl rfl rfl rfl rfl ?_ | refine aops_cutE ty_ok rfl rfl rfl rfl rfl rfl rfl rfl rfl sd rfl ?_ | ((fail_if_success (refine aops_known rfl ?_)); (refine aops_split ty_ok rfl rfl rfl rfl rfl rfl (fun hc => ⟨?_, ?_⟩) (fun hc => ⟨?_, ?_⟩)) <;> (try simp only [nms, reduceCtorEq] at hc) <;> (try (exfalso; omega)) <;> (try exact sd)))) | ((fail_if_success (with_reducible show AWp _ _ _ _ _)); (fail_if_success (with_reducible show AOps _ _ _ _ _ _)); (first | (show AWp _ _ _ _ _) | (show AOps _ _ _ _ _ _))))
      rw [dec_big h]
      simp only [sD, ← bA_app]

def numV (p : List UInt8) : Int := match valD 0 p with
  | some n => n
  | none => 0
theorem isNumber : IsFn Tryz.prog 81 Tryz.f81 := ⟨Tryz.func81, by decide, rfl⟩
set_option maxHeartbeats 1000000 in
theorem c_number (Γ : Env) (l : List UInt8) (hl : l.length ≤ 1000000000) : ACalls Tryz.prog Γ 81 [sD l] (fun r => r = .d (.tup [.int .u64 (numV l), .bool (arcF l).isSome])) := by
  refine acalls_of ty_ok isNumber rfl rfl ?_
  repeat' (first | ((with_reducible show AWp _ _ _ _ _); (first | refine awp_seq ?_ | refine awp_block ?_ | refine awp_skip ?_ | refine awp_exit ?_ | refine awp_scope ?_ | refine awp_label ?_ | refine awp_run ty_ok rfl sd ?_ | refine awp_ret ⟨_, _, rfl, rfl, ?_⟩ | refine awp_ret ⟨_, rfl, ?_⟩ | ((refine awp_cond (ty := ty) rfl (fun hc => ?_) (fun hc => ?_)) <;> (try simp only [nms, reduceCtorEq] at hc) <;> (try (exfalso; omega))))) | ((with_reducible show AOps _ _ _ _ _ _); (first | refine aops_nil ?_ | refine aops_go ty_ok rfl rfl sd ?_ | refine aops_gate ty_ok rfl rfl rfl sd ?_ | refine aops_litE ty_ok rfl rfl rfl rfl rfl rfl rfl rfl rfl rfl rfl rfl ?_ | refine aops_cutE ty_ok rfl rfl rfl rfl rfl rfl rfl rfl rfl sd rfl ?_ | ((fail_if_success (refine aops_known rfl ?_)); (refine aops_split ty_ok rfl rfl rfl rfl rfl rfl (fun hc => ⟨?_, ?_⟩) (fun hc => ⟨?_, ?_⟩)) <;> (try simp only [nms, reduceCtorEq] at hc) <;> (try (exfalso; omega)) <;> (try exact sd)))) | ((fail_if_success (with_reducible show AWp _ _ _ _ _)); (fail_if_success (with_reducible show AOps _ _ _ _ _ _)); (first | (show AWp _ _ _ _ _) | (show AOps _ _ _ _ _ _))))
  refine awp_loopR (G := { p : Nat × Nat // p.1 ≤ l.length ∧ valD 0 l = valD p.2 (l.drop p.1) ∧ p.2 ≤ 42949672959 }) (fun p => ⟨Tryz.f81.ntmps, [(0, .d (sD l)), (4, .d (.int .u64 p.1.2)), (5, .d (.int .i64 p.1.1))], [], 0⟩) (fun p => l.length - p.1.1) ⟨(0, 0), Nat.zero_le _, rfl, by decide⟩ []
    (SubR.mk' rfl rfl ⟨⟨_, rfl, rfl⟩, ⟨_, rfl, rfl⟩, ⟨_, rfl, rfl⟩, trivial⟩ trivial) ?_
  rintro ⟨⟨i, acc⟩, hi, hv, hacc⟩
  simp only at hi hv hacc
  dsimp only
  rcases Nat.lt_or_ge i l.length with hil | hil
  · have hci : ((bA l).data.toList.getD (i : Int).toNat 0) = l[i] := by
      rw [bA_list, Int.toNat_natCast, List.getD_eq_getElem?_getD, List.getElem?_eq_getElem hil]
      rfl
    rw [List.drop_eq_getElem_cons hil] at hv
    generalize hcc : l[i] = c at hci hv
    have hc256 : c.toNat < 256 := c.toNat_lt
    have none_of : ¬ (48 ≤ c.toNat ∧ c.toNat ≤ 57 ∧ acc ≤ 4294967295) → numV l = 0 ∧ arcF l = none := by
      intro h
      have : valD 0 l = none := by
        rw [hv, valD]
        have : (digB c && decide (acc ≤ 4294967295)) = false := by
          rw [Bool.eq_false_iff]
          intro hb
          simp only [digB, Bool.and_eq_true, decide_eq_true_eq] at hb
          omega
        rw [this]
      simp only [numV, arcF, this, and_self]
    repeat' (first | ((with_reducible show AWp _ _ _ _ _); (first | refine awp_seq ?_ | refine awp_block ?_ | refine awp_skip ?_ | refine awp_exit ?_ | refine awp_scope ?_ | refine awp_label ?_ | refine awp_run ty_ok rfl sd ?_ | refine awp_ret ⟨_, _, rfl, rfl, ?_⟩ | refine awp_ret ⟨_, rfl, ?_⟩ | ((refine awp_cond (ty := ty) rfl (fun hc => ?_) (fun hc => ?_)) <;> (try simp only [nms, reduceCtorEq] at hc) <;> (try (exfalso; omega))))) | ((with_reducible show AOps _ _ _ _ _ _); (first | refine aops_nil ?_ | refine aops_go ty_ok rfl rfl sd ?_ | refine aops_gate ty_ok rfl rfl rfl sd ?_ | refine aops_litE ty_ok rfl rfl rfl rfl rfl rfl rfl rfl rfl rfl rfl rfl ?_ | refine aops_cutE ty_ok rfl rfl rfl rfl rfl rfl rfl rfl rfl sd rfl ?_ | ((fail_if_success (refine aops_known rfl ?_)); (refine aops_split ty_ok rfl rfl rfl rfl rfl rfl (fun hc => ⟨?_, ?_⟩) (fun hc => ⟨?_, ?_⟩)) <;> (try simp only [nms, reduceCtorEq] at hc) <;> (try (exfalso; omega)) <;> (try exact sd)))) | ((fail_if_success (with_reducible show AWp _ _ _ _ _)); (fail_if_success (with_reducible show AOps _ _ _ _ _ _)); (first | (show AWp _ _ _ _ _) | (show AOps _ _ _ _ _ _))))
    all_goals simp only [hci] at *
    · obtain ⟨e1, e2⟩ := none_of (by omega)
      rw [e1, e2]
      rfl
    · obtain ⟨e1, e2⟩ := none_of (by omega)
      rw [e1, e2]
      rfl
    · obtain ⟨e1, e2⟩ := none_of (by omega)
      rw [e1, e2]
      rfl
    · have hd : (digB c && decide (acc ≤ 4294967295)) = true := by
        simp only [digB, Bool.and_eq_true, decide_eq_true_eq]
        omega
      rw [valD, hd] at hv
      refine ⟨⟨(i + 1, acc * 10 + (c.toNat - 48)), by omega, hv, by omega⟩, [], SubR.mk' rfl rfl ⟨⟨_, rfl, rfl⟩, ⟨_, rfl, congrArg (fun z : Int => AV.d (Dat.int IntKind.u64 z)) ?_⟩, ⟨_, rfl, rfl⟩, trivial⟩ trivial, by simp only; omega⟩
      simp only [hci]
      rw [IntKind.wrap_u64, IntKind.wrap_u64, IntKind.wrap_u64, IntKind.wrap_u8]
      omega
  · have hie : i = l.length := by omega
    subst hie
    rw [List.drop_length, valD] at hv
    have hn : numV l = acc := by simp only [numV, hv]
    have ha : arcF l = match decide (l ≠ []) && decide (acc ≤ 4294967295) && decide (decDigits acc = l) with
      | true => some acc
      | false => none := by
      unfold arcF
      rw [hv]
      try rfl
    repeat' (first | ((with_reducible show AWp _ _ _ _ _); (first | refine awp_seq ?_ | refine awp_block ?_ | refine awp_skip ?_ | refine awp_exit ?_ | refine awp_scope ?_ | refine awp_label ?_ | refine awp_run ty_ok rfl sd ?_ | refine awp_ret ⟨_, _, rfl, rfl, ?_⟩ | refine awp_ret ⟨_, rfl, ?_⟩ | ((refine awp_cond (ty := ty) rfl (fun hc => ?_) (fun hc => ?_)) <;> (try simp only [nms, reduceCtorEq] at hc) <;> (try (exfalso; omega))))) | ((with_reducible show AOps _ _ _ _ _ _); (first | refine aops_nil ?_ | refine aops_go ty_ok rfl rfl sd ?_ | refine aops_gate ty_ok rfl rfl rfl sd ?_ | refine aops_callE (ty := ty) rfl rfl rfl rfl rfl rfl rfl (c_digits _ acc (by omega)) rfl ?_ | refine aops_litE ty_ok rfl rfl rfl rfl rfl rfl rfl rfl rfl rfl rfl rfl ?_ | refine aops_cutE ty_ok rfl rfl rfl rfl rfl rfl rfl rfl rfl sd rfl ?_ | ((fail_if_success (refine aops_known rfl ?_)); (refine aops_split ty_ok rfl rfl rfl rfl rfl rfl (fun hc => ⟨?_, ?_⟩) (fun hc => ⟨?_, ?_⟩)) <;> (try simp only [nms, reduceCtorEq] at hc) <;> (try (exfalso; omega)) <;> (try exact sd)))) | ((fail_if_success (with_reducible show AWp _ _ _ _ _)); (fail_if_success (with_reducible show AOps _ _ _ _ _ _)); (first | (show AWp _ _ _ _ _) | (show AOps _ _ _ _ _ _))))
    · rename_i h1
      have hl0 : l ≠ [] := by
        intro h
        subst h
        simp [bA] at *
      rw [hn, ha]
      have e1 : decide (l ≠ []) = true := decide_eq_true hl0
      have e2 : decide (acc ≤ 4294967295) = true := decide_eq_true (by omega)
      simp only [e1, e2, Bool.true_and, bA_inj]
      by_cases h : decDigits acc = l <;> simp [h]
    · rw [hn, ha]
      have e2 : decide (acc ≤ 4294967295) = false := decide_eq_false (by omega)
      simp only [e2, Bool.and_false, Bool.false_and]
      rfl
    · have hl0 : l = [] := by
        have := congrArg ByteArray.size hc
        rw [bA_size] at this
        exact List.length_eq_zero_iff.1 this
      rw [hn, ha]
      have e1 : decide (l ≠ []) = false := by simp [hl0]
      simp only [e1, Bool.false_and]
      rfl
end Go.Proofs.YtdihjpmdmfmbiaaGreatDoor
