/- The fixed results that the law asks for first, walked by the abstract machine. -/
import Derived.Test.YtaenfbgamkieiaaF10
namespace Go.Proofs.Ytaenfbgamkieiaa
open Go.Am
set_option linter.unusedSimpArgs false
set_option linter.unusedVariables false

theorem a_enc (Γ : Env) : ACalls Try.prog Γ 10 [bitsD [160] 5] (fun r => r = .ownT none 5 (bys [5, 160]) [.int .i64 0]) :=
  (c_encode Γ [160] 5 (by decide)).mono fun r h => h.1 (by decide)
theorem a_encn1 (Γ : Env) : ACalls Try.prog Γ 22 [.int .i64 5, .int .i64 9] (fun r => r = .ownT none 5 (bys [5, 160]) [.int .i64 0]) :=
  (c_encn1 Γ 5 9 (by decide)).mono fun r h => by
    rw [h, encRes, show badF 5 9 = false by decide]
    simp only [show namF (5 : Int).toNat = [5, 160] by decide]
theorem a_encn2 (Γ : Env) : ACalls Try.prog Γ 22 [.int .i64 256, .int .i64 9] (fun r => r = .ownT none 5 (bys [7, 0, 128]) [.int .i64 0]) :=
  (c_encn1 Γ 256 9 (by decide)).mono fun r h => by
    rw [h, encRes, show badF 256 9 = false by decide]
    simp only [show namF (256 : Int).toNat = [7, 0, 128] by decide]
theorem a_decn (Γ : Env) : ACalls Try.prog Γ 24 [.sl none (bys [4, 160]), .int .i64 9] (fun r => r = .d (.tup [.int .i64 0, .int .i64 6])) :=
  (c_decn Γ [4, 160] 9 (by decide)).mono fun r h => by
    rw [h, show dnF [4, 160] 9 = (0, 6) by decide]
theorem a_dec (Γ : Env) : ACalls Try.prog Γ 15 [.sl none (bys [5, 161])] (fun r => r = .d (.tup [bitsD [] 0, .int .i64 6])) :=
  (c_decode Γ [5, 161] (by decide)).mono fun r h => by
    rw [h, decD, show decF [5, 161] = ([], 0, 6) by decide]
theorem a_eq (Γ : Env) (x : List UInt8) : ACalls Try.prog Γ 12 [.sl none (bys x), .sl none (bys x)] (fun r => r = .d (.bool true)) :=
  (c_bytes Γ x x).mono fun r h => by rw [h]; simp
theorem a_len (Γ : Env) : ACalls Try.prog Γ 18 [bitsD [160] 5] (fun r => r = .d (.int .i64 3)) :=
  (c_len Γ [160] 5 (by decide)).mono fun r h => by rw [h, show lenF [160] 5 = 3 by decide]
theorem a_at2 (Γ : Env) : ACalls Try.prog Γ 20 [bitsD [160] 5, .int .i64 2] (fun r => r = .d (.bool true)) :=
  (c_at Γ [160] 5 2 (by decide)).mono fun r h => by rw [h, show atF [160] 5 2 = true by decide]
theorem a_at1 (Γ : Env) : ACalls Try.prog Γ 20 [bitsD [160] 5, .int .i64 1] (fun r => r = .d (.bool false)) :=
  (c_at Γ [160] 5 1 (by decide)).mono fun r h => by rw [h, show atF [160] 5 1 = false by decide]

theorem isAwake : IsFn Try.prog 9 Try.f9 := ⟨Try.func9, by decide, rfl⟩
theorem c_awake (Γ : Env) : ACalls Try.prog Γ 9 [] (fun r => r = .d (.bool true)) := by
  refine acalls_of ty_ok isAwake rfl rfl ?_
  repeat (first | refine awp_reg ty_ok rfl (by first | (simp only [and_true, true_and]; done) | (simp only [and_true, true_and, bys_len, ints_len, byss_len, canon_bys, canon_ints, canon_byss, Int.toNat_natCast, List.length_append, List.length_cons, List.length_nil, List.length_replicate]; omega)) ?_ | refine awp_seq ?_ | refine awp_all ty_ok rfl (by first | (simp only [and_true, true_and]; done) | (simp only [and_true, true_and, bys_len, ints_len, byss_len, canon_bys, canon_ints, canon_byss, Int.toNat_natCast, List.length_append, List.length_cons, List.length_nil, List.length_replicate]; omega)) ?_ | refine awp_block ?_ | refine awp_skip ?_ | refine awp_exit ?_)
  refine awp_run ty_ok rfl (by first | (simp only [and_true, true_and]; done) | (simp only [and_true, true_and, bys_len, ints_len, byss_len, canon_bys, canon_ints, canon_byss, Int.toNat_natCast, List.length_append, List.length_cons, List.length_nil, List.length_replicate]; omega)) ?_
  refine aops_call (ty := ty) rfl rfl rfl rfl rfl rfl rfl (a_enc _) (fun r hr => ?_)
  subst hr
  refine aops_run ty_ok [] rfl (by first | (simp only [and_true, true_and]; done) | (simp only [and_true, true_and, bys_len, ints_len, byss_len, canon_bys, canon_ints, canon_byss, Int.toNat_natCast, List.length_append, List.length_cons, List.length_nil, List.length_replicate]; omega)) ?_
  refine aops_nil ?_
  repeat (first | refine awp_reg ty_ok rfl (by first | (simp only [and_true, true_and]; done) | (simp only [and_true, true_and, bys_len, ints_len, byss_len, canon_bys, canon_ints, canon_byss, Int.toNat_natCast, List.length_append, List.length_cons, List.length_nil, List.length_replicate]; omega)) ?_ | refine awp_seq ?_ | refine awp_all ty_ok rfl (by first | (simp only [and_true, true_and]; done) | (simp only [and_true, true_and, bys_len, ints_len, byss_len, canon_bys, canon_ints, canon_byss, Int.toNat_natCast, List.length_append, List.length_cons, List.length_nil, List.length_replicate]; omega)) ?_ | refine awp_block ?_ | refine awp_skip ?_ | refine awp_exit ?_)
  refine awp_run ty_ok rfl (by first | (simp only [and_true, true_and]; done) | (simp only [and_true, true_and, bys_len, ints_len, byss_len, canon_bys, canon_ints, canon_byss, Int.toNat_natCast, List.length_append, List.length_cons, List.length_nil, List.length_replicate]; omega)) ?_
  refine aops_call (ty := ty) rfl rfl rfl rfl rfl rfl rfl (a_encn1 _) (fun r hr => ?_)
  subst hr
  refine aops_run ty_ok [] rfl (by first | (simp only [and_true, true_and]; done) | (simp only [and_true, true_and, bys_len, ints_len, byss_len, canon_bys, canon_ints, canon_byss, Int.toNat_natCast, List.length_append, List.length_cons, List.length_nil, List.length_replicate]; omega)) ?_
  refine aops_nil ?_
  repeat (first | refine awp_reg ty_ok rfl (by first | (simp only [and_true, true_and]; done) | (simp only [and_true, true_and, bys_len, ints_len, byss_len, canon_bys, canon_ints, canon_byss, Int.toNat_natCast, List.length_append, List.length_cons, List.length_nil, List.length_replicate]; omega)) ?_ | refine awp_seq ?_ | refine awp_all ty_ok rfl (by first | (simp only [and_true, true_and]; done) | (simp only [and_true, true_and, bys_len, ints_len, byss_len, canon_bys, canon_ints, canon_byss, Int.toNat_natCast, List.length_append, List.length_cons, List.length_nil, List.length_replicate]; omega)) ?_ | refine awp_block ?_ | refine awp_skip ?_ | refine awp_exit ?_)
  refine awp_run ty_ok rfl (by first | (simp only [and_true, true_and]; done) | (simp only [and_true, true_and, bys_len, ints_len, byss_len, canon_bys, canon_ints, canon_byss, Int.toNat_natCast, List.length_append, List.length_cons, List.length_nil, List.length_replicate]; omega)) ?_
  refine aops_call (ty := ty) rfl rfl rfl rfl rfl rfl rfl (a_encn2 _) (fun r hr => ?_)
  subst hr
  refine aops_run ty_ok [] rfl (by first | (simp only [and_true, true_and]; done) | (simp only [and_true, true_and, bys_len, ints_len, byss_len, canon_bys, canon_ints, canon_byss, Int.toNat_natCast, List.length_append, List.length_cons, List.length_nil, List.length_replicate]; omega)) ?_
  refine aops_nil ?_
  repeat (first | refine awp_reg ty_ok rfl (by first | (simp only [and_true, true_and]; done) | (simp only [and_true, true_and, bys_len, ints_len, byss_len, canon_bys, canon_ints, canon_byss, Int.toNat_natCast, List.length_append, List.length_cons, List.length_nil, List.length_replicate]; omega)) ?_ | refine awp_seq ?_ | refine awp_all ty_ok rfl (by first | (simp only [and_true, true_and]; done) | (simp only [and_true, true_and, bys_len, ints_len, byss_len, canon_bys, canon_ints, canon_byss, Int.toNat_natCast, List.length_append, List.length_cons, List.length_nil, List.length_replicate]; omega)) ?_ | refine awp_block ?_ | refine awp_skip ?_ | refine awp_exit ?_)
  refine awp_run ty_ok rfl (by first | (simp only [and_true, true_and]; done) | (simp only [and_true, true_and, bys_len, ints_len, byss_len, canon_bys, canon_ints, canon_byss, Int.toNat_natCast, List.length_append, List.length_cons, List.length_nil, List.length_replicate]; omega)) ?_
  refine aops_call (ty := ty) rfl rfl rfl rfl rfl rfl rfl (a_decn _) (fun r hr => ?_)
  subst hr
  refine aops_run ty_ok [] rfl (by first | (simp only [and_true, true_and]; done) | (simp only [and_true, true_and, bys_len, ints_len, byss_len, canon_bys, canon_ints, canon_byss, Int.toNat_natCast, List.length_append, List.length_cons, List.length_nil, List.length_replicate]; omega)) ?_
  refine aops_nil ?_
  repeat (first | refine awp_reg ty_ok rfl (by first | (simp only [and_true, true_and]; done) | (simp only [and_true, true_and, bys_len, ints_len, byss_len, canon_bys, canon_ints, canon_byss, Int.toNat_natCast, List.length_append, List.length_cons, List.length_nil, List.length_replicate]; omega)) ?_ | refine awp_seq ?_ | refine awp_all ty_ok rfl (by first | (simp only [and_true, true_and]; done) | (simp only [and_true, true_and, bys_len, ints_len, byss_len, canon_bys, canon_ints, canon_byss, Int.toNat_natCast, List.length_append, List.length_cons, List.length_nil, List.length_replicate]; omega)) ?_ | refine awp_block ?_ | refine awp_skip ?_ | refine awp_exit ?_)
  refine awp_run ty_ok rfl (by first | (simp only [and_true, true_and]; done) | (simp only [and_true, true_and, bys_len, ints_len, byss_len, canon_bys, canon_ints, canon_byss, Int.toNat_natCast, List.length_append, List.length_cons, List.length_nil, List.length_replicate]; omega)) ?_
  refine aops_call (ty := ty) rfl rfl rfl rfl rfl rfl rfl (a_dec _) (fun r hr => ?_)
  subst hr
  refine aops_run ty_ok [] rfl (by first | (simp only [and_true, true_and]; done) | (simp only [and_true, true_and, bys_len, ints_len, byss_len, canon_bys, canon_ints, canon_byss, Int.toNat_natCast, List.length_append, List.length_cons, List.length_nil, List.length_replicate]; omega)) ?_
  refine aops_nil ?_
  repeat (first | refine awp_reg ty_ok rfl (by first | (simp only [and_true, true_and]; done) | (simp only [and_true, true_and, bys_len, ints_len, byss_len, canon_bys, canon_ints, canon_byss, Int.toNat_natCast, List.length_append, List.length_cons, List.length_nil, List.length_replicate]; omega)) ?_ | refine awp_seq ?_ | refine awp_all ty_ok rfl (by first | (simp only [and_true, true_and]; done) | (simp only [and_true, true_and, bys_len, ints_len, byss_len, canon_bys, canon_ints, canon_byss, Int.toNat_natCast, List.length_append, List.length_cons, List.length_nil, List.length_replicate]; omega)) ?_ | refine awp_block ?_ | refine awp_skip ?_ | refine awp_exit ?_)
  refine awp_run ty_ok rfl (by first | (simp only [and_true, true_and]; done) | (simp only [and_true, true_and, bys_len, ints_len, byss_len, canon_bys, canon_ints, canon_byss, Int.toNat_natCast, List.length_append, List.length_cons, List.length_nil, List.length_replicate]; omega)) ?_
  refine aops_run ty_ok [2, 6, 10, 14, 18] rfl (by first | (simp only [and_true, true_and]; done) | (simp only [and_true, true_and, bys_len, ints_len, byss_len, canon_bys, canon_ints, canon_byss, Int.toNat_natCast, List.length_append, List.length_cons, List.length_nil, List.length_replicate]; omega)) ?_
  refine aops_call (ty := ty) rfl rfl rfl rfl rfl rfl rfl (a_eq _ [5, 160]) (fun r hr => ?_)
  subst hr
  refine aops_run ty_ok [2, 6, 10, 14, 18, 23] rfl (by first | (simp only [and_true, true_and]; done) | (simp only [and_true, true_and, bys_len, ints_len, byss_len, canon_bys, canon_ints, canon_byss, Int.toNat_natCast, List.length_append, List.length_cons, List.length_nil, List.length_replicate]; omega)) ?_
  refine aops_call (ty := ty) rfl rfl rfl rfl rfl rfl rfl (a_eq _ [5, 160]) (fun r hr => ?_)
  subst hr
  refine aops_run ty_ok [2, 6, 10, 14, 18, 23, 28] rfl (by first | (simp only [and_true, true_and]; done) | (simp only [and_true, true_and, bys_len, ints_len, byss_len, canon_bys, canon_ints, canon_byss, Int.toNat_natCast, List.length_append, List.length_cons, List.length_nil, List.length_replicate]; omega)) ?_
  refine aops_call (ty := ty) rfl rfl rfl rfl rfl rfl rfl (a_eq _ [7, 0, 128]) (fun r hr => ?_)
  subst hr
  refine aops_run ty_ok [28, 33] rfl (by first | (simp only [and_true, true_and]; done) | (simp only [and_true, true_and, bys_len, ints_len, byss_len, canon_bys, canon_ints, canon_byss, Int.toNat_natCast, List.length_append, List.length_cons, List.length_nil, List.length_replicate]; omega)) ?_
  refine aops_call (ty := ty) rfl rfl rfl rfl rfl rfl rfl (a_len _) (fun r hr => ?_)
  subst hr
  refine aops_run ty_ok [28, 33, 38] rfl (by first | (simp only [and_true, true_and]; done) | (simp only [and_true, true_and, bys_len, ints_len, byss_len, canon_bys, canon_ints, canon_byss, Int.toNat_natCast, List.length_append, List.length_cons, List.length_nil, List.length_replicate]; omega)) ?_
  refine aops_call (ty := ty) rfl rfl rfl rfl rfl rfl rfl (a_at2 _) (fun r hr => ?_)
  subst hr
  refine aops_run ty_ok [28, 33, 38, 42] rfl (by first | (simp only [and_true, true_and]; done) | (simp only [and_true, true_and, bys_len, ints_len, byss_len, canon_bys, canon_ints, canon_byss, Int.toNat_natCast, List.length_append, List.length_cons, List.length_nil, List.length_replicate]; omega)) ?_
  refine aops_call (ty := ty) rfl rfl rfl rfl rfl rfl rfl (a_at1 _) (fun r hr => ?_)
  subst hr
  refine aops_run ty_ok [28, 33, 38, 42] rfl (by first | (simp only [and_true, true_and]; done) | (simp only [and_true, true_and, bys_len, ints_len, byss_len, canon_bys, canon_ints, canon_byss, Int.toNat_natCast, List.length_append, List.length_cons, List.length_nil, List.length_replicate]; omega)) ?_
  refine aops_nil ?_
  refine awp_ret ⟨_, _, rfl, rfl, ?_⟩
  rfl
end Go.Proofs.Ytaenfbgamkieiaa
