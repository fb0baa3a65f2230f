/- The law BitstringNamed holds for every input: the given statement out of the contract on data. No condition. -/
import Derived.Test.YtaenfbgamkieiaaF15
import Derived.Test.YtaenfbgamkieiaaOpens
namespace Go.Proofs.Ytaenfbgamkieiaa
open Go.Am Go.ChangeShapes Go.WideShapes Go.ChangeAt Go.RowKit
set_option linter.unusedSimpArgs false
set_option linter.unusedVariables false

set_option maxRecDepth 100000 in
theorem bitstringNamed_lifted (os : Os) (started : os.Started) (H : Type) (enc : TypeId × Value → H) :
    ReturnsInHanded {} Try.checked os 6 .any (Rows.bitstringNamedSpec.pre6 enc Try.prog Try.f6 Rows.bitstringNamedRow.domain false) (Rows.bitstringNamedSpec.post enc Try.prog Try.f6 false true false false) :=
  lifted_of (C := Try.checked) own started (by kernel_rfl) Try.func6 laidOut (read_all (by kernel_rfl)) rfl Try.underlying4 rfl
    (fun vs w ds ps h => by
      rw [Try.params6] at h
      obtain ⟨_, _, _, _, _, _, rfl, rfl, _, _, r0⟩ := trodAll_cons h
      obtain ⟨_, _, _, _, _, _, rfl, rfl, _, _, r1⟩ := trodAll_cons r0
      obtain ⟨rfl, rfl, rfl⟩ := trodAll_nil r1
      rfl)
    (ChangeSpec.witness6 (enc := enc) (C := Try.checked) false ⟨#[], #[.int .i64 0, .int .i64 0], []⟩ 8 (by kernel_rfl) (by kernel_rfl) (by kernel_rfl) (by kernel_rfl))
    (OpensA.cons open_int (OpensA.cons open_int OpensA.nil)) (fun a h => l_named _ a.1 a.2.1 (wf_i64 h.1).2)
theorem bitstringNamed_holds : Rows.BitstringNamedSaid :=
  OpenClaim.holds_of_wide 6 Try.f6 rfl rfl rfl rfl rfl rfl rfl ⟨rfl, rfl, rfl, rfl, rfl⟩ rfl rfl rfl rfl rfl (by kernel_rfl) Try.func6 (by kernel_rfl)
    (of_decide_eq_true (by kernel_rfl)) (by unfold Func.isWrapper; first | (rw [if_pos (by decide +kernel)]; kernel_rfl) | (rw [if_neg (by decide +kernel)]; exact ⟨rfl, rfl⟩))
    (fun os started H enc _ => bitstringNamed_lifted os started H enc)
#print axioms bitstringNamed_holds
end Go.Proofs.Ytaenfbgamkieiaa
