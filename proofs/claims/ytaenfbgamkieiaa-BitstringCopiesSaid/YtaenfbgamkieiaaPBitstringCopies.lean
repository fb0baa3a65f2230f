/- The law BitstringCopies holds for every input: the given statement out of the contract on data. No condition. -/
import Derived.Test.YtaenfbgamkieiaaF17
import Derived.Test.YtaenfbgamkieiaaOpens
namespace Go.Proofs.Ytaenfbgamkieiaa
open Go.Am Go.ChangeShapes Go.WideShapes Go.ChangeAt Go.RowKit
set_option linter.unusedSimpArgs false
set_option linter.unusedVariables false

set_option maxRecDepth 100000 in
theorem bitstringCopies_lifted (os : Os) (started : os.Started) (H : Type) (enc : TypeId × Value → H) :
    ReturnsInHanded {} Try.checked os 8 .any (Rows.bitstringCopiesSpec.pre6 enc Try.prog Try.f8 Rows.bitstringCopiesRow.domain false) (Rows.bitstringCopiesSpec.post enc Try.prog Try.f8 false true false false) :=
  lifted_of (C := Try.checked) own started (by kernel_rfl) Try.func8 laidOut (read_all (by kernel_rfl)) rfl Try.underlying4 rfl
    (fun vs w ds ps h => by
      rw [Try.params8] at h
      obtain ⟨_, _, _, _, _, _, rfl, rfl, _, _, r0⟩ := trodAll_cons h
      obtain ⟨rfl, rfl, rfl⟩ := trodAll_nil r0
      rfl)
    (ChangeSpec.witness6 (enc := enc) (C := Try.checked) false ⟨#[], #[.slice none 0 0], []⟩ 8 (by kernel_rfl) (by kernel_rfl) (by kernel_rfl) (by kernel_rfl))
    (OpensA.cons open_bytes OpensA.nil) (fun a _ => l_copies Env.any a.1)
theorem bitstringCopies_holds : Rows.BitstringCopiesSaid :=
  OpenClaim.holds_of_wide 8 Try.f8 rfl rfl rfl rfl rfl rfl rfl ⟨rfl, rfl, rfl, rfl, rfl⟩ rfl rfl rfl rfl rfl (by kernel_rfl) Try.func8 (by kernel_rfl)
    (of_decide_eq_true (by kernel_rfl)) (by unfold Func.isWrapper; first | (rw [if_pos (by decide +kernel)]; kernel_rfl) | (rw [if_neg (by decide +kernel)]; exact ⟨rfl, rfl⟩))
    (fun os started H enc _ => bitstringCopies_lifted os started H enc)
#print axioms bitstringCopies_holds
end Go.Proofs.Ytaenfbgamkieiaa
