/- The law BitstringSets holds for every input: the given statement out of the contract on data. No condition. -/
import Derived.Test.YtaenfbgamkieiaaF14
import Derived.Test.YtaenfbgamkieiaaOpens
namespace Go.Proofs.Ytaenfbgamkieiaa
open Go.Am Go.ChangeShapes Go.WideShapes Go.ChangeAt Go.RowKit
set_option linter.unusedSimpArgs false
set_option linter.unusedVariables false

set_option maxRecDepth 100000 in
theorem bitstringSets_lifted (os : Os) (started : os.Started) (H : Type) (enc : TypeId × Value → H) :
    ReturnsInHanded {} Try.checked os 7 .any (Rows.bitstringSetsSpec.pre6 enc Try.prog Try.f7 Rows.bitstringSetsRow.domain false) (Rows.bitstringSetsSpec.post enc Try.prog Try.f7 false true false false) :=
  lifted_of (C := Try.checked) own started (by kernel_rfl) Try.func7 laidOut (read_all (by kernel_rfl)) rfl Try.underlying4 rfl
    (fun vs w ds ps h => by
      rw [Try.params7] at h
      obtain ⟨_, _, _, _, _, _, rfl, rfl, _, _, r0⟩ := trodAll_cons h
      obtain ⟨_, _, _, _, _, _, rfl, rfl, _, _, r1⟩ := trodAll_cons r0
      obtain ⟨_, _, _, _, _, _, rfl, rfl, _, _, r2⟩ := trodAll_cons r1
      obtain ⟨rfl, rfl, rfl⟩ := trodAll_nil r2
      rfl)
    (ChangeSpec.witness6 (enc := enc) (C := Try.checked) false ⟨#[], #[.slice none 0 0, .int .i64 0, .int .i64 0], []⟩ 8 (by kernel_rfl) (by kernel_rfl) (by kernel_rfl) (by kernel_rfl))
    (OpensA.cons open_bytes (OpensA.cons open_int (OpensA.cons open_int OpensA.nil))) (fun a h => l_sets _ a.1 a.2.1 a.2.2.1 (wf_i64 h.2.2.1).2)
theorem bitstringSets_holds : Rows.BitstringSetsSaid :=
  OpenClaim.holds_of_wide 7 Try.f7 rfl rfl rfl rfl rfl rfl rfl ⟨rfl, rfl, rfl, rfl, rfl⟩ rfl rfl rfl rfl rfl (by kernel_rfl) Try.func7 (by kernel_rfl)
    (of_decide_eq_true (by kernel_rfl)) (by unfold Func.isWrapper; first | (rw [if_pos (by decide +kernel)]; kernel_rfl) | (rw [if_neg (by decide +kernel)]; exact ⟨rfl, rfl⟩))
    (fun os started H enc _ => bitstringSets_lifted os started H enc)
#print axioms bitstringSets_holds
end Go.Proofs.Ytaenfbgamkieiaa
