/- The law AlgorithmCopies holds for every input: the given statement (the tied card) out of the contract on data. Condition: the listed variables hold what the program's text lays. -/
import Derived.Test.YtdihjpmdmfmbiaaGreatDoorK5
import Derived.Test.YtdihjpmdmfmbiaaGreatDoorTie
import Derived.Test.YtdihjpmdmfmbiaaGreatDoorCards
import Derived.ProofKit
import Derived.SevenTiedAt
import Derived.Stop.Joined
namespace Go.Proofs.YtdihjpmdmfmbiaaGreatDoor
open Go.Am Go.ChangeShapes Go.WideShapes Go.ChangeAt Go.RowKit
set_option linter.unusedSimpArgs false
set_option linter.unusedVariables false

set_option maxRecDepth 100000 in
theorem algorithmCopies_lifted (os : Os) (started : os.Started) (H : Type) (enc : TypeId × Value → H) :
    ReturnsInHanded {} Tryz.checked os 7 .any (fun w args => (Rows.algorithmCopiesSpec.pre enc Tryz.prog Tryz.f7 Rows.algorithmCopiesRow.domain false w args ∧ laidMetH Tryz.prog Rows.algorithmCopiesRow.laid w) ∧ sizedMet enc Tryz.prog Tryz.f7 (OpenSpec.ofChange Rows.algorithmCopiesSpec) false w args) (Rows.algorithmCopiesSpec.post enc Tryz.prog Tryz.f7 false true false false) :=
  lifted_laidQ (C := Tryz.checked) own started (by kernel_rfl) Tryz.func7 laidOut (read_all (by kernel_rfl)) rfl Tryz.underlying4 rfl
    (fun vs w ds ps h => by
      rw [Tryz.params7] at h
      obtain ⟨_, _, _, _, _, _, rfl, rfl, _, _, r0⟩ := trodAll_cons h
      obtain ⟨rfl, rfl, rfl⟩ := trodAll_nil r0
      rfl)
    (ChangeSpec.witness_shaped (enc := enc) (C := Tryz.checked) (os := os) (X := fun w _ => laidMetH Tryz.prog Rows.algorithmCopiesRow.laid w) false (World.laidAll Tryz.prog os Rows.algorithmCopiesRow.laid) #[.slice none 0 0] 8 (World.laidAll_os _ _ _)
      (World.shaped_of_ZipB (by kernel_rfl) (by kernel_rfl)) (by kernel_rfl) (by kernel_rfl) (by kernel_rfl)
      (by rw [MakeChecks.laidMetH_plain _ _ _ (by kernel_rfl)]; exact laidMet_laidAll _ (by kernel_rfl) (by kernel_rfl)))
    (fun W h => env_of h)
    (OpensQA.cons (.of open_bytes) OpensQA.nil) (fun a _ => l_agcopies a.1)
theorem algorithmCopies_row : Rows.AlgorithmCopiesSaid :=
  OpenClaim.holds_of_wide 7 Tryz.f7 rfl rfl rfl rfl rfl rfl rfl ⟨rfl, rfl, rfl, rfl, rfl⟩ rfl rfl rfl rfl rfl (by kernel_rfl) Tryz.func7 (by kernel_rfl)
    (of_decide_eq_true (by kernel_rfl)) (by unfold Func.isWrapper; first | (rw [if_pos (by decide +kernel)]; kernel_rfl) | (rw [if_neg (by decide +kernel)]; exact ⟨rfl, rfl⟩))
    (fun os started H enc _ => algorithmCopies_lifted os started H enc)
theorem algorithmCopies_holds : Rows.AlgorithmCopiesCardSaid :=
  Claim7.holds_tied_plain_at .later [] _ _ _ _ algorithmCopies_row (fun _ h => by cases h) (by kernel_rfl) (fun _ h => by cases h) algorithmCopies_row_tie rfl ⟨rfl, rfl⟩ (by kernel_rfl) rfl
    (fun f fn hf hfn => by
      obtain rfl : f = 7 := Option.some.inj ((show Tryz.prog.funcNamed Rows.algorithmCopiesRow.func = some 7 by kernel_rfl).symm.trans hf) |>.symm
      obtain rfl : fn = Tryz.f7 := (Option.some.inj (Tryz.func7.symm.trans hfn)).symm
      exact ⟨by kernel_rfl, fun j t ht => by
        rw [Tryz.params7] at ht
        have hm : t ∈ [22] := by simpa using Array.mem_of_getElem? ht
        have hall : ([22].all fun u => !Tryz.prog.wantsStandIn u) = true := by kernel_rfl
        exact (show Tryz.prog.wantsStandIn t = false by simpa using List.all_eq_true.1 hall t hm)⟩)
    (by kernel_rfl)
#print axioms algorithmCopies_holds
end Go.Proofs.YtdihjpmdmfmbiaaGreatDoor
