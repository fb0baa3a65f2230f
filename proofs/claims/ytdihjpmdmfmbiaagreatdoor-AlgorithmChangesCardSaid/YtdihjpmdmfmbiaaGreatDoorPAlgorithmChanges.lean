/- The law AlgorithmChanges holds for every input: the given statement (the tied card) out of the contract on data. Condition: the listed variables hold what the program's text lays. -/
import Derived.Test.YtdihjpmdmfmbiaaGreatDoorK6
import Derived.Test.YtdihjpmdmfmbiaaGreatDoorTie
import Derived.Test.YtdihjpmdmfmbiaaGreatDoorCards
import Derived.ProofKit
import Derived.SevenTiedAt
import Derived.Stop.Joined
namespace Go.Proofs.YtdihjpmdmfmbiaaGreatDoor
open Go.Am Go.ChangeShapes Go.WideShapes Go.ChangeAt Go.RowKit
set_option linter.unusedSimpArgs false
set_option linter.unusedVariables false

set_option maxRecDepth 100000 in
theorem algorithmChanges_lifted (os : Os) (started : os.Started) (H : Type) (enc : TypeId × Value → H) :
    ReturnsInHanded {} Tryz.checked os 5 .any (fun w args => (Rows.algorithmChangesSpec.pre enc Tryz.prog Tryz.f5 Rows.algorithmChangesRow.domain false w args ∧ laidMetH Tryz.prog Rows.algorithmChangesRow.laid w) ∧ sizedMet enc Tryz.prog Tryz.f5 (OpenSpec.ofChange Rows.algorithmChangesSpec) false w args) (Rows.algorithmChangesSpec.post enc Tryz.prog Tryz.f5 false true false false) :=
  lifted_laidQ (C := Tryz.checked) own started (by kernel_rfl) Tryz.func5 laidOut (read_all (by kernel_rfl)) rfl Tryz.underlying4 rfl
    (fun vs w ds ps h => by
      rw [Tryz.params5] at h
      obtain ⟨_, _, _, _, _, _, rfl, rfl, _, _, r0⟩ := trodAll_cons h
      obtain ⟨_, _, _, _, _, _, rfl, rfl, _, _, r1⟩ := trodAll_cons r0
      obtain ⟨_, _, _, _, _, _, rfl, rfl, _, _, r2⟩ := trodAll_cons r1
      obtain ⟨rfl, rfl, rfl⟩ := trodAll_nil r2
      rfl)
    (ChangeSpec.witness_shaped (enc := enc) (C := Tryz.checked) (os := os) (X := fun w _ => laidMetH Tryz.prog Rows.algorithmChangesRow.laid w) false (World.laidAll Tryz.prog os Rows.algorithmChangesRow.laid) #[.agg #[.string ⟨#[]⟩, .slice none 0 0], .int .u16 0, .int .u8 0] 8 (World.laidAll_os _ _ _)
      (World.shaped_of_ZipB (by kernel_rfl) (by kernel_rfl)) (by kernel_rfl) (by kernel_rfl) (by kernel_rfl)
      (by rw [MakeChecks.laidMetH_plain _ _ _ (by kernel_rfl)]; exact laidMet_laidAll _ (by kernel_rfl) (by kernel_rfl)))
    (fun W h => env_of h)
    (OpensQA.cons open_alg (OpensQA.cons (.of open_u16) (OpensQA.cons (.of open_u8) OpensQA.nil))) (fun a h => l_agchanges a.1 a.2.1 a.2.2.1 h.2.1.1 h.2.1.2)
theorem algorithmChanges_row : Rows.AlgorithmChangesSaid :=
  OpenClaim.holds_of_wide 5 Tryz.f5 rfl rfl rfl rfl rfl rfl rfl ⟨rfl, rfl, rfl, rfl, rfl⟩ rfl rfl rfl rfl rfl (by kernel_rfl) Tryz.func5 (by kernel_rfl)
    (of_decide_eq_true (by kernel_rfl)) (by unfold Func.isWrapper; first | (rw [if_pos (by decide +kernel)]; kernel_rfl) | (rw [if_neg (by decide +kernel)]; exact ⟨rfl, rfl⟩))
    (fun os started H enc _ => algorithmChanges_lifted os started H enc)
theorem algorithmChanges_holds : Rows.AlgorithmChangesCardSaid :=
  Claim7.holds_tied_plain_at .later [] _ _ _ _ algorithmChanges_row (fun _ h => by cases h) (by kernel_rfl) (fun _ h => by cases h) algorithmChanges_row_tie rfl ⟨rfl, rfl⟩ (by kernel_rfl) rfl
    (fun f fn hf hfn => by
      obtain rfl : f = 5 := Option.some.inj ((show Tryz.prog.funcNamed Rows.algorithmChangesRow.func = some 5 by kernel_rfl).symm.trans hf) |>.symm
      obtain rfl : fn = Tryz.f5 := (Option.some.inj (Tryz.func5.symm.trans hfn)).symm
      exact ⟨by kernel_rfl, fun j t ht => by
        rw [Tryz.params5] at ht
        have hm : t ∈ [24, 40, 5] := by simpa using Array.mem_of_getElem? ht
        have hall : ([24, 40, 5].all fun u => !Tryz.prog.wantsStandIn u) = true := by kernel_rfl
        exact (show Tryz.prog.wantsStandIn t = false by simpa using List.all_eq_true.1 hall t hm)⟩)
    (by kernel_rfl)
#print axioms algorithmChanges_holds
end Go.Proofs.YtdihjpmdmfmbiaaGreatDoor
