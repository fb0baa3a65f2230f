/- The law AlgorithmKeyChanges holds for every input: the given statement (the tied card) out of the contract on data. Condition: the listed variables hold what the program's text lays. -/
import Derived.Test.YtdihjpmdmfmbiaaGreatDoorK6
import Derived.Test.YtdihjpmdmfmbiaaGreatDoorTie
import Derived.Test.YtdihjpmdmfmbiaaGreatDoorCards
import Derived.ProofKit
import Derived.SevenTiedAt
import Derived.Stop.Joined
namespace Go.Proofs.YtdihjpmdmfmbiaaGreatDoor
open Go.Am Go.ChangeShapes Go.WideShapes Go.ChangeAt Go.RowKit
set_option linter.unusedSimpArgs false
set_option linter.unusedVariables false

set_option maxRecDepth 100000 in
theorem algorithmKeyChanges_lifted (os : Os) (started : os.Started) (H : Type) (enc : TypeId × Value → H) :
    ReturnsInHanded {} Tryz.checked os 10 .any (fun w args => (Rows.algorithmKeyChangesSpec.pre enc Tryz.prog Tryz.f10 Rows.algorithmKeyChangesRow.domain false w args ∧ laidMetH Tryz.prog Rows.algorithmKeyChangesRow.laid w) ∧ sizedMet enc Tryz.prog Tryz.f10 (OpenSpec.ofChange Rows.algorithmKeyChangesSpec) false w args) (Rows.algorithmKeyChangesSpec.post enc Tryz.prog Tryz.f10 false true false false) :=
  lifted_laidQ (C := Tryz.checked) own started (by kernel_rfl) Tryz.func10 laidOut (read_all (by kernel_rfl)) rfl Tryz.underlying4 rfl
    (fun vs w ds ps h => by
      rw [Tryz.params10] at h
      obtain ⟨_, _, _, _, _, _, rfl, rfl, _, _, r0⟩ := trodAll_cons h
      obtain ⟨_, _, _, _, _, _, rfl, rfl, _, _, r1⟩ := trodAll_cons r0
      obtain ⟨_, _, _, _, _, _, rfl, rfl, _, _, r2⟩ := trodAll_cons r1
      obtain ⟨rfl, rfl, rfl⟩ := trodAll_nil r2
      rfl)
    (ChangeSpec.witness_shaped (enc := enc) (C := Tryz.checked) (os := os) (X := fun w _ => laidMetH Tryz.prog Rows.algorithmKeyChangesRow.laid w) false (World.laidAll Tryz.prog os Rows.algorithmKeyChangesRow.laid) #[.agg #[.string ⟨#[]⟩, .slice none 0 0, .slice none 0 0, .int .i64 0], .int .u16 0, .int .u8 0] 8 (World.laidAll_os _ _ _)
      (World.shaped_of_ZipB (by kernel_rfl) (by kernel_rfl)) (by kernel_rfl) (by kernel_rfl) (by kernel_rfl)
      (by rw [MakeChecks.laidMetH_plain _ _ _ (by kernel_rfl)]; exact laidMet_laidAll _ (by kernel_rfl) (by kernel_rfl)))
    (fun W h => env_of h)
    (OpensQA.cons open_key (OpensQA.cons (.of open_u16) (OpensQA.cons (.of open_u8) OpensQA.nil))) (fun a h => l_akchanges a.1 a.2.1 a.2.2.1 h.2.1.1 h.2.1.2)
theorem algorithmKeyChanges_row : Rows.AlgorithmKeyChangesSaid :=
  OpenClaim.holds_of_wide 10 Tryz.f10 rfl rfl rfl rfl rfl rfl rfl ⟨rfl, rfl, rfl, rfl, rfl⟩ rfl rfl rfl rfl rfl (by kernel_rfl) Tryz.func10 (by kernel_rfl)
    (of_decide_eq_true (by kernel_rfl)) (by unfold Func.isWrapper; first | (rw [if_pos (by decide +kernel)]; kernel_rfl) | (rw [if_neg (by decide +kernel)]; exact ⟨rfl, rfl⟩))
    (fun os started H enc _ => algorithmKeyChanges_lifted os started H enc)
theorem algorithmKeyChanges_holds : Rows.AlgorithmKeyChangesCardSaid :=
  Claim7.holds_tied_plain_at .later [] _ _ _ _ algorithmKeyChanges_row (fun _ h => by cases h) (by kernel_rfl) (fun _ h => by cases h) algorithmKeyChanges_row_tie rfl ⟨rfl, rfl⟩ (by kernel_rfl) rfl
    (fun f fn hf hfn => by
      obtain rfl : f = 10 := Option.some.inj ((show Tryz.prog.funcNamed Rows.algorithmKeyChangesRow.func = some 10 by kernel_rfl).symm.trans hf) |>.symm
      obtain rfl : fn = Tryz.f10 := (Option.some.inj (Tryz.func10.symm.trans hfn)).symm
      exact ⟨by kernel_rfl, fun j t ht => by
        rw [Tryz.params10] at ht
        have hm : t ∈ [46, 40, 5] := by simpa using Array.mem_of_getElem? ht
        have hall : ([46, 40, 5].all fun u => !Tryz.prog.wantsStandIn u) = true := by kernel_rfl
        exact (show Tryz.prog.wantsStandIn t = false by simpa using List.all_eq_true.1 hall t hm)⟩)
    (by kernel_rfl)
#print axioms algorithmKeyChanges_holds
end Go.Proofs.YtdihjpmdmfmbiaaGreatDoor
