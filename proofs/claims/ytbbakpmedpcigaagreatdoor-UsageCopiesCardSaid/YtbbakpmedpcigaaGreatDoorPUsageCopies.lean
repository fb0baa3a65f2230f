/- The law UsageCopies holds for every input: the given statement (the tied card) out of the contract on data. Condition: the listed variables hold what the program's text lays. -/
import Derived.Test.YtbbakpmedpcigaaGreatDoorK5
import Derived.Test.YtbbakpmedpcigaaGreatDoorTie
import Derived.Test.YtbbakpmedpcigaaGreatDoorCards
import Derived.ProofKit
import Derived.SevenTiedAt
import Derived.Stop.Joined
namespace Go.Proofs.YtbbakpmedpcigaaGreatDoor
open Go.Am Go.ChangeShapes Go.WideShapes Go.ChangeAt Go.RowKit
set_option linter.unusedSimpArgs false
set_option linter.unusedVariables false

set_option maxRecDepth 100000 in
theorem usageCopies_lifted (os : Os) (started : os.Started) (H : Type) (enc : TypeId × Value → H) :
    ReturnsInHanded {} Tryz.checked os 7 .any (fun w args => (Rows.usageCopiesSpec.pre enc Tryz.prog Tryz.f7 Rows.usageCopiesRow.domain false w args ∧ laidMetH Tryz.prog Rows.usageCopiesRow.laid w) ∧ sizedMet enc Tryz.prog Tryz.f7 (OpenSpec.ofChange Rows.usageCopiesSpec) false w args) (Rows.usageCopiesSpec.post enc Tryz.prog Tryz.f7 false true false false) :=
  lifted_laid (C := Tryz.checked) own started (by kernel_rfl) Tryz.func7 laidOut (read_all (by kernel_rfl)) rfl Tryz.underlying4 rfl
    (fun vs w ds ps h => by
      rw [Tryz.params7] at h
      obtain ⟨_, _, _, _, _, _, rfl, rfl, _, _, r0⟩ := trodAll_cons h
      obtain ⟨rfl, rfl, rfl⟩ := trodAll_nil r0
      rfl)
    (ChangeSpec.witness_shaped (enc := enc) (C := Tryz.checked) (os := os) (X := fun w _ => laidMetH Tryz.prog Rows.usageCopiesRow.laid w) false (World.laidAll Tryz.prog os Rows.usageCopiesRow.laid) #[.slice none 0 0] 8 (World.laidAll_os _ _ _)
      (World.shaped_of_ZipB (by kernel_rfl) (by kernel_rfl)) (by kernel_rfl) (by kernel_rfl) (by kernel_rfl)
      (by rw [MakeChecks.laidMetH_plain _ _ _ (by kernel_rfl)]; exact laidMet_laidAll _ (by kernel_rfl) (by kernel_rfl)))
    (fun W h => env_of h)
    (OpensA.cons open_bytes OpensA.nil) (fun a _ => l_uscopies a.1)
theorem usageCopies_row : Rows.UsageCopiesSaid :=
  OpenClaim.holds_of_wide 7 Tryz.f7 rfl rfl rfl rfl rfl rfl rfl ⟨rfl, rfl, rfl, rfl, rfl⟩ rfl rfl rfl rfl rfl (by kernel_rfl) Tryz.func7 (by kernel_rfl)
    (of_decide_eq_true (by kernel_rfl)) (by unfold Func.isWrapper; first | (rw [if_pos (by decide +kernel)]; kernel_rfl) | (rw [if_neg (by decide +kernel)]; exact ⟨rfl, rfl⟩))
    (fun os started H enc _ => usageCopies_lifted os started H enc)
theorem usageCopies_holds : Rows.UsageCopiesCardSaid :=
  Claim7.holds_tied_plain_at .later [] _ _ _ _ usageCopies_row (fun _ h => by cases h) (by kernel_rfl) (fun _ h => by cases h) usageCopies_row_tie rfl ⟨rfl, rfl⟩ (by kernel_rfl) rfl
    (fun f fn hf hfn => by
      obtain rfl : f = 7 := Option.some.inj ((show Tryz.prog.funcNamed Rows.usageCopiesRow.func = some 7 by kernel_rfl).symm.trans hf) |>.symm
      obtain rfl : fn = Tryz.f7 := (Option.some.inj (Tryz.func7.symm.trans hfn)).symm
      exact ⟨by kernel_rfl, fun j t ht => by
        rw [Tryz.params7] at ht
        have hm : t ∈ [25] := by simpa using Array.mem_of_getElem? ht
        have hall : ([25].all fun u => !Tryz.prog.wantsStandIn u) = true := by kernel_rfl
        exact (show Tryz.prog.wantsStandIn t = false by simpa using List.all_eq_true.1 hall t hm)⟩)
    (by kernel_rfl)
#print axioms usageCopies_holds
end Go.Proofs.YtbbakpmedpcigaaGreatDoor
