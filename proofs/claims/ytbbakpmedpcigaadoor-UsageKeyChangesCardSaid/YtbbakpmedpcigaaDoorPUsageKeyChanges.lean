/- The law UsageKeyChanges holds for every input: the given statement (the tied card) out of the contract on data. Condition: the listed variables hold what the program's text lays. -/
import Derived.Test.YtbbakpmedpcigaaDoorK4
import Derived.Test.YtbbakpmedpcigaaDoorTie
import Derived.Test.YtbbakpmedpcigaaDoorCards
import Derived.ProofKit
import Derived.SevenTiedAt
import Derived.Stop.Joined
namespace Go.Proofs.YtbbakpmedpcigaaDoor
open Go.Am Go.ChangeShapes Go.WideShapes Go.ChangeAt Go.RowKit
set_option linter.unusedSimpArgs false
set_option linter.unusedVariables false

set_option maxRecDepth 100000 in
theorem usageKeyChanges_lifted (os : Os) (started : os.Started) (H : Type) (enc : TypeId × Value → H) :
    ReturnsInHanded {} Tryd.checked os 5 .any (fun w args => (Rows.usageKeyChangesSpec.pre enc Tryd.prog Tryd.f5 Rows.usageKeyChangesRow.domain false w args ∧ laidMetH Tryd.prog Rows.usageKeyChangesRow.laid w) ∧ sizedMet enc Tryd.prog Tryd.f5 (OpenSpec.ofChange Rows.usageKeyChangesSpec) false w args) (Rows.usageKeyChangesSpec.post enc Tryd.prog Tryd.f5 false true false false) :=
  lifted_laid (C := Tryd.checked) own started (by kernel_rfl) Tryd.func5 laidOut (read_all (by kernel_rfl)) rfl Tryd.underlying4 rfl
    (fun vs w ds ps h => by
      rw [Tryd.params5] at h
      obtain ⟨_, _, _, _, _, _, rfl, rfl, _, _, r0⟩ := trodAll_cons h
      obtain ⟨_, _, _, _, _, _, rfl, rfl, _, _, r1⟩ := trodAll_cons r0
      obtain ⟨_, _, _, _, _, _, rfl, rfl, _, _, r2⟩ := trodAll_cons r1
      obtain ⟨rfl, rfl, rfl⟩ := trodAll_nil r2
      rfl)
    (ChangeSpec.witness_shaped (enc := enc) (C := Tryd.checked) (os := os) (X := fun w _ => laidMetH Tryd.prog Rows.usageKeyChangesRow.laid w) false (World.laidAll Tryd.prog os Rows.usageKeyChangesRow.laid) #[.int .i64 0, .int .u16 0, .int .u8 0] 8 (World.laidAll_os _ _ _)
      (World.shaped_of_ZipB (by kernel_rfl) (by kernel_rfl)) (by kernel_rfl) (by kernel_rfl) (by kernel_rfl)
      (by rw [MakeChecks.laidMetH_plain _ _ _ (by kernel_rfl)]; exact laidMet_laidAll _ (by kernel_rfl) (by kernel_rfl)))
    (fun W h => env_of h)
    (OpensA.cons open_int (OpensA.cons open_u16 (OpensA.cons open_u8 OpensA.nil))) (fun a h => l_keychanges a.1 a.2.1 a.2.2.1 h.1 h.2.1.1 h.2.1.2)
theorem usageKeyChanges_row : Rows.UsageKeyChangesSaid :=
  OpenClaim.holds_of_wide 5 Tryd.f5 rfl rfl rfl rfl rfl rfl rfl ⟨rfl, rfl, rfl, rfl, rfl⟩ rfl rfl rfl rfl rfl (by kernel_rfl) Tryd.func5 (by kernel_rfl)
    (of_decide_eq_true (by kernel_rfl)) (by unfold Func.isWrapper; first | (rw [if_pos (by decide +kernel)]; kernel_rfl) | (rw [if_neg (by decide +kernel)]; exact ⟨rfl, rfl⟩))
    (fun os started H enc _ => usageKeyChanges_lifted os started H enc)
theorem usageKeyChanges_holds : Rows.UsageKeyChangesCardSaid :=
  Claim7.holds_tied_plain_at .later [] _ _ _ _ usageKeyChanges_row (fun _ h => by cases h) (by kernel_rfl) (fun _ h => by cases h) usageKeyChanges_row_tie rfl ⟨rfl, rfl⟩ (by kernel_rfl) rfl
    (fun f fn hf hfn => by
      obtain rfl : f = 5 := Option.some.inj ((show Tryd.prog.funcNamed Rows.usageKeyChangesRow.func = some 5 by kernel_rfl).symm.trans hf) |>.symm
      obtain rfl : fn = Tryd.f5 := (Option.some.inj (Tryd.func5.symm.trans hfn)).symm
      exact ⟨by kernel_rfl, fun j t ht => by
        rw [Tryd.params5] at ht
        have hm : t ∈ [3, 38, 5] := by simpa using Array.mem_of_getElem? ht
        have hall : ([3, 38, 5].all fun u => !Tryd.prog.wantsStandIn u) = true := by kernel_rfl
        exact (show Tryd.prog.wantsStandIn t = false by simpa using List.all_eq_true.1 hall t hm)⟩)
    (by kernel_rfl)
#print axioms usageKeyChanges_holds
end Go.Proofs.YtbbakpmedpcigaaDoor
