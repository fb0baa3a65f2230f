/- The law UsageKeyParses holds for every input: the given statement (the tied card) out of the contract on data. Condition: the listed variables hold what the program's text lays. -/
import Derived.Test.YtbbakpmedpcigaaDoorK4
import Derived.Test.YtbbakpmedpcigaaDoorTie
import Derived.Test.YtbbakpmedpcigaaDoorCards
import Derived.ProofKit
import Derived.SevenTiedAt
import Derived.Stop.Joined
namespace Go.Proofs.YtbbakpmedpcigaaDoor
open Go.Am Go.ChangeShapes Go.WideShapes Go.ChangeAt Go.RowKit
set_option linter.unusedSimpArgs false
set_option linter.unusedVariables false

set_option maxRecDepth 100000 in
theorem usageKeyParses_lifted (os : Os) (started : os.Started) (H : Type) (enc : TypeId × Value → H) :
    ReturnsInHanded {} Tryd.checked os 4 .any (fun w args => (Rows.usageKeyParsesSpec.pre enc Tryd.prog Tryd.f4 Rows.usageKeyParsesRow.domain false w args ∧ laidMetH Tryd.prog Rows.usageKeyParsesRow.laid w) ∧ sizedMet enc Tryd.prog Tryd.f4 (OpenSpec.ofChange Rows.usageKeyParsesSpec) false w args) (Rows.usageKeyParsesSpec.post enc Tryd.prog Tryd.f4 false true false false) :=
  lifted_laid (C := Tryd.checked) own started (by kernel_rfl) Tryd.func4 laidOut (read_all (by kernel_rfl)) rfl Tryd.underlying4 rfl
    (fun vs w ds ps h => by
      rw [Tryd.params4] at h
      obtain ⟨_, _, _, _, _, _, rfl, rfl, _, _, r0⟩ := trodAll_cons h
      obtain ⟨rfl, rfl, rfl⟩ := trodAll_nil r0
      rfl)
    (ChangeSpec.witness_shaped (enc := enc) (C := Tryd.checked) (os := os) (X := fun w _ => laidMetH Tryd.prog Rows.usageKeyParsesRow.laid w) false (World.laidAll Tryd.prog os Rows.usageKeyParsesRow.laid) #[.slice none 0 0] 8 (World.laidAll_os _ _ _)
      (World.shaped_of_ZipB (by kernel_rfl) (by kernel_rfl)) (by kernel_rfl) (by kernel_rfl) (by kernel_rfl)
      (by rw [MakeChecks.laidMetH_plain _ _ _ (by kernel_rfl)]; exact laidMet_laidAll _ (by kernel_rfl) (by kernel_rfl)))
    (fun W h => env_of h)
    (OpensA.cons open_bytes OpensA.nil) (fun a _ => l_keyparses a.1)
theorem usageKeyParses_row : Rows.UsageKeyParsesSaid :=
  OpenClaim.holds_of_wide 4 Tryd.f4 rfl rfl rfl rfl rfl rfl rfl ⟨rfl, rfl, rfl, rfl, rfl⟩ rfl rfl rfl rfl rfl (by kernel_rfl) Tryd.func4 (by kernel_rfl)
    (of_decide_eq_true (by kernel_rfl)) (by unfold Func.isWrapper; first | (rw [if_pos (by decide +kernel)]; kernel_rfl) | (rw [if_neg (by decide +kernel)]; exact ⟨rfl, rfl⟩))
    (fun os started H enc _ => usageKeyParses_lifted os started H enc)
theorem usageKeyParses_holds : Rows.UsageKeyParsesCardSaid :=
  Claim7.holds_tied_plain_at .later [] _ _ _ _ usageKeyParses_row (fun _ h => by cases h) (by kernel_rfl) (fun _ h => by cases h) usageKeyParses_row_tie rfl ⟨rfl, rfl⟩ (by kernel_rfl) rfl
    (fun f fn hf hfn => by
      obtain rfl : f = 4 := Option.some.inj ((show Tryd.prog.funcNamed Rows.usageKeyParsesRow.func = some 4 by kernel_rfl).symm.trans hf) |>.symm
      obtain rfl : fn = Tryd.f4 := (Option.some.inj (Tryd.func4.symm.trans hfn)).symm
      exact ⟨by kernel_rfl, fun j t ht => by
        rw [Tryd.params4] at ht
        have hm : t ∈ [24] := by simpa using Array.mem_of_getElem? ht
        have hall : ([24].all fun u => !Tryd.prog.wantsStandIn u) = true := by kernel_rfl
        exact (show Tryd.prog.wantsStandIn t = false by simpa using List.all_eq_true.1 hall t hm)⟩)
    (by kernel_rfl)
#print axioms usageKeyParses_holds
end Go.Proofs.YtbbakpmedpcigaaDoor
