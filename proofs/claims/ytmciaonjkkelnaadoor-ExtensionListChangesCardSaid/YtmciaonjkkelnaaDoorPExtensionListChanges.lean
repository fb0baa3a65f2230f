/- The law ExtensionListChanges holds for every input: the given statement (the tied card) out of the contract on data. Condition: the listed variables hold what the program's text lays. -/
import Derived.Test.YtmciaonjkkelnaaDoorK5
import Derived.Test.YtmciaonjkkelnaaDoorTie
import Derived.Test.YtmciaonjkkelnaaDoorCards
import Derived.ProofKit
import Derived.SevenTiedAt
import Derived.Stop.Joined
namespace Go.Proofs.YtmciaonjkkelnaaDoor
open Go.Am Go.ChangeShapes Go.WideShapes Go.ChangeAt Go.RowKit
set_option linter.unusedSimpArgs false
set_option linter.unusedVariables false

set_option maxRecDepth 100000 in
theorem extensionListChanges_lifted (os : Os) (started : os.Started) (H : Type) (enc : TypeId × Value → H) :
    ReturnsInHanded {} Tryd.checked os 8 .any (fun w args => (Rows.extensionListChangesSpec.pre enc Tryd.prog Tryd.f8 Rows.extensionListChangesRow.domain false w args ∧ laidMetH Tryd.prog Rows.extensionListChangesRow.laid w) ∧ sizedMet enc Tryd.prog Tryd.f8 (OpenSpec.ofChange Rows.extensionListChangesSpec) false w args) (Rows.extensionListChangesSpec.post enc Tryd.prog Tryd.f8 false true false false) :=
  lifted_laidQ (C := Tryd.checked) own started (by kernel_rfl) Tryd.func8 laidOut (read_all (by kernel_rfl)) rfl Tryd.underlying4 rfl
    (fun vs w ds ps h => by
      rw [Tryd.params8] at h
      obtain ⟨_, _, _, _, _, _, rfl, rfl, _, _, r0⟩ := trodAll_cons h
      obtain ⟨_, _, _, _, _, _, rfl, rfl, _, _, r1⟩ := trodAll_cons r0
      obtain ⟨_, _, _, _, _, _, rfl, rfl, _, _, r2⟩ := trodAll_cons r1
      obtain ⟨rfl, rfl, rfl⟩ := trodAll_nil r2
      rfl)
    (ChangeSpec.witness_shaped (enc := enc) (C := Tryd.checked) (os := os) (X := fun w _ => laidMetH Tryd.prog Rows.extensionListChangesRow.laid w) false (World.laidAll Tryd.prog os Rows.extensionListChangesRow.laid) #[.slice none 0 0, .int .u16 0, .int .u8 0] 8 (World.laidAll_os _ _ _)
      (World.shaped_of_ZipB (by kernel_rfl) (by kernel_rfl)) (by kernel_rfl) (by kernel_rfl) (by kernel_rfl)
      (by rw [MakeChecks.laidMetH_plain _ _ _ (by kernel_rfl)]; exact laidMet_laidAll _ (by kernel_rfl) (by kernel_rfl)))
    (fun W h => env_of h)
    (OpensQA.cons open_exts (OpensQA.cons (.of open_u16) (OpensQA.cons (.of open_u8) OpensQA.nil))) (fun a h => l_xlchanges a.1 h.1 a.2.1 a.2.2.1 h.2.1.1 h.2.1.2)
theorem extensionListChanges_row : Rows.ExtensionListChangesSaid :=
  OpenClaim.holds_of_wide 8 Tryd.f8 rfl rfl rfl rfl rfl rfl rfl ⟨rfl, rfl, rfl, rfl, rfl⟩ rfl rfl rfl rfl rfl (by kernel_rfl) Tryd.func8 (by kernel_rfl)
    (of_decide_eq_true (by kernel_rfl)) (by unfold Func.isWrapper; first | (rw [if_pos (by decide +kernel)]; kernel_rfl) | (rw [if_neg (by decide +kernel)]; exact ⟨rfl, rfl⟩))
    (fun os started H enc _ => extensionListChanges_lifted os started H enc)
theorem extensionListChanges_holds : Rows.ExtensionListChangesCardSaid :=
  Claim7.holds_tied_plain_at .later [] _ _ _ _ extensionListChanges_row (fun _ h => by cases h) (by kernel_rfl) (fun _ h => by cases h) extensionListChanges_row_tie rfl ⟨rfl, rfl⟩ (by kernel_rfl) rfl
    (fun f fn hf hfn => by
      obtain rfl : f = 8 := Option.some.inj ((show Tryd.prog.funcNamed Rows.extensionListChangesRow.func = some 8 by kernel_rfl).symm.trans hf) |>.symm
      obtain rfl : fn = Tryd.f8 := (Option.some.inj (Tryd.func8.symm.trans hfn)).symm
      exact ⟨by kernel_rfl, fun j t ht => by
        rw [Tryd.params8] at ht
        have hm : t ∈ [22, 37, 5] := by simpa using Array.mem_of_getElem? ht
        have hall : ([22, 37, 5].all fun u => !Tryd.prog.wantsStandIn u) = true := by kernel_rfl
        exact (show Tryd.prog.wantsStandIn t = false by simpa using List.all_eq_true.1 hall t hm)⟩)
    (by kernel_rfl)
#print axioms extensionListChanges_holds
end Go.Proofs.YtmciaonjkkelnaaDoor
