/- The law ExtensionKeeps holds for every input: the given statement (the tied card) out of the contract on data. Condition: the listed variables hold what the program's text lays. -/
import Derived.Test.YtohabohifjadgaaDoorK3
import Derived.Test.YtohabohifjadgaaDoorTie
import Derived.Test.YtohabohifjadgaaDoorCards
import Derived.ProofKit
import Derived.SevenTiedAt
import Derived.Stop.Joined
namespace Go.Proofs.YtohabohifjadgaaDoor
open Go.Am Go.ChangeShapes Go.WideShapes Go.ChangeAt Go.RowKit
set_option linter.unusedSimpArgs false
set_option linter.unusedVariables false

set_option maxRecDepth 100000 in
theorem extensionKeeps_lifted (os : Os) (started : os.Started) (H : Type) (enc : TypeId × Value → H) :
    ReturnsInHanded {} Tryd.checked os 3 .any (fun w args => (Rows.extensionKeepsSpec.pre enc Tryd.prog Tryd.f3 Rows.extensionKeepsRow.domain false w args ∧ laidMetH Tryd.prog Rows.extensionKeepsRow.laid w) ∧ sizedMet enc Tryd.prog Tryd.f3 (OpenSpec.ofChange Rows.extensionKeepsSpec) false w args) (Rows.extensionKeepsSpec.post enc Tryd.prog Tryd.f3 false true false false) :=
  lifted_laidQ (C := Tryd.checked) own started (by kernel_rfl) Tryd.func3 laidOut (read_all (by kernel_rfl)) rfl Tryd.underlying4 rfl
    (fun vs w ds ps h => by
      rw [Tryd.params3] at h
      obtain ⟨_, _, _, _, _, _, rfl, rfl, _, _, r0⟩ := trodAll_cons h
      obtain ⟨_, _, _, _, _, _, rfl, rfl, _, _, r1⟩ := trodAll_cons r0
      obtain ⟨rfl, rfl, rfl⟩ := trodAll_nil r1
      rfl)
    (ChangeSpec.witness_shaped (enc := enc) (C := Tryd.checked) (os := os) (X := fun w _ => laidMetH Tryd.prog Rows.extensionKeepsRow.laid w) false (World.laidAll Tryd.prog os Rows.extensionKeepsRow.laid) #[.slice none 0 0, .agg #[.string ⟨#[]⟩, .bool false, .slice none 0 0]] 8 (World.laidAll_os _ _ _)
      (World.shaped_of_ZipB (by kernel_rfl) (by kernel_rfl)) (by kernel_rfl) (by kernel_rfl) (by kernel_rfl)
      (by rw [MakeChecks.laidMetH_plain _ _ _ (by kernel_rfl)]; exact laidMet_laidAll _ (by kernel_rfl) (by kernel_rfl)))
    (fun W h => env_of h)
    (OpensQA.cons open_exts (OpensQA.cons open_ext OpensQA.nil)) (fun a h => l_xkeeps a.1 h.1 a.2.1)
theorem extensionKeeps_row : Rows.ExtensionKeepsSaid :=
  OpenClaim.holds_of_wide 3 Tryd.f3 rfl rfl rfl rfl rfl rfl rfl ⟨rfl, rfl, rfl, rfl, rfl⟩ rfl rfl rfl rfl rfl (by kernel_rfl) Tryd.func3 (by kernel_rfl)
    (of_decide_eq_true (by kernel_rfl)) (by unfold Func.isWrapper; first | (rw [if_pos (by decide +kernel)]; kernel_rfl) | (rw [if_neg (by decide +kernel)]; exact ⟨rfl, rfl⟩))
    (fun os started H enc _ => extensionKeeps_lifted os started H enc)
theorem extensionKeeps_holds : Rows.ExtensionKeepsCardSaid :=
  Claim7.holds_tied_plain_at .later [] _ _ _ _ extensionKeeps_row (fun _ h => by cases h) (by kernel_rfl) (fun _ h => by cases h) extensionKeeps_row_tie rfl ⟨rfl, rfl⟩ (by kernel_rfl) rfl
    (fun f fn hf hfn => by
      obtain rfl : f = 3 := Option.some.inj ((show Tryd.prog.funcNamed Rows.extensionKeepsRow.func = some 3 by kernel_rfl).symm.trans hf) |>.symm
      obtain rfl : fn = Tryd.f3 := (Option.some.inj (Tryd.func3.symm.trans hfn)).symm
      exact ⟨by kernel_rfl, fun j t ht => by
        rw [Tryd.params3] at ht
        have hm : t ∈ [22, 25] := by simpa using Array.mem_of_getElem? ht
        have hall : ([22, 25].all fun u => !Tryd.prog.wantsStandIn u) = true := by kernel_rfl
        exact (show Tryd.prog.wantsStandIn t = false by simpa using List.all_eq_true.1 hall t hm)⟩)
    (by kernel_rfl)
#print axioms extensionKeeps_holds
end Go.Proofs.YtohabohifjadgaaDoor
