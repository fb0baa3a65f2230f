/- The law ExtensionEnds holds for every input: the given statement (the tied card) out of the contract on data. Condition: the listed variables hold what the program's text lays. -/
import Derived.Test.YtmciaonjkkelnaaDoorK5
import Derived.Test.YtmciaonjkkelnaaDoorTie
import Derived.Test.YtmciaonjkkelnaaDoorCards
import Derived.ProofKit
import Derived.SevenTiedAt
import Derived.Stop.Joined
namespace Go.Proofs.YtmciaonjkkelnaaDoor
open Go.Am Go.ChangeShapes Go.WideShapes Go.ChangeAt Go.RowKit
set_option linter.unusedSimpArgs false
set_option linter.unusedVariables false

set_option maxRecDepth 100000 in
theorem extensionEnds_lifted (os : Os) (started : os.Started) (H : Type) (enc : TypeId × Value → H) :
    ReturnsInHanded {} Tryd.checked os 7 .any (fun w args => (Rows.extensionEndsSpec.pre enc Tryd.prog Tryd.f7 Rows.extensionEndsRow.domain false w args ∧ laidMetH Tryd.prog Rows.extensionEndsRow.laid w) ∧ sizedMet enc Tryd.prog Tryd.f7 (OpenSpec.ofChange Rows.extensionEndsSpec) false w args) (Rows.extensionEndsSpec.post enc Tryd.prog Tryd.f7 false true false false) :=
  lifted_laidQ (C := Tryd.checked) own started (by kernel_rfl) Tryd.func7 laidOut (read_all (by kernel_rfl)) rfl Tryd.underlying4 rfl
    (fun vs w ds ps h => by
      rw [Tryd.params7] at h
      obtain ⟨_, _, _, _, _, _, rfl, rfl, _, _, r0⟩ := trodAll_cons h
      obtain ⟨_, _, _, _, _, _, rfl, rfl, _, _, r1⟩ := trodAll_cons r0
      obtain ⟨_, _, _, _, _, _, rfl, rfl, _, _, r2⟩ := trodAll_cons r1
      obtain ⟨rfl, rfl, rfl⟩ := trodAll_nil r2
      rfl)
    (ChangeSpec.witness_shaped (enc := enc) (C := Tryd.checked) (os := os) (X := fun w _ => laidMetH Tryd.prog Rows.extensionEndsRow.laid w) false (World.laidAll Tryd.prog os Rows.extensionEndsRow.laid) #[.agg #[.string ⟨#[]⟩, .bool false, .slice none 0 0], .int .u16 0, .slice none 0 0] 8 (World.laidAll_os _ _ _)
      (World.shaped_of_ZipB (by kernel_rfl) (by kernel_rfl)) (by kernel_rfl) (by kernel_rfl) (by kernel_rfl)
      (by rw [MakeChecks.laidMetH_plain _ _ _ (by kernel_rfl)]; exact laidMet_laidAll _ (by kernel_rfl) (by kernel_rfl)))
    (fun W h => env_of h)
    (OpensQA.cons open_ext (OpensQA.cons (.of open_u16) (OpensQA.cons (.of open_bytes) OpensQA.nil))) (fun a h => l_xends a.1 a.2.1 a.2.2.1 h.2.1.1 h.2.1.2)
theorem extensionEnds_row : Rows.ExtensionEndsSaid :=
  OpenClaim.holds_of_wide 7 Tryd.f7 rfl rfl rfl rfl rfl rfl rfl ⟨rfl, rfl, rfl, rfl, rfl⟩ rfl rfl rfl rfl rfl (by kernel_rfl) Tryd.func7 (by kernel_rfl)
    (of_decide_eq_true (by kernel_rfl)) (by unfold Func.isWrapper; first | (rw [if_pos (by decide +kernel)]; kernel_rfl) | (rw [if_neg (by decide +kernel)]; exact ⟨rfl, rfl⟩))
    (fun os started H enc _ => extensionEnds_lifted os started H enc)
theorem extensionEnds_holds : Rows.ExtensionEndsCardSaid :=
  Claim7.holds_tied_plain_at .later [] _ _ _ _ extensionEnds_row (fun _ h => by cases h) (by kernel_rfl) (fun _ h => by cases h) extensionEnds_row_tie rfl ⟨rfl, rfl⟩ (by kernel_rfl) rfl
    (fun f fn hf hfn => by
      obtain rfl : f = 7 := Option.some.inj ((show Tryd.prog.funcNamed Rows.extensionEndsRow.func = some 7 by kernel_rfl).symm.trans hf) |>.symm
      obtain rfl : fn = Tryd.f7 := (Option.some.inj (Tryd.func7.symm.trans hfn)).symm
      exact ⟨by kernel_rfl, fun j t ht => by
        rw [Tryd.params7] at ht
        have hm : t ∈ [27, 37, 25] := by simpa using Array.mem_of_getElem? ht
        have hall : ([27, 37, 25].all fun u => !Tryd.prog.wantsStandIn u) = true := by kernel_rfl
        exact (show Tryd.prog.wantsStandIn t = false by simpa using List.all_eq_true.1 hall t hm)⟩)
    (by kernel_rfl)
#print axioms extensionEnds_holds
end Go.Proofs.YtmciaonjkkelnaaDoor
