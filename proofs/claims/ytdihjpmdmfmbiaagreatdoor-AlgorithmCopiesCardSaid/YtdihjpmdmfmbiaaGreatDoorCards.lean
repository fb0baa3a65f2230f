/-
  DERIVED. GIVEN WITH THE SEED: THE CARDS: each row of YtdihjpmdmfmbiaaGreatDoorRows.lean that lists a variable, with what it lists TIED to the program's text (the seventh form; the later family's looks); each row that meets fmt, with fmt's text TOLD by the authors' own Lean function (tested against real Go, not proved from fmt's source: count such statements apart). THE CARD IS WHAT COUNTS. Prove the row's statement (the work); the ties are given (YtdihjpmdmfmbiaaGreatDoorTie.lean); close each card by the builder's one call (the guide's Derived/Test/ToyasCard.lean, 'card_holds'). Laid BY PROGRAM, IN A SANDBOX (cutbox-door.mjs). By AI agents, Wed Nov 11 2026. No macro, syntax, notation, axiom, sorry.
-/
import Derived.Test.YtdihjpmdmfmbiaaGreatDoorRows
import GoSem.ClaimSeven
namespace Go.Proofs.YtdihjpmdmfmbiaaGreatDoor
namespace Rows

/-- THE TIED CARD OF 'cretulalaw10.AlgorithmMarshals'. -/
def algorithmMarshalsCard : Claim7 := { stood := { row := algorithmMarshalsRow, standIns := [], harness := (true, "01491c5c7f55b2ac42743da7227480d1cf8a75af4c0a7bb95a360e7c0c13cf3e"), looks := true }, kinds := [], alts := [], laidByText := true, laidKinds := [.data, .data, .data, .data, .sentinel, .sentinel, .pinned], laidTests := true, laidLooks := .later }
def AlgorithmMarshalsCardSaid : Prop := Claim7.holds Tryz.pinned (.plain (OpenSpec.ofChange algorithmMarshalsSpec)) algorithmMarshalsCard

/-- THE TIED CARD OF 'cretulalaw10.AlgorithmParses'. -/
def algorithmParsesCard : Claim7 := { stood := { row := algorithmParsesRow, standIns := [], harness := (true, "01491c5c7f55b2ac42743da7227480d1cf8a75af4c0a7bb95a360e7c0c13cf3e"), looks := true }, kinds := [], alts := [], laidByText := true, laidKinds := [.data, .data, .data, .data, .sentinel, .sentinel, .pinned], laidTests := true, laidLooks := .later }
def AlgorithmParsesCardSaid : Prop := Claim7.holds Tryz.pinned (.plain (OpenSpec.ofChange algorithmParsesSpec)) algorithmParsesCard

/-- THE TIED CARD OF 'cretulalaw10.AlgorithmChanges'. -/
def algorithmChangesCard : Claim7 := { stood := { row := algorithmChangesRow, standIns := [], harness := (true, "01491c5c7f55b2ac42743da7227480d1cf8a75af4c0a7bb95a360e7c0c13cf3e"), looks := true }, kinds := [], alts := [], laidByText := true, laidKinds := [.data, .data, .data, .data, .sentinel, .sentinel, .pinned], laidTests := true, laidLooks := .later }
def AlgorithmChangesCardSaid : Prop := Claim7.holds Tryz.pinned (.plain (OpenSpec.ofChange algorithmChangesSpec)) algorithmChangesCard

/-- THE TIED CARD OF 'cretulalaw10.AlgorithmEnds'. -/
def algorithmEndsCard : Claim7 := { stood := { row := algorithmEndsRow, standIns := [], harness := (true, "01491c5c7f55b2ac42743da7227480d1cf8a75af4c0a7bb95a360e7c0c13cf3e"), looks := true }, kinds := [], alts := [], laidByText := true, laidKinds := [.data, .data, .data, .data, .sentinel, .sentinel, .pinned], laidTests := true, laidLooks := .later }
def AlgorithmEndsCardSaid : Prop := Claim7.holds Tryz.pinned (.plain (OpenSpec.ofChange algorithmEndsSpec)) algorithmEndsCard

/-- THE TIED CARD OF 'cretulalaw10.AlgorithmCopies'. -/
def algorithmCopiesCard : Claim7 := { stood := { row := algorithmCopiesRow, standIns := [], harness := (true, "01491c5c7f55b2ac42743da7227480d1cf8a75af4c0a7bb95a360e7c0c13cf3e"), looks := true }, kinds := [], alts := [], laidByText := true, laidKinds := [.data, .data, .data, .data, .sentinel, .sentinel, .pinned], laidTests := true, laidLooks := .later }
def AlgorithmCopiesCardSaid : Prop := Claim7.holds Tryz.pinned (.plain (OpenSpec.ofChange algorithmCopiesSpec)) algorithmCopiesCard

/-- THE TIED CARD OF 'cretulalaw10.AlgorithmKeyMarshals'. -/
def algorithmKeyMarshalsCard : Claim7 := { stood := { row := algorithmKeyMarshalsRow, standIns := [], harness := (true, "01491c5c7f55b2ac42743da7227480d1cf8a75af4c0a7bb95a360e7c0c13cf3e"), looks := true }, kinds := [], alts := [], laidByText := true, laidKinds := [.data, .data, .data, .data, .sentinel, .sentinel, .pinned], laidTests := true, laidLooks := .later }
def AlgorithmKeyMarshalsCardSaid : Prop := Claim7.holds Tryz.pinned (.plain (OpenSpec.ofChange algorithmKeyMarshalsSpec)) algorithmKeyMarshalsCard

/-- THE TIED CARD OF 'cretulalaw10.AlgorithmKeyParses'. -/
def algorithmKeyParsesCard : Claim7 := { stood := { row := algorithmKeyParsesRow, standIns := [], harness := (true, "01491c5c7f55b2ac42743da7227480d1cf8a75af4c0a7bb95a360e7c0c13cf3e"), looks := true }, kinds := [], alts := [], laidByText := true, laidKinds := [.data, .data, .data, .data, .sentinel, .sentinel, .pinned], laidTests := true, laidLooks := .later }
def AlgorithmKeyParsesCardSaid : Prop := Claim7.holds Tryz.pinned (.plain (OpenSpec.ofChange algorithmKeyParsesSpec)) algorithmKeyParsesCard

/-- THE TIED CARD OF 'cretulalaw10.AlgorithmKeyChanges'. -/
def algorithmKeyChangesCard : Claim7 := { stood := { row := algorithmKeyChangesRow, standIns := [], harness := (true, "01491c5c7f55b2ac42743da7227480d1cf8a75af4c0a7bb95a360e7c0c13cf3e"), looks := true }, kinds := [], alts := [], laidByText := true, laidKinds := [.data, .data, .data, .data, .sentinel, .sentinel, .pinned], laidTests := true, laidLooks := .later }
def AlgorithmKeyChangesCardSaid : Prop := Claim7.holds Tryz.pinned (.plain (OpenSpec.ofChange algorithmKeyChangesSpec)) algorithmKeyChangesCard

/-- THE SECOND FORM's CARD OF 'cretulalaw10.AlgorithmMarshals'. -/
def algorithmMarshalsUptoCard : Claim7 := { stood := { row := algorithmMarshalsUptoRow, standIns := [], harness := (true, "01491c5c7f55b2ac42743da7227480d1cf8a75af4c0a7bb95a360e7c0c13cf3e"), looks := true }, kinds := [], alts := [], laidByText := true, laidKinds := [.data, .data, .data, .data, .sentinel, .sentinel, .pinned], laidTests := true, laidLooks := .later }
def AlgorithmMarshalsUptoCardSaid : Prop := Claim7.holds Tryz.pinned (.plain (OpenSpec.upto algorithmMarshalsSpec)) algorithmMarshalsUptoCard

/-- THE SECOND FORM's CARD OF 'cretulalaw10.AlgorithmParses'. -/
def algorithmParsesUptoCard : Claim7 := { stood := { row := algorithmParsesUptoRow, standIns := [], harness := (true, "01491c5c7f55b2ac42743da7227480d1cf8a75af4c0a7bb95a360e7c0c13cf3e"), looks := true }, kinds := [], alts := [], laidByText := true, laidKinds := [.data, .data, .data, .data, .sentinel, .sentinel, .pinned], laidTests := true, laidLooks := .later }
def AlgorithmParsesUptoCardSaid : Prop := Claim7.holds Tryz.pinned (.plain (OpenSpec.upto algorithmParsesSpec)) algorithmParsesUptoCard

/-- THE SECOND FORM's CARD OF 'cretulalaw10.AlgorithmChanges'. -/
def algorithmChangesUptoCard : Claim7 := { stood := { row := algorithmChangesUptoRow, standIns := [], harness := (true, "01491c5c7f55b2ac42743da7227480d1cf8a75af4c0a7bb95a360e7c0c13cf3e"), looks := true }, kinds := [], alts := [], laidByText := true, laidKinds := [.data, .data, .data, .data, .sentinel, .sentinel, .pinned], laidTests := true, laidLooks := .later }
def AlgorithmChangesUptoCardSaid : Prop := Claim7.holds Tryz.pinned (.plain (OpenSpec.upto algorithmChangesSpec)) algorithmChangesUptoCard

/-- THE SECOND FORM's CARD OF 'cretulalaw10.AlgorithmEnds'. -/
def algorithmEndsUptoCard : Claim7 := { stood := { row := algorithmEndsUptoRow, standIns := [], harness := (true, "01491c5c7f55b2ac42743da7227480d1cf8a75af4c0a7bb95a360e7c0c13cf3e"), looks := true }, kinds := [], alts := [], laidByText := true, laidKinds := [.data, .data, .data, .data, .sentinel, .sentinel, .pinned], laidTests := true, laidLooks := .later }
def AlgorithmEndsUptoCardSaid : Prop := Claim7.holds Tryz.pinned (.plain (OpenSpec.upto algorithmEndsSpec)) algorithmEndsUptoCard

/-- THE SECOND FORM's CARD OF 'cretulalaw10.AlgorithmCopies'. -/
def algorithmCopiesUptoCard : Claim7 := { stood := { row := algorithmCopiesUptoRow, standIns := [], harness := (true, "01491c5c7f55b2ac42743da7227480d1cf8a75af4c0a7bb95a360e7c0c13cf3e"), looks := true }, kinds := [], alts := [], laidByText := true, laidKinds := [.data, .data, .data, .data, .sentinel, .sentinel, .pinned], laidTests := true, laidLooks := .later }
def AlgorithmCopiesUptoCardSaid : Prop := Claim7.holds Tryz.pinned (.plain (OpenSpec.upto algorithmCopiesSpec)) algorithmCopiesUptoCard

/-- THE SECOND FORM's CARD OF 'cretulalaw10.AlgorithmKeyMarshals'. -/
def algorithmKeyMarshalsUptoCard : Claim7 := { stood := { row := algorithmKeyMarshalsUptoRow, standIns := [], harness := (true, "01491c5c7f55b2ac42743da7227480d1cf8a75af4c0a7bb95a360e7c0c13cf3e"), looks := true }, kinds := [], alts := [], laidByText := true, laidKinds := [.data, .data, .data, .data, .sentinel, .sentinel, .pinned], laidTests := true, laidLooks := .later }
def AlgorithmKeyMarshalsUptoCardSaid : Prop := Claim7.holds Tryz.pinned (.plain (OpenSpec.upto algorithmKeyMarshalsSpec)) algorithmKeyMarshalsUptoCard

/-- THE SECOND FORM's CARD OF 'cretulalaw10.AlgorithmKeyParses'. -/
def algorithmKeyParsesUptoCard : Claim7 := { stood := { row := algorithmKeyParsesUptoRow, standIns := [], harness := (true, "01491c5c7f55b2ac42743da7227480d1cf8a75af4c0a7bb95a360e7c0c13cf3e"), looks := true }, kinds := [], alts := [], laidByText := true, laidKinds := [.data, .data, .data, .data, .sentinel, .sentinel, .pinned], laidTests := true, laidLooks := .later }
def AlgorithmKeyParsesUptoCardSaid : Prop := Claim7.holds Tryz.pinned (.plain (OpenSpec.upto algorithmKeyParsesSpec)) algorithmKeyParsesUptoCard

/-- THE SECOND FORM's CARD OF 'cretulalaw10.AlgorithmKeyChanges'. -/
def algorithmKeyChangesUptoCard : Claim7 := { stood := { row := algorithmKeyChangesUptoRow, standIns := [], harness := (true, "01491c5c7f55b2ac42743da7227480d1cf8a75af4c0a7bb95a360e7c0c13cf3e"), looks := true }, kinds := [], alts := [], laidByText := true, laidKinds := [.data, .data, .data, .data, .sentinel, .sentinel, .pinned], laidTests := true, laidLooks := .later }
def AlgorithmKeyChangesUptoCardSaid : Prop := Claim7.holds Tryz.pinned (.plain (OpenSpec.upto algorithmKeyChangesSpec)) algorithmKeyChangesUptoCard
end Rows
end Go.Proofs.YtdihjpmdmfmbiaaGreatDoor
