/-
  DERIVED. GIVEN WITH THE SEED: THE CARDS: each row of YtmciaonjkkelnaaDoorRows.lean that lists a variable, with what it lists TIED to the program's text (the seventh form; the later family's looks); each row that meets fmt, with fmt's text TOLD by the authors' own Lean function (tested against real Go, not proved from fmt's source: count such statements apart). THE CARD IS WHAT COUNTS. Prove the row's statement (the work); the ties are given (YtmciaonjkkelnaaDoorTie.lean); close each card by the builder's one call (the guide's Derived/Test/ToyasCard.lean, 'card_holds'). Laid BY PROGRAM, IN A SANDBOX (cutbox-door.mjs). By AI agents, Wed Nov 11 2026. No macro, syntax, notation, axiom, sorry.
-/
import Derived.Test.YtmciaonjkkelnaaDoorRows
import GoSem.ClaimSeven
namespace Go.Proofs.YtmciaonjkkelnaaDoor
namespace Rows

/-- THE TIED CARD OF 'cretulalaw22.ExtensionFinds'. -/
def extensionFindsCard : Claim7 := { stood := { row := extensionFindsRow, standIns := [], harness := (true, "556808b5918b974d61277bfff89f007d5b2d481587d62daa88c6ea3c3dc7a0a8"), looks := true }, kinds := [], alts := [], laidByText := true, laidKinds := [.data, .data, .data, .data, .sentinel, .sentinel, .pinned], laidTests := true, laidLooks := .later }
def ExtensionFindsCardSaid : Prop := Claim7.holds Tryd.pinned (.plain (OpenSpec.ofChange extensionFindsSpec)) extensionFindsCard

/-- THE TIED CARD OF 'cretulalaw22.ExtensionKeeps'. -/
def extensionKeepsCard : Claim7 := { stood := { row := extensionKeepsRow, standIns := [], harness := (true, "556808b5918b974d61277bfff89f007d5b2d481587d62daa88c6ea3c3dc7a0a8"), looks := true }, kinds := [], alts := [], laidByText := true, laidKinds := [.data, .data, .data, .data, .sentinel, .sentinel, .pinned], laidTests := true, laidLooks := .later }
def ExtensionKeepsCardSaid : Prop := Claim7.holds Tryd.pinned (.plain (OpenSpec.ofChange extensionKeepsSpec)) extensionKeepsCard

/-- THE TIED CARD OF 'cretulalaw22.ExtensionWith'. -/
def extensionWithCard : Claim7 := { stood := { row := extensionWithRow, standIns := [], harness := (true, "556808b5918b974d61277bfff89f007d5b2d481587d62daa88c6ea3c3dc7a0a8"), looks := true }, kinds := [], alts := [], laidByText := true, laidKinds := [.data, .data, .data, .data, .sentinel, .sentinel, .pinned], laidTests := true, laidLooks := .later }
def ExtensionWithCardSaid : Prop := Claim7.holds Tryd.pinned (.plain (OpenSpec.ofChange extensionWithSpec)) extensionWithCard

/-- THE TIED CARD OF 'cretulalaw22.ExtensionChanges'. -/
def extensionChangesCard : Claim7 := { stood := { row := extensionChangesRow, standIns := [], harness := (true, "556808b5918b974d61277bfff89f007d5b2d481587d62daa88c6ea3c3dc7a0a8"), looks := true }, kinds := [], alts := [], laidByText := true, laidKinds := [.data, .data, .data, .data, .sentinel, .sentinel, .pinned], laidTests := true, laidLooks := .later }
def ExtensionChangesCardSaid : Prop := Claim7.holds Tryd.pinned (.plain (OpenSpec.ofChange extensionChangesSpec)) extensionChangesCard

/-- THE TIED CARD OF 'cretulalaw22.ExtensionEnds'. -/
def extensionEndsCard : Claim7 := { stood := { row := extensionEndsRow, standIns := [], harness := (true, "556808b5918b974d61277bfff89f007d5b2d481587d62daa88c6ea3c3dc7a0a8"), looks := true }, kinds := [], alts := [], laidByText := true, laidKinds := [.data, .data, .data, .data, .sentinel, .sentinel, .pinned], laidTests := true, laidLooks := .later }
def ExtensionEndsCardSaid : Prop := Claim7.holds Tryd.pinned (.plain (OpenSpec.ofChange extensionEndsSpec)) extensionEndsCard

/-- THE TIED CARD OF 'cretulalaw22.ExtensionListChanges'. -/
def extensionListChangesCard : Claim7 := { stood := { row := extensionListChangesRow, standIns := [], harness := (true, "556808b5918b974d61277bfff89f007d5b2d481587d62daa88c6ea3c3dc7a0a8"), looks := true }, kinds := [], alts := [], laidByText := true, laidKinds := [.data, .data, .data, .data, .sentinel, .sentinel, .pinned], laidTests := true, laidLooks := .later }
def ExtensionListChangesCardSaid : Prop := Claim7.holds Tryd.pinned (.plain (OpenSpec.ofChange extensionListChangesSpec)) extensionListChangesCard

/-- THE SECOND FORM's CARD OF 'cretulalaw22.ExtensionFinds'. -/
def extensionFindsUptoCard : Claim7 := { stood := { row := extensionFindsUptoRow, standIns := [], harness := (true, "556808b5918b974d61277bfff89f007d5b2d481587d62daa88c6ea3c3dc7a0a8"), looks := true }, kinds := [], alts := [], laidByText := true, laidKinds := [.data, .data, .data, .data, .sentinel, .sentinel, .pinned], laidTests := true, laidLooks := .later }
def ExtensionFindsUptoCardSaid : Prop := Claim7.holds Tryd.pinned (.plain (OpenSpec.upto extensionFindsSpec)) extensionFindsUptoCard

/-- THE SECOND FORM's CARD OF 'cretulalaw22.ExtensionKeeps'. -/
def extensionKeepsUptoCard : Claim7 := { stood := { row := extensionKeepsUptoRow, standIns := [], harness := (true, "556808b5918b974d61277bfff89f007d5b2d481587d62daa88c6ea3c3dc7a0a8"), looks := true }, kinds := [], alts := [], laidByText := true, laidKinds := [.data, .data, .data, .data, .sentinel, .sentinel, .pinned], laidTests := true, laidLooks := .later }
def ExtensionKeepsUptoCardSaid : Prop := Claim7.holds Tryd.pinned (.plain (OpenSpec.upto extensionKeepsSpec)) extensionKeepsUptoCard

/-- THE SECOND FORM's CARD OF 'cretulalaw22.ExtensionWith'. -/
def extensionWithUptoCard : Claim7 := { stood := { row := extensionWithUptoRow, standIns := [], harness := (true, "556808b5918b974d61277bfff89f007d5b2d481587d62daa88c6ea3c3dc7a0a8"), looks := true }, kinds := [], alts := [], laidByText := true, laidKinds := [.data, .data, .data, .data, .sentinel, .sentinel, .pinned], laidTests := true, laidLooks := .later }
def ExtensionWithUptoCardSaid : Prop := Claim7.holds Tryd.pinned (.plain (OpenSpec.upto extensionWithSpec)) extensionWithUptoCard

/-- THE SECOND FORM's CARD OF 'cretulalaw22.ExtensionChanges'. -/
def extensionChangesUptoCard : Claim7 := { stood := { row := extensionChangesUptoRow, standIns := [], harness := (true, "556808b5918b974d61277bfff89f007d5b2d481587d62daa88c6ea3c3dc7a0a8"), looks := true }, kinds := [], alts := [], laidByText := true, laidKinds := [.data, .data, .data, .data, .sentinel, .sentinel, .pinned], laidTests := true, laidLooks := .later }
def ExtensionChangesUptoCardSaid : Prop := Claim7.holds Tryd.pinned (.plain (OpenSpec.upto extensionChangesSpec)) extensionChangesUptoCard

/-- THE SECOND FORM's CARD OF 'cretulalaw22.ExtensionEnds'. -/
def extensionEndsUptoCard : Claim7 := { stood := { row := extensionEndsUptoRow, standIns := [], harness := (true, "556808b5918b974d61277bfff89f007d5b2d481587d62daa88c6ea3c3dc7a0a8"), looks := true }, kinds := [], alts := [], laidByText := true, laidKinds := [.data, .data, .data, .data, .sentinel, .sentinel, .pinned], laidTests := true, laidLooks := .later }
def ExtensionEndsUptoCardSaid : Prop := Claim7.holds Tryd.pinned (.plain (OpenSpec.upto extensionEndsSpec)) extensionEndsUptoCard

/-- THE SECOND FORM's CARD OF 'cretulalaw22.ExtensionListChanges'. -/
def extensionListChangesUptoCard : Claim7 := { stood := { row := extensionListChangesUptoRow, standIns := [], harness := (true, "556808b5918b974d61277bfff89f007d5b2d481587d62daa88c6ea3c3dc7a0a8"), looks := true }, kinds := [], alts := [], laidByText := true, laidKinds := [.data, .data, .data, .data, .sentinel, .sentinel, .pinned], laidTests := true, laidLooks := .later }
def ExtensionListChangesUptoCardSaid : Prop := Claim7.holds Tryd.pinned (.plain (OpenSpec.upto extensionListChangesSpec)) extensionListChangesUptoCard
end Rows
end Go.Proofs.YtmciaonjkkelnaaDoor
