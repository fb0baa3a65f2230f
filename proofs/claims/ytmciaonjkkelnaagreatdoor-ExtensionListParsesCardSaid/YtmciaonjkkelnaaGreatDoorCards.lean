/-
  DERIVED. GIVEN WITH THE SEED: THE CARDS: each row of YtmciaonjkkelnaaGreatDoorRows.lean that lists a variable, with what it lists TIED to the program's text (the seventh form; the later family's looks); each row that meets fmt, with fmt's text TOLD by the authors' own Lean function (tested against real Go, not proved from fmt's source: count such statements apart). THE CARD IS WHAT COUNTS. Prove the row's statement (the work); the ties are given (YtmciaonjkkelnaaGreatDoorTie.lean); close each card by the builder's one call (the guide's Derived/Test/ToyasCard.lean, 'card_holds'). Laid BY PROGRAM, IN A SANDBOX (cutbox-door.mjs). By AI agents, Wed Nov 11 2026. No macro, syntax, notation, axiom, sorry.
-/
import Derived.Test.YtmciaonjkkelnaaGreatDoorRows
import GoSem.ClaimSeven
namespace Go.Proofs.YtmciaonjkkelnaaGreatDoor
namespace Rows

/-- THE TIED CARD OF 'cretulalaw22.ExtensionCopies'. -/
def extensionCopiesCard : Claim7 := { stood := { row := extensionCopiesRow, standIns := [], harness := (true, "df5fb7f2791f31b497c1e38e7d861a5ad1ad1d3af61495292bce330e57fc9648"), looks := true }, kinds := [], alts := [], laidByText := true, laidKinds := [.data, .data, .data, .data, .sentinel, .sentinel, .pinned], laidTests := true, laidLooks := .later }
def ExtensionCopiesCardSaid : Prop := Claim7.holds Tryz.pinned (.plain (OpenSpec.ofChange extensionCopiesSpec)) extensionCopiesCard

/-- THE TIED CARD OF 'cretulalaw22.ExtensionMarshals'. -/
def extensionMarshalsCard : Claim7 := { stood := { row := extensionMarshalsRow, standIns := [], harness := (true, "df5fb7f2791f31b497c1e38e7d861a5ad1ad1d3af61495292bce330e57fc9648"), looks := true }, kinds := [], alts := [], laidByText := true, laidKinds := [.data, .data, .data, .data, .sentinel, .sentinel, .pinned], laidTests := true, laidLooks := .later }
def ExtensionMarshalsCardSaid : Prop := Claim7.holds Tryz.pinned (.plain (OpenSpec.ofChange extensionMarshalsSpec)) extensionMarshalsCard

/-- THE TIED CARD OF 'cretulalaw22.ExtensionParses'. -/
def extensionParsesCard : Claim7 := { stood := { row := extensionParsesRow, standIns := [], harness := (true, "df5fb7f2791f31b497c1e38e7d861a5ad1ad1d3af61495292bce330e57fc9648"), looks := true }, kinds := [], alts := [], laidByText := true, laidKinds := [.data, .data, .data, .data, .sentinel, .sentinel, .pinned], laidTests := true, laidLooks := .later }
def ExtensionParsesCardSaid : Prop := Claim7.holds Tryz.pinned (.plain (OpenSpec.ofChange extensionParsesSpec)) extensionParsesCard

/-- THE TIED CARD OF 'cretulalaw22.ExtensionListMarshals'. -/
def extensionListMarshalsCard : Claim7 := { stood := { row := extensionListMarshalsRow, standIns := [], harness := (true, "df5fb7f2791f31b497c1e38e7d861a5ad1ad1d3af61495292bce330e57fc9648"), looks := true }, kinds := [], alts := [], laidByText := true, laidKinds := [.data, .data, .data, .data, .sentinel, .sentinel, .pinned], laidTests := true, laidLooks := .later }
def ExtensionListMarshalsCardSaid : Prop := Claim7.holds Tryz.pinned (.plain (OpenSpec.ofChange extensionListMarshalsSpec)) extensionListMarshalsCard

/-- THE TIED CARD OF 'cretulalaw22.ExtensionListParses'. -/
def extensionListParsesCard : Claim7 := { stood := { row := extensionListParsesRow, standIns := [], harness := (true, "df5fb7f2791f31b497c1e38e7d861a5ad1ad1d3af61495292bce330e57fc9648"), looks := true }, kinds := [], alts := [], laidByText := true, laidKinds := [.data, .data, .data, .data, .sentinel, .sentinel, .pinned], laidTests := true, laidLooks := .later }
def ExtensionListParsesCardSaid : Prop := Claim7.holds Tryz.pinned (.plain (OpenSpec.ofChange extensionListParsesSpec)) extensionListParsesCard

/-- THE SECOND FORM's CARD OF 'cretulalaw22.ExtensionCopies'. -/
def extensionCopiesUptoCard : Claim7 := { stood := { row := extensionCopiesUptoRow, standIns := [], harness := (true, "df5fb7f2791f31b497c1e38e7d861a5ad1ad1d3af61495292bce330e57fc9648"), looks := true }, kinds := [], alts := [], laidByText := true, laidKinds := [.data, .data, .data, .data, .sentinel, .sentinel, .pinned], laidTests := true, laidLooks := .later }
def ExtensionCopiesUptoCardSaid : Prop := Claim7.holds Tryz.pinned (.plain (OpenSpec.upto extensionCopiesSpec)) extensionCopiesUptoCard

/-- THE SECOND FORM's CARD OF 'cretulalaw22.ExtensionMarshals'. -/
def extensionMarshalsUptoCard : Claim7 := { stood := { row := extensionMarshalsUptoRow, standIns := [], harness := (true, "df5fb7f2791f31b497c1e38e7d861a5ad1ad1d3af61495292bce330e57fc9648"), looks := true }, kinds := [], alts := [], laidByText := true, laidKinds := [.data, .data, .data, .data, .sentinel, .sentinel, .pinned], laidTests := true, laidLooks := .later }
def ExtensionMarshalsUptoCardSaid : Prop := Claim7.holds Tryz.pinned (.plain (OpenSpec.upto extensionMarshalsSpec)) extensionMarshalsUptoCard

/-- THE SECOND FORM's CARD OF 'cretulalaw22.ExtensionParses'. -/
def extensionParsesUptoCard : Claim7 := { stood := { row := extensionParsesUptoRow, standIns := [], harness := (true, "df5fb7f2791f31b497c1e38e7d861a5ad1ad1d3af61495292bce330e57fc9648"), looks := true }, kinds := [], alts := [], laidByText := true, laidKinds := [.data, .data, .data, .data, .sentinel, .sentinel, .pinned], laidTests := true, laidLooks := .later }
def ExtensionParsesUptoCardSaid : Prop := Claim7.holds Tryz.pinned (.plain (OpenSpec.upto extensionParsesSpec)) extensionParsesUptoCard

/-- THE SECOND FORM's CARD OF 'cretulalaw22.ExtensionListMarshals'. -/
def extensionListMarshalsUptoCard : Claim7 := { stood := { row := extensionListMarshalsUptoRow, standIns := [], harness := (true, "df5fb7f2791f31b497c1e38e7d861a5ad1ad1d3af61495292bce330e57fc9648"), looks := true }, kinds := [], alts := [], laidByText := true, laidKinds := [.data, .data, .data, .data, .sentinel, .sentinel, .pinned], laidTests := true, laidLooks := .later }
def ExtensionListMarshalsUptoCardSaid : Prop := Claim7.holds Tryz.pinned (.plain (OpenSpec.upto extensionListMarshalsSpec)) extensionListMarshalsUptoCard

/-- THE SECOND FORM's CARD OF 'cretulalaw22.ExtensionListParses'. -/
def extensionListParsesUptoCard : Claim7 := { stood := { row := extensionListParsesUptoRow, standIns := [], harness := (true, "df5fb7f2791f31b497c1e38e7d861a5ad1ad1d3af61495292bce330e57fc9648"), looks := true }, kinds := [], alts := [], laidByText := true, laidKinds := [.data, .data, .data, .data, .sentinel, .sentinel, .pinned], laidTests := true, laidLooks := .later }
def ExtensionListParsesUptoCardSaid : Prop := Claim7.holds Tryz.pinned (.plain (OpenSpec.upto extensionListParsesSpec)) extensionListParsesUptoCard
end Rows
end Go.Proofs.YtmciaonjkkelnaaGreatDoor
