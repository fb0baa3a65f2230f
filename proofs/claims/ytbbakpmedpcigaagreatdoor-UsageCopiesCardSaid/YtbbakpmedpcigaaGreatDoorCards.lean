/-
  DERIVED. GIVEN WITH THE SEED: THE CARDS: each row of YtbbakpmedpcigaaGreatDoorRows.lean that lists a variable, with what it lists TIED to the program's text (the seventh form; the later family's looks); each row that meets fmt, with fmt's text TOLD by the authors' own Lean function (tested against real Go, not proved from fmt's source: count such statements apart). THE CARD IS WHAT COUNTS. Prove the row's statement (the work); the ties are given (YtbbakpmedpcigaaGreatDoorTie.lean); close each card by the builder's one call (the guide's Derived/Test/ToyasCard.lean, 'card_holds'). Laid BY PROGRAM, IN A SANDBOX (cutbox-door.mjs). By AI agents, Wed Nov 11 2026. No macro, syntax, notation, axiom, sorry.
-/
import Derived.Test.YtbbakpmedpcigaaGreatDoorRows
import GoSem.ClaimSeven
namespace Go.Proofs.YtbbakpmedpcigaaGreatDoor
namespace Rows

/-- THE TIED CARD OF 'cretulalaw14.UsageMarshals'. -/
def usageMarshalsCard : Claim7 := { stood := { row := usageMarshalsRow, standIns := [], harness := (true, "031a415a85edf5255007be8a9e200edccffd7788e3dd3ab08a964639297959e1"), looks := true }, kinds := [], alts := [], laidByText := true, laidKinds := [.data, .data, .data, .data, .sentinel, .sentinel, .pinned], laidTests := true, laidLooks := .later }
def UsageMarshalsCardSaid : Prop := Claim7.holds Tryz.pinned (.plain (OpenSpec.ofChange usageMarshalsSpec)) usageMarshalsCard

/-- THE TIED CARD OF 'cretulalaw14.UsageParses'. -/
def usageParsesCard : Claim7 := { stood := { row := usageParsesRow, standIns := [], harness := (true, "031a415a85edf5255007be8a9e200edccffd7788e3dd3ab08a964639297959e1"), looks := true }, kinds := [], alts := [], laidByText := true, laidKinds := [.data, .data, .data, .data, .sentinel, .sentinel, .pinned], laidTests := true, laidLooks := .later }
def UsageParsesCardSaid : Prop := Claim7.holds Tryz.pinned (.plain (OpenSpec.ofChange usageParsesSpec)) usageParsesCard

/-- THE TIED CARD OF 'cretulalaw14.UsageChanges'. -/
def usageChangesCard : Claim7 := { stood := { row := usageChangesRow, standIns := [], harness := (true, "031a415a85edf5255007be8a9e200edccffd7788e3dd3ab08a964639297959e1"), looks := true }, kinds := [], alts := [], laidByText := true, laidKinds := [.data, .data, .data, .data, .sentinel, .sentinel, .pinned], laidTests := true, laidLooks := .later }
def UsageChangesCardSaid : Prop := Claim7.holds Tryz.pinned (.plain (OpenSpec.ofChange usageChangesSpec)) usageChangesCard

/-- THE TIED CARD OF 'cretulalaw14.UsageEnds'. -/
def usageEndsCard : Claim7 := { stood := { row := usageEndsRow, standIns := [], harness := (true, "031a415a85edf5255007be8a9e200edccffd7788e3dd3ab08a964639297959e1"), looks := true }, kinds := [], alts := [], laidByText := true, laidKinds := [.data, .data, .data, .data, .sentinel, .sentinel, .pinned], laidTests := true, laidLooks := .later }
def UsageEndsCardSaid : Prop := Claim7.holds Tryz.pinned (.plain (OpenSpec.ofChange usageEndsSpec)) usageEndsCard

/-- THE TIED CARD OF 'cretulalaw14.UsageCopies'. -/
def usageCopiesCard : Claim7 := { stood := { row := usageCopiesRow, standIns := [], harness := (true, "031a415a85edf5255007be8a9e200edccffd7788e3dd3ab08a964639297959e1"), looks := true }, kinds := [], alts := [], laidByText := true, laidKinds := [.data, .data, .data, .data, .sentinel, .sentinel, .pinned], laidTests := true, laidLooks := .later }
def UsageCopiesCardSaid : Prop := Claim7.holds Tryz.pinned (.plain (OpenSpec.ofChange usageCopiesSpec)) usageCopiesCard

/-- THE SECOND FORM's CARD OF 'cretulalaw14.UsageMarshals'. -/
def usageMarshalsUptoCard : Claim7 := { stood := { row := usageMarshalsUptoRow, standIns := [], harness := (true, "031a415a85edf5255007be8a9e200edccffd7788e3dd3ab08a964639297959e1"), looks := true }, kinds := [], alts := [], laidByText := true, laidKinds := [.data, .data, .data, .data, .sentinel, .sentinel, .pinned], laidTests := true, laidLooks := .later }
def UsageMarshalsUptoCardSaid : Prop := Claim7.holds Tryz.pinned (.plain (OpenSpec.upto usageMarshalsSpec)) usageMarshalsUptoCard

/-- THE SECOND FORM's CARD OF 'cretulalaw14.UsageParses'. -/
def usageParsesUptoCard : Claim7 := { stood := { row := usageParsesUptoRow, standIns := [], harness := (true, "031a415a85edf5255007be8a9e200edccffd7788e3dd3ab08a964639297959e1"), looks := true }, kinds := [], alts := [], laidByText := true, laidKinds := [.data, .data, .data, .data, .sentinel, .sentinel, .pinned], laidTests := true, laidLooks := .later }
def UsageParsesUptoCardSaid : Prop := Claim7.holds Tryz.pinned (.plain (OpenSpec.upto usageParsesSpec)) usageParsesUptoCard

/-- THE SECOND FORM's CARD OF 'cretulalaw14.UsageChanges'. -/
def usageChangesUptoCard : Claim7 := { stood := { row := usageChangesUptoRow, standIns := [], harness := (true, "031a415a85edf5255007be8a9e200edccffd7788e3dd3ab08a964639297959e1"), looks := true }, kinds := [], alts := [], laidByText := true, laidKinds := [.data, .data, .data, .data, .sentinel, .sentinel, .pinned], laidTests := true, laidLooks := .later }
def UsageChangesUptoCardSaid : Prop := Claim7.holds Tryz.pinned (.plain (OpenSpec.upto usageChangesSpec)) usageChangesUptoCard

/-- THE SECOND FORM's CARD OF 'cretulalaw14.UsageEnds'. -/
def usageEndsUptoCard : Claim7 := { stood := { row := usageEndsUptoRow, standIns := [], harness := (true, "031a415a85edf5255007be8a9e200edccffd7788e3dd3ab08a964639297959e1"), looks := true }, kinds := [], alts := [], laidByText := true, laidKinds := [.data, .data, .data, .data, .sentinel, .sentinel, .pinned], laidTests := true, laidLooks := .later }
def UsageEndsUptoCardSaid : Prop := Claim7.holds Tryz.pinned (.plain (OpenSpec.upto usageEndsSpec)) usageEndsUptoCard

/-- THE SECOND FORM's CARD OF 'cretulalaw14.UsageCopies'. -/
def usageCopiesUptoCard : Claim7 := { stood := { row := usageCopiesUptoRow, standIns := [], harness := (true, "031a415a85edf5255007be8a9e200edccffd7788e3dd3ab08a964639297959e1"), looks := true }, kinds := [], alts := [], laidByText := true, laidKinds := [.data, .data, .data, .data, .sentinel, .sentinel, .pinned], laidTests := true, laidLooks := .later }
def UsageCopiesUptoCardSaid : Prop := Claim7.holds Tryz.pinned (.plain (OpenSpec.upto usageCopiesSpec)) usageCopiesUptoCard
end Rows
end Go.Proofs.YtbbakpmedpcigaaGreatDoor
