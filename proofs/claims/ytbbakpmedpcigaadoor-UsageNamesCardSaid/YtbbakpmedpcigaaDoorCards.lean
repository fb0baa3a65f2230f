/-
  DERIVED. GIVEN WITH THE SEED: THE CARDS: each row of YtbbakpmedpcigaaDoorRows.lean that lists a variable, with what it lists TIED to the program's text (the seventh form; the later family's looks); each row that meets fmt, with fmt's text TOLD by the authors' own Lean function (tested against real Go, not proved from fmt's source: count such statements apart). THE CARD IS WHAT COUNTS. Prove the row's statement (the work); the ties are given (YtbbakpmedpcigaaDoorTie.lean); close each card by the builder's one call (the guide's Derived/Test/ToyasCard.lean, 'card_holds'). Laid BY PROGRAM, IN A SANDBOX (cutbox-door.mjs). By AI agents, Wed Nov 11 2026. No macro, syntax, notation, axiom, sorry.
-/
import Derived.Test.YtbbakpmedpcigaaDoorRows
import GoSem.ClaimSeven
namespace Go.Proofs.YtbbakpmedpcigaaDoor
namespace Rows

/-- THE TIED CARD OF 'cretulalaw14.UsageKeyMarshals'. -/
def usageKeyMarshalsCard : Claim7 := { stood := { row := usageKeyMarshalsRow, standIns := [], harness := (true, "2c1baaa341c5c5745f0fd2117e2513767300ca99622c0ca494785612f71b00d2"), looks := true }, kinds := [], alts := [], laidByText := true, laidKinds := [.data, .data, .data, .data, .sentinel, .sentinel, .pinned], laidTests := true, laidLooks := .later }
def UsageKeyMarshalsCardSaid : Prop := Claim7.holds Tryd.pinned (.plain (OpenSpec.ofChange usageKeyMarshalsSpec)) usageKeyMarshalsCard

/-- THE TIED CARD OF 'cretulalaw14.UsageKeyParses'. -/
def usageKeyParsesCard : Claim7 := { stood := { row := usageKeyParsesRow, standIns := [], harness := (true, "2c1baaa341c5c5745f0fd2117e2513767300ca99622c0ca494785612f71b00d2"), looks := true }, kinds := [], alts := [], laidByText := true, laidKinds := [.data, .data, .data, .data, .sentinel, .sentinel, .pinned], laidTests := true, laidLooks := .later }
def UsageKeyParsesCardSaid : Prop := Claim7.holds Tryd.pinned (.plain (OpenSpec.ofChange usageKeyParsesSpec)) usageKeyParsesCard

/-- THE TIED CARD OF 'cretulalaw14.UsageKeyChanges'. -/
def usageKeyChangesCard : Claim7 := { stood := { row := usageKeyChangesRow, standIns := [], harness := (true, "2c1baaa341c5c5745f0fd2117e2513767300ca99622c0ca494785612f71b00d2"), looks := true }, kinds := [], alts := [], laidByText := true, laidKinds := [.data, .data, .data, .data, .sentinel, .sentinel, .pinned], laidTests := true, laidLooks := .later }
def UsageKeyChangesCardSaid : Prop := Claim7.holds Tryd.pinned (.plain (OpenSpec.ofChange usageKeyChangesSpec)) usageKeyChangesCard

/-- THE TIED CARD OF 'cretulalaw14.UsageNames'. -/
def usageNamesCard : Claim7 := { stood := { row := usageNamesRow, standIns := [], harness := (true, "2c1baaa341c5c5745f0fd2117e2513767300ca99622c0ca494785612f71b00d2"), looks := true }, kinds := [], alts := [], laidByText := true, laidKinds := [.data, .data, .data, .data, .sentinel, .sentinel, .pinned], laidTests := true, laidLooks := .later }
def UsageNamesCardSaid : Prop := Claim7.holds Tryd.pinned (.plain (OpenSpec.ofChange usageNamesSpec)) usageNamesCard

/-- THE SECOND FORM's CARD OF 'cretulalaw14.UsageKeyMarshals'. -/
def usageKeyMarshalsUptoCard : Claim7 := { stood := { row := usageKeyMarshalsUptoRow, standIns := [], harness := (true, "2c1baaa341c5c5745f0fd2117e2513767300ca99622c0ca494785612f71b00d2"), looks := true }, kinds := [], alts := [], laidByText := true, laidKinds := [.data, .data, .data, .data, .sentinel, .sentinel, .pinned], laidTests := true, laidLooks := .later }
def UsageKeyMarshalsUptoCardSaid : Prop := Claim7.holds Tryd.pinned (.plain (OpenSpec.upto usageKeyMarshalsSpec)) usageKeyMarshalsUptoCard

/-- THE SECOND FORM's CARD OF 'cretulalaw14.UsageKeyParses'. -/
def usageKeyParsesUptoCard : Claim7 := { stood := { row := usageKeyParsesUptoRow, standIns := [], harness := (true, "2c1baaa341c5c5745f0fd2117e2513767300ca99622c0ca494785612f71b00d2"), looks := true }, kinds := [], alts := [], laidByText := true, laidKinds := [.data, .data, .data, .data, .sentinel, .sentinel, .pinned], laidTests := true, laidLooks := .later }
def UsageKeyParsesUptoCardSaid : Prop := Claim7.holds Tryd.pinned (.plain (OpenSpec.upto usageKeyParsesSpec)) usageKeyParsesUptoCard

/-- THE SECOND FORM's CARD OF 'cretulalaw14.UsageKeyChanges'. -/
def usageKeyChangesUptoCard : Claim7 := { stood := { row := usageKeyChangesUptoRow, standIns := [], harness := (true, "2c1baaa341c5c5745f0fd2117e2513767300ca99622c0ca494785612f71b00d2"), looks := true }, kinds := [], alts := [], laidByText := true, laidKinds := [.data, .data, .data, .data, .sentinel, .sentinel, .pinned], laidTests := true, laidLooks := .later }
def UsageKeyChangesUptoCardSaid : Prop := Claim7.holds Tryd.pinned (.plain (OpenSpec.upto usageKeyChangesSpec)) usageKeyChangesUptoCard

/-- THE SECOND FORM's CARD OF 'cretulalaw14.UsageNames'. -/
def usageNamesUptoCard : Claim7 := { stood := { row := usageNamesUptoRow, standIns := [], harness := (true, "2c1baaa341c5c5745f0fd2117e2513767300ca99622c0ca494785612f71b00d2"), looks := true }, kinds := [], alts := [], laidByText := true, laidKinds := [.data, .data, .data, .data, .sentinel, .sentinel, .pinned], laidTests := true, laidLooks := .later }
def UsageNamesUptoCardSaid : Prop := Claim7.holds Tryd.pinned (.plain (OpenSpec.upto usageNamesSpec)) usageNamesUptoCard
end Rows
end Go.Proofs.YtbbakpmedpcigaaDoor
