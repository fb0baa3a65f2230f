/-
  DERIVED. GIVEN WITH THE SEED: THE CARDS: each row of YtaenfbgamkieiaaDoorRows.lean that lists a variable, with what it lists TIED to the program's text (the seventh form; the later family's looks); each row that meets fmt, with fmt's text TOLD by the authors' own Lean function (tested against real Go, not proved from fmt's source: count such statements apart). THE CARD IS WHAT COUNTS. Prove the row's statement (the work); the ties are given (YtaenfbgamkieiaaDoorTie.lean); close each card by the builder's one call (the guide's Derived/Test/ToyasCard.lean, 'card_holds'). Laid BY PROGRAM, IN A SANDBOX (cutbox-door.mjs). By AI agents, Wed Nov 11 2026. No macro, syntax, notation, axiom, sorry.
-/
import Derived.Test.YtaenfbgamkieiaaDoorRows
import GoSem.ClaimSeven
namespace Go.Proofs.YtaenfbgamkieiaaDoor
namespace Rows

/-- THE TIED CARD OF 'cretulalaw05.OidTexts'. -/
def oidTextsCard : Claim7 := { stood := { row := oidTextsRow, standIns := [], harness := (true, "3cdc3d5ba67f108c1be85f20e4f8bba247ca5696868c3ebca52ce15be25c5b95"), looks := true }, kinds := [], alts := [], laidByText := true, laidKinds := [.data, .data, .data, .data, .sentinel, .sentinel, .pinned], laidTests := true, laidLooks := .later }
def OidTextsCardSaid : Prop := Claim7.holds Tryd.pinned (.plain (OpenSpec.ofChange oidTextsSpec)) oidTextsCard

/-- THE TIED CARD OF 'cretulalaw05.OidEncodes'. -/
def oidEncodesCard : Claim7 := { stood := { row := oidEncodesRow, standIns := [], harness := (true, "3cdc3d5ba67f108c1be85f20e4f8bba247ca5696868c3ebca52ce15be25c5b95"), looks := true }, kinds := [], alts := [], laidByText := true, laidKinds := [.data, .data, .data, .data, .sentinel, .sentinel, .pinned], laidTests := true, laidLooks := .later }
def OidEncodesCardSaid : Prop := Claim7.holds Tryd.pinned (.plain (OpenSpec.ofChange oidEncodesSpec)) oidEncodesCard

/-- THE TIED CARD OF 'cretulalaw05.OidInverse'. -/
def oidInverseCard : Claim7 := { stood := { row := oidInverseRow, standIns := [], harness := (true, "3cdc3d5ba67f108c1be85f20e4f8bba247ca5696868c3ebca52ce15be25c5b95"), looks := true }, kinds := [], alts := [], laidByText := true, laidKinds := [.data, .data, .data, .data, .sentinel, .sentinel, .pinned], laidTests := true, laidLooks := .later }
def OidInverseCardSaid : Prop := Claim7.holds Tryd.pinned (.plain (OpenSpec.ofChange oidInverseSpec)) oidInverseCard

/-- THE TIED CARD OF 'cretulalaw05.OidChanged'. -/
def oidChangedCard : Claim7 := { stood := { row := oidChangedRow, standIns := [], harness := (true, "3cdc3d5ba67f108c1be85f20e4f8bba247ca5696868c3ebca52ce15be25c5b95"), looks := true }, kinds := [], alts := [], laidByText := true, laidKinds := [.data, .data, .data, .data, .sentinel, .sentinel, .pinned], laidTests := true, laidLooks := .later }
def OidChangedCardSaid : Prop := Claim7.holds Tryd.pinned (.plain (OpenSpec.ofChange oidChangedSpec)) oidChangedCard

/-- THE TIED CARD OF 'cretulalaw05.OidOrders'. -/
def oidOrdersCard : Claim7 := { stood := { row := oidOrdersRow, standIns := [], harness := (true, "3cdc3d5ba67f108c1be85f20e4f8bba247ca5696868c3ebca52ce15be25c5b95"), looks := true }, kinds := [], alts := [], laidByText := true, laidKinds := [.data, .data, .data, .data, .sentinel, .sentinel, .pinned], laidTests := true, laidLooks := .later }
def OidOrdersCardSaid : Prop := Claim7.holds Tryd.pinned (.plain (OpenSpec.ofChange oidOrdersSpec)) oidOrdersCard

/-- THE SECOND FORM's CARD OF 'cretulalaw05.OidTexts'. -/
def oidTextsUptoCard : Claim7 := { stood := { row := oidTextsUptoRow, standIns := [], harness := (true, "3cdc3d5ba67f108c1be85f20e4f8bba247ca5696868c3ebca52ce15be25c5b95"), looks := true }, kinds := [], alts := [], laidByText := true, laidKinds := [.data, .data, .data, .data, .sentinel, .sentinel, .pinned], laidTests := true, laidLooks := .later }
def OidTextsUptoCardSaid : Prop := Claim7.holds Tryd.pinned (.plain (OpenSpec.upto oidTextsSpec)) oidTextsUptoCard

/-- THE SECOND FORM's CARD OF 'cretulalaw05.OidEncodes'. -/
def oidEncodesUptoCard : Claim7 := { stood := { row := oidEncodesUptoRow, standIns := [], harness := (true, "3cdc3d5ba67f108c1be85f20e4f8bba247ca5696868c3ebca52ce15be25c5b95"), looks := true }, kinds := [], alts := [], laidByText := true, laidKinds := [.data, .data, .data, .data, .sentinel, .sentinel, .pinned], laidTests := true, laidLooks := .later }
def OidEncodesUptoCardSaid : Prop := Claim7.holds Tryd.pinned (.plain (OpenSpec.upto oidEncodesSpec)) oidEncodesUptoCard

/-- THE SECOND FORM's CARD OF 'cretulalaw05.OidInverse'. -/
def oidInverseUptoCard : Claim7 := { stood := { row := oidInverseUptoRow, standIns := [], harness := (true, "3cdc3d5ba67f108c1be85f20e4f8bba247ca5696868c3ebca52ce15be25c5b95"), looks := true }, kinds := [], alts := [], laidByText := true, laidKinds := [.data, .data, .data, .data, .sentinel, .sentinel, .pinned], laidTests := true, laidLooks := .later }
def OidInverseUptoCardSaid : Prop := Claim7.holds Tryd.pinned (.plain (OpenSpec.upto oidInverseSpec)) oidInverseUptoCard

/-- THE SECOND FORM's CARD OF 'cretulalaw05.OidChanged'. -/
def oidChangedUptoCard : Claim7 := { stood := { row := oidChangedUptoRow, standIns := [], harness := (true, "3cdc3d5ba67f108c1be85f20e4f8bba247ca5696868c3ebca52ce15be25c5b95"), looks := true }, kinds := [], alts := [], laidByText := true, laidKinds := [.data, .data, .data, .data, .sentinel, .sentinel, .pinned], laidTests := true, laidLooks := .later }
def OidChangedUptoCardSaid : Prop := Claim7.holds Tryd.pinned (.plain (OpenSpec.upto oidChangedSpec)) oidChangedUptoCard

/-- THE SECOND FORM's CARD OF 'cretulalaw05.OidOrders'. -/
def oidOrdersUptoCard : Claim7 := { stood := { row := oidOrdersUptoRow, standIns := [], harness := (true, "3cdc3d5ba67f108c1be85f20e4f8bba247ca5696868c3ebca52ce15be25c5b95"), looks := true }, kinds := [], alts := [], laidByText := true, laidKinds := [.data, .data, .data, .data, .sentinel, .sentinel, .pinned], laidTests := true, laidLooks := .later }
def OidOrdersUptoCardSaid : Prop := Claim7.holds Tryd.pinned (.plain (OpenSpec.upto oidOrdersSpec)) oidOrdersUptoCard
end Rows
end Go.Proofs.YtaenfbgamkieiaaDoor
