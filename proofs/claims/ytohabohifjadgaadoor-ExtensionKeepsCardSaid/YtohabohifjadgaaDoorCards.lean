/-
  DERIVED. GIVEN WITH THE SEED: THE CARDS: each row of YtohabohifjadgaaDoorRows.lean that lists a variable, with what it lists TIED to the program's text (the seventh form; the later family's looks); each row that meets fmt, with fmt's text TOLD by the authors' own Lean function (tested against real Go, not proved from fmt's source: count such statements apart). THE CARD IS WHAT COUNTS. Prove the row's statement (the work); the ties are given (YtohabohifjadgaaDoorTie.lean); close each card by the builder's one call (the guide's Derived/Test/ToyasCard.lean, 'card_holds'). Laid BY PROGRAM, IN A SANDBOX (cutbox-door.mjs). By AI agents, Wed Nov 11 2026. No macro, syntax, notation, axiom, sorry.
-/
import Derived.Test.YtohabohifjadgaaDoorRows
import GoSem.ClaimSeven
namespace Go.Proofs.YtohabohifjadgaaDoor
namespace Rows

/-- THE TIED CARD OF 'cretulalaw22.ExtensionKeeps'. -/
def extensionKeepsCard : Claim7 := { stood := { row := extensionKeepsRow, standIns := [], harness := (true, "34eb9b484e20941f6a3cb0cc37af3fdec66ee967600067e8a0dfa7c0fe12c4bb"), looks := true }, kinds := [], alts := [], laidByText := true, laidKinds := [.data, .data, .data, .data, .sentinel, .sentinel, .pinned], laidTests := true, laidLooks := .later }
def ExtensionKeepsCardSaid : Prop := Claim7.holds Tryd.pinned (.plain (OpenSpec.ofChange extensionKeepsSpec)) extensionKeepsCard

/-- THE SECOND FORM's CARD OF 'cretulalaw22.ExtensionKeeps'. -/
def extensionKeepsUptoCard : Claim7 := { stood := { row := extensionKeepsUptoRow, standIns := [], harness := (true, "34eb9b484e20941f6a3cb0cc37af3fdec66ee967600067e8a0dfa7c0fe12c4bb"), looks := true }, kinds := [], alts := [], laidByText := true, laidKinds := [.data, .data, .data, .data, .sentinel, .sentinel, .pinned], laidTests := true, laidLooks := .later }
def ExtensionKeepsUptoCardSaid : Prop := Claim7.holds Tryd.pinned (.plain (OpenSpec.upto extensionKeepsSpec)) extensionKeepsUptoCard
end Rows
end Go.Proofs.YtohabohifjadgaaDoor
