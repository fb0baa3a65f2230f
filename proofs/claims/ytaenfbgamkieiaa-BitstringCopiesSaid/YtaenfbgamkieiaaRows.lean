/-
  No cell of these rows narrows 'for every input' (looked for: loops, veiled, ifaces, maps, wideKeys, modest, calm, conditions, laid).
  DERIVED. THE GIVEN ROWS OF THIS SEAT. 6 by the template 'for every input the law returns true; each argument reads behind the call as it read before'; 0 by the template 'total and deterministic' (their statements: YtaenfbgamkieiaaTotals.lean).
  GIVEN WITH THE SEED: the statements are not yours to turn. If you find one false, say at which input.
  Laid BY PROGRAM, IN A SANDBOX (cutbox-rows.mjs): the forced cells as the released guide's own fill.sh prints them over the translation e750895756fa85fb… (all of the seat's roots in one cut). By AI agents, Wed Nov 11 2026. No macro, syntax, notation, axiom, sorry.
-/
import Derived.Test.YtaenfbgamkieiaaChecked
import GoSem.Claim
import GoSem.ClaimJoined
import GoSem.ClaimMapViews
import Derived.JoinedTies
import Derived.KernelRfl
namespace Go.Proofs.Ytaenfbgamkieiaa
/- THE CELL 'sum', in the pinned program and in every row, IS THE sha256 OF THE DUMP (.gsa) THAT YtaenfbgamkieiaaProg.lean LOADS. Nothing in Lean hashes anything: it is a label: what it is worth is what the hold of that sum in a sandbox is worth. -/
noncomputable def Try.pinned : Pinned := { name := "ytaenfbgamkieiaa", sum := "e750895756fa85fb04d28c7da284cbee575573f50436dcf354ce86ea9231e99f", checked := Try.checked }
namespace Rows
def none {H : Type} : Left H := { results := [], args := [] }

/-- 'cretulalaw06.BitstringEncodes': WHATEVER THE INPUT: true; the input reads as it did. -/
def bitstringEncodesSpec : ChangeSpec := { name := "bitstringEncodes", fn := fun _ => fun
  | [d] => { results := [.lit (.bool true)], args := [d] }
  | _ => none }
def bitstringEncodesRow : OpenClaim := { program := "ytaenfbgamkieiaa", sum := "e750895756fa85fb04d28c7da284cbee575573f50436dcf354ce86ea9231e99f", func := "cretula/cretulalaw06.BitstringEncodes", spec := "bitstringEncodes", unfollowed := true, recurses := true, apart := false }
def BitstringEncodesSaid : Prop := bitstringEncodesRow.holds Try.pinned (OpenSpec.ofChange bitstringEncodesSpec)

/-- ITS FALSE NEIGHBOUR: 'it returns false'. Refute it at one input. -/
def bitstringEncodesWrong : ChangeSpec := { name := "bitstringEncodes", fn := fun _ => fun
  | [d] => { results := [.lit (.bool false)], args := [d] }
  | _ => none }
def BitstringEncodesWrongFalsely : Prop := bitstringEncodesRow.holds Try.pinned (OpenSpec.ofChange bitstringEncodesWrong)

/-- 'cretulalaw06.BitstringDecodes': WHATEVER THE INPUT: true; the input reads as it did. -/
def bitstringDecodesSpec : ChangeSpec := { name := "bitstringDecodes", fn := fun _ => fun
  | [d] => { results := [.lit (.bool true)], args := [d] }
  | _ => none }
def bitstringDecodesRow : OpenClaim := { program := "ytaenfbgamkieiaa", sum := "e750895756fa85fb04d28c7da284cbee575573f50436dcf354ce86ea9231e99f", func := "cretula/cretulalaw06.BitstringDecodes", spec := "bitstringDecodes", unfollowed := true, recurses := true, apart := false }
def BitstringDecodesSaid : Prop := bitstringDecodesRow.holds Try.pinned (OpenSpec.ofChange bitstringDecodesSpec)

/-- ITS FALSE NEIGHBOUR: 'it returns false'. Refute it at one input. -/
def bitstringDecodesWrong : ChangeSpec := { name := "bitstringDecodes", fn := fun _ => fun
  | [d] => { results := [.lit (.bool false)], args := [d] }
  | _ => none }
def BitstringDecodesWrongFalsely : Prop := bitstringDecodesRow.holds Try.pinned (OpenSpec.ofChange bitstringDecodesWrong)

/-- 'cretulalaw06.BitstringBits': WHATEVER THE INPUT: true; the input reads as it did. -/
def bitstringBitsSpec : ChangeSpec := { name := "bitstringBits", fn := fun _ => fun
  | [d1, d2] => { results := [.lit (.bool true)], args := [d1, d2] }
  | _ => none }
def bitstringBitsRow : OpenClaim := { program := "ytaenfbgamkieiaa", sum := "e750895756fa85fb04d28c7da284cbee575573f50436dcf354ce86ea9231e99f", func := "cretula/cretulalaw06.BitstringBits", spec := "bitstringBits", unfollowed := true, recurses := true, apart := false }
def BitstringBitsSaid : Prop := bitstringBitsRow.holds Try.pinned (OpenSpec.ofChange bitstringBitsSpec)

/-- ITS FALSE NEIGHBOUR: 'it returns false'. Refute it at one input. -/
def bitstringBitsWrong : ChangeSpec := { name := "bitstringBits", fn := fun _ => fun
  | [d1, d2] => { results := [.lit (.bool false)], args := [d1, d2] }
  | _ => none }
def BitstringBitsWrongFalsely : Prop := bitstringBitsRow.holds Try.pinned (OpenSpec.ofChange bitstringBitsWrong)

/-- 'cretulalaw06.BitstringNamed': WHATEVER THE INPUT: true; the input reads as it did. -/
def bitstringNamedSpec : ChangeSpec := { name := "bitstringNamed", fn := fun _ => fun
  | [d1, d2] => { results := [.lit (.bool true)], args := [d1, d2] }
  | _ => none }
def bitstringNamedRow : OpenClaim := { program := "ytaenfbgamkieiaa", sum := "e750895756fa85fb04d28c7da284cbee575573f50436dcf354ce86ea9231e99f", func := "cretula/cretulalaw06.BitstringNamed", spec := "bitstringNamed", unfollowed := true, recurses := true, apart := false }
def BitstringNamedSaid : Prop := bitstringNamedRow.holds Try.pinned (OpenSpec.ofChange bitstringNamedSpec)

/-- ITS FALSE NEIGHBOUR: 'it returns false'. Refute it at one input. -/
def bitstringNamedWrong : ChangeSpec := { name := "bitstringNamed", fn := fun _ => fun
  | [d1, d2] => { results := [.lit (.bool false)], args := [d1, d2] }
  | _ => none }
def BitstringNamedWrongFalsely : Prop := bitstringNamedRow.holds Try.pinned (OpenSpec.ofChange bitstringNamedWrong)

/-- 'cretulalaw06.BitstringSets': WHATEVER THE INPUT: true; the input reads as it did. -/
def bitstringSetsSpec : ChangeSpec := { name := "bitstringSets", fn := fun _ => fun
  | [d1, d2, d3] => { results := [.lit (.bool true)], args := [d1, d2, d3] }
  | _ => none }
def bitstringSetsRow : OpenClaim := { program := "ytaenfbgamkieiaa", sum := "e750895756fa85fb04d28c7da284cbee575573f50436dcf354ce86ea9231e99f", func := "cretula/cretulalaw06.BitstringSets", spec := "bitstringSets", unfollowed := true, recurses := true, apart := false }
def BitstringSetsSaid : Prop := bitstringSetsRow.holds Try.pinned (OpenSpec.ofChange bitstringSetsSpec)

/-- ITS FALSE NEIGHBOUR: 'it returns false'. Refute it at one input. -/
def bitstringSetsWrong : ChangeSpec := { name := "bitstringSets", fn := fun _ => fun
  | [d1, d2, d3] => { results := [.lit (.bool false)], args := [d1, d2, d3] }
  | _ => none }
def BitstringSetsWrongFalsely : Prop := bitstringSetsRow.holds Try.pinned (OpenSpec.ofChange bitstringSetsWrong)

/-- 'cretulalaw06.BitstringCopies': WHATEVER THE INPUT: true; the input reads as it did. -/
def bitstringCopiesSpec : ChangeSpec := { name := "bitstringCopies", fn := fun _ => fun
  | [d] => { results := [.lit (.bool true)], args := [d] }
  | _ => none }
def bitstringCopiesRow : OpenClaim := { program := "ytaenfbgamkieiaa", sum := "e750895756fa85fb04d28c7da284cbee575573f50436dcf354ce86ea9231e99f", func := "cretula/cretulalaw06.BitstringCopies", spec := "bitstringCopies", unfollowed := true, recurses := true, apart := false }
def BitstringCopiesSaid : Prop := bitstringCopiesRow.holds Try.pinned (OpenSpec.ofChange bitstringCopiesSpec)

/-- ITS FALSE NEIGHBOUR: 'it returns false'. Refute it at one input. -/
def bitstringCopiesWrong : ChangeSpec := { name := "bitstringCopies", fn := fun _ => fun
  | [d] => { results := [.lit (.bool false)], args := [d] }
  | _ => none }
def BitstringCopiesWrongFalsely : Prop := bitstringCopiesRow.holds Try.pinned (OpenSpec.ofChange bitstringCopiesWrong)

/- THE SECOND FORM. 'bulk': how many values and letters a reading holds, each counted each time it is reached (what is shared counts as often as it is met; a slice's spare places count too). A statement '..UptoSaid' is the law's where the arguments, and the package variables that the reading takes, are together of bulk at most 1048576: NARROWER than '..Said'. Prove '..Said' where nothing that the law and all that it calls make is longer than what came in: it says more and counts as full. Else prove '..UptoSaid'. A law counts once. -/
mutual
def uptoBulk {H : Type} : DataW H → Nat
  | .lit (.string bytes) => bytes.length + 1
  | .lit _ => 1
  | .nil => 1
  | .ptr d => uptoBulk d + 1
  | .slice elems spare => uptoBulkAll elems + uptoBulkAll spare + 1
  | .agg parts => uptoBulkAll parts + 1
  | .iface _ d => uptoBulk d + 1
  | .map entries => uptoBulkEntries entries + 1
  | .held _ => 1
def uptoBulkAll {H : Type} : List (DataW H) → Nat
  | [] => 0
  | d :: r => uptoBulk d + uptoBulkAll r
def uptoBulkEntries {H : Type} : List (Lit × DataW H) → Nat
  | [] => 0
  | x :: r => uptoBulkEntry x + uptoBulkEntries r
def uptoBulkEntry {H : Type} : Lit × DataW H → Nat
  | (.string bytes, d) => bytes.length + uptoBulk d + 1
  | (_, d) => uptoBulk d + 1
 end
def uptoSmall : (H : Type) → List (DataW H) → Bool := fun _ ds => decide (uptoBulkAll ds ≤ 1048576)
def OpenSpec.upto (s : _root_.Go.ChangeSpec) : _root_.Go.OpenSpec := { _root_.Go.OpenSpec.ofChange s with cond := some uptoSmall }

/-- 'cretulalaw06.BitstringEncodes', WHERE WHAT IT READS IS OF BULK AT MOST 1048576: true; the input reads as it did. -/
def bitstringEncodesUptoRow : OpenClaim := { program := "ytaenfbgamkieiaa", sum := "e750895756fa85fb04d28c7da284cbee575573f50436dcf354ce86ea9231e99f", func := "cretula/cretulalaw06.BitstringEncodes", spec := "bitstringEncodes", unfollowed := true, recurses := true, apart := false, narrowed := true }
def BitstringEncodesUptoSaid : Prop := bitstringEncodesUptoRow.holds Try.pinned (OpenSpec.upto bitstringEncodesSpec)

/-- 'cretulalaw06.BitstringDecodes', WHERE WHAT IT READS IS OF BULK AT MOST 1048576: true; the input reads as it did. -/
def bitstringDecodesUptoRow : OpenClaim := { program := "ytaenfbgamkieiaa", sum := "e750895756fa85fb04d28c7da284cbee575573f50436dcf354ce86ea9231e99f", func := "cretula/cretulalaw06.BitstringDecodes", spec := "bitstringDecodes", unfollowed := true, recurses := true, apart := false, narrowed := true }
def BitstringDecodesUptoSaid : Prop := bitstringDecodesUptoRow.holds Try.pinned (OpenSpec.upto bitstringDecodesSpec)

/-- 'cretulalaw06.BitstringBits', WHERE WHAT IT READS IS OF BULK AT MOST 1048576: true; the input reads as it did. -/
def bitstringBitsUptoRow : OpenClaim := { program := "ytaenfbgamkieiaa", sum := "e750895756fa85fb04d28c7da284cbee575573f50436dcf354ce86ea9231e99f", func := "cretula/cretulalaw06.BitstringBits", spec := "bitstringBits", unfollowed := true, recurses := true, apart := false, narrowed := true }
def BitstringBitsUptoSaid : Prop := bitstringBitsUptoRow.holds Try.pinned (OpenSpec.upto bitstringBitsSpec)

/-- 'cretulalaw06.BitstringNamed', WHERE WHAT IT READS IS OF BULK AT MOST 1048576: true; the input reads as it did. -/
def bitstringNamedUptoRow : OpenClaim := { program := "ytaenfbgamkieiaa", sum := "e750895756fa85fb04d28c7da284cbee575573f50436dcf354ce86ea9231e99f", func := "cretula/cretulalaw06.BitstringNamed", spec := "bitstringNamed", unfollowed := true, recurses := true, apart := false, narrowed := true }
def BitstringNamedUptoSaid : Prop := bitstringNamedUptoRow.holds Try.pinned (OpenSpec.upto bitstringNamedSpec)

/-- 'cretulalaw06.BitstringSets', WHERE WHAT IT READS IS OF BULK AT MOST 1048576: true; the input reads as it did. -/
def bitstringSetsUptoRow : OpenClaim := { program := "ytaenfbgamkieiaa", sum := "e750895756fa85fb04d28c7da284cbee575573f50436dcf354ce86ea9231e99f", func := "cretula/cretulalaw06.BitstringSets", spec := "bitstringSets", unfollowed := true, recurses := true, apart := false, narrowed := true }
def BitstringSetsUptoSaid : Prop := bitstringSetsUptoRow.holds Try.pinned (OpenSpec.upto bitstringSetsSpec)

/-- 'cretulalaw06.BitstringCopies', WHERE WHAT IT READS IS OF BULK AT MOST 1048576: true; the input reads as it did. -/
def bitstringCopiesUptoRow : OpenClaim := { program := "ytaenfbgamkieiaa", sum := "e750895756fa85fb04d28c7da284cbee575573f50436dcf354ce86ea9231e99f", func := "cretula/cretulalaw06.BitstringCopies", spec := "bitstringCopies", unfollowed := true, recurses := true, apart := false, narrowed := true }
def BitstringCopiesUptoSaid : Prop := bitstringCopiesUptoRow.holds Try.pinned (OpenSpec.upto bitstringCopiesSpec)

end Rows
end Go.Proofs.Ytaenfbgamkieiaa
