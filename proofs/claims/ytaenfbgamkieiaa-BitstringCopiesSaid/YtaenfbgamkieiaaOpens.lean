/- What the laws are handed, opened as data. -/
import Derived.Test.YtaenfbgamkieiaaF4
import Derived.Test.YtaenfbgamkieiaaAmR
namespace Go.Proofs.Ytaenfbgamkieiaa
open Go.Am Go.ChangeShapes Go.WideShapes Go.ChangeAt Go.RowKit
set_option linter.unusedSimpArgs false
set_option linter.unusedVariables false

theorem open_bits : OpensV Try.prog 24 (fun p : List UInt8 × Int => bitsD p.1 p.2) (fun p => (Lit.int .i64 p.2).wf = true) :=
  OpensV.struct Try.underlying24 (Opens.map (Opens.struct Try.underlying24 (by intro a; rfl)
    (OpensF.cons (sz := 1) rfl (fun _ => rfl) (Opens.bytes Try.underlying22 Try.underlying5 (by kernel_rfl)) (OpensF.one (sz := 1) rfl (Opens.int Try.underlying3)))) (fun p => p) (fun _ => rfl) (fun p h => h.2))
theorem open_bytes : OpensV Try.prog 22 (fun l : List UInt8 => .sl none (bys l)) (fun l => l.length ≤ maxLen) := OpensV.bytes Try.underlying22 Try.underlying5 (by kernel_rfl)
theorem open_int : OpensV Try.prog 3 (fun n : Int => .int .i64 n) (fun n => (Lit.int .i64 n).wf = true) := OpensV.int Try.underlying3
theorem wf_i64 {n : Int} (h : (Lit.int .i64 n).wf = true) : -9223372036854775808 ≤ n ∧ n ≤ 9223372036854775807 := by
  simpa [Lit.wf, IntKind.min, IntKind.max, IntKind.signed, IntKind.bits] using h
theorem read_all {ts : List TypeId} (h : ts.all (fun t => Try.prog.readableRec t && decide (t < Try.prog.types.size)) = true) : ∀ t ∈ ts, Try.prog.readableRec t = true ∧ t < Try.prog.types.size := by
  intro t ht
  have := List.all_eq_true.1 h t ht
  simpa using this
end Go.Proofs.Ytaenfbgamkieiaa
