/- slices.Reverse at bytes: the shelf's contract, laid at this dump; a callee that turns bytes around. -/
import Derived.Test.YtaenfbgamkieiaaDoorAmT
import Derived.Test.YtaenfbgamkieiaaDoorTy
import Derived.Shelf.SlicesE.Reverse
namespace Go.Proofs.YtaenfbgamkieiaaDoor
open Go.Am Go.RowKit Go.Sort Go.Shelf
set_option linter.unusedSimpArgs false
set_option linter.unusedVariables false

def revRen : Go.Shelf.Ren := ⟨fun | 35 => 34 | n => n, fun | 0 => 0 | 3 => 3 | 4 => 4 | 22 => 32 | 23 => 5 | n => n, fun n => n⟩
theorem revLays : Go.Proofs.SlLaysE.n35 Tryd.prog revRen := {
  mixed := mixed
  f35 := ⟨Tryd.f34.name, by decide, Tryd.func34.trans (congrArg some (by kernel_rfl))⟩
  t0 := Tryd.underlying0
  a0 := Tryd.isAgg0
  z0 := Tryd.sizeOf0
  v0 := Tryd.zeroValue0
  t3 := Tryd.underlying3
  a3 := Tryd.isAgg3
  z3 := Tryd.sizeOf3
  v3 := Tryd.zeroValue3
  t4 := Tryd.underlying4
  a4 := Tryd.isAgg4
  z4 := Tryd.sizeOf4
  v4 := Tryd.zeroValue4
  t22 := Tryd.underlying32
  a22 := Tryd.isAgg32
  z22 := Tryd.sizeOf32
  v22 := Tryd.zeroValue32
  a23 := Tryd.isAgg5
  z23 := Tryd.sizeOf5 }
theorem isReverse : IsFn Tryd.prog 34 Tryd.f34 := ⟨Tryd.func34, by decide, rfl⟩
theorem turns : TurnsAround Tryd.prog 34 where
  fn := ⟨_, isReverse⟩
  at_ := fun blk cap zs w hH hl => AnyE.slices_Reverse revLays encB (fun _ => rfl) blk 0 cap zs w hH (by omega)
  nil := fun a cap w => AnyE.slices_Reverse_empty revLays a cap w
end Go.Proofs.YtaenfbgamkieiaaDoor
