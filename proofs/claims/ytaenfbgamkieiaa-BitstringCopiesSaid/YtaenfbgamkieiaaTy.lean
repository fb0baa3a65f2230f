/- The table of the types of this seat, and that it is right: written by program (mkty.py). -/
import Derived.Test.YtaenfbgamkieiaaAmQ
import Derived.Test.YtaenfbgamkieiaaRows
import Derived.ProofKit
namespace Go.Proofs.Ytaenfbgamkieiaa
open Go.Am
set_option linter.unusedSimpArgs false
set_option linter.unusedVariables false

def tyL : List (Nat × TI) := [
  (2, ⟨.int .i64, 1, 8, .int .i64 0, [.int .i64 0]⟩),
  (3, ⟨.int .i64, 1, 8, .int .i64 0, [.int .i64 0]⟩),
  (4, ⟨.bool, 1, 1, .bool false, [.bool false]⟩),
  (5, ⟨.int .u8, 1, 1, .int .u8 0, [.int .u8 0]⟩),
  (6, ⟨.int .u8, 1, 1, .int .u8 0, [.int .u8 0]⟩),
  (7, ⟨.struct #[{ name := "x", type := 2, offset := 0, embedded := false, tag := "", pkgPath := "runtime", byteOffset := 0 }, { name := "y", type := 3, offset := 1, embedded := false, tag := "", pkgPath := "runtime", byteOffset := 8 }, { name := "signed", type := 4, offset := 2, embedded := false, tag := "", pkgPath := "runtime", byteOffset := 16 }, { name := "code", type := 6, offset := 3, embedded := false, tag := "", pkgPath := "runtime", byteOffset := 17 }], 4, 24, .agg #[.int .i64 0, .int .i64 0, .bool false, .int .u8 0], [.int .i64 0, .int .i64 0, .bool false, .int .u8 0]⟩),
  (8, ⟨.struct #[{ name := "x", type := 2, offset := 0, embedded := false, tag := "", pkgPath := "runtime", byteOffset := 0 }, { name := "y", type := 3, offset := 1, embedded := false, tag := "", pkgPath := "runtime", byteOffset := 8 }, { name := "signed", type := 4, offset := 2, embedded := false, tag := "", pkgPath := "runtime", byteOffset := 16 }, { name := "code", type := 6, offset := 3, embedded := false, tag := "", pkgPath := "runtime", byteOffset := 17 }], 4, 24, .agg #[.int .i64 0, .int .i64 0, .bool false, .int .u8 0], [.int .i64 0, .int .i64 0, .bool false, .int .u8 0]⟩),
  (9, ⟨.string, 1, 16, .string ⟨#[]⟩, [.str ⟨#[]⟩]⟩),
  (10, ⟨.string, 1, 16, .string ⟨#[]⟩, [.str ⟨#[]⟩]⟩),
  (11, ⟨.string, 1, 16, .string ⟨#[]⟩, [.str ⟨#[]⟩]⟩),
  (12, ⟨.int .u64, 1, 8, .int .u64 0, [.int .u64 0]⟩),
  (13, ⟨.struct #[{ name := "msg", type := 9, offset := 0, embedded := false, tag := "", pkgPath := "runtime", byteOffset := 0 }, { name := "addr", type := 12, offset := 1, embedded := false, tag := "", pkgPath := "runtime", byteOffset := 16 }], 2, 24, .agg #[.string ⟨#[]⟩, .int .u64 0], [.str ⟨#[]⟩, .int .u64 0]⟩),
  (14, ⟨.struct #[{ name := "msg", type := 9, offset := 0, embedded := false, tag := "", pkgPath := "runtime", byteOffset := 0 }, { name := "addr", type := 12, offset := 1, embedded := false, tag := "", pkgPath := "runtime", byteOffset := 16 }], 2, 24, .agg #[.string ⟨#[]⟩, .int .u64 0], [.str ⟨#[]⟩, .int .u64 0]⟩),
  (20, ⟨.interface #[], 1, 16, .nilIface, [.nilIf]⟩),
  (21, ⟨.int .i32, 1, 4, .int .i32 0, [.int .i32 0]⟩),
  (22, ⟨.slice 5, 1, 24, .slice none 0 0, [.sl none []]⟩),
  (23, ⟨.struct #[{ name := "Bytes", type := 22, offset := 0, embedded := false, tag := "", pkgPath := "", byteOffset := 0 }, { name := "Unused", type := 3, offset := 1, embedded := false, tag := "", pkgPath := "", byteOffset := 24 }], 2, 32, .agg #[.slice none 0 0, .int .i64 0], [.sl none [], .int .i64 0]⟩),
  (24, ⟨.struct #[{ name := "Bytes", type := 22, offset := 0, embedded := false, tag := "", pkgPath := "", byteOffset := 0 }, { name := "Unused", type := 3, offset := 1, embedded := false, tag := "", pkgPath := "", byteOffset := 24 }], 2, 32, .agg #[.slice none 0 0, .int .i64 0], [.sl none [], .int .i64 0]⟩),
  (26, ⟨.int .i64, 1, 8, .int .i64 0, [.int .i64 0]⟩),
  (40, ⟨.slice 3, 1, 24, .slice none 0 0, [.sl none []]⟩),
  (48, ⟨.slice 22, 1, 24, .slice none 0 0, [.sl none []]⟩),
  (57, ⟨.int .u32, 1, 4, .int .u32 0, [.int .u32 0]⟩),
  (58, ⟨.int .u8, 1, 1, .int .u8 0, [.int .u8 0]⟩),
  (59, ⟨.int .u8, 1, 1, .int .u8 0, [.int .u8 0]⟩),
  (62, ⟨.int .i32, 1, 4, .int .i32 0, [.int .i32 0]⟩),
  (63, ⟨.int .i32, 1, 4, .int .i32 0, [.int .i32 0]⟩)]
def ty (t : TypeId) : Option TI := Am.look t tyL

theorem tyi2 : (Try.prog.info? 2).map (fun j => (j.size, j.bytes, j.zero)) = some (1, 8, some (.int .i64 0)) := by kernel_rfl
theorem tyi3 : (Try.prog.info? 3).map (fun j => (j.size, j.bytes, j.zero)) = some (1, 8, some (.int .i64 0)) := by kernel_rfl
theorem tyi4 : (Try.prog.info? 4).map (fun j => (j.size, j.bytes, j.zero)) = some (1, 1, some (.bool false)) := by kernel_rfl
theorem tyi5 : (Try.prog.info? 5).map (fun j => (j.size, j.bytes, j.zero)) = some (1, 1, some (.int .u8 0)) := by kernel_rfl
theorem tyi6 : (Try.prog.info? 6).map (fun j => (j.size, j.bytes, j.zero)) = some (1, 1, some (.int .u8 0)) := by kernel_rfl
theorem tyi7 : (Try.prog.info? 7).map (fun j => (j.size, j.bytes, j.zero)) = some (4, 24, some (.agg #[.int .i64 0, .int .i64 0, .bool false, .int .u8 0])) := by kernel_rfl
theorem tyi8 : (Try.prog.info? 8).map (fun j => (j.size, j.bytes, j.zero)) = some (4, 24, some (.agg #[.int .i64 0, .int .i64 0, .bool false, .int .u8 0])) := by kernel_rfl
theorem tyi9 : (Try.prog.info? 9).map (fun j => (j.size, j.bytes, j.zero)) = some (1, 16, some (.string ⟨#[]⟩)) := by kernel_rfl
theorem tyi10 : (Try.prog.info? 10).map (fun j => (j.size, j.bytes, j.zero)) = some (1, 16, some (.string ⟨#[]⟩)) := by kernel_rfl
theorem tyi11 : (Try.prog.info? 11).map (fun j => (j.size, j.bytes, j.zero)) = some (1, 16, some (.string ⟨#[]⟩)) := by kernel_rfl
theorem tyi12 : (Try.prog.info? 12).map (fun j => (j.size, j.bytes, j.zero)) = some (1, 8, some (.int .u64 0)) := by kernel_rfl
theorem tyi13 : (Try.prog.info? 13).map (fun j => (j.size, j.bytes, j.zero)) = some (2, 24, some (.agg #[.string ⟨#[]⟩, .int .u64 0])) := by kernel_rfl
theorem tyi14 : (Try.prog.info? 14).map (fun j => (j.size, j.bytes, j.zero)) = some (2, 24, some (.agg #[.string ⟨#[]⟩, .int .u64 0])) := by kernel_rfl
theorem tyi20 : (Try.prog.info? 20).map (fun j => (j.size, j.bytes, j.zero)) = some (1, 16, some (.nilIface)) := by kernel_rfl
theorem tyi21 : (Try.prog.info? 21).map (fun j => (j.size, j.bytes, j.zero)) = some (1, 4, some (.int .i32 0)) := by kernel_rfl
theorem tyi22 : (Try.prog.info? 22).map (fun j => (j.size, j.bytes, j.zero)) = some (1, 24, some (.slice none 0 0)) := by kernel_rfl
theorem tyi23 : (Try.prog.info? 23).map (fun j => (j.size, j.bytes, j.zero)) = some (2, 32, some (.agg #[.slice none 0 0, .int .i64 0])) := by kernel_rfl
theorem tyi24 : (Try.prog.info? 24).map (fun j => (j.size, j.bytes, j.zero)) = some (2, 32, some (.agg #[.slice none 0 0, .int .i64 0])) := by kernel_rfl
theorem tyi26 : (Try.prog.info? 26).map (fun j => (j.size, j.bytes, j.zero)) = some (1, 8, some (.int .i64 0)) := by kernel_rfl
theorem tyi40 : (Try.prog.info? 40).map (fun j => (j.size, j.bytes, j.zero)) = some (1, 24, some (.slice none 0 0)) := by kernel_rfl
theorem tyi48 : (Try.prog.info? 48).map (fun j => (j.size, j.bytes, j.zero)) = some (1, 24, some (.slice none 0 0)) := by kernel_rfl
theorem tyi57 : (Try.prog.info? 57).map (fun j => (j.size, j.bytes, j.zero)) = some (1, 4, some (.int .u32 0)) := by kernel_rfl
theorem tyi58 : (Try.prog.info? 58).map (fun j => (j.size, j.bytes, j.zero)) = some (1, 1, some (.int .u8 0)) := by kernel_rfl
theorem tyi59 : (Try.prog.info? 59).map (fun j => (j.size, j.bytes, j.zero)) = some (1, 1, some (.int .u8 0)) := by kernel_rfl
theorem tyi62 : (Try.prog.info? 62).map (fun j => (j.size, j.bytes, j.zero)) = some (1, 4, some (.int .i32 0)) := by kernel_rfl
theorem tyi63 : (Try.prog.info? 63).map (fun j => (j.size, j.bytes, j.zero)) = some (1, 4, some (.int .i32 0)) := by kernel_rfl
theorem tyf2 : TyFact Try.prog 2 ⟨.int .i64, 1, 8, .int .i64 0, [.int .i64 0]⟩ :=
  TyFact.mk' Try.underlying2 tyi2 (fun _ => rfl) rfl rfl rfl (fun w pr => ⟨.int _ _, trivial⟩) (fun fields h => by cases h)
theorem tyf3 : TyFact Try.prog 3 ⟨.int .i64, 1, 8, .int .i64 0, [.int .i64 0]⟩ :=
  TyFact.mk' Try.underlying3 tyi3 (fun _ => rfl) rfl rfl rfl (fun w pr => ⟨.int _ _, trivial⟩) (fun fields h => by cases h)
theorem tyf4 : TyFact Try.prog 4 ⟨.bool, 1, 1, .bool false, [.bool false]⟩ :=
  TyFact.mk' Try.underlying4 tyi4 (fun _ => rfl) rfl rfl rfl (fun w pr => ⟨.bool _, trivial⟩) (fun fields h => by cases h)
theorem tyf5 : TyFact Try.prog 5 ⟨.int .u8, 1, 1, .int .u8 0, [.int .u8 0]⟩ :=
  TyFact.mk' Try.underlying5 tyi5 (fun _ => rfl) rfl rfl rfl (fun w pr => ⟨.int _ _, trivial⟩) (fun fields h => by cases h)
theorem tyf6 : TyFact Try.prog 6 ⟨.int .u8, 1, 1, .int .u8 0, [.int .u8 0]⟩ :=
  TyFact.mk' Try.underlying6 tyi6 (fun _ => rfl) rfl rfl rfl (fun w pr => ⟨.int _ _, trivial⟩) (fun fields h => by cases h)
theorem tyf7 : TyFact Try.prog 7 ⟨.struct #[{ name := "x", type := 2, offset := 0, embedded := false, tag := "", pkgPath := "runtime", byteOffset := 0 }, { name := "y", type := 3, offset := 1, embedded := false, tag := "", pkgPath := "runtime", byteOffset := 8 }, { name := "signed", type := 4, offset := 2, embedded := false, tag := "", pkgPath := "runtime", byteOffset := 16 }, { name := "code", type := 6, offset := 3, embedded := false, tag := "", pkgPath := "runtime", byteOffset := 17 }], 4, 24, .agg #[.int .i64 0, .int .i64 0, .bool false, .int .u8 0], [.int .i64 0, .int .i64 0, .bool false, .int .u8 0]⟩ :=
  TyFact.mk' Try.underlying7 tyi7 (fun h => by cases h) rfl rfl rfl (fun w pr => ⟨.int _ _, .int _ _, .bool _, .int _ _, trivial⟩) (fun fields h => by cases h; exact ⟨[(0, 1), (1, 1), (2, 1), (3, 1)], by kernel_rfl⟩)
theorem tyf8 : TyFact Try.prog 8 ⟨.struct #[{ name := "x", type := 2, offset := 0, embedded := false, tag := "", pkgPath := "runtime", byteOffset := 0 }, { name := "y", type := 3, offset := 1, embedded := false, tag := "", pkgPath := "runtime", byteOffset := 8 }, { name := "signed", type := 4, offset := 2, embedded := false, tag := "", pkgPath := "runtime", byteOffset := 16 }, { name := "code", type := 6, offset := 3, embedded := false, tag := "", pkgPath := "runtime", byteOffset := 17 }], 4, 24, .agg #[.int .i64 0, .int .i64 0, .bool false, .int .u8 0], [.int .i64 0, .int .i64 0, .bool false, .int .u8 0]⟩ :=
  TyFact.mk' Try.underlying8 tyi8 (fun h => by cases h) rfl rfl rfl (fun w pr => ⟨.int _ _, .int _ _, .bool _, .int _ _, trivial⟩) (fun fields h => by cases h; exact ⟨[(0, 1), (1, 1), (2, 1), (3, 1)], by kernel_rfl⟩)
theorem tyf9 : TyFact Try.prog 9 ⟨.string, 1, 16, .string ⟨#[]⟩, [.str ⟨#[]⟩]⟩ :=
  TyFact.mk' Try.underlying9 tyi9 (fun _ => rfl) rfl rfl rfl (fun w pr => ⟨.str _, trivial⟩) (fun fields h => by cases h)
theorem tyf10 : TyFact Try.prog 10 ⟨.string, 1, 16, .string ⟨#[]⟩, [.str ⟨#[]⟩]⟩ :=
  TyFact.mk' Try.underlying10 tyi10 (fun _ => rfl) rfl rfl rfl (fun w pr => ⟨.str _, trivial⟩) (fun fields h => by cases h)
theorem tyf11 : TyFact Try.prog 11 ⟨.string, 1, 16, .string ⟨#[]⟩, [.str ⟨#[]⟩]⟩ :=
  TyFact.mk' Try.underlying11 tyi11 (fun _ => rfl) rfl rfl rfl (fun w pr => ⟨.str _, trivial⟩) (fun fields h => by cases h)
theorem tyf12 : TyFact Try.prog 12 ⟨.int .u64, 1, 8, .int .u64 0, [.int .u64 0]⟩ :=
  TyFact.mk' Try.underlying12 tyi12 (fun _ => rfl) rfl rfl rfl (fun w pr => ⟨.int _ _, trivial⟩) (fun fields h => by cases h)
theorem tyf13 : TyFact Try.prog 13 ⟨.struct #[{ name := "msg", type := 9, offset := 0, embedded := false, tag := "", pkgPath := "runtime", byteOffset := 0 }, { name := "addr", type := 12, offset := 1, embedded := false, tag := "", pkgPath := "runtime", byteOffset := 16 }], 2, 24, .agg #[.string ⟨#[]⟩, .int .u64 0], [.str ⟨#[]⟩, .int .u64 0]⟩ :=
  TyFact.mk' Try.underlying13 tyi13 (fun h => by cases h) rfl rfl rfl (fun w pr => ⟨.str _, .int _ _, trivial⟩) (fun fields h => by cases h; exact ⟨[(0, 1), (1, 1)], by kernel_rfl⟩)
theorem tyf14 : TyFact Try.prog 14 ⟨.struct #[{ name := "msg", type := 9, offset := 0, embedded := false, tag := "", pkgPath := "runtime", byteOffset := 0 }, { name := "addr", type := 12, offset := 1, embedded := false, tag := "", pkgPath := "runtime", byteOffset := 16 }], 2, 24, .agg #[.string ⟨#[]⟩, .int .u64 0], [.str ⟨#[]⟩, .int .u64 0]⟩ :=
  TyFact.mk' Try.underlying14 tyi14 (fun h => by cases h) rfl rfl rfl (fun w pr => ⟨.str _, .int _ _, trivial⟩) (fun fields h => by cases h; exact ⟨[(0, 1), (1, 1)], by kernel_rfl⟩)
theorem tyf20 : TyFact Try.prog 20 ⟨.interface #[], 1, 16, .nilIface, [.nilIf]⟩ :=
  TyFact.mk' Try.underlying20 tyi20 (fun _ => rfl) rfl rfl rfl (fun w pr => ⟨.nilIf, trivial⟩) (fun fields h => by cases h)
theorem tyf21 : TyFact Try.prog 21 ⟨.int .i32, 1, 4, .int .i32 0, [.int .i32 0]⟩ :=
  TyFact.mk' Try.underlying21 tyi21 (fun _ => rfl) rfl rfl rfl (fun w pr => ⟨.int _ _, trivial⟩) (fun fields h => by cases h)
theorem tyf22 : TyFact Try.prog 22 ⟨.slice 5, 1, 24, .slice none 0 0, [.sl none []]⟩ :=
  TyFact.mk' Try.underlying22 tyi22 (fun _ => rfl) rfl rfl rfl (fun w pr => ⟨.nil _, trivial⟩) (fun fields h => by cases h)
theorem tyf23 : TyFact Try.prog 23 ⟨.struct #[{ name := "Bytes", type := 22, offset := 0, embedded := false, tag := "", pkgPath := "", byteOffset := 0 }, { name := "Unused", type := 3, offset := 1, embedded := false, tag := "", pkgPath := "", byteOffset := 24 }], 2, 32, .agg #[.slice none 0 0, .int .i64 0], [.sl none [], .int .i64 0]⟩ :=
  TyFact.mk' Try.underlying23 tyi23 (fun h => by cases h) rfl rfl rfl (fun w pr => ⟨.nil _, .int _ _, trivial⟩) (fun fields h => by cases h; exact ⟨[(0, 1), (1, 1)], by kernel_rfl⟩)
theorem tyf24 : TyFact Try.prog 24 ⟨.struct #[{ name := "Bytes", type := 22, offset := 0, embedded := false, tag := "", pkgPath := "", byteOffset := 0 }, { name := "Unused", type := 3, offset := 1, embedded := false, tag := "", pkgPath := "", byteOffset := 24 }], 2, 32, .agg #[.slice none 0 0, .int .i64 0], [.sl none [], .int .i64 0]⟩ :=
  TyFact.mk' Try.underlying24 tyi24 (fun h => by cases h) rfl rfl rfl (fun w pr => ⟨.nil _, .int _ _, trivial⟩) (fun fields h => by cases h; exact ⟨[(0, 1), (1, 1)], by kernel_rfl⟩)
theorem tyf26 : TyFact Try.prog 26 ⟨.int .i64, 1, 8, .int .i64 0, [.int .i64 0]⟩ :=
  TyFact.mk' Try.underlying26 tyi26 (fun _ => rfl) rfl rfl rfl (fun w pr => ⟨.int _ _, trivial⟩) (fun fields h => by cases h)
theorem tyf40 : TyFact Try.prog 40 ⟨.slice 3, 1, 24, .slice none 0 0, [.sl none []]⟩ :=
  TyFact.mk' Try.underlying40 tyi40 (fun _ => rfl) rfl rfl rfl (fun w pr => ⟨.nil _, trivial⟩) (fun fields h => by cases h)
theorem tyf48 : TyFact Try.prog 48 ⟨.slice 22, 1, 24, .slice none 0 0, [.sl none []]⟩ :=
  TyFact.mk' Try.underlying48 tyi48 (fun _ => rfl) rfl rfl rfl (fun w pr => ⟨.nil _, trivial⟩) (fun fields h => by cases h)
theorem tyf57 : TyFact Try.prog 57 ⟨.int .u32, 1, 4, .int .u32 0, [.int .u32 0]⟩ :=
  TyFact.mk' Try.underlying57 tyi57 (fun _ => rfl) rfl rfl rfl (fun w pr => ⟨.int _ _, trivial⟩) (fun fields h => by cases h)
theorem tyf58 : TyFact Try.prog 58 ⟨.int .u8, 1, 1, .int .u8 0, [.int .u8 0]⟩ :=
  TyFact.mk' Try.underlying58 tyi58 (fun _ => rfl) rfl rfl rfl (fun w pr => ⟨.int _ _, trivial⟩) (fun fields h => by cases h)
theorem tyf59 : TyFact Try.prog 59 ⟨.int .u8, 1, 1, .int .u8 0, [.int .u8 0]⟩ :=
  TyFact.mk' Try.underlying59 tyi59 (fun _ => rfl) rfl rfl rfl (fun w pr => ⟨.int _ _, trivial⟩) (fun fields h => by cases h)
theorem tyf62 : TyFact Try.prog 62 ⟨.int .i32, 1, 4, .int .i32 0, [.int .i32 0]⟩ :=
  TyFact.mk' Try.underlying62 tyi62 (fun _ => rfl) rfl rfl rfl (fun w pr => ⟨.int _ _, trivial⟩) (fun fields h => by cases h)
theorem tyf63 : TyFact Try.prog 63 ⟨.int .i32, 1, 4, .int .i32 0, [.int .i32 0]⟩ :=
  TyFact.mk' Try.underlying63 tyi63 (fun _ => rfl) rfl rfl rfl (fun w pr => ⟨.int _ _, trivial⟩) (fun fields h => by cases h)
theorem ty_ok : TyOk Try.prog ty := Am.tyOk_of (P := Try.prog) (l := tyL) ⟨tyf2, tyf3, tyf4, tyf5, tyf6, tyf7, tyf8, tyf9, tyf10, tyf11, tyf12, tyf13, tyf14, tyf20, tyf21, tyf22, tyf23, tyf24, tyf26, tyf40, tyf48, tyf57, tyf58, tyf59, tyf62, tyf63, trivial⟩
theorem own : ownKnob Try.prog.godebug = none := by kernel_rfl
theorem laidOut : laidOutB Try.prog = true := by kernel_rfl
theorem mixed : Try.prog.follows .mixedOrders = true := by kernel_rfl
end Go.Proofs.Ytaenfbgamkieiaa
