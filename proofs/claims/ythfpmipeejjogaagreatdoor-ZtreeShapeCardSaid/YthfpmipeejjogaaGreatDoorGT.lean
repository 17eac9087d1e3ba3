/- Facts of the types that the printed functions use. Printed by wip/tools/gen.py. -/
import Derived.Test.YthfpmipeejjogaaGreatDoorProg
import Derived.Test.YthfpmipeejjogaaGreatDoorBase9
import Derived.KernelRfl
namespace Go.Proofs.YthfpmipeejjogaaGreatDoor.G
open Go Go.Proofs.YthfpmipeejjogaaGreatDoor.SL
set_option linter.unusedVariables false
set_option linter.unusedSimpArgs false

theorem _root_.Go.Proofs.Tryz.mixed : Tryz.prog.follows .mixedOrders = true := by kernel_rfl
theorem ty3 : TyIs Tryz.prog 3 (.int .i64 0) 1 8 := TyIs.of (by kernel_rfl)
theorem ty4 : TyIs Tryz.prog 4 (.bool false) 1 1 := TyIs.of (by kernel_rfl)
theorem ty5 : TyIs Tryz.prog 5 (.int .u8 0) 1 1 := TyIs.of (by kernel_rfl)
theorem ty9 : TyIs Tryz.prog 9 (.string ByteArray.empty) 1 16 := TyIs.of (by kernel_rfl)
theorem ty30 : TyIs Tryz.prog 30 (.slice none 0 0) 1 24 := TyIs.of (by kernel_rfl)
theorem ty32 : TyIs Tryz.prog 32 (.agg #[.int .i64 0, .int .i64 0, .int .i64 0, .int .i64 0]) 4 32 := TyIs.of (by kernel_rfl)
theorem ty40 : TyIs Tryz.prog 40 (.agg #[.int .i64 0, .int .i64 0, .string ByteArray.empty, .slice none 0 0, .bool false]) 5 64 := TyIs.of (by kernel_rfl)
theorem ty126 : TyIs Tryz.prog 126 (.map none) 1 8 := TyIs.of (by kernel_rfl)
theorem ty128 : TyIs Tryz.prog 128 (.agg #[.map none]) 1 8 := TyIs.of (by kernel_rfl)
theorem ty133 : TyIs Tryz.prog 133 (.agg #[.int .i64 0, .int .i64 0, .int .i64 0, .int .i64 0, .slice none 0 0]) 5 56 := TyIs.of (by kernel_rfl)
theorem pl32 : placesOk Tryz.prog [{ name := "Version", type := 3, offset := 0, embedded := false, tag := "", pkgPath := "", byteOffset := 0 }, { name := "Counter", type := 3, offset := 1, embedded := false, tag := "", pkgPath := "", byteOffset := 8 }, { name := "Owner", type := 3, offset := 2, embedded := false, tag := "", pkgPath := "", byteOffset := 16 }, { name := "Children", type := 3, offset := 3, embedded := false, tag := "", pkgPath := "", byteOffset := 24 }] [(0, 1), (1, 1), (2, 1), (3, 1)] := ⟨⟨rfl, _, _, ty3⟩, ⟨⟨rfl, _, _, ty3⟩, ⟨⟨rfl, _, _, ty3⟩, ⟨⟨rfl, _, _, ty3⟩, trivial⟩⟩⟩⟩
theorem pl128 : placesOk Tryz.prog [{ name := "nodes", type := 126, offset := 0, embedded := false, tag := "", pkgPath := "althing/ztree", byteOffset := 0 }] [(0, 1)] := ⟨⟨rfl, _, _, ty126⟩, trivial⟩
theorem pl133 : placesOk Tryz.prog [{ name := "Stat", type := 32, offset := 0, embedded := true, tag := "", pkgPath := "", byteOffset := 0 }, { name := "data", type := 30, offset := 4, embedded := false, tag := "", pkgPath := "althing/ztree", byteOffset := 32 }] [(0, 4), (4, 1)] := ⟨⟨rfl, _, _, ty32⟩, ⟨⟨rfl, _, _, ty30⟩, trivial⟩⟩
end Go.Proofs.YthfpmipeejjogaaGreatDoor.G
