/- Facts of the types that the printed functions use. Printed by wip/tools/gen.py. -/
import Derived.Test.YtoohfcalhlfniaaProg
import Derived.Test.YtoohfcalhlfniaaBase9
import Derived.KernelRfl
namespace Go.Proofs.Ytoohfcalhlfniaa.G
open Go Go.Proofs.Ytoohfcalhlfniaa.SL
set_option linter.unusedVariables false
set_option linter.unusedSimpArgs false

theorem _root_.Go.Proofs.Try.mixed : Try.prog.follows .mixedOrders = true := by kernel_rfl
theorem ty3 : TyIs Try.prog 3 (.int .i64 0) 1 8 := TyIs.of (by kernel_rfl)
theorem ty4 : TyIs Try.prog 4 (.bool false) 1 1 := TyIs.of (by kernel_rfl)
theorem ty24 : TyIs Try.prog 24 (.agg #[.int .i64 0, .int .i64 0]) 2 16 := TyIs.of (by kernel_rfl)
theorem ty25 : TyIs Try.prog 25 (.slice none 0 0) 1 24 := TyIs.of (by kernel_rfl)
theorem ty33 : TyIs Try.prog 33 (.slice none 0 0) 1 24 := TyIs.of (by kernel_rfl)
theorem ty35 : TyIs Try.prog 35 (.agg #[.slice none 0 0]) 1 24 := TyIs.of (by kernel_rfl)
theorem pl35 : placesOk Try.prog [{ name := "IntSlice", type := 33, offset := 0, embedded := true, tag := "", pkgPath := "", byteOffset := 0 }] [(0, 1)] := ⟨⟨rfl, _, _, ty33⟩, trivial⟩
end Go.Proofs.Ytoohfcalhlfniaa.G
