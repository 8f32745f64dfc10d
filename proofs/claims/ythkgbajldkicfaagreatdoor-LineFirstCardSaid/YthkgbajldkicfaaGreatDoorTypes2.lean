/-
  The types of this translation as the shallow forms meet them. Conditions: none.
-/
import Derived.Test.YthkgbajldkicfaaGreatDoorProg
import Derived.Test.YthkgbajldkicfaaGreatDoorTypes
namespace Go.Proofs.YthkgbajldkicfaaGreatDoor
set_option linter.unusedVariables false
set_option linter.unusedSimpArgs false
open Go Go.Jo
set_option maxRecDepth 100000
/-! ### uint -/
abbrev T_uint : TypeId := 111
theorem sz_uint (w : World) : (sizeOf 111).run Tryz.prog w = .ok 1 w := by kernel_rfl
theorem ag_uint (w : World) : (isAgg 111).run Tryz.prog w = .ok false w := by kernel_rfl
theorem zv_uint (w : World) : (zeroValue 111).run Tryz.prog w = .ok (.int .u64 0) w := by kernel_rfl
theorem und_uint : Tryz.prog.underlying 111 = some (.int .u64) := Tryz.underlying111
end Go.Proofs.YthkgbajldkicfaaGreatDoor
