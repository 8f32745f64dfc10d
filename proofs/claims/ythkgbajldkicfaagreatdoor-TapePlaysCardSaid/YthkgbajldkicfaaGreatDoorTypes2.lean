/-
  The types of this translation as the shallow forms meet them. Conditions: none.
-/
import Derived.Test.YthkgbajldkicfaaGreatDoorProg
import Derived.Test.YthkgbajldkicfaaGreatDoorTypes
namespace Go.Proofs.YthkgbajldkicfaaGreatDoor
set_option linter.unusedVariables false
set_option linter.unusedSimpArgs false
open Go Go.Jo
set_option maxRecDepth 100000
/-! ### uint -/
theorem und_uint : Tryz.prog.underlying 111 = some (.int .u64) := Tryz.underlying111
end Go.Proofs.YthkgbajldkicfaaGreatDoor
