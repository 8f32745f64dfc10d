/-
  The types of this translation as the shallow forms meet them. Conditions: none.
-/
import Derived.Test.YthkgbajldkicfaaGreatDoorProg
import Derived.Test.YthkgbajldkicfaaGreatDoorTypes
namespace Go.Proofs.YthkgbajldkicfaaGreatDoor
set_option linter.unusedVariables false
set_option linter.unusedSimpArgs false
open Go Go.Jo
set_option maxRecDepth 100000
/-! ### tape.sync -/
abbrev T_tape_sync : TypeId := 108
theorem sz_tape_sync (w : World) : (sizeOf 108).run Tryz.prog w = .ok 0 w := by kernel_rfl
theorem zv_tape_sync (w : World) : (zeroValue 108).run Tryz.prog w = .ok (.agg #[]) w := by kernel_rfl
end Go.Proofs.YthkgbajldkicfaaGreatDoor
