/-
  Rows of bools among the arguments.
-/
import Derived.Test.YthkgbajldkicfaaGreatDoorArgs
import Derived.Deep.Grids
namespace Go.Proofs.YthkgbajldkicfaaGreatDoor
set_option linter.unusedVariables false
set_option linter.unusedSimpArgs false
open Go Go.Jo Go.ChangeShapes Go.WideShapes
set_option maxRecDepth 100000
section
variable {H : Type} {enc : TypeId × Value → H} {W : World}
end
end Go.Proofs.YthkgbajldkicfaaGreatDoor
