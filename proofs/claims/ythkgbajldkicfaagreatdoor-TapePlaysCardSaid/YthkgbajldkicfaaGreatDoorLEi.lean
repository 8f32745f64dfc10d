/-
  The law LineEight, walked.
-/
import Derived.Test.YthkgbajldkicfaaGreatDoorKn
import Derived.Test.YthkgbajldkicfaaGreatDoorSame
import Derived.Test.YthkgbajldkicfaaGreatDoorXMem2
namespace Go.Proofs.YthkgbajldkicfaaGreatDoor
set_option linter.unusedVariables false
set_option linter.unusedSimpArgs false
open Go Go.Jo
set_option maxRecDepth 100000

def eC (i : Nat) : UInt8 := UInt8.ofNat (97 + i)
def eP (k : Nat) : List PlaceM := (List.range k).map fun i => ⟨[112, eC i], [110], zVec, false⟩
def eR (k : Nat) : RecM := ⟨3, 3, [2], eP k, zNode⟩
def eS : Nat → Str
  | 0 => [112, 114, 101, 112, 97, 114, 101, 32, 51, 32, 50]
  | i + 1 => eS i ++ [32] ++ [112, eC i] ++ [62, 110, 58, 48, 44, 48]
def eW (k : Nat) : Int := if k < 1 ∨ 8 < k then 3 else 0
def e8 (k : Nat) : Bool := decide ((parseM (eS k)).2 = eW k) && decide (checkM (eR k) = eW k) && (decide (eW k ≠ 0) || decide ((parseM (eS k)).1.places.length = k))
def eT (k i j : Nat) : RecM := { eR k with places := (eP k).set i ⟨[112, eC j], [110], zVec, false⟩ }
def e9 (k : Nat) : Bool := (List.range k).all fun i => (List.range k).all fun j => decide (checkM (eT k i j) = 4) == decide (i ≠ j)
end Go.Proofs.YthkgbajldkicfaaGreatDoor
