/-
  Rows of bools among the arguments.
-/
import Derived.Test.YthkgbajldkicfaaGreatDoorArgs
import Derived.Deep.Grids
namespace Go.Proofs.YthkgbajldkicfaaGreatDoor
set_option linter.unusedVariables false
set_option linter.unusedSimpArgs false
open Go Go.Jo Go.ChangeShapes Go.WideShapes
set_option maxRecDepth 100000
abbrev boolsL (l : List Bool) : List Value := l.map fun b => .bool b
section
variable {H : Type} {enc : TypeId × Value → H} {W : World}
theorem bools_of {t : TypeId} {r : Reach} {b0 : Nat} {v : Value} {d : DataW H} {ps : List MemPlace} (ht : Tryz.prog.underlying t = some (.slice T_bool)) (hval : Value.okWide Tryz.prog W r b0 t v) (hd : DataW.Trod enc Tryz.prog W 0 (fun _ => true) true t v d ps) :
    ∃ ns : List Bool, Row W 1 v ns.length (boolsL ns) := by
  obtain ⟨a0, len0, cap0, rfl⟩ := okWide_slice ht hval
  obtain ⟨fuel, hf⟩ := hd
  rcases Go.Deep.open_bools ht (show Tryz.prog.underlying T_bool = some .bool by kernel_rfl) (show Tryz.prog.cellsOf T_bool = 1 by kernel_rfl) hf with ⟨hcs, _⟩ | ⟨a, len, cap, B, hcs, _, hl, hm, _, hcell⟩
  · have hcs : (.slice a0 len0 cap0 : Value) = .slice none 0 0 := List.head_eq_of_cons_eq hcs
    rw [hcs]
    exact ⟨[], Row.nil _ _⟩
  · have hcs : (.slice a0 len0 cap0 : Value) = .slice (some a) len cap := List.head_eq_of_cons_eq hcs
    rw [hcs]
    refine ⟨(List.range len).map B, ?_⟩
    have hlen : ((List.range len).map B).length = len := by simp
    rw [hlen]
    refine ⟨by simp, some a, cap, rfl, hl, ?_⟩
    by_cases h0 : len = 0
    · exact .inl h0
    · right
      have hs := spot_of (hcell 0 (by omega))
      obtain ⟨ab, ao, sp⟩ := a
      have hs : sp = none := by simpa [Addr.add] using hs
      subst hs
      refine ⟨ab, ao, rfl, fun j hj => ?_⟩
      have hj : j < len := by omega
      have := hcell j (by omega)
      rw [Addr.add_lit] at this
      rw [this]
      simp [hj]
end
end Go.Proofs.YthkgbajldkicfaaGreatDoor
