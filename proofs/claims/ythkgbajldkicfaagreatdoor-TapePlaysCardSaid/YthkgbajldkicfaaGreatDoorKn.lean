/-
  Errors' words; numbers from 0 on; what is known.
-/
import Derived.Test.YthkgbajldkicfaaGreatDoorTxt3
import Derived.Test.YthkgbajldkicfaaGreatDoorS3
namespace Go.Proofs.YthkgbajldkicfaaGreatDoor
set_option linter.unusedVariables false
set_option linter.unusedSimpArgs false
open Go Go.Jo
set_option maxRecDepth 100000

/-- A number from 0 to n - 1. -/
def withinM (a n : Int) : Int := if a.tmod n < 0 then a.tmod n + n else a.tmod n
theorem within_lt (a n : Int) (hn : 0 < n) : 0 ≤ withinM a n ∧ withinM a n < n := by
  have h1 := Int.tmod_lt_of_pos a hn
  have h2 := Int.lt_tmod_of_pos a hn
  unfold withinM
  split <;> omega
theorem c_within4 {a n : Int} (w : World) (hn : 0 < n) (hn2 : n < 4611686018427387904) : RetV Tryz.prog F_joinerylaw4_within #[.int .i64 a, .int .i64 n] w (.int .i64 (withinM a n)) := by
  refine call_joinerylaw4_within ?_
  unfold S_joinerylaw4_within
  have h1 := Int.tmod_lt_of_pos a hn
  have h2 := Int.lt_tmod_of_pos a hn
  rw [xrem _ _ _ _ _ _ _ _ (by omega), xlss]
  refine xc_dec ?_ ?_
  · intro hlt
    rw [xadd, wi64 (by omega) (by omega), withinM, if_pos hlt]
    exact ⟨rfl, Ext.refl _⟩
  · intro hge
    rw [withinM, if_neg hge]
    exact ⟨rfl, Ext.refl _⟩

abbrev nilV : Value := .slice none 0 0
theorem at_bare (w : World) (r : RecM) (h1 : r.peers = []) (h2 : r.places = []) (h3 : r.node.marks = []) (h4 : r.node.taints = []) : RecAt w r (recV r nilV nilV nilV nilV) :=
  ⟨nilV, nilV, nilV, nilV, rfl, by rw [h1]; exact Row.nil _ _, by rw [h2]; exact Row.nil _ _, by rw [h3]; exact Row.nil _ _, by rw [h4]; exact Row.nil _ _⟩
theorem RecAt.parts {w : World} {r : RecM} {v : Value} (h : RecAt w r v) : ∃ pv lv mv tv, v = recV r pv lv mv tv ∧ Flats pv lv mv tv := by
  obtain ⟨pv, lv, mv, tv, rfl, h1, h2, h3, h4⟩ := h
  exact ⟨pv, lv, mv, tv, rfl, h1.flat.1, h2.flat.1, h3.flat.1, h4.flat.1⟩
end Go.Proofs.YthkgbajldkicfaaGreatDoor
