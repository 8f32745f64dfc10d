/-
  A line that is read is the one that is written of what was read.
-/
import Derived.Test.YthkgbajldkicfaaGreatDoorTxt3
namespace Go.Proofs.YthkgbajldkicfaaGreatDoor
set_option linter.unusedVariables false
set_option linter.unusedSimpArgs false
open Go Go.Jo
set_option maxRecDepth 100000

theorem foldD_ge : ∀ (l : Str) (a : Nat), a ≤ l.foldl (fun n b => n * 10 + (b.toNat - 48)) a
  | [], a => Nat.le_refl _
  | b :: l, a => by
    have := foldD_ge l (a * 10 + (b.toNat - 48))
    simp only [List.foldl_cons]
    omega
theorem valD_pos (b : UInt8) (l : Str) (hd : isDig b = true) (hb : b ≠ 48) : 1 ≤ valD (b :: l) := by
  have h := foldD_ge l (0 * 10 + (b.toNat - 48))
  obtain ⟨h1, h2⟩ := (isDig_iff b).1 hd
  have h3 : b.toNat ≠ 48 := fun e => hb (UInt8.toNat_inj.1 (by rw [e]; rfl))
  unfold valD
  rw [List.foldl_cons]
  omega
/-! ### Readers -/
/-! ### Lines -/
theorem head_kind (k : Nat) (b : Str) : (headM k b).1.kind = k := by
  unfold headM
  split
  · rfl
  · split <;> rfl
theorem secT_node {r : RecM} (h : r.kind = 1) : secT r = nodeT r.node := by unfold secT; rw [if_pos h]
theorem secT_gone {r : RecM} (h : r.kind = 2) : secT r = r.node.name := by unfold secT; rw [if_neg (by omega), if_pos h]
theorem secT_else {r : RecM} (h1 : r.kind ≠ 1) (h2 : r.kind ≠ 2) : secT r = Lib.itoa r.gang := by unfold secT; rw [if_neg h1, if_neg h2]
end Go.Proofs.YthkgbajldkicfaaGreatDoor
