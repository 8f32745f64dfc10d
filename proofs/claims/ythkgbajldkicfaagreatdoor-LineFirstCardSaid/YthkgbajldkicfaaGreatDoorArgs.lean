/-
  Rows among the arguments, out of what is read of them.
-/
import Derived.Test.YthkgbajldkicfaaGreatDoorEnv
import Derived.Test.YthkgbajldkicfaaGreatDoorSame
import Derived.ChangeSlices
namespace Go.Proofs.YthkgbajldkicfaaGreatDoor
set_option linter.unusedVariables false
set_option linter.unusedSimpArgs false
open Go Go.Jo Go.ChangeShapes Go.WideShapes
set_option maxRecDepth 100000

section
variable {H : Type} {enc : TypeId × Value → H} {W : World}
theorem spot_of {a : Addr} {v : Value} (h : W.cell? a = some v) : a.spot = none := by
  unfold World.cell? at h
  split at h
  · split at h
    · cases h
    · rename_i hs
      simpa using hs
  · cases h
theorem wf_i64 {n : Int} (h : (Lit.int .i64 n).wf = true) : -9223372036854775808 ≤ n ∧ n ≤ 9223372036854775807 := by
  simp only [Lit.wf, Bool.and_eq_true, decide_eq_true_eq] at h
  exact h
theorem ints_of {t : TypeId} {r : Reach} {b0 : Nat} {v : Value} {d : DataW H} {ps : List MemPlace} (ht : Tryz.prog.underlying t = some (.slice T_int)) (hval : Value.okWide Tryz.prog W r b0 t v) (hd : DataW.Trod enc Tryz.prog W 0 (fun _ => true) true t v d ps) :
    ∃ ns : List Int, (∀ n ∈ ns, -9223372036854775808 ≤ n ∧ n ≤ 9223372036854775807) ∧ Row W 1 v ns.length (intsL ns) := by
  obtain ⟨a0, len0, cap0, rfl⟩ := okWide_slice ht hval
  obtain ⟨fuel, hf⟩ := hd
  rcases open_ints ht und_int (show Tryz.prog.cellsOf T_int = 1 by kernel_rfl) hf with ⟨hcs, _⟩ | ⟨a, len, cap, zs, hcs, _, hl, hm, hz, _, hcell, hwf⟩
  · have hcs : (.slice a0 len0 cap0 : Value) = .slice none 0 0 := List.head_eq_of_cons_eq hcs
    rw [hcs]
    exact ⟨[], by simp, Row.nil _ _⟩
  · have hcs : (.slice a0 len0 cap0 : Value) = .slice (some a) len cap := List.head_eq_of_cons_eq hcs
    rw [hcs]
    have hz : zs.length = cap := by simpa using hz
    have hlen : (zs.take len).length = len := by rw [List.length_take]; omega
    refine ⟨zs.take len, fun n hn => ?_, ?_⟩
    · have := hwf n (List.mem_of_mem_take hn)
      exact wf_i64 this
    · rw [hlen]
      refine ⟨by rw [List.length_map, hlen]; omega, some a, cap, rfl, hl, ?_⟩
      by_cases h0 : len = 0
      · exact .inl h0
      · right
        have hs := spot_of (hcell 0 (by omega))
        obtain ⟨ab, ao, sp⟩ := a
        have hs : sp = none := by simpa [Addr.add] using hs
        subst hs
        refine ⟨ab, ao, rfl, fun j hj => ?_⟩
        have := hcell j (by omega)
        rw [Addr.add_lit] at this
        rw [this]
        have hj2 : j < zs.length := by omega
        simp [List.getElem?_take, hj2, List.getD_eq_getElem?_getD]
        omega
end
end Go.Proofs.YthkgbajldkicfaaGreatDoor
