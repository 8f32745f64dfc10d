/-
  The laws TapeAgain and TapeSyncs, walked.
-/
import Derived.Test.YthkgbajldkicfaaGreatDoorTpS
import Derived.Test.YthkgbajldkicfaaGreatDoorS5
namespace Go.Proofs.YthkgbajldkicfaaGreatDoor
set_option linter.unusedVariables false
set_option linter.unusedSimpArgs false
open Go Go.Jo
set_option maxRecDepth 100000

theorem c_within9 {a n : Int} (w : World) (hn : 0 < n) (hn2 : n < 4611686018427387904) : RetV Tryz.prog F_joinerylaw9_within #[.int .i64 a, .int .i64 n] w (.int .i64 (withinM a n)) := by
  refine call_joinerylaw9_within ?_
  unfold S_joinerylaw9_within
  have h1 := Int.tmod_lt_of_pos a hn
  have h2 := Int.lt_tmod_of_pos a hn
  rw [xrem _ _ _ _ _ _ _ _ (by omega), xlss]
  refine xc_dec ?_ ?_
  · intro hlt
    rw [xadd, wi64 (by omega) (by omega), withinM, if_pos hlt]
    exact ⟨rfl, Ext.refl _⟩
  · intro hge
    rw [withinM, if_neg hge]
    exact ⟨rfl, Ext.refl _⟩
/-- A call that leaves all as it was. -/
theorem ts_callV {x : List Nat} {w0 w : World} {b n : Nat} {rs : List RecM} {L : List Res} {K : Value → World → Prop} {f : FuncId} {args : Array Value} {v : Value} (he : ∀ (args : Array Value) w, (callFunc f args).run Tryz.prog w = .ok (.enter f args) w) (hc : RetV Tryz.prog f args w v) (h : TS x w0 b rs n L w) (hk : ∀ w', TS x w0 b rs n L w' → K v w') : XCall Tryz.prog f args w K :=
  xcall_of (he args) hc fun v' w' hq => hq.1 ▸ hk w' (h.step hq.2)
end Go.Proofs.YthkgbajldkicfaaGreatDoor
