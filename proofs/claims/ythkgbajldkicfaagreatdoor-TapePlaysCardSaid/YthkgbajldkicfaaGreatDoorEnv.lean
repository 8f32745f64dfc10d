/-
  What the rows' lists give; a world for the witness.
-/
import Derived.Test.YthkgbajldkicfaaGreatDoorRd3
import Derived.Test.YthkgbajldkicfaaGreatDoorRows
import Derived.LaidMore
import Derived.Lay
import Derived.Lib.LaidTab
import Derived.ProofKit
import Derived.OpenShut
import Derived.WalkKit
import Derived.Deep.DeepHandedRow
import Derived.Carry
import Derived.LaidLaws
namespace Go.Proofs.YthkgbajldkicfaaGreatDoor
set_option linter.unusedVariables false
set_option linter.unusedSimpArgs false
open Go Go.Jo
set_option maxRecDepth 100000

theorem own : ownKnob Tryz.prog.godebug = none := by kernel_rfl
abbrev laidL : List (String × DataW Unit) := Rows.lineKnownRow.laid
theorem noHandles : (laidL.filter fun x => x.2.handleName?.isSome) = [] := by kernel_rfl
theorem met {W : World} (h : laidMetH Tryz.prog laidL W) : laidMet Tryz.prog laidL W := by
  unfold laidMetH at h
  rw [noHandles] at h
  exact h
theorem most_of {W : World} (h : W.ShapedOpen Tryz.prog) : ∃ m, W.cell? ⟨G_MaxLen, 0, none⟩ = some (.int .i64 m) := Tryz.laysM146.s1_3 W h
/-- What stands behind the first listed. -/
theorem vars_tail {P : Program} {w : World} {x : String × DataW Unit} {l : List (String × DataW Unit)} {ps : List MemPlace} (h : DataW.LaidVars P w (x :: l) ps) : ∃ qs, DataW.LaidVars P w l qs := by
  obtain ⟨g, t, cs, fuel, p, q, _, _, _, _, h, _⟩ := h
  exact ⟨q, h⟩
theorem tab_of {P : Program} {W : World} {name : String} {k : IntKind} {zs : List Int} {rest : List (String × DataW Unit)} {ps : List MemPlace} {d : DataW Unit} {g : Nat} {t e : TypeId} {n : Nat}
    (hg : P.globalNamed name = some g) (hty : (P.globals[g]?).map (·.type) = some t) (ht : P.underlying t = some (.array n e)) (he : P.underlying e = some (.int k)) (hce : P.cellsOf e = 1) (hct : P.cellsOf t = n)
    (hd : d = Lib.tabData k zs) (h : DataW.LaidVars P W ((name, d) :: rest) ps) : Lib.TabIs P W name k zs := by
  subst hd
  obtain ⟨g', t', cs, fuel, p, q, hg', ht', hvar, hd, _, _⟩ := h
  obtain rfl := Option.some.inj (hg.symm.trans hg')
  obtain rfl := Option.some.inj (hty.symm.trans ht')
  unfold Lib.TabIs
  rw [hvar, ← Lib.cells_of_tab ht he hce hct hd]
/-! ### Arguments read again as they did -/
theorem laidOutP : laidOutB Tryz.prog = true := by kernel_rfl
section
variable {H : Type} {enc : TypeId × Value → H}
open Go.ChangeShapes Go.WideShapes Go.ChangeAt Go.RowKit
theorem again_all {W W' : World} (hb : Ext W W') : ∀ {ts : List TypeId} {vs : List Value} {ds : List (DataW H)} {ps : List MemPlace}, (∀ t ∈ ts, Tryz.prog.readableRec t = true ∧ t < Tryz.prog.types.size) → DataW.TrodAll enc Tryz.prog W 0 (fun _ => true) true ts vs ds ps → (∀ x ∈ ps, x.block < W.heap.size) →
    DataW.TrodAll enc Tryz.prog W' 0 (fun b => decide (b < W.heap.size)) true ts vs ds ps
  | [], [], [], _, _, h, _ => h
  | t :: ts, _ :: _, _ :: _, _, hT, ⟨p, q, h1, h2, e⟩, hs =>
    ⟨p, q, Below.trod laidOutP (hT t (by simp)).1 (hT t (by simp)).2 h1 hb (fun x hx => hs x (by rw [e]; exact List.mem_append_left _ hx)),
      again_all hb (fun u hu => hT u (by simp [hu])) h2 (fun x hx => hs x (by rw [e]; exact List.mem_append_right _ hx)), e⟩
/-- A law's last step: true was handed back, and all that stood stands. -/
theorem post_law {fn : Func} {s : ChangeSpec} {W W' : World} {args : Array Value} {ds gs : List (DataW H)} {before : List MemPlace} (hv : s.vars = []) (hr : fn.resultTypes = #[T_bool])
    (hts : ∀ t ∈ fn.params.toList, Tryz.prog.readableRec t = true ∧ t < Tryz.prog.types.size) (hW : DataW.Whole enc Tryz.prog fn.params.toList s.vars false W args.toList ds gs before)
    (hs : s.fn H ds = { results := [.lit (.bool true)], args := ds }) (hb : Ext W W') : s.post enc Tryz.prog fn false true false false W args (.bool true) W' := by
  have hW' := hW
  obtain ⟨p, q, hA, hV, rfl, _, _⟩ := hW
  rw [hv] at hV
  obtain ⟨rfl, rfl⟩ := trodVars_none hV
  have hlt : ∀ x ∈ p, x.block < W.heap.size := fun x hx => hW'.lt x (by simpa using hx)
  refine ⟨ds, [], p ++ [], [], p, [], hW', ?_, ?_, ?_, Below.frame hb _, fun h => by cases h⟩
  · rw [List.append_nil, hs, hr]
    exact trodAll_mk1 (shut_bool (show Tryz.prog.underlying T_bool = some .bool by kernel_rfl) _)
  · rw [List.append_nil, hs]
    exact again_all hb hts hA hlt
  · rw [List.append_nil, hs, hv]
    rfl
end
/-! ### A world for the witness -/
theorem laidFits (os : Os) : (World.holding Tryz.prog os ⟨#[], #[], []⟩).layFits Tryz.prog laidL [] = true := by kernel_rfl
theorem laidIfaces (os : Os) : (World.holding Tryz.prog os ⟨#[], #[], []⟩).layIfaces Tryz.prog laidL (World.laidAll Tryz.prog os laidL) = true := by kernel_rfl
theorem laidMetW (os : Os) (args : Array Value) : laidMetH Tryz.prog laidL ((World.laidAll Tryz.prog os laidL).forCall (fun _ _ => 0) ⟨#[], args, []⟩).memory := by
  unfold laidMetH
  rw [noHandles]
  exact laidMet_laidAll args (laidFits os) (laidIfaces os)
theorem shapedW (os : Os) (args : Array Value) : ((World.laidAll Tryz.prog os laidL).forCall (fun _ _ => 0) ⟨#[], args, []⟩).Shaped Tryz.prog := World.shaped_of_ZipB (by kernel_rfl) (by kernel_rfl)
theorem env_of {W : World} (hL : laidMetH Tryz.prog laidL W) (hsh : W.ShapedOpen Tryz.prog) : EnvP W := by
  obtain ⟨ps, h0, _, _⟩ := met hL
  obtain ⟨p1, h1⟩ := vars_tail h0
  obtain ⟨p2, h2⟩ := vars_tail h1
  obtain ⟨p3, h3⟩ := vars_tail h2
  obtain ⟨p4, h4⟩ := vars_tail h3
  obtain ⟨p5, h5⟩ := vars_tail h4
  exact ⟨tab_of (g := 0) (t := 112) (e := 5) (n := 256) (by kernel_rfl) (by kernel_rfl) (by kernel_rfl) (by kernel_rfl) (by kernel_rfl) (by kernel_rfl) (by kernel_rfl) h5, tab_of (g := 2) (t := 208) (e := 185) (n := 20) (by kernel_rfl) (by kernel_rfl) (by kernel_rfl) (by kernel_rfl) (by kernel_rfl) (by kernel_rfl) (by kernel_rfl) h2, most_of hsh⟩
end Go.Proofs.YthkgbajldkicfaaGreatDoor
