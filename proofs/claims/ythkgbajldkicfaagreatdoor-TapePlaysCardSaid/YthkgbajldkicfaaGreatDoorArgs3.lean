/-
  Rows of calls among the arguments.
-/
import Derived.Test.YthkgbajldkicfaaGreatDoorArgs2
import Derived.Test.YthkgbajldkicfaaGreatDoorTxt2
namespace Go.Proofs.YthkgbajldkicfaaGreatDoor
set_option linter.unusedVariables false
set_option linter.unusedSimpArgs false
open Go Go.Jo Go.ChangeShapes Go.WideShapes
set_option maxRecDepth 100000
/-- A call: its kind, its number, its row of numbers and where that lies. -/
structure CallM where
  kind : Int
  n : Int
  ns : List Int
  nv : Value
instance : Inhabited CallM := ⟨⟨0, 0, [], .slice none 0 0⟩⟩
abbrev callC (c : CallM) : List Value := [.int .i64 c.kind, .int .i64 c.n, c.nv]
def callsL (l : List CallM) : List Value := l.flatMap callC
theorem callsL_len : ∀ l : List CallM, (callsL l).length = l.length * 3
  | [] => rfl
  | x :: l => by
    have := callsL_len l
    show (callC x ++ callsL l).length = _
    rw [List.length_append, this]
    simp
    omega
theorem callsL_at : ∀ {l : List CallM} {i : Nat} {x : CallM}, l[i]? = some x → ∀ j, j < 3 → (callsL l)[i * 3 + j]? = (callC x)[j]?
  | [], i, p, h, _, _ => by simp at h
  | q :: l, 0, p, h, j, hj => by
    have : q = p := by simpa using h
    subst this
    show (callC q ++ callsL l)[0 * 3 + j]? = _
    rw [Nat.zero_mul, Nat.zero_add, List.getElem?_append_left (by simpa using hj)]
  | q :: l, i + 1, p, h, j, hj => by
    have ih := callsL_at (l := l) (i := i) (x := p) (by simpa using h) j hj
    show (callC q ++ callsL l)[(i + 1) * 3 + j]? = _
    have e : (i + 1) * 3 + j = (i * 3 + j) + 3 := by omega
    rw [e, List.getElem?_append_right (by simp), ← ih]
    simp
/-- A call that may be: its numbers are numbers, its row can be read. -/
structure CallOk (W : World) (c : CallM) : Prop where
  kind : i64 c.kind
  n : i64 c.n
  ns : ∀ x ∈ c.ns, i64 x
  row : Row W 1 c.nv c.ns.length (intsL c.ns)
section
variable {H : Type} {enc : TypeId × Value → H} {W : World}
theorem ints_cells {t : TypeId} {fuel : Nat} {v : Value} {x : DataW H × List MemPlace} (ht : Tryz.prog.underlying t = some (.slice T_int)) (hf : DataW.trod enc Tryz.prog W 0 (fun _ => true) true fuel t [v] = some x) :
    ∃ ns : List Int, (∀ n ∈ ns, i64 n) ∧ Row W 1 v ns.length (intsL ns) := by
  rcases open_ints ht und_int (show Tryz.prog.cellsOf T_int = 1 by kernel_rfl) hf with ⟨hcs, _⟩ | ⟨a, len, cap, zs, hcs, _, hl, hm, hz, _, hcell, hwf⟩
  · have hcs : v = .slice none 0 0 := List.head_eq_of_cons_eq hcs
    rw [hcs]
    exact ⟨[], by simp, Row.nil _ _⟩
  · have hcs : v = .slice (some a) len cap := List.head_eq_of_cons_eq hcs
    rw [hcs]
    have hz : zs.length = cap := by simpa using hz
    have hlen : (zs.take len).length = len := by rw [List.length_take]; omega
    refine ⟨zs.take len, fun n hn => ?_, ?_⟩
    · have := hwf n (List.mem_of_mem_take hn)
      exact wf_i64 this
    · rw [hlen]
      refine ⟨by rw [List.length_map, hlen]; omega, some a, cap, rfl, hl, ?_⟩
      by_cases h0 : len = 0
      · exact .inl h0
      · right
        have hs := spot_of (hcell 0 (by omega))
        obtain ⟨ab, ao, sp⟩ := a
        have hs : sp = none := by simpa [Addr.add] using hs
        subst hs
        refine ⟨ab, ao, rfl, fun j hj => ?_⟩
        have := hcell j (by omega)
        rw [Addr.add_lit] at this
        rw [this]
        have hj2 : j < zs.length := by omega
        simp [List.getElem?_take, hj2, List.getD_eq_getElem?_getD]
        omega
theorem calls_of {t : TypeId} {r : Reach} {b0 : Nat} {v : Value} {d : DataW H} {ps : List MemPlace} (ht : Tryz.prog.underlying t = some (.slice T_joinerylaw9_Call)) (hval : Value.okWide Tryz.prog W r b0 t v) (hd : DataW.Trod enc Tryz.prog W 0 (fun _ => true) true t v d ps) :
    ∃ l : List CallM, (∀ c ∈ l, CallOk W c) ∧ Row W 3 v l.length (callsL l) := by
  obtain ⟨a0, len0, cap0, rfl⟩ := okWide_slice ht hval
  obtain ⟨fuel, hf⟩ := hd
  rcases Go.Deep.open_slice ht hf with ⟨hcs, _⟩ | ⟨a, len, cap, m, n, D, Pl, hcs, _, hl, hm, hmm, _, hx⟩
  · have hcs : (.slice a0 len0 cap0 : Value) = .slice none 0 0 := List.head_eq_of_cons_eq hcs
    rw [hcs]
    exact ⟨[], by simp, Row.nil _ _⟩
  · have hcs : (.slice a0 len0 cap0 : Value) = .slice (some a) len cap := List.head_eq_of_cons_eq hcs
    rw [hcs]
    have hmc : m = cap := by simpa using hmm
    subst hmc
    have c3 : Tryz.prog.cellsOf T_joinerylaw9_Call = 3 := by kernel_rfl
    rw [c3] at hx
    have each : ∀ i, i < m → ∃ c : CallM, CallOk W c ∧ ∀ j, j < 3 → W.cell? (a.add (i * 3 + j)) = (callC c)[j]? := fun i hi => by
      obtain ⟨cs', g1, g2⟩ := hx i hi
      obtain ⟨_, hlen, hcell⟩ := World.cells?_some g1
      obtain ⟨xs, k, hk, hxy, _, hxl, hff⟩ := DataW.trod_struct usd_joinerylaw9_Call g2
      rw [flds_joinerylaw9_Call] at hff hxl
      match xs, hxl, cs', hlen with
      | [y0, y1, y2], _, [v0, v1, v2], _ =>
        have f0 : DataW.trod enc Tryz.prog W 0 (fun _ => true) true k 3 (([v0, v1, v2].drop 0).take (Tryz.prog.cellsOf 3)) = some y0 := hff 0 _ rfl
        have f1 : DataW.trod enc Tryz.prog W 0 (fun _ => true) true k 3 (([v0, v1, v2].drop 1).take (Tryz.prog.cellsOf 3)) = some y1 := hff 1 _ rfl
        have f2 : DataW.trod enc Tryz.prog W 0 (fun _ => true) true k 22 (([v0, v1, v2].drop 2).take (Tryz.prog.cellsOf 22)) = some y2 := hff 2 _ rfl
        rw [show Tryz.prog.cellsOf 3 = 1 by kernel_rfl] at f0 f1
        rw [show Tryz.prog.cellsOf 22 = 1 by kernel_rfl] at f2
        obtain ⟨m0, e0, _, w0⟩ := DataW.trod_int und_int (show DataW.trod enc Tryz.prog W 0 (fun _ => true) true k T_int [v0] = some y0 from f0)
        obtain ⟨m1, e1, _, w1⟩ := DataW.trod_int und_int (show DataW.trod enc Tryz.prog W 0 (fun _ => true) true k T_int [v1] = some y1 from f1)
        obtain ⟨ns, w2, r2⟩ := ints_cells und_sl_int (show DataW.trod enc Tryz.prog W 0 (fun _ => true) true k T_sl_int [v2] = some y2 from f2)
        have e0 : v0 = .int .i64 m0 := List.head_eq_of_cons_eq e0
        have e1 : v1 = .int .i64 m1 := List.head_eq_of_cons_eq e1
        subst e0 e1
        refine ⟨⟨m0, m1, ns, v2⟩, ⟨wf_i64 w0, wf_i64 w1, w2, r2⟩, fun j hj => ?_⟩
        have := hcell j hj
        rw [Go.Deep.add_add] at this
        exact this
    obtain ⟨f, hf⟩ := Go.Deep.choose_lt each
    refine ⟨(List.range len).map f, fun c hc => ?_, ?_⟩
    · obtain ⟨i, hi, rfl⟩ := List.mem_map.1 hc
      exact (hf i (by have := List.mem_range.1 hi; omega)).1
    · have hlen : ((List.range len).map f).length = len := by simp
      rw [hlen]
      refine ⟨by rw [callsL_len, hlen], some a, m, rfl, hl, ?_⟩
      by_cases h0 : len = 0
      · exact .inl h0
      · right
        have hs := spot_of ((hf 0 (by omega)).2 0 (by omega))
        obtain ⟨ab, ao, sp⟩ := a
        have hs : sp = none := by simpa [Addr.add] using hs
        subst hs
        refine ⟨ab, ao, rfl, fun j hj => ?_⟩
        have h1 := (hf (j / 3) (by omega)).2 (j % 3) (by omega)
        have ej : j / 3 * 3 + j % 3 = j := by omega
        rw [ej, Addr.add_lit] at h1
        have h2 := callsL_at (l := (List.range len).map f) (i := j / 3) (x := f (j / 3)) (by rw [List.getElem?_map, List.getElem?_range (by omega)]; rfl) (j % 3) (by omega)
        rw [ej] at h2
        rw [h1, h2]
end
end Go.Proofs.YthkgbajldkicfaaGreatDoor
