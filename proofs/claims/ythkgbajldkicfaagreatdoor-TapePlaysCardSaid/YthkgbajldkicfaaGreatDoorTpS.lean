/-
  Tapes of records: each thing that is done to one, as a step.
-/
import Derived.Test.YthkgbajldkicfaaGreatDoorTp4
namespace Go.Proofs.YthkgbajldkicfaaGreatDoor
set_option linter.unusedVariables false
set_option linter.unusedSimpArgs false
open Go Go.Jo
set_option maxRecDepth 100000

/-- A record that is written well. -/
structure RecG (r : RecM) : Prop where
  ok : checkM r = 0
  plain : NamesPlain r
theorem text_ne {r : RecM} (h : RecOk r) : textM r ≠ [] := by
  have hw := words_no32 h (headT r) (by simp [wordsT, frontT])
  unfold textM wordsT frontT
  rw [List.append_assoc, List.cons_append, Lib.join_cons]
  intro e
  exact hw.2 (List.append_eq_nil_iff.1 e).1
theorem RecG.line {r : RecM} (h : RecG r) : LineOk (textM r) := ⟨plain_text (rec_ok h.ok) h.plain, text_ne (rec_ok h.ok)⟩
theorem textC_len : ∀ {rs : List RecM}, (∀ r ∈ rs, RecG r) → (textC (rs.map textM)).length ≤ rs.length * 5001
  | [], _ => by simp [textC]
  | r :: rs, h => by
    have ih := textC_len (rs := rs) fun q hq => h q (by simp [hq])
    have hr := h r (by simp)
    have h1 := text_len (rec_ok hr.ok)
    have h2 := cp_len hr.line.plain
    rw [List.map_cons, textC_cons, List.length_append, List.length_cons, List.length_cons, Nat.add_mul]
    omega
/-- A tape of these records, so many of which last, among what is owned. -/
structure TS (x : List Nat) (w0 : World) (b : Nat) (rs : List RecM) (n : Nat) (L : List Res) (w : World) : Prop where
  st : ∃ v, St x w0 (tapeR b v (rs.map textM) n ++ L) w
  good : ∀ r ∈ rs, RecG r
  le : n ≤ rs.length
  few : rs.length ≤ 300
theorem TS.step {x : List Nat} {w0 w w' : World} {b n : Nat} {rs : List RecM} {L : List Res} (h : TS x w0 b rs n L w) (e : Ext w w') : TS x w0 b rs n L w' := by
  obtain ⟨v, hv⟩ := h.st
  exact ⟨⟨v, hv.step e⟩, h.good, h.le, h.few⟩
theorem TS.ext {w0 w : World} {b n : Nat} {rs : List RecM} {L : List Res} (h : TS [] w0 b rs n L w) : Ext w0 w := by
  obtain ⟨v, hv⟩ := h.st
  exact hv.ext
theorem TS.len {x : List Nat} {w0 w : World} {b n : Nat} {rs : List RecM} {L : List Res} (h : TS x w0 b rs n L w) : (textC (rs.map textM)).length ≤ 2000000 := by
  have := textC_len h.good
  have h2 : rs.length * 5001 ≤ 300 * 5001 := Nat.mul_le_mul_right _ h.few
  omega
theorem TS.lines {x : List Nat} {w0 w : World} {b n : Nat} {rs : List RecM} {L : List Res} (h : TS x w0 b rs n L w) : ∀ s ∈ rs.map textM, LineOk s := fun s hs => by
  obtain ⟨r, hr, rfl⟩ := List.mem_map.1 hs
  exact (h.good r hr).line
/-- What is owned beside a tape, in another order or less of it. -/
theorem TS.rest {x : List Nat} {w0 w : World} {b n : Nat} {rs : List RecM} {L L' : List Res} (h : TS x w0 b rs n L w) (hL : ∀ A : List Res, St x w0 (A ++ L) w → St x w0 (A ++ L') w) : TS x w0 b rs n L' w := by
  obtain ⟨v, hv⟩ := h.st
  exact ⟨⟨v, hL _ hv⟩, h.good, h.le, h.few⟩
theorem TS.none {x : List Nat} {w0 w : World} {b n : Nat} {rs : List RecM} {L : List Res} (h : TS x w0 b rs n L w) : TS x w0 b rs n [] w :=
  h.rest fun A hA => hA.perm (by simp)
section
variable {x : List Nat} {w0 w : World} {b n : Nat} {rs : List RecM} {L : List Res} {K : Value → World → Prop}
theorem ts_new (h : St x w0 L w) (hk : ∀ b w', TS x w0 b [] 0 L w' → K (pt b) w') : XCall Tryz.prog F_tape_New #[] w K := by
  refine st_callE en_tape_New (c_newT w) h ?_
  rintro v w1 ⟨b, rfl, k⟩ mg
  exact hk b w1 ⟨⟨nilV, mg _ k⟩, by simp, Nat.le_refl _, by simp⟩
theorem ts_write {r : RecM} {rv : Value} (he : EnvP w) (h : TS x w0 b rs n L w) (hr : RecAt w r rv) (hg : RecG r) (hf : rs.length < 300) (hk : ∀ w', TS x w0 b (rs ++ [r]) n L w' → K (.tuple #[]) w') : XCall Tryz.prog F_tape_Tape_Write #[pt b, rv] w K := by
  obtain ⟨v, hv⟩ := h.st
  have hl := h.len
  have hlm : (rs.map textM).length = rs.length := List.length_map _
  refine st_callA en_tape_Tape_Write hv (fun k => c_writeT he k hr (rec_ok hg.ok) hg.line (by omega) (by omega)) ?_
  rintro u w1 ⟨rfl, v', k⟩ mg
  refine hk w1 ⟨⟨v', ?_⟩, fun q hq => ?_, by have := h.le; simp; omega, by simp; omega⟩
  · have := mg _ k
    rw [List.map_append]
    exact this
  · rcases List.mem_append.1 hq with hq | hq
    · exact h.good q hq
    · rw [List.mem_singleton] at hq
      subst hq
      exact hg
theorem ts_sync (h : TS x w0 b rs n L w) (hk : ∀ w', TS x w0 b rs rs.length L w' → K (.tuple #[]) w') : XCall Tryz.prog F_tape_Tape_Sync #[pt b] w K := by
  obtain ⟨v, hv⟩ := h.st
  refine st_callA en_tape_Tape_Sync hv (fun k => c_syncT k) ?_
  rintro u w1 ⟨rfl, k⟩ mg
  have := mg _ k
  rw [List.length_map] at this
  exact hk w1 ⟨⟨v, this⟩, h.good, Nat.le_refl _, h.few⟩
theorem ts_crash (k : Int) (h : TS x w0 b rs n L w) (hk : ∀ w', TS x w0 b (rs.take (crashN k rs.length n)) (crashN k rs.length n) L w' → K (.tuple #[]) w') : XCall Tryz.prog F_tape_Tape_Crash #[pt b, .int .i64 k] w K := by
  obtain ⟨v, hv⟩ := h.st
  have hl := h.len
  have hle := h.le
  have hlm : (rs.map textM).length = rs.length := List.length_map _
  have hc := crashN_le k h.le
  have hfew := h.few
  refine st_callA en_tape_Tape_Crash hv (fun q => c_crashT k q h.lines (by omega) (by omega) (by omega)) ?_
  rintro u w1 ⟨rfl, v', q⟩ mg
  have := mg _ q
  rw [hlm, ← List.map_take] at this
  exact hk w1 ⟨⟨v', this⟩, fun r hr => h.good r (List.mem_of_mem_take hr), by rw [List.length_take]; omega, by rw [List.length_take]; omega⟩
theorem ts_lasting (h : TS x w0 b rs n L w) (hk : ∀ w', TS x w0 b rs n L w' → K (.int .i64 (n : Nat)) w') : XCall Tryz.prog F_tape_Tape_Lasting #[pt b] w K := by
  obtain ⟨v, hv⟩ := h.st
  have hb := hv.at 0 rfl
  refine st_callV en_tape_Tape_Lasting (c_lasting hb) hv ?_
  intro w1 h1
  exact hk w1 ⟨⟨v, h1⟩, h.good, h.le, h.few⟩
theorem ts_lines (h : TS x w0 b rs n L w) (hk : ∀ v w', TS x w0 b rs n (.row T_string 1 v rs.length (strsL (rs.map textM)) :: L) w' → K v w') : XCall Tryz.prog F_tape_Tape_Lines #[pt b] w K := by
  obtain ⟨v, hv⟩ := h.st
  have hl := h.len
  have hfew := h.few
  have hlm : (rs.map textM).length = rs.length := List.length_map _
  refine st_callR en_tape_Tape_Lines (c_lines (hv.at 0 rfl) (Row.of_own (hv.atR 1 rfl)) h.lines (by omega) (by omega)) hv ?_
  intro u w1 h1
  rw [hlm] at h1
  have h1 := St.permL h1 (L' := tapeR b v (rs.map textM) n ++ (.row T_string 1 u rs.length (strsL (rs.map textM)) :: L)) List.perm_middle.symm
  exact hk u w1 ⟨⟨v, h1⟩, h.good, h.le, h.few⟩
theorem ts_all (he : EnvP w) (h : TS x w0 b rs n L w) (hk : ∀ v w' l, l.map (·.1) = rs → Row w' 10 v rs.length (recsL l) → TS x w0 b rs n (resL l ++ L) w' → K v w') : XCall Tryz.prog F_tape_Tape_All #[pt b] w K := by
  obtain ⟨v, hv⟩ := h.st
  have hl := h.len
  have hfew := h.few
  have hlm : (rs.map textM).length = rs.length := List.length_map _
  have hb := hv.at 0 rfl
  rw [hlm] at hb
  refine st_callE en_tape_Tape_All (c_all he hb (Row.of_own (hv.atR 1 rfl)) (fun r hr => ⟨(h.good r hr).ok, (h.good r hr).line⟩) (by omega) (by omega)) hv ?_
  rintro u w1 ⟨l, hl1, hl2, k⟩ mg
  have h1 := mg _ k
  have h1 := St.permL h1 (L' := tapeR b v (rs.map textM) n ++ (resL l ++ L)) (by
    have := List.perm_append_comm_assoc (resL l) (tapeR b v (rs.map textM) n) L
    exact this)
  exact hk u w1 l hl1 hl2 ⟨⟨v, h1⟩, h.good, h.le, h.few⟩
end
theorem xeqnil (b : Nat) (w : World) (K : Value → World → Prop) (t : TypeId) (ht : (do eqGuard .eql t (fl false) (fl true) (pt b) (.pointer none); binOp .eql t (pt b) (.pointer none) : Sem Value).run Tryz.prog w = .ok (.bool false) w) : XBin Tryz.prog .eql t false true (pt b) (.pointer none) w K = K (.bool false) w := xbin_v ht
abbrev recAb (g : Int) : RecM := { zRec with kind := 5, gang := g }
theorem namesZ : Plain zRec.node.name ∧ (∀ x ∈ zRec.node.marks, Plain x) ∧ (∀ x ∈ zRec.node.taints, Plain x) := ⟨plain_nil, by simp [zRec, zNode], by simp [zRec, zNode]⟩
theorem good_bare {k g : Int} (hk : k = 4 ∨ k = 5 ∨ k = 6) (h1 : 1 ≤ g) (h2 : g ≤ 999999) : RecG { zRec with kind := k, gang := g } := by
  refine ⟨?_, ⟨namesZ.1, namesZ.2.1, namesZ.2.2, by simp [zRec]⟩⟩
  have hm : moreM { zRec with kind := k, gang := g } = false := by
    rcases hk with rfl | rfl | rfl <;> rfl
  have hp : peeredI k = false := by rcases hk with rfl | rfl | rfl <;> decide
  unfold checkM
  simp only [hm, hp]
  rw [if_neg (by simp; omega), if_neg (by omega), if_neg (by omega), if_neg (by omega), if_neg (by simp; omega), if_neg (by omega)]
set_option maxHeartbeats 1000000 in
theorem c_known9 {w : World} (he : EnvP w) : RetV Tryz.prog F_joinerylaw9_known #[] w (.bool true) := by
  refine call_joinerylaw9_known ?_
  have h := St.start w
  unfold S_joinerylaw9_known
  refine ts_new h ?_
  intro b w1 h
  rw [xeqnil _ _ _ _ (by kernel_rfl)]
  refine ⟨fun u w' => u = .bool false ∧ TS [] w b [] 0 [] w', ?_, ?_⟩
  · rintro - u w2 ⟨rfl, h⟩
    rw [xpick_false, xc_false]
    rw [xbuild (v := recV (recAb 2) nilV nilV nilV nilV) (fun w => by kernel_rfl)]
    refine ts_write (r := recAb 2) (he.mono h.ext) h (at_bare _ (recAb 2) rfl rfl rfl rfl) (good_bare (by omega) (by omega) (by omega)) (by simp) ?_
    intro w3 h
    have h : TS [] w b [recAb 2] 0 [] w3 := h
    refine ts_lines h ?_
    intro v w4 h
    obtain ⟨tv, hst⟩ := h.st
    have hrow : Row w4 1 v 1 (strsL ([recAb 2].map textM)) := Row.of_own (hst.atR 2 rfl)
    refine hrow.len und_sl_string ?_
    rw [xeql, show decide (((1 : Nat) : Int) = 1) = true from rfl]
    have ht : [recAb 2].map textM = [[97, 98, 111, 114, 116, 32, 50]] := by decide +kernel
    rw [ht] at hrow
    refine ⟨fun u w' => u = .bool true ∧ TS [] w b [recAb 2] 0 [.row T_string 1 v 1 (strsL ([recAb 2].map textM))] w', ?_, ?_⟩
    · rintro - u w5 ⟨rfl, h⟩
      rw [xpick_true]
      refine ⟨fun u w' => u = .bool true ∧ TS [] w b [recAb 2] 0 [.row T_string 1 v 1 (strsL ([recAb 2].map textM))] w', ?_, ?_⟩
      · rintro - u w6 ⟨rfl, h⟩
        rw [xpick_true]
        exact ⟨rfl, h.ext⟩
      · rw [xg_same]
        refine ts_lasting h ?_
        intro w6 h
        rw [xeql, show decide (((0 : Nat) : Int) = 0) = true from rfl]
        exact ⟨rfl, h⟩
    · rw [xg_same]
      refine str_at (l := [[97, 98, 111, 114, 116, 32, 50]]) (i := 0) (k := .i64) hrow (by decide) rfl ?_
      intro b0 o0 hc0
      refine ld_of ag_string hc0 ?_
      rw [xseql, decide_eq_true rfl]
      exact ⟨rfl, h⟩
  · rw [xg_same]
    refine ts_all (he.mono h.ext) h ?_
    intro v w2 l hl hrow h
    refine hrow.len und_sl_api_Record ?_
    rw [xneq]
    exact ⟨rfl, h.none⟩
end Go.Proofs.YthkgbajldkicfaaGreatDoor
