/-
  What is wrong with a record; a line is parsed.
-/
import Derived.Test.YthkgbajldkicfaaGreatDoorChk3
namespace Go.Proofs.YthkgbajldkicfaaGreatDoor
set_option linter.unusedVariables false
set_option linter.unusedSimpArgs false
open Go Go.Jo
set_option maxRecDepth 100000

set_option maxHeartbeats 2000000 in
theorem c_check {w : World} {r : RecM} {v : Value} (hr : RecAt w r v) (hs : RecSmall r) : RetV Tryz.prog F_line_Check #[v] w (.int .i64 (checkM r)) := by
  refine call_line_Check ?_
  have h := St.start w
  unfold S_line_Check
  have hr0 := hr
  obtain ⟨pv, lv, mv, tv, rfl, hp, hl, hm, ht⟩ := hr
  refine st_box h ?_
  intro b w1 hb h
  try simp only [go_sem] at h
  try simp only [go_sem]
  refine st_load ag_int h 0 rfl rfl ?_
  rw [xlss]
  refine or_st h (decide (7 < r.kind)) ?_ ?_
  · intro _ J hJ
    refine st_load ag_int h 0 rfl rfl ?_
    rw [xgtr]
    exact hJ _ h
  intro w2 h
  refine or_st h (moreM r) ?_ ?_
  · intro _ J hJ
    refine st_loadW ag_api_Record sz_api_Record h 0 rfl rfl ?_
    refine st_callV en_line_more (c_more (hr0.mono h.ext) hs) h ?_
    intro w3 h
    exact hJ _ h
  intro w3 h
  refine xc_of ?_ ?_
  · intro hc
    rw [Bool.or_eq_true, Bool.or_eq_true, decide_eq_true_eq, decide_eq_true_eq] at hc
    rw [checkM, if_pos (by rcases hc with (hc | hc) | hc; exact .inl hc; exact .inr (.inl hc); exact .inr (.inr hc))]
    exact ⟨rfl, h.ext⟩
  intro hc
  rw [Bool.or_eq_false_iff, Bool.or_eq_false_iff, decide_eq_false_iff_not, decide_eq_false_iff_not] at hc
  have hc0 : ¬ (r.kind < 1 ∨ 7 < r.kind ∨ moreM r = true) := by
    rintro (h1 | h1 | h1)
    · exact hc.1.1 h1
    · exact hc.1.2 h1
    · rw [hc.2] at h1; cases h1
  refine st_load ag_int h 0 rfl rfl ?_
  rw [xeql]
  refine xc_dec ?_ ?_
  · intro hk
    refine st_loadN ag_api_Node sz_api_Node h 0 rfl rfl (vs := nodeC r.node.name r.node.cap mv tv r.node.closed) rfl ?_
    refine st_callV en_spec_Node (c_specNode (mv := mv) (tv := tv) ⟨rfl, hm.mono h.ext, ht.mono h.ext⟩ hs.node) h ?_
    intro w4 h
    rw [checkM, if_neg hc0, if_pos hk]
    exact ⟨rfl, h.ext⟩
  intro hk1
  have hC : checkM r = if r.kind = 2 ∧ nameM r.node.name = false then 1 else if r.kind = 2 then 0 else if r.gang < 1 ∨ 999999 < r.gang ∨ peeredI r.kind = true ∧ risingM r.peers = false then 2 else if r.kind = 3 then placesE r.places else 0 := by
    rw [checkM, if_neg hc0, if_neg hk1]
  refine st_load ag_int h 0 rfl rfl ?_
  rw [xeql]
  refine and_st h (!nameM r.node.name) ?_ ?_
  · intro _ J hJ
    refine st_load ag_string h 0 rfl rfl ?_
    refine st_callV en_mark_Name (c_markName _ _ hs.node.name) h ?_
    intro w4 h
    rw [xnot]
    exact hJ _ h
  intro w4 h
  refine xc_of ?_ ?_
  · intro hn
    rw [Bool.and_eq_true, decide_eq_true_eq, Bool.not_eq_true'] at hn
    rw [hC, if_pos hn]
    exact ⟨rfl, h.ext⟩
  intro hn
  have hn' : ¬ (r.kind = 2 ∧ nameM r.node.name = false) := fun hh => by
    rw [hh.2] at hn
    simp [hh.1] at hn
  refine st_load ag_int h 0 rfl rfl ?_
  rw [xeql]
  refine xc_dec ?_ ?_
  · intro hk
    rw [hC, if_neg hn', if_pos hk]
    exact ⟨rfl, h.ext⟩
  intro hk2
  rw [if_neg hn', if_neg hk2] at hC
  refine ⟨fun u w' => u = .bool ((decide (r.gang < 1) || decide (999999 < r.gang)) || (peeredI r.kind && !risingM r.peers)) ∧ St [] w [.blk b (recO r pv lv mv tv)] w', ?_, ?_⟩
  · rintro - u w5 ⟨rfl, h⟩
    refine xc_of ?_ ?_
    · intro hg
      rw [Bool.or_eq_true, Bool.or_eq_true, decide_eq_true_eq, decide_eq_true_eq, Bool.and_eq_true, Bool.not_eq_true'] at hg
      rw [hC, if_pos (by rcases hg with (hg | hg) | hg; exact .inl hg; exact .inr (.inl hg); exact .inr (.inr hg))]
      exact ⟨rfl, h.ext⟩
    · intro hg
      rw [Bool.or_eq_false_iff, Bool.or_eq_false_iff, decide_eq_false_iff_not, decide_eq_false_iff_not] at hg
      have hg' : ¬ (r.gang < 1 ∨ 999999 < r.gang ∨ peeredI r.kind = true ∧ risingM r.peers = false) := by
        rintro (h1 | h1 | h1)
        · exact hg.1.1 h1
        · exact hg.1.2 h1
        · rw [h1.1, h1.2] at hg; simp at hg
      rw [hC, if_neg hg']
      refine st_load ag_int h 0 rfl rfl ?_
      rw [xeql]
      refine xc_dec ?_ ?_
      · intro hk
        rw [if_pos hk]
        refine st_load ag_sl_api_Place h 0 rfl rfl ?_
        refine st_callV en_line_places (c_places (hl.mono h.ext) hs.places hs.pod) h ?_
        intro w6 h
        exact ⟨rfl, h.ext⟩
      · intro hk
        rw [if_neg hk]
        exact ⟨rfl, h.ext⟩
  · refine st_load ag_int h 0 rfl rfl ?_
    rw [xlss]
    refine or_st h (decide (999999 < r.gang)) ?_ ?_
    · intro _ J hJ
      refine st_load ag_int h 0 rfl rfl ?_
      rw [xgtr]
      exact hJ _ h
    intro w5 h
    refine xc_of ?_ ?_
    · intro hg
      rw [hg]
      exact ⟨rfl, h⟩
    · intro hg
      rw [hg]
      refine st_load ag_int h 0 rfl rfl ?_
      refine st_callV en_line_peered (c_peeredI _ _) h ?_
      intro w6 h
      refine and_st h (!risingM r.peers) ?_ ?_
      · intro _ J hJ
        refine st_load ag_sl_int h 0 rfl rfl ?_
        refine st_callV en_line_rising (c_rising (hp.mono h.ext) hs.peers) h ?_
        intro w7 h
        rw [xnot]
        exact hJ _ h
      · intro w7 h
        exact ⟨rfl, h⟩

/-! ### Nothing that is read is long -/
theorem spl_mem : ∀ (s : Str), ∀ x ∈ spl s, x.length ≤ s.length
  | [], x, hx => by
    have : x = [] := by simpa [spl] using hx
    subst this
    exact Nat.le_refl _
  | b :: t, x, hx => by
    have ih := spl_mem t
    unfold spl at hx
    split at hx
    · rcases List.mem_cons.1 hx with rfl | hx
      · exact Nat.zero_le _
      · have := ih x hx
        simp only [List.length_cons]
        omega
    · cases hs : spl t with
      | nil =>
        rw [hs] at hx
        have : x = [b] := by simpa using hx
        subst this
        simp
      | cons y r =>
        rw [hs] at hx
        rcases List.mem_cons.1 hx with rfl | hx
        · have := ih y (by rw [hs]; simp)
          simp only [List.length_cons]
          omega
        · have := ih x (by rw [hs]; simp [hx])
          simp only [List.length_cons]
          omega
theorem words_small (s : Str) : (wordsM s).length ≤ s.length + 1 ∧ ∀ x ∈ wordsM s, x.length ≤ s.length := by
  unfold wordsM
  split
  · simp
  · refine ⟨?_, spl_mem s⟩
    have := List.count_le_length (a := 32) (l := s)
    rw [spl_length]
    omega
end Go.Proofs.YthkgbajldkicfaaGreatDoor
