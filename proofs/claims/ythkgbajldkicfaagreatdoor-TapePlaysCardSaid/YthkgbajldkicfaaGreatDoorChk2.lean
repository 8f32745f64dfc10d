/-
  What is wrong with a record; a line is parsed.
-/
import Derived.Test.YthkgbajldkicfaaGreatDoorChk
namespace Go.Proofs.YthkgbajldkicfaaGreatDoor
set_option linter.unusedVariables false
set_option linter.unusedSimpArgs false
open Go Go.Jo
set_option maxRecDepth 100000

structure RecSmall (r : RecM) : Prop where
  peers : r.peers.length ≤ 1000000
  places : r.places.length ≤ 1000000
  pod : ∀ p ∈ r.places, p.pod.length ≤ 1000000 ∧ p.node.length ≤ 1000000
  node : NodeSmall r.node
theorem pos_len {α : Type} (l : List α) : decide ((0 : Int) < (l.length : Int)) = !l.isEmpty := by cases l <;> simp <;> omega
set_option maxHeartbeats 1000000 in
theorem c_more {w : World} {r : RecM} {v : Value} (hr : RecAt w r v) (hs : RecSmall r) : RetV Tryz.prog F_line_more #[v] w (.bool (moreM r)) := by
  refine call_line_more ?_
  have h := St.start w
  unfold S_line_more
  obtain ⟨pv, lv, mv, tv, rfl, hp, hl, hm, ht⟩ := hr
  refine st_box h ?_
  intro b w1 hb h
  try simp only [go_sem] at h
  try simp only [go_sem]
  refine ⟨fun w' => ((!gangsM r.kind && decide (r.gang ≠ 0)) || (!peeredI r.kind && !r.peers.isEmpty) || (decide (r.kind ≠ 3) && !r.places.isEmpty)) = false ∧ r.kind ≠ 1 ∧ St [] w [.blk b (recO r pv lv mv tv)] w', ?_, ?_⟩
  · rintro - w2 ⟨hc, hk, h⟩
    refine st_loadN ag_api_Node sz_api_Node h 0 rfl rfl (vs := nodeC r.node.name r.node.cap mv tv r.node.closed) rfl ?_
    refine st_callV en_line_bare (c_bare (mv := mv) (tv := tv) ⟨rfl, hm.mono h.chg.ext, ht.mono h.chg.ext⟩ hs.node) h ?_
    intro w3 h
    have hmore : moreM r = (!bareM r.node || (decide (r.kind ≠ 2) && decide (r.node.name ≠ []))) := by
      unfold moreM
      rw [hc, if_neg (by simp), if_neg hk]
    rw [hmore]
    cases hbr : bareM r.node with
    | false =>
      repeat (first | (refine Exists.intro _ (And.intro (fun _ _ _ hh => hh) ?_)) | (simp only [go_sem, Bool.not_false]))
      exact ⟨rfl, h.chg.ext⟩
    | true =>
      simp only [go_sem, Bool.not_true]
      refine Exists.intro _ (And.intro (fun _ _ _ hh => hh) ?_)
      try simp only [go_sem]
      refine st_load ag_int h 0 rfl rfl ?_
      by_cases hk2 : r.kind = 2
      · have e2 : decide (r.kind ≠ 2) = false := decide_eq_false (by simpa using hk2)
        simp only [go_sem, e2]
        repeat (first | (refine Exists.intro _ (And.intro (fun _ _ _ hh => hh) ?_)) | (simp only [go_sem]))
        exact ⟨rfl, h.chg.ext⟩
      · have e2 : decide (r.kind ≠ 2) = true := decide_eq_true hk2
        simp only [go_sem, e2]
        refine Exists.intro _ (And.intro (fun _ _ _ hh => hh) ?_)
        try simp only [go_sem]
        refine st_load ag_string h 0 rfl rfl ?_
        rw [xsneq]
        refine Exists.intro _ (And.intro (fun _ _ _ hh => hh) ?_)
        try simp only [go_sem]
        exact ⟨rfl, h.chg.ext⟩
  · refine ⟨fun u w' => u = .bool ((!gangsM r.kind && decide (r.gang ≠ 0)) || (!peeredI r.kind && !r.peers.isEmpty) || (decide (r.kind ≠ 3) && !r.places.isEmpty)) ∧ St [] w [.blk b (recO r pv lv mv tv)] w', ?_, ?_⟩
    · rintro - u w2 ⟨rfl, h⟩
      refine xc_of ?_ ?_
      · intro hc
        rw [moreM, if_pos hc]
        exact ⟨rfl, h.chg.ext⟩
      · intro hc
        refine st_load ag_int h 0 rfl rfl ?_
        rw [xeql]
        refine xc_dec ?_ ?_
        · intro hk
          rw [moreM, hc, if_neg (by simp), if_pos hk]
          exact ⟨rfl, h.chg.ext⟩
        · intro hk
          exact ⟨hc, hk, h⟩
    · refine st_load ag_int h 0 rfl rfl ?_
      refine st_callV en_line_gangs (c_gangs _ _) h ?_
      intro w2 h
      rw [xnot]
      refine and_st h (decide (r.gang ≠ 0)) ?_ ?_
      · intro _ J hJ
        refine st_load ag_int h 0 rfl rfl ?_
        rw [xneq]
        exact hJ _ h
      · intro w3 h
        refine xc_of ?_ ?_
        · intro h1
          rw [h1]
          exact ⟨rfl, h⟩
        · intro h1
          rw [h1]
          refine st_load ag_int h 0 rfl rfl ?_
          refine st_callV en_line_peered (c_peeredI _ _) h ?_
          intro w4 h
          rw [xnot]
          refine and_st h (!r.peers.isEmpty) ?_ ?_
          · intro _ J hJ
            refine st_load ag_sl_int h 0 rfl rfl ?_
            refine hp.len und_sl_int ?_
            rw [xgtr, pos_len]
            exact hJ _ h
          · intro w5 h
            refine xc_of ?_ ?_
            · intro h2
              rw [h2]
              exact ⟨rfl, h⟩
            · intro h2
              rw [h2]
              refine st_load ag_int h 0 rfl rfl ?_
              rw [xneq]
              refine and_st h (!r.places.isEmpty) ?_ ?_
              · intro _ J hJ
                refine st_load ag_sl_api_Place h 0 rfl rfl ?_
                refine hl.len und_sl_api_Place ?_
                rw [xgtr, pos_len]
                exact hJ _ h
              · intro w6 h
                exact ⟨rfl, h⟩
theorem c_size (v : VecM) (w : World) : RetV Tryz.prog F_line_size #[vecV v] w (.bool (roomM v)) := by
  refine call_line_size ?_
  have h := St.start w
  unfold S_line_size
  refine st_box h ?_
  intro b w1 hb h
  try simp only [go_sem] at h
  try simp only [go_sem]
  refine st_load ag_int h 0 rfl rfl ?_
  rw [xgeq]
  refine and_st h (decide (v.cpu ≤ 1099511627776)) ?_ ?_
  · intro _ J hJ
    refine st_load ag_int h 0 rfl rfl ?_
    rw [xleq]
    exact hJ _ h
  · intro w2 h
    refine and_st h (decide (0 ≤ v.mem)) ?_ ?_
    · intro _ J hJ
      refine st_load ag_int h 0 rfl rfl ?_
      rw [xgeq]
      exact hJ _ h
    · intro w3 h
      refine and_st h (decide (v.mem ≤ 1099511627776)) ?_ ?_
      · intro _ J hJ
        refine st_load ag_int h 0 rfl rfl ?_
        rw [xleq]
        exact hJ _ h
      · intro w4 h
        refine ⟨congrArg Value.bool ?_, h.chg.ext⟩
        rw [roomM, partM, partM, Bool.and_assoc, Bool.and_assoc]
end Go.Proofs.YthkgbajldkicfaaGreatDoor
