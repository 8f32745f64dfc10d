/-
  What the document says is wrong with names, sets, sizes, nodes.
-/
import Derived.Test.YthkgbajldkicfaaGreatDoorRfZ
namespace Go.Proofs.YthkgbajldkicfaaGreatDoor
set_option linter.unusedVariables false
set_option linter.unusedSimpArgs false
open Go Go.Jo
set_option maxRecDepth 100000

theorem xg_undef (b : Bool) (p q : Prop) : XG undef b p q = q := propext ⟨fun h => h.no nofun, fun h => ⟨nofun, fun _ => h⟩⟩
theorem runes_pos (s : Str) : (0 < (runesM s).length) ↔ s ≠ [] := by
  cases s with
  | nil => simp [runesM, runesFrom]
  | cons a t =>
    unfold runesM
    rw [List.length_cons, runesFrom_step _ _ _ (by rw [size_list]; simp)]
    simp
set_option maxHeartbeats 4000000 in
theorem c_fMarkName (s : Str) (w : World) (hs : s.length ≤ 1000000) : RetV Tryz.prog F_joineryref2_Name #[S s] w (.bool (nameM s)) := by
  refine call_joineryref2_Name ?_
  have h := St.start w
  unfold S_joineryref2_Name
  refine st_range und_string h ?_
  intro q w1 hq h
  have hlen : (runesM s).length ≤ s.length := runesFrom_len _ _ _
  refine ⟨fun u w2 => ∃ f pos acc, u = .int .i64 (acc : Nat) ∧ acc + (runesFrom ⟨s.toArray⟩ f pos).length = (runesM s).length ∧ (runesM s).all (fun p => letterC p.2 || digitC p.2 && decide (p.1 ≠ 0)) = (runesFrom ⟨s.toArray⟩ f pos).all (fun p => letterC p.2 || digitC p.2 && decide (p.1 ≠ 0)) ∧ s.length ≤ pos + f ∧ St [] w [.blk q (.stringIter ⟨s.toArray⟩ pos)] w2, fun _ w2 => s.length - posOf q w2, ⟨s.length, 0, 0, rfl, by rw [Nat.zero_add]; rfl, rfl, by omega, h⟩, ?_⟩
  clear h
  rintro - u w2 ⟨f, pos, acc, rfl, hacc, hall, hf, h⟩
  have hpos := h.pos 0 rfl
  refine st_next h 0 rfl ?_ ?_
  · intro hlt w3 h3
    have hpos3 := h3.pos 0 rfl
    have hlt' : pos < s.length := by rw [size_list] at hlt; exact hlt
    have hw := decode_wide s pos hlt'
    cases f with
    | zero => omega
    | succ f =>
      rw [runesFrom_step _ _ _ hlt, List.length_cons] at hacc
      rw [runesFrom_step _ _ _ hlt, List.all_cons] at hall
      simp only at hall
      rw [xe30, xc_true, xe31, xe32]
      generalize hc : (Utf8.decode ⟨s.toArray⟩ pos).1 = c at *
      have good : (letterC c || digitC c && decide (pos ≠ 0)) = true → (∃ f pos2 acc2, (.int .i64 ((acc : Int) + 1) : Value) = .int .i64 (acc2 : Nat) ∧ acc2 + (runesFrom ⟨s.toArray⟩ f pos2).length = (runesM s).length ∧ (runesM s).all (fun p => letterC p.2 || digitC p.2 && decide (p.1 ≠ 0)) = (runesFrom ⟨s.toArray⟩ f pos2).all (fun p => letterC p.2 || digitC p.2 && decide (p.1 ≠ 0)) ∧ s.length ≤ pos2 + f ∧ St [] w [.blk q (.stringIter ⟨s.toArray⟩ pos2)] w3) ∧ s.length - posOf q w3 < s.length - posOf q w2 := fun hg => by
        rw [hg, Bool.true_and] at hall
        exact ⟨⟨f, _, acc + 1, by congr 1, by omega, hall, by omega, h3⟩, by rw [hpos, hpos3]; omega⟩
      have bad : (letterC c || digitC c && decide (pos ≠ 0)) = false → nameM s = false := fun hb => by
        rw [hb, Bool.false_and] at hall
        rw [nameM, hall]
        rfl
      by_cases hd : 48 ≤ c ∧ c ≤ 57
      · have hD : digitC c = true := decide_eq_true hd
        have hL : letterC c = false := decide_eq_false (by omega)
        by_cases h0 : pos = 0
        · repeat first
            | refine Exists.intro _ (And.intro (fun _ _ _ hh => hh) ?_)
            | rw [xnot, Bool.not_true]
            | rw [xnot, Bool.not_false]
            | rw [xgeq, decide_eq_true (by omega)]
            | rw [xgeq, decide_eq_false (by omega)]
            | rw [xleq, decide_eq_true (by omega)]
            | rw [xleq, decide_eq_false (by omega)]
            | rw [xlss, decide_eq_true (by omega)]
            | rw [xlss, decide_eq_false (by omega)]
            | rw [xgtr, decide_eq_true (by omega)]
            | rw [xgtr, decide_eq_false (by omega)]
            | rw [xeql, decide_eq_true (by omega)]
            | rw [xeql, decide_eq_false (by omega)]
            | rw [xpick_true]
            | rw [xpick_false]
            | rw [xg_same]
            | rw [xg_tf]
            | rw [xg_ft]
            | rw [xg_undef]
            | rw [xc_true]
            | rw [xc_false]
          rw [bad (by rw [hL, hD, h0]; rfl)]
          exact ⟨rfl, h3.ext⟩
        · repeat first
            | refine Exists.intro _ (And.intro (fun _ _ _ hh => hh) ?_)
            | rw [xnot, Bool.not_true]
            | rw [xnot, Bool.not_false]
            | rw [xgeq, decide_eq_true (by omega)]
            | rw [xgeq, decide_eq_false (by omega)]
            | rw [xleq, decide_eq_true (by omega)]
            | rw [xleq, decide_eq_false (by omega)]
            | rw [xlss, decide_eq_true (by omega)]
            | rw [xlss, decide_eq_false (by omega)]
            | rw [xgtr, decide_eq_true (by omega)]
            | rw [xgtr, decide_eq_false (by omega)]
            | rw [xeql, decide_eq_true (by omega)]
            | rw [xeql, decide_eq_false (by omega)]
            | rw [xpick_true]
            | rw [xpick_false]
            | rw [xg_same]
            | rw [xg_tf]
            | rw [xg_ft]
            | rw [xg_undef]
            | rw [xc_true]
            | rw [xc_false]
          rw [xadd, wi64 (by omega) (by omega)]
          exact good (by rw [hL, hD]; simpa using h0)
      · have hD : digitC c = false := decide_eq_false hd
        by_cases hl : 97 ≤ c ∧ c ≤ 122
        · have hL : letterC c = true := decide_eq_true (.inl hl)
          repeat first
            | refine Exists.intro _ (And.intro (fun _ _ _ hh => hh) ?_)
            | rw [xnot, Bool.not_true]
            | rw [xnot, Bool.not_false]
            | rw [xgeq, decide_eq_true (by omega)]
            | rw [xgeq, decide_eq_false (by omega)]
            | rw [xleq, decide_eq_true (by omega)]
            | rw [xleq, decide_eq_false (by omega)]
            | rw [xlss, decide_eq_true (by omega)]
            | rw [xlss, decide_eq_false (by omega)]
            | rw [xgtr, decide_eq_true (by omega)]
            | rw [xgtr, decide_eq_false (by omega)]
            | rw [xeql, decide_eq_true (by omega)]
            | rw [xeql, decide_eq_false (by omega)]
            | rw [xpick_true]
            | rw [xpick_false]
            | rw [xg_same]
            | rw [xg_tf]
            | rw [xg_ft]
            | rw [xg_undef]
            | rw [xc_true]
            | rw [xc_false]
          rw [xadd, wi64 (by omega) (by omega)]
          exact good (by rw [hL]; rfl)
        · by_cases hg : 945 ≤ c ∧ c ≤ 969
          · have hL : letterC c = true := decide_eq_true (.inr hg)
            repeat first
              | refine Exists.intro _ (And.intro (fun _ _ _ hh => hh) ?_)
              | rw [xnot, Bool.not_true]
              | rw [xnot, Bool.not_false]
              | rw [xgeq, decide_eq_true (by omega)]
              | rw [xgeq, decide_eq_false (by omega)]
              | rw [xleq, decide_eq_true (by omega)]
              | rw [xleq, decide_eq_false (by omega)]
              | rw [xlss, decide_eq_true (by omega)]
              | rw [xlss, decide_eq_false (by omega)]
              | rw [xgtr, decide_eq_true (by omega)]
              | rw [xgtr, decide_eq_false (by omega)]
              | rw [xeql, decide_eq_true (by omega)]
              | rw [xeql, decide_eq_false (by omega)]
              | rw [xpick_true]
              | rw [xpick_false]
              | rw [xg_same]
              | rw [xg_tf]
              | rw [xg_ft]
              | rw [xg_undef]
              | rw [xc_true]
              | rw [xc_false]
            rw [xadd, wi64 (by omega) (by omega)]
            exact good (by rw [hL]; rfl)
          · have hL : letterC c = false := decide_eq_false (by omega)
            rw [bad (by rw [hL, hD]; rfl)]
            by_cases h1 : c < 48
            · repeat first
                | refine Exists.intro _ (And.intro (fun _ _ _ hh => hh) ?_)
                | rw [xnot, Bool.not_true]
                | rw [xnot, Bool.not_false]
                | rw [xgeq, decide_eq_true (by omega)]
                | rw [xgeq, decide_eq_false (by omega)]
                | rw [xleq, decide_eq_true (by omega)]
                | rw [xleq, decide_eq_false (by omega)]
                | rw [xlss, decide_eq_true (by omega)]
                | rw [xlss, decide_eq_false (by omega)]
                | rw [xgtr, decide_eq_true (by omega)]
                | rw [xgtr, decide_eq_false (by omega)]
                | rw [xeql, decide_eq_true (by omega)]
                | rw [xeql, decide_eq_false (by omega)]
                | rw [xpick_true]
                | rw [xpick_false]
                | rw [xg_same]
                | rw [xg_tf]
                | rw [xg_ft]
                | rw [xg_undef]
                | rw [xc_true]
                | rw [xc_false]
              exact ⟨rfl, h3.ext⟩
            · by_cases h2 : c < 97
              · repeat first
                  | refine Exists.intro _ (And.intro (fun _ _ _ hh => hh) ?_)
                  | rw [xnot, Bool.not_true]
                  | rw [xnot, Bool.not_false]
                  | rw [xgeq, decide_eq_true (by omega)]
                  | rw [xgeq, decide_eq_false (by omega)]
                  | rw [xleq, decide_eq_true (by omega)]
                  | rw [xleq, decide_eq_false (by omega)]
                  | rw [xlss, decide_eq_true (by omega)]
                  | rw [xlss, decide_eq_false (by omega)]
                  | rw [xgtr, decide_eq_true (by omega)]
                  | rw [xgtr, decide_eq_false (by omega)]
                  | rw [xeql, decide_eq_true (by omega)]
                  | rw [xeql, decide_eq_false (by omega)]
                  | rw [xpick_true]
                  | rw [xpick_false]
                  | rw [xg_same]
                  | rw [xg_tf]
                  | rw [xg_ft]
                  | rw [xg_undef]
                  | rw [xc_true]
                  | rw [xc_false]
                exact ⟨rfl, h3.ext⟩
              · by_cases h4 : c < 945
                · repeat first
                    | refine Exists.intro _ (And.intro (fun _ _ _ hh => hh) ?_)
                    | rw [xnot, Bool.not_true]
                    | rw [xnot, Bool.not_false]
                    | rw [xgeq, decide_eq_true (by omega)]
                    | rw [xgeq, decide_eq_false (by omega)]
                    | rw [xleq, decide_eq_true (by omega)]
                    | rw [xleq, decide_eq_false (by omega)]
                    | rw [xlss, decide_eq_true (by omega)]
                    | rw [xlss, decide_eq_false (by omega)]
                    | rw [xgtr, decide_eq_true (by omega)]
                    | rw [xgtr, decide_eq_false (by omega)]
                    | rw [xeql, decide_eq_true (by omega)]
                    | rw [xeql, decide_eq_false (by omega)]
                    | rw [xpick_true]
                    | rw [xpick_false]
                    | rw [xg_same]
                    | rw [xg_tf]
                    | rw [xg_ft]
                    | rw [xg_undef]
                    | rw [xc_true]
                    | rw [xc_false]
                  exact ⟨rfl, h3.ext⟩
                · repeat first
                    | refine Exists.intro _ (And.intro (fun _ _ _ hh => hh) ?_)
                    | rw [xnot, Bool.not_true]
                    | rw [xnot, Bool.not_false]
                    | rw [xgeq, decide_eq_true (by omega)]
                    | rw [xgeq, decide_eq_false (by omega)]
                    | rw [xleq, decide_eq_true (by omega)]
                    | rw [xleq, decide_eq_false (by omega)]
                    | rw [xlss, decide_eq_true (by omega)]
                    | rw [xlss, decide_eq_false (by omega)]
                    | rw [xgtr, decide_eq_true (by omega)]
                    | rw [xgtr, decide_eq_false (by omega)]
                    | rw [xeql, decide_eq_true (by omega)]
                    | rw [xeql, decide_eq_false (by omega)]
                    | rw [xpick_true]
                    | rw [xpick_false]
                    | rw [xg_same]
                    | rw [xg_tf]
                    | rw [xg_ft]
                    | rw [xg_undef]
                    | rw [xc_true]
                    | rw [xc_false]
                  exact ⟨rfl, h3.ext⟩
  · intro hge
    rw [runesFrom_end _ _ _ hge] at hall hacc
    have hacc : acc = (runesM s).length := by simpa using hacc
    rw [xe10, xc_false, xgeq]
    refine and_st h (decide ((runesM s).length ≤ 8)) ?_ ?_
    · intro _ J hJ
      rw [xleq]
      have : decide ((acc : Int) ≤ 8) = decide ((runesM s).length ≤ 8) := decide_eq_decide.2 (by omega)
      rw [this]
      exact hJ _ h
    intro w3 h
    have e1 : decide ((1 : Int) ≤ (acc : Int)) = decide (s ≠ []) := decide_eq_decide.2 (by
      rw [← runes_pos]
      omega)
    rw [e1, nameM, hall]
    exact ⟨rfl, h.ext⟩
theorem c_fSize {v : VecM} (w : World) : RetV Tryz.prog F_joineryref3_Size #[vecV v] w (.bool (roomM v)) := by
  refine call_joineryref3_Size ?_
  have h := St.start w
  unfold S_joineryref3_Size
  refine st_box h ?_
  intro b w1 hb h
  try simp only [go_sem] at h
  rw [fld_api_Vec_Cpu]
  refine st_load ag_int h 0 rfl rfl ?_
  rw [xgeq]
  refine and_st h (decide (0 ≤ v.mem)) ?_ ?_
  · intro _ J hJ
    rw [fld_api_Vec_Mem]
    refine st_load ag_int h 0 rfl rfl ?_
    rw [xgeq]
    exact hJ _ h
  intro w2 h
  refine and_st h (decide (v.cpu ≤ 1099511627776)) ?_ ?_
  · intro _ J hJ
    rw [fld_api_Vec_Cpu]
    refine st_load ag_int h 0 rfl rfl ?_
    rw [xleq]
    exact hJ _ h
  intro w3 h
  refine and_st h (decide (v.mem ≤ 1099511627776)) ?_ ?_
  · intro _ J hJ
    rw [fld_api_Vec_Mem]
    refine st_load ag_int h 0 rfl rfl ?_
    rw [xleq]
    exact hJ _ h
  intro w4 h
  refine ⟨congrArg Value.bool ?_, h.ext⟩
  unfold roomM partM
  cases decide (0 ≤ v.cpu) <;> cases decide (0 ≤ v.mem) <;> cases decide (v.cpu ≤ 1099511627776) <;> cases decide (v.mem ≤ 1099511627776) <;> rfl
end Go.Proofs.YthkgbajldkicfaaGreatDoor
