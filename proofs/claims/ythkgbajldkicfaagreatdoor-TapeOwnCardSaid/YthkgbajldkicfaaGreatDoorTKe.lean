/-
  The law TapeKeeps, walked.
-/
import Derived.Test.YthkgbajldkicfaaGreatDoorTMo
namespace Go.Proofs.YthkgbajldkicfaaGreatDoor
set_option linter.unusedVariables false
set_option linter.unusedSimpArgs false
open Go Go.Jo
set_option maxRecDepth 100000

set_option maxHeartbeats 4000000 in
theorem c_TapeKeeps {w : World} (he : EnvP w) {p q : Value} {ns ms : List Int} (hp : Row w 1 p ns.length (intsL ns)) (hns : ∀ x ∈ ns, i64 x) (hq : Row w 1 q ms.length (intsL ms)) (hms : ∀ x ∈ ms, i64 x) (keep : Int) : RetV Tryz.prog F_joinerylaw9_TapeKeeps #[p, q, .int .i64 keep] w (.bool true) := by
  refine call_joinerylaw9_TapeKeeps ?_
  have h := St.start w
  unfold S_joinerylaw9_TapeKeeps
  refine st_callV en_joinerylaw9_known (c_known9 he) h ?_
  intro w1 h
  rw [xnot, Bool.not_true, xc_false]
  refine ts_new h ?_
  intro b w2 h
  rw [xeqnil _ _ _ _ (by kernel_rfl), xc_false]
  have h := h.row0 T_string 1
  refine ⟨fun u1 u2 w' => ∃ rs : List RecM, rs.length ≤ 20 ∧ u2 = .int .i64 (rs.length : Nat) ∧ TS [] w b rs 0 [.row T_string 1 u1 rs.length (strsL (rs.map textM))] w', fun _ u _ => lenI 21 u, ⟨[], by simp, rfl, by simpa using h⟩, ?_⟩
  rintro - u1 u2 w4 ⟨rs, hl, rfl, h⟩
  refine hp.len und_sl_int ?_
  rw [xlss]
  refine and_p h (decide (rs.length < 20)) ?_ ?_
  · intro _ J hJ
    rw [xlss]
    have : decide ((rs.length : Int) < 20) = decide (rs.length < 20) := decide_eq_decide.2 (by omega)
    rw [this]
    exact hJ _ h
  intro w5 h
  refine xc_of ?_ ?_
  · intro hc
    rw [Bool.and_eq_true, decide_eq_true_eq, decide_eq_true_eq] at hc
    obtain ⟨y, hy⟩ : ∃ y, ns[rs.length]? = some y := ⟨_, List.getElem?_eq_getElem (by omega)⟩
    have hyi := hns y (List.mem_of_getElem? hy)
    obtain ⟨a, ia, la⟩ := int_at hp hy
    have h := h.step (Ext.drew _)
    have e4 := h.ext
    refine ⟨Ext, Ext, preExt, .pointer (some a), fun w5 => ia _ _ ⟨rfl, rfl⟩, .int .i64 y, fun w5 e5 => la _ (e4.trans e5) _ ⟨rfl, Ext.refl _⟩, .pointer (some a), fun w5 => ia _ _ ⟨rfl, rfl⟩, .int .i64 y, fun w5 e5 => la _ (e4.trans e5) _ ⟨rfl, Ext.refl _⟩, .int .i64 (y.tdiv 7), fun w5 => by rw [xquoN hyi (by omega)]; exact ⟨rfl, rfl⟩, fun w5 e5 => ?_⟩
    have h := h.step e5
    have hl2 : ∀ r : RecM, (rs ++ [r]).length = rs.length + 1 := fun r => by simp
    refine ⟨ts_mwA he hp hns h (by omega) ?_, ts_mwB he hp hns h (by omega) ?_⟩
    all_goals
      intro q pv lv mv tv w6 h
      have hg := make_good y (rs.length : Int) ns (y.tdiv 7)
      generalize makeM y (rs.length : Int) ns (y.tdiv 7) = r at *
      refine ts_textApp hg h (by omega) ?_
      intro wv' w7 h
      rw [xadd, wi64 (by omega) (by omega)]
      refine ⟨⟨rs ++ [r], by rw [hl2]; omega, by rw [hl2]; rfl, ?_⟩, lenI_succ (by omega)⟩
      rw [hl2, List.map_append]
      exact h
  · intro _
    refine ts_sync h ?_
    intro w6 h
    obtain ⟨k, hk, ek⟩ := within_nat keep 25 (by omega)
    have ek : withinM keep 25 = (k : Int) := ek
    refine ts_callV en_joinerylaw9_within (c_within9 _ (by omega) (by omega)) h ?_
    intro w7 h
    rw [ek]
    have e0 : rs.length = min (rs.length + k) rs.length := by omega
    have e1 : rs.map textM = (rs.map textM).take (rs.length + k) := (List.take_of_length_le (by simp)).symm
    generalize ha : rs.length = a at *
    rw [e1] at h
    have h : TS [] w b rs a [.row T_string 1 u1 (min (a + k) rs.length) (strsL ((rs.map textM).take (a + k)))] w7 := by
      rw [ha, ← e0]
      exact h
    refine ⟨fun u1 u2 w' => ∃ (j : Nat) (rs : List RecM), j ≤ 20 ∧ rs.length = a + j ∧ u2 = .int .i64 (j : Nat) ∧ TS [] w b rs a [.row T_string 1 u1 (min (a + k) rs.length) (strsL ((rs.map textM).take (a + k)))] w', fun _ u _ => lenI 21 u, ⟨0, rs, by omega, by omega, rfl, h⟩, ?_⟩
    clear e1 e0 h ha
    rintro - u1 u2 w7 ⟨j, rs, hj, hl, rfl, h⟩
    refine hq.len und_sl_int ?_
    rw [xlss]
    refine and_p h (decide (j < 20)) ?_ ?_
    · intro _ J hJ
      rw [xlss]
      have : decide ((j : Int) < 20) = decide (j < 20) := decide_eq_decide.2 (by omega)
      rw [this]
      exact hJ _ h
    intro w8 h
    refine xc_of ?_ ?_
    · intro hc
      rw [Bool.and_eq_true, decide_eq_true_eq, decide_eq_true_eq] at hc
      obtain ⟨y, hy⟩ : ∃ y, ms[j]? = some y := ⟨_, List.getElem?_eq_getElem (by omega)⟩
      have hyi := hms y (List.mem_of_getElem? hy)
      obtain ⟨a2, ia, la⟩ := int_at hq hy
      have h := h.step (Ext.drew _)
      have e4 := h.ext
      refine ⟨Ext, Ext, preExt, .pointer (some a2), fun w5 => ia _ _ ⟨rfl, rfl⟩, .int .i64 y, fun w5 e5 => la _ (e4.trans e5) _ ⟨rfl, Ext.refl _⟩, .pointer (some a2), fun w5 => ia _ _ ⟨rfl, rfl⟩, .int .i64 y, fun w5 e5 => la _ (e4.trans e5) _ ⟨rfl, Ext.refl _⟩, .int .i64 (y.tdiv 7), fun w5 => by rw [xquoN hyi (by omega)]; exact ⟨rfl, rfl⟩, fun w5 e5 => ?_⟩
      have h := h.step e5
      have hl2 : ∀ r : RecM, (rs ++ [r]).length = rs.length + 1 := fun r => by simp
      refine ⟨ts_mwA he hq hms h (by omega) ?_, ts_mwB he hq hms h (by omega) ?_⟩
      all_goals
        intro q pv lv mv tv w6 h
        have hg := make_good y (j : Int) ms (y.tdiv 7)
        generalize makeM y (j : Int) ms (y.tdiv 7) = r at *
        rw [xlss]
        refine xc_dec ?_ ?_
        · intro hlt
          refine ts_textApp hg h (by omega) ?_
          intro wv' w7 h
          rw [xadd, wi64 (by omega) (by omega)]
          refine ⟨⟨j + 1, rs ++ [r], by omega, by rw [hl2]; omega, rfl, ?_⟩, lenI_succ (by omega)⟩
          have e1 : min (a + k) (rs ++ [r]).length = min (a + k) rs.length + 1 := by rw [hl2]; omega
          have e2 : ((rs ++ [r]).map textM).take (a + k) = (rs.map textM).take (a + k) ++ [textM r] := by
            rw [List.map_append, List.take_append, List.take_of_length_le (l := [r].map textM) (by simp; omega)]
            rfl
          rw [e1, e2]
          exact h
        · intro hge
          have h := h.only
          rw [xadd, wi64 (by omega) (by omega)]
          refine ⟨⟨j + 1, rs ++ [r], by omega, by rw [hl2]; omega, rfl, ?_⟩, lenI_succ (by omega)⟩
          have e1 : min (a + k) (rs ++ [r]).length = min (a + k) rs.length := by rw [hl2]; omega
          have e2 : ((rs ++ [r]).map textM).take (a + k) = (rs.map textM).take (a + k) := by
            rw [List.map_append, List.take_append_of_le_length (by simp; omega)]
          rw [e1, e2]
          exact h
    · intro _
      have hle := h.le
      refine ts_crash (k : Int) h ?_
      intro w9 h
      have hm : crashN (k : Int) rs.length a = min (a + k) rs.length := by unfold crashN; omega
      rw [hm] at h
      have e1 : (rs.map textM).take (a + k) = (rs.take (min (a + k) rs.length)).map textM := by
        rw [List.map_take, take_min, List.length_map]
      rw [e1] at h
      have e2 : (rs.take (min (a + k) rs.length)).length = min (a + k) rs.length := by rw [List.length_take]; omega
      generalize rs.take (min (a + k) rs.length) = r0 at *
      generalize min (a + k) rs.length = m at *
      subst e2
      have lm : (r0.map textM).length = r0.length := List.length_map _
      have hfew := h.few
      refine ts_lines h ?_
      intro v w10 h
      refine ts_crash 0 h ?_
      intro w11 h
      have hm : crashN 0 r0.length r0.length = r0.length := by unfold crashN; omega
      rw [hm, List.take_length] at h
      have r1 := h.row 0 rfl
      have r2 := h.row 1 rfl
      refine ts_callV en_joineryref2_Same (c_rStrs (a := r0.map textM) (b := r0.map textM) (by rw [lm]; exact r1) (by rw [lm]; exact r2) (by omega)) h ?_
      intro w12 h
      rw [decide_eq_true rfl]
      refine and_p h true ?_ ?_
      · intro _ J hJ
        refine ts_lines h ?_
        intro v2 w13 h
        have r1 := h.row 0 rfl
        have r2 := h.row 2 rfl
        refine ts_callV en_joineryref2_Same (c_rStrs (a := r0.map textM) (b := r0.map textM) (by rw [lm]; exact r1) (by rw [lm]; exact r2) (by omega)) h ?_
        intro w14 h
        rw [decide_eq_true rfl]
        exact hJ _ (h.take (List.sublist_cons_self _ _))
      intro w13 h
      refine and_p h true ?_ ?_
      · intro _ J hJ
        refine ts_lasting h ?_
        intro w14 h
        refine (h.row 1 rfl).len und_sl_string ?_
        rw [xeql, decide_eq_true rfl]
        exact hJ _ h
      intro w14 h
      exact ⟨rfl, h.ext⟩
end Go.Proofs.YthkgbajldkicfaaGreatDoor
