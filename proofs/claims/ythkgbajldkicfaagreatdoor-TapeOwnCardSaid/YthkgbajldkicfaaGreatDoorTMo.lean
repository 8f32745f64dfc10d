/-
  The laws TapeMore and TapeKeeps, walked.
-/
import Derived.Test.YthkgbajldkicfaaGreatDoorTFr
namespace Go.Proofs.YthkgbajldkicfaaGreatDoor
set_option linter.unusedVariables false
set_option linter.unusedSimpArgs false
open Go Go.Jo
set_option maxRecDepth 100000

theorem st_allocE {x : List Nat} {w0 w : World} {L : List Res} {t : TypeId} {z : Value} {K : Value → World → Prop} (hz : ∀ w, (zeroValue t).run Tryz.prog w = .ok z w) (h : St x w0 L w) (hk : ∀ (b : Nat) (w' : World), Ext w w' → St x w0 (.blk b (.cells z.cells t) :: L) w' → K (.pointer (some ⟨b, 0, none⟩)) w') : XAlloc Tryz.prog t w K := by
  rw [xalloc hz]
  exact hk _ _ (ext_alloc w _) (h.new _)
theorem take_min {α : Type} (l : List α) (k : Nat) : l.take k = l.take (min k l.length) := by
  rcases Nat.le_total k l.length with h | h
  · rw [Nat.min_eq_left h]
  · rw [Nat.min_eq_right h, List.take_length, List.take_of_length_le h]
section
variable {w0 w : World} {b n : Nat} {rs : List RecM} {L : List Res}
theorem TS.row0 (h : TS [] w0 b rs n L w) (e : TypeId) (sz : Nat) : TS [] w0 b rs n (.row e sz nilV 0 [] :: L) w :=
  h.rest fun _ hA => St.permL (hA.row0 e sz) List.perm_middle.symm
theorem ts_put {q : Nat} {r : RecM} {pv lv mv tv : Value} {K : World → Prop} (he : EnvP w0) (h : TS [] w0 b rs n (.blk q (recO zRec nilV nilV nilV nilV) :: (recR r pv lv mv tv ++ L)) w) (hg : RecG r) (hf : rs.length < 300)
    (hk : ∀ w', TS [] w0 b (rs ++ [r]) n (.blk q (recO r pv lv mv tv) :: (recR r pv lv mv tv ++ L)) w' → K w') :
    XStore Tryz.prog T_api_Record (pt q) (recV r pv lv mv tv) w fun w3 => XLoad Tryz.prog T_api_Record (pt q) w3 fun v w4 => XCall Tryz.prog F_tape_Tape_Write #[pt b, v] w4 fun _ w5 => K w5 := by
  obtain ⟨v, hv⟩ := h.st
  have hfl := st_flats (r := r) (pv := pv) (lv := lv) (mv := mv) (tv := tv) hv fun q hq => by
    refine List.mem_append_right _ (List.mem_cons_of_mem _ (List.mem_append_left _ hq))
  refine st_store sz_api_Record hv 2 rfl rfl rfl (hfl.all _) ?_
  intro w3 hv
  simp only [go_sem] at hv
  have hv : St [] w0 (tapeR b v (rs.map textM) n ++ (.blk q (recO r pv lv mv tv) :: (recR r pv lv mv tv ++ L))) w3 := hv
  refine st_loadW ag_api_Record sz_api_Record hv 2 rfl rfl ?_
  have h : TS [] w0 b rs n (.blk q (recO r pv lv mv tv) :: (recR r pv lv mv tv ++ L)) w3 := ⟨⟨v, hv⟩, h.good, h.le, h.few⟩
  refine ts_write (r := r) (he.mono h.ext) h ⟨pv, lv, mv, tv, rfl, Row.of_own (hv.atR 3 rfl), Row.of_own (hv.atR 4 rfl), Row.of_own (hv.atR 5 rfl), Row.of_own (hv.atR 6 rfl)⟩ hg hf ?_
  intro w5 h
  exact hk w5 h
/-- A record made, kept in a variable, and written; the variable first or last. -/
theorem ts_mwA {p : Value} {ns : List Int} {y g z : Int} {K : Value → World → Prop} (he : EnvP w0) (hp : Row w0 1 p ns.length (intsL ns)) (hns : ∀ x ∈ ns, i64 x) (h : TS [] w0 b rs n L w) (hf : rs.length < 300)
    (hk : ∀ q pv lv mv tv w', TS [] w0 b (rs ++ [makeM y g ns z]) n (.blk q (recO (makeM y g ns z) pv lv mv tv) :: (recR (makeM y g ns z) pv lv mv tv ++ L)) w' → K (pt q) w') :
    XCall Tryz.prog F_joinerylaw4_Make #[.int .i64 y, .int .i64 g, p, .int .i64 z] w fun v w1 => XAlloc Tryz.prog T_api_Record w1 fun a w2 => XStore Tryz.prog T_api_Record a v w2 fun w3 => XLoad Tryz.prog T_api_Record a w3 fun v w4 => XCall Tryz.prog F_tape_Tape_Write #[pt b, v] w4 fun _ w5 => K a w5 := by
  refine ts_callE en_joinerylaw4_Make (c_make y g z (hp.mono h.ext) hns) h ?_
  rintro rv w1 ⟨pv, lv, mv, tv, rfl, k⟩ mg
  have h := mg _ k
  obtain ⟨v, hv⟩ := h.st
  refine st_alloc zv_api_Record hv ?_
  intro q w2 _ hv
  have hv := St.permL hv (L' := tapeR b v (rs.map textM) n ++ (.blk q (recO zRec nilV nilV nilV nilV) :: (recR (makeM y g ns z) pv lv mv tv ++ L))) List.perm_middle.symm
  exact ts_put he ⟨⟨v, hv⟩, h.good, h.le, h.few⟩ (make_good _ _ _ _) hf fun w' h => hk _ _ _ _ _ w' h
theorem ts_mwB {p : Value} {ns : List Int} {y g z : Int} {K : Value → World → Prop} (he : EnvP w0) (hp : Row w0 1 p ns.length (intsL ns)) (hns : ∀ x ∈ ns, i64 x) (h : TS [] w0 b rs n L w) (hf : rs.length < 300)
    (hk : ∀ q pv lv mv tv w', TS [] w0 b (rs ++ [makeM y g ns z]) n (.blk q (recO (makeM y g ns z) pv lv mv tv) :: (recR (makeM y g ns z) pv lv mv tv ++ L)) w' → K (pt q) w') :
    XAlloc Tryz.prog T_api_Record w fun a w1 => Ext w w1 ∧ ∀ w2, Ext w1 w2 → XCall Tryz.prog F_joinerylaw4_Make #[.int .i64 y, .int .i64 g, p, .int .i64 z] w2 fun v w2 => XStore Tryz.prog T_api_Record a v w2 fun w3 => XLoad Tryz.prog T_api_Record a w3 fun v w4 => XCall Tryz.prog F_tape_Tape_Write #[pt b, v] w4 fun _ w5 => K a w5 := by
  obtain ⟨v, hv⟩ := h.st
  refine st_allocE zv_api_Record hv ?_
  intro q w1 e hv
  have hv := St.permL hv (L' := tapeR b v (rs.map textM) n ++ (.blk q (recO zRec nilV nilV nilV nilV) :: L)) List.perm_middle.symm
  have h : TS [] w0 b rs n (.blk q (recO zRec nilV nilV nilV nilV) :: L) w1 := ⟨⟨v, hv⟩, h.good, h.le, h.few⟩
  refine ⟨e, fun w2 e2 => ?_⟩
  have h := h.step e2
  refine ts_callE en_joinerylaw4_Make (c_make y g z (hp.mono h.ext) hns) h ?_
  rintro rv w3 ⟨pv, lv, mv, tv, rfl, k⟩ mg
  have h := mg _ k
  have h : TS [] w0 b rs n (.blk q (recO zRec nilV nilV nilV nilV) :: (recR (makeM y g ns z) pv lv mv tv ++ L)) w3 := h.rest fun A hA => St.permL hA (List.Perm.append_left A List.perm_middle)
  exact ts_put he h (make_good _ _ _ _) hf fun w' h => hk _ _ _ _ _ w' h
/-- The text of what a variable holds, at the end of a row of texts. -/
theorem ts_textApp {q : Nat} {r : RecM} {pv lv mv tv wv : Value} {m : Nat} {ws : List Str} {K : Value → World → Prop} (hr : RecG r) (h : TS [] w0 b rs n (.blk q (recO r pv lv mv tv) :: (recR r pv lv mv tv ++ [.row T_string 1 wv m (strsL ws)])) w) (hm : m ≤ 1000)
    (hk : ∀ wv' w', TS [] w0 b rs n [.row T_string 1 wv' (m + 1) (strsL (ws ++ [textM r]))] w' → K wv' w') :
    XLoad Tryz.prog T_api_Record (pt q) w fun v w1 => XCall Tryz.prog F_joineryref4_Text #[v] w1 fun t w2 => XBuildS Tryz.prog T_sl_string 1 #[(0, t)] w2 fun s w3 => XB Tryz.prog .append #[T_sl_string, T_sl_string] T_sl_string #[wv, s] w3 K := by
  obtain ⟨v, hv⟩ := h.st
  refine st_loadW ag_api_Record sz_api_Record hv 2 rfl rfl ?_
  refine st_callV en_joineryref4_Text (c_rText ⟨pv, lv, mv, tv, rfl, Row.of_own (hv.atR 3 rfl), Row.of_own (hv.atR 4 rfl), Row.of_own (hv.atR 5 rfl), Row.of_own (hv.atR 6 rfl)⟩ (rec_ok hr.ok)) hv ?_
  intro w1 hv
  refine st_buildS (cs := #[S (textM r)]) (e := T_string) (fun w => by kernel_rfl) hv ?_
  intro bx w2 hbx hv
  refine app_sl_string hv 8 rfl [S (textM r)] rfl (news_blk (hv.at 0 rfl)) (by simp [Value.oneCell']) (by omega) ?_
  intro wv' w3 hv
  have hv := hv.pick [1, 2, 8] (by decide) rfl
  refine hk wv' w3 ⟨⟨v, ?_⟩, h.good, h.le, h.few⟩
  have e1 : strsL (ws ++ [textM r]) = strsL ws ++ [S (textM r)] := by simp
  rw [e1]
  exact hv
theorem TS.only {q : Nat} {r : RecM} {pv lv mv tv : Value} (h : TS [] w0 b rs n (.blk q (recO r pv lv mv tv) :: (recR r pv lv mv tv ++ L)) w) : TS [] w0 b rs n L w :=
  h.take ((List.sublist_append_right (recR r pv lv mv tv) L).cons _)
end
set_option maxHeartbeats 4000000 in
theorem c_TapeMore {w : World} (he : EnvP w) {p q : Value} {ns ms : List Int} (hp : Row w 1 p ns.length (intsL ns)) (hns : ∀ x ∈ ns, i64 x) (keep : Int) (hq : Row w 1 q ms.length (intsL ms)) (hms : ∀ x ∈ ms, i64 x) : RetV Tryz.prog F_joinerylaw9_TapeMore #[p, .int .i64 keep, q] w (.bool true) := by
  refine call_joinerylaw9_TapeMore ?_
  have h := St.start w
  unfold S_joinerylaw9_TapeMore
  refine st_callV en_joinerylaw9_known (c_known9 he) h ?_
  intro w1 h
  rw [xnot, Bool.not_true, xc_false]
  refine ts_new h ?_
  intro b w2 h
  rw [xeqnil _ _ _ _ (by kernel_rfl), xc_false]
  obtain ⟨k, hk, ek⟩ := within_nat keep 20 (by omega)
  have ek : withinM keep 20 = (k : Int) := ek
  refine ts_callV en_joinerylaw9_within (c_within9 _ (by omega) (by omega)) h ?_
  intro w3 h
  rw [ek]
  have h := h.row0 T_string 1
  refine ⟨fun u1 u2 w' => ∃ rs : List RecM, rs.length ≤ 20 ∧ u2 = .int .i64 (rs.length : Nat) ∧ TS [] w b rs 0 [.row T_string 1 u1 (min k rs.length) (strsL ((rs.map textM).take k))] w', fun _ u _ => lenI 21 u, ⟨[], by simp, rfl, by simpa using h⟩, ?_⟩
  rintro - u1 u2 w4 ⟨rs, hl, rfl, h⟩
  refine hp.len und_sl_int ?_
  rw [xlss]
  refine and_p h (decide (rs.length < 20)) ?_ ?_
  · intro _ J hJ
    rw [xlss]
    have : decide ((rs.length : Int) < 20) = decide (rs.length < 20) := decide_eq_decide.2 (by omega)
    rw [this]
    exact hJ _ h
  intro w5 h
  refine xc_of ?_ ?_
  · intro hc
    rw [Bool.and_eq_true, decide_eq_true_eq, decide_eq_true_eq] at hc
    obtain ⟨y, hy⟩ : ∃ y, ns[rs.length]? = some y := ⟨_, List.getElem?_eq_getElem (by omega)⟩
    have hyi := hns y (List.mem_of_getElem? hy)
    obtain ⟨a, ia, la⟩ := int_at hp hy
    have h := h.step (Ext.drew _)
    have e4 := h.ext
    refine ⟨Ext, Ext, preExt, .pointer (some a), fun w5 => ia _ _ ⟨rfl, rfl⟩, .int .i64 y, fun w5 e5 => la _ (e4.trans e5) _ ⟨rfl, Ext.refl _⟩, .pointer (some a), fun w5 => ia _ _ ⟨rfl, rfl⟩, .int .i64 y, fun w5 e5 => la _ (e4.trans e5) _ ⟨rfl, Ext.refl _⟩, .int .i64 (y.tdiv 7), fun w5 => by rw [xquoN hyi (by omega)]; exact ⟨rfl, rfl⟩, fun w5 e5 => ?_⟩
    have h := h.step e5
    have hl2 : ∀ r : RecM, (rs ++ [r]).length = rs.length + 1 := fun r => by simp
    refine ⟨ts_mwA he hp hns h (by omega) ?_, ts_mwB he hp hns h (by omega) ?_⟩
    all_goals
      intro q pv lv mv tv w6 h
      have hg := make_good y (rs.length : Int) ns (y.tdiv 7)
      generalize makeM y (rs.length : Int) ns (y.tdiv 7) = r at *
      rw [xlss]
      refine xc_dec ?_ ?_
      · intro hlt
        refine ts_textApp hg h (by omega) ?_
        intro wv' w7 h
        rw [xadd, wi64 (by omega) (by omega)]
        refine ⟨⟨rs ++ [r], by rw [hl2]; omega, by rw [hl2]; rfl, ?_⟩, lenI_succ (by omega)⟩
        have e1 : min k (rs ++ [r]).length = min k rs.length + 1 := by rw [hl2]; omega
        have e2 : ((rs ++ [r]).map textM).take k = (rs.map textM).take k ++ [textM r] := by
          rw [List.map_append, List.take_append, List.take_of_length_le (l := [r].map textM) (by simp; omega)]
          rfl
        rw [e1, e2]
        exact h
      · intro hge
        have h := h.only
        rw [xadd, wi64 (by omega) (by omega)]
        refine ⟨⟨rs ++ [r], by rw [hl2]; omega, by rw [hl2]; rfl, ?_⟩, lenI_succ (by omega)⟩
        have e1 : min k (rs ++ [r]).length = min k rs.length := by rw [hl2]; omega
        have e2 : ((rs ++ [r]).map textM).take k = (rs.map textM).take k := by
          rw [List.map_append, List.take_append_of_le_length (by simp; omega)]
        rw [e1, e2]
        exact h
  · intro _
    have hle := h.le
    refine ts_crash (k : Int) h ?_
    intro w6 h
    have hm : crashN (k : Int) rs.length 0 = min k rs.length := by unfold crashN; omega
    rw [hm] at h
    have hml : min k rs.length ≤ rs.length := by omega
    have e1 : (rs.map textM).take k = (rs.take (min k rs.length)).map textM := by
      rw [List.map_take, take_min, List.length_map]
    rw [e1] at h
    have e2 : (rs.take (min k rs.length)).length = min k rs.length := by rw [List.length_take]; omega
    generalize hrs : rs.take (min k rs.length) = r0 at *
    generalize min k rs.length = m at *
    subst e2
    refine ⟨fun u1 u2 w' => ∃ (j : Nat) (rs : List RecM), j ≤ 20 ∧ rs.length ≤ 20 + j ∧ u2 = .int .i64 (j : Nat) ∧ TS [] w b rs r0.length [.row T_string 1 u1 rs.length (strsL (rs.map textM))] w', fun _ u _ => lenI 21 u, ⟨0, r0, by omega, by omega, rfl, h⟩, ?_⟩
    rintro - u1 u2 w7 ⟨j, rs, hj, hl, rfl, h⟩
    refine hq.len und_sl_int ?_
    rw [xlss]
    refine and_p h (decide (j < 20)) ?_ ?_
    · intro _ J hJ
      rw [xlss]
      have : decide ((j : Int) < 20) = decide (j < 20) := decide_eq_decide.2 (by omega)
      rw [this]
      exact hJ _ h
    intro w8 h
    refine xc_of ?_ ?_
    · intro hc
      rw [Bool.and_eq_true, decide_eq_true_eq, decide_eq_true_eq] at hc
      obtain ⟨y, hy⟩ : ∃ y, ms[j]? = some y := ⟨_, List.getElem?_eq_getElem (by omega)⟩
      have hyi := hms y (List.mem_of_getElem? hy)
      obtain ⟨a, ia, la⟩ := int_at hq hy
      have h := h.step (Ext.drew _)
      have e4 := h.ext
      refine ⟨Ext, Ext, preExt, .pointer (some a), fun w5 => ia _ _ ⟨rfl, rfl⟩, .int .i64 y, fun w5 e5 => la _ (e4.trans e5) _ ⟨rfl, Ext.refl _⟩, .pointer (some a), fun w5 => ia _ _ ⟨rfl, rfl⟩, .int .i64 y, fun w5 e5 => la _ (e4.trans e5) _ ⟨rfl, Ext.refl _⟩, .int .i64 (y.tdiv 7), fun w5 => by rw [xquoN hyi (by omega)]; exact ⟨rfl, rfl⟩, fun w5 e5 => ?_⟩
      have h := h.step e5
      have hl2 : ∀ r : RecM, (rs ++ [r]).length = rs.length + 1 := fun r => by simp
      refine ⟨ts_mwA he hq hms h (by omega) ?_, ts_mwB he hq hms h (by omega) ?_⟩
      all_goals
        intro q pv lv mv tv w6 h
        have hg := make_good y (j : Int) ms (y.tdiv 7)
        generalize makeM y (j : Int) ms (y.tdiv 7) = r at *
        refine ts_textApp hg h (by omega) ?_
        intro wv' w7 h
        rw [xadd, wi64 (by omega) (by omega)]
        refine ⟨⟨j + 1, rs ++ [r], by omega, by rw [hl2]; omega, rfl, ?_⟩, lenI_succ (by omega)⟩
        rw [hl2, List.map_append]
        exact h
    · intro _
      refine ts_lines h ?_
      intro v w9 h
      have r1 := h.row 0 rfl
      have r2 := h.row 1 rfl
      have lm : (rs.map textM).length = rs.length := List.length_map _
      refine ts_callV en_joineryref2_Same (c_rStrs (a := rs.map textM) (b := rs.map textM) (by rw [lm]; exact r1) (by rw [lm]; exact r2) (by omega)) h ?_
      intro w10 h
      rw [decide_eq_true rfl]
      exact ⟨rfl, h.ext⟩
end Go.Proofs.YthkgbajldkicfaaGreatDoor
