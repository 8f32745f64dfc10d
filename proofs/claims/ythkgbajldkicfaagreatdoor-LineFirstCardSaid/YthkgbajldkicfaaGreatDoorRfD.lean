/-
  What the document says is wrong with sets of names, nodes, peers.
-/
import Derived.Test.YthkgbajldkicfaaGreatDoorRfC
namespace Go.Proofs.YthkgbajldkicfaaGreatDoor
set_option linter.unusedVariables false
set_option linter.unusedSimpArgs false
open Go Go.Jo
set_option maxRecDepth 100000

/-- A text of a row of texts, wherever it is read. -/
theorem str_of {w : World} {p : Value} {l : List Str} {i : Nat} {y : Str} (hp : Row w 1 p l.length (strsL l)) (hy : l[i]? = some y) :
    ∃ a, (∀ (w' : World) (K : Value → World → Prop), K (.pointer (some a)) w' → XIdx Tryz.prog T_sl_string p (.int .i64 (i : Nat)) w' K) ∧ ∀ w', Ext w w' → ∀ K : Value → World → Prop, K (S y) w' → XLoad Tryz.prog T_string (.pointer (some a)) w' K := by
  obtain ⟨b1, o1, i1, c1⟩ := hp.at (k := .i64) und_sl_string sz_string (i := i) (List.getElem?_eq_some_iff.1 hy).1
  refine ⟨⟨b1, o1, none⟩, i1, fun w' e K hk => ?_⟩
  have hc := c1 _ e 0 (by omega)
  simp only [Nat.add_zero, Nat.mul_one] at hc
  exact ld_of ag_string (v := S y) (by rw [hc, List.getElem?_map, hy]; rfl) hk
set_option maxHeartbeats 4000000 in
theorem c_fSet {w : World} {p : Value} {l : List Str} (hp : Row w 1 p l.length (strsL l)) (hs : ∀ x ∈ l, x.length ≤ 1000000) : RetV Tryz.prog F_joineryref2_Set #[p] w (.bool (setM l)) := by
  refine call_joineryref2_Set ?_
  have h := St.start w
  unfold S_joineryref2_Set
  refine hp.len und_sl_string ?_
  rw [xgtr]
  refine xc_dec ?_ ?_
  · intro h4
    refine ⟨?_, h.ext⟩
    rw [setM, decide_eq_false (show ¬ l.length ≤ 4 by omega), Bool.and_false]
  intro h4
  have h4 : l.length ≤ 4 := by omega
  refine ⟨fun u w' => ∃ i : Nat, i ≤ l.length ∧ u = .int .i64 (i : Nat) ∧ upTo (setP l) i = true ∧ St [] w [] w', fun u _ => lenI l.length u, ⟨0, Nat.zero_le _, rfl, rfl, h⟩, ?_⟩
  clear h
  rintro - u w1 ⟨i, hi, rfl, hu, h⟩
  refine hp.len und_sl_string ?_
  rw [xlss]
  refine xc_dec ?_ ?_
  · intro hlt
    have hlt : i < l.length := by omega
    obtain ⟨x, hx⟩ : ∃ x, l[i]? = some x := ⟨_, List.getElem?_eq_getElem hlt⟩
    have hxs := hs x (List.mem_of_getElem? hx)
    obtain ⟨a1, i1, l1⟩ := str_of hp hx
    have hgx : l.getD i [] = x := by rw [List.getD_eq_getElem?_getD, hx]; rfl
    have hE : ∀ {w' : World}, Ext w1.drew w' → Ext w w' := fun e => (h.step (Ext.drew _)).ext.trans e
    have h := h.step (Ext.drew _)
    have bad : setP l i = false → setM l = false := fun hb => by
      rw [setM, upTo_false hlt hb, Bool.false_and]
    have good : setP l i = true → upTo (setP l) (i + 1) = true := fun hg => by
      rw [upTo_succ, hu, hg]
      rfl
    refine ⟨Ext, Ext, preExt, ?_⟩
    cases hn : nameM x
    · have hnm : ∀ w, RetV Tryz.prog F_joineryref2_Name #[S x] w (.bool false) := fun w => hn ▸ c_fMarkName x w hxs
      have i2 := trivial
      repeat
        apply Exists.intro
        apply And.intro
        · first
            | (rw [xg_ft]; try rfl)
            | (rw [xg_tf]; try rfl)
            | (rw [xg_undef]; try rfl)
            | ((try rw [xg_same]); intro w3; first
                | exact i1 _ _ ⟨rfl, rfl⟩
                | exact i2 _ _ ⟨rfl, rfl⟩
                | (rw [xpick_true]; exact ⟨rfl, rfl⟩)
                | (rw [xpick_false]; exact ⟨rfl, rfl⟩)
                | (rw [xnot, Bool.not_true]; exact ⟨rfl, rfl⟩)
                | (rw [xnot, Bool.not_false]; exact ⟨rfl, rfl⟩)
                | (rw [xgtr, decide_eq_true (by omega)]; exact ⟨rfl, rfl⟩)
                | (rw [xgtr, decide_eq_false (by omega)]; exact ⟨rfl, rfl⟩)
                | (rw [xlss, decide_eq_true (by omega)]; exact ⟨rfl, rfl⟩)
                | (rw [xlss, decide_eq_false (by omega)]; exact ⟨rfl, rfl⟩)
                | (rw [xgeq, decide_eq_true (by omega)]; exact ⟨rfl, rfl⟩)
                | (rw [xgeq, decide_eq_false (by omega)]; exact ⟨rfl, rfl⟩)
                | (rw [xsub, wi64 (by omega) (by omega), ei1]; exact ⟨rfl, rfl⟩)
                | (rw [xsgeq, hbl, Bool.not_true]; exact ⟨rfl, rfl⟩)
                | (rw [xsgeq, hbl, Bool.not_false]; exact ⟨rfl, rfl⟩)
                | (intro e3; first
                    | exact l1 _ (hE e3) _ ⟨rfl, Ext.refl _⟩
                    | exact l2 _ (hE e3) _ ⟨rfl, Ext.refl _⟩
                    | exact xcall_of (en_joineryref2_Name _) (hnm _) fun _ _ hq => hq)
                | exact ⟨rfl, rfl⟩)
      intro w2 e2
      rw [xc_true, bad (by rw [setP, hgx, hn, Bool.false_and])]
      exact ⟨rfl, (h.step e2).ext⟩
    · have hnm : ∀ w, RetV Tryz.prog F_joineryref2_Name #[S x] w (.bool true) := fun w => hn ▸ c_fMarkName x w hxs
      by_cases h0 : i = 0
      · have i2 := trivial
        repeat
          apply Exists.intro
          apply And.intro
          · first
              | (rw [xg_ft]; try rfl)
              | (rw [xg_tf]; try rfl)
              | (rw [xg_undef]; try rfl)
              | ((try rw [xg_same]); intro w3; first
                  | exact i1 _ _ ⟨rfl, rfl⟩
                  | exact i2 _ _ ⟨rfl, rfl⟩
                  | (rw [xpick_true]; exact ⟨rfl, rfl⟩)
                  | (rw [xpick_false]; exact ⟨rfl, rfl⟩)
                  | (rw [xnot, Bool.not_true]; exact ⟨rfl, rfl⟩)
                  | (rw [xnot, Bool.not_false]; exact ⟨rfl, rfl⟩)
                  | (rw [xgtr, decide_eq_true (by omega)]; exact ⟨rfl, rfl⟩)
                  | (rw [xgtr, decide_eq_false (by omega)]; exact ⟨rfl, rfl⟩)
                  | (rw [xlss, decide_eq_true (by omega)]; exact ⟨rfl, rfl⟩)
                  | (rw [xlss, decide_eq_false (by omega)]; exact ⟨rfl, rfl⟩)
                  | (rw [xgeq, decide_eq_true (by omega)]; exact ⟨rfl, rfl⟩)
                  | (rw [xgeq, decide_eq_false (by omega)]; exact ⟨rfl, rfl⟩)
                  | (rw [xsub, wi64 (by omega) (by omega), ei1]; exact ⟨rfl, rfl⟩)
                  | (rw [xsgeq, hbl, Bool.not_true]; exact ⟨rfl, rfl⟩)
                  | (rw [xsgeq, hbl, Bool.not_false]; exact ⟨rfl, rfl⟩)
                  | (intro e3; first
                      | exact l1 _ (hE e3) _ ⟨rfl, Ext.refl _⟩
                      | exact l2 _ (hE e3) _ ⟨rfl, Ext.refl _⟩
                      | exact xcall_of (en_joineryref2_Name _) (hnm _) fun _ _ hq => hq)
                  | exact ⟨rfl, rfl⟩)
        intro w2 e2
        rw [xc_false, xadd, wi64 (by omega) (by omega)]
        exact ⟨⟨i + 1, hlt, rfl, good (by rw [setP, hgx, hn, decide_eq_true h0]; rfl), h.step e2⟩, lenI_succ hlt⟩
      · have hlt2 : i - 1 < l.length := by omega
        obtain ⟨y, hy⟩ : ∃ y, l[i - 1]? = some y := ⟨_, List.getElem?_eq_getElem hlt2⟩
        obtain ⟨a2, i2, l2⟩ := str_of hp hy
        have hgy : l.getD (i - 1) [] = y := by rw [List.getD_eq_getElem?_getD, hy]; rfl
        have ei1 : (i : Int) - 1 = ((i - 1 : Nat) : Int) := by omega
        cases hbl : Op.bytesLess y x
        · repeat
            apply Exists.intro
            apply And.intro
            · first
                | (rw [xg_ft]; try rfl)
                | (rw [xg_tf]; try rfl)
                | (rw [xg_undef]; try rfl)
                | ((try rw [xg_same]); intro w3; first
                    | exact i1 _ _ ⟨rfl, rfl⟩
                    | exact i2 _ _ ⟨rfl, rfl⟩
                    | (rw [xpick_true]; exact ⟨rfl, rfl⟩)
                    | (rw [xpick_false]; exact ⟨rfl, rfl⟩)
                    | (rw [xnot, Bool.not_true]; exact ⟨rfl, rfl⟩)
                    | (rw [xnot, Bool.not_false]; exact ⟨rfl, rfl⟩)
                    | (rw [xgtr, decide_eq_true (by omega)]; exact ⟨rfl, rfl⟩)
                    | (rw [xgtr, decide_eq_false (by omega)]; exact ⟨rfl, rfl⟩)
                    | (rw [xlss, decide_eq_true (by omega)]; exact ⟨rfl, rfl⟩)
                    | (rw [xlss, decide_eq_false (by omega)]; exact ⟨rfl, rfl⟩)
                    | (rw [xgeq, decide_eq_true (by omega)]; exact ⟨rfl, rfl⟩)
                    | (rw [xgeq, decide_eq_false (by omega)]; exact ⟨rfl, rfl⟩)
                    | (rw [xsub, wi64 (by omega) (by omega), ei1]; exact ⟨rfl, rfl⟩)
                    | (rw [xsgeq, hbl, Bool.not_true]; exact ⟨rfl, rfl⟩)
                    | (rw [xsgeq, hbl, Bool.not_false]; exact ⟨rfl, rfl⟩)
                    | (intro e3; first
                        | exact l1 _ (hE e3) _ ⟨rfl, Ext.refl _⟩
                        | exact l2 _ (hE e3) _ ⟨rfl, Ext.refl _⟩
                        | exact xcall_of (en_joineryref2_Name _) (hnm _) fun _ _ hq => hq)
                    | exact ⟨rfl, rfl⟩)
          intro w2 e2
          rw [xc_true, bad (by rw [setP, hgx, hgy, hn, hbl, decide_eq_false h0]; rfl)]
          exact ⟨rfl, (h.step e2).ext⟩
        · repeat
            apply Exists.intro
            apply And.intro
            · first
                | (rw [xg_ft]; try rfl)
                | (rw [xg_tf]; try rfl)
                | (rw [xg_undef]; try rfl)
                | ((try rw [xg_same]); intro w3; first
                    | exact i1 _ _ ⟨rfl, rfl⟩
                    | exact i2 _ _ ⟨rfl, rfl⟩
                    | (rw [xpick_true]; exact ⟨rfl, rfl⟩)
                    | (rw [xpick_false]; exact ⟨rfl, rfl⟩)
                    | (rw [xnot, Bool.not_true]; exact ⟨rfl, rfl⟩)
                    | (rw [xnot, Bool.not_false]; exact ⟨rfl, rfl⟩)
                    | (rw [xgtr, decide_eq_true (by omega)]; exact ⟨rfl, rfl⟩)
                    | (rw [xgtr, decide_eq_false (by omega)]; exact ⟨rfl, rfl⟩)
                    | (rw [xlss, decide_eq_true (by omega)]; exact ⟨rfl, rfl⟩)
                    | (rw [xlss, decide_eq_false (by omega)]; exact ⟨rfl, rfl⟩)
                    | (rw [xgeq, decide_eq_true (by omega)]; exact ⟨rfl, rfl⟩)
                    | (rw [xgeq, decide_eq_false (by omega)]; exact ⟨rfl, rfl⟩)
                    | (rw [xsub, wi64 (by omega) (by omega), ei1]; exact ⟨rfl, rfl⟩)
                    | (rw [xsgeq, hbl, Bool.not_true]; exact ⟨rfl, rfl⟩)
                    | (rw [xsgeq, hbl, Bool.not_false]; exact ⟨rfl, rfl⟩)
                    | (intro e3; first
                        | exact l1 _ (hE e3) _ ⟨rfl, Ext.refl _⟩
                        | exact l2 _ (hE e3) _ ⟨rfl, Ext.refl _⟩
                        | exact xcall_of (en_joineryref2_Name _) (hnm _) fun _ _ hq => hq)
                    | exact ⟨rfl, rfl⟩)
          intro w2 e2
          rw [xc_false, xadd, wi64 (by omega) (by omega)]
          exact ⟨⟨i + 1, hlt, rfl, good (by rw [setP, hgx, hgy, hn, hbl, decide_eq_false h0]; rfl), h.step e2⟩, lenI_succ hlt⟩
  · intro hge
    have hi : i = l.length := by omega
    subst hi
    refine ⟨?_, h.ext⟩
    rw [setM, hu, decide_eq_true h4]
    rfl
theorem c_fNode {w : World} {n : NodeM} {mv tv : Value} (h1 : Row w 1 mv n.marks.length (strsL n.marks)) (h2 : Row w 1 tv n.taints.length (strsL n.taints)) (hz : NodeSmall n) : RetV Tryz.prog F_joineryref3_Node #[nodeAt n mv tv] w (.int .i64 (nodeE n)) := by
  refine call_joineryref3_Node ?_
  have h := St.start w
  unfold S_joineryref3_Node
  refine st_box h ?_
  intro b w1 hb h
  try simp only [go_sem] at h
  rw [fld_api_Node_Name]
  refine st_load ag_string h 0 rfl rfl ?_
  refine st_callV en_joineryref2_Name (c_fMarkName _ _ hz.name) h ?_
  intro w2 h
  rw [xnot]
  refine xc_of ?_ ?_
  · intro e
    refine ⟨?_, h.ext⟩
    unfold nodeE
    rw [e]
    rfl
  intro e1
  rw [fld_api_Node_Cap]
  refine st_loadN ag_api_Vec sz_api_Vec h 0 rfl rfl (vs := vecC n.cap) rfl ?_
  refine st_callV en_joineryref3_Size (c_fSize _) h ?_
  intro w3 h
  rw [xnot]
  refine xc_of ?_ ?_
  · intro e
    refine ⟨?_, h.ext⟩
    unfold nodeE
    rw [e1, e]
    rfl
  intro e2
  rw [fld_api_Node_Marks]
  refine st_load ag_sl_string h 0 rfl rfl ?_
  refine st_callV en_joineryref2_Set (c_fSet (h1.mono h.ext) hz.mark) h ?_
  intro w4 h
  rw [xnot]
  refine or_st h (!setM n.taints) ?_ ?_
  · intro _ J hJ
    rw [fld_api_Node_Taints]
    refine st_load ag_sl_string h 0 rfl rfl ?_
    refine st_callV en_joineryref2_Set (c_fSet (h2.mono h.ext) hz.taint) h ?_
    intro w5 h
    rw [xnot]
    exact hJ _ h
  intro w5 h
  refine xc_of ?_ ?_
  · intro e
    refine ⟨?_, h.ext⟩
    unfold nodeE
    rw [e1, e2, e]
    rfl
  · intro e
    refine ⟨?_, h.ext⟩
    unfold nodeE
    rw [e1, e2, e]
    rfl
theorem int_at' {w : World} {p : Value} {ns : List Int} {i : Nat} {y : Int} (hp : Row w 1 p ns.length (intsL ns)) (hy : ns[i]? = some y) :
    ∃ a, (∀ (w' : World) (K : Value → World → Prop), K (.pointer (some a)) w' → XIdx Tryz.prog T_sl_int p (.int .i64 (i : Nat)) w' K) ∧ ∀ w', Ext w w' → ∀ K : Value → World → Prop, K (.int .i64 y) w' → XLoad Tryz.prog T_int (.pointer (some a)) w' K := by
  obtain ⟨b1, o1, i1, c1⟩ := hp.at (k := .i64) und_sl_int sz_int (i := i) (List.getElem?_eq_some_iff.1 hy).1
  refine ⟨⟨b1, o1, none⟩, i1, fun w' e K hk => ?_⟩
  have hc := c1 _ e 0 (by omega)
  simp only [Nat.add_zero, Nat.mul_one] at hc
  exact ld_of ag_int (v := .int .i64 y) (by rw [hc, List.getElem?_map, hy]; rfl) hk
set_option maxHeartbeats 4000000 in
theorem c_fPeers {w : World} {p : Value} {l : List Int} (hp : Row w 1 p l.length (intsL l)) (hl : l.length ≤ 1000000000) : RetV Tryz.prog F_joineryref4_peers #[p] w (.bool (risingM l)) := by
  refine call_joineryref4_peers ?_
  have h := St.start w
  unfold S_joineryref4_peers
  refine ⟨fun u w' => ∃ i : Nat, i ≤ l.length ∧ u = .int .i64 (i : Nat) ∧ upTo (risingP l) i = true ∧ St [] w [] w', fun u _ => lenI l.length u, ⟨0, Nat.zero_le _, rfl, rfl, h⟩, ?_⟩
  clear h
  rintro - u w1 ⟨i, hi, rfl, hu, h⟩
  refine hp.len und_sl_int ?_
  rw [xlss]
  refine xc_dec ?_ ?_
  · intro hlt
    have hlt : i < l.length := by omega
    obtain ⟨x, hx⟩ : ∃ x, l[i]? = some x := ⟨_, List.getElem?_eq_getElem hlt⟩
    obtain ⟨a1, i1, l1⟩ := int_at' hp hx
    have hgx : l.getD i 0 = x := by rw [List.getD_eq_getElem?_getD, hx]; rfl
    have hE : ∀ {w' : World}, Ext w1.drew w' → Ext w w' := fun e => (h.step (Ext.drew _)).ext.trans e
    have h := h.step (Ext.drew _)
    have bad : risingP l i = false → risingM l = false := fun hb => by
      rw [risingM, upTo_false hlt hb, Bool.false_and]
    have good : risingP l i = true → upTo (risingP l) (i + 1) = true := fun hg => by
      rw [upTo_succ, hu, hg]
      rfl
    refine ⟨Ext, Ext, preExt, ?_⟩
    by_cases hA : x < 1
    · have i2 := trivial
      repeat
        apply Exists.intro
        apply And.intro
        · first
            | (rw [xg_ft]; try rfl)
            | (rw [xg_tf]; try rfl)
            | (rw [xg_undef]; try rfl)
            | ((try rw [xg_same]); intro w3; first
                | exact i1 _ _ ⟨rfl, rfl⟩
                | exact i2 _ _ ⟨rfl, rfl⟩
                | (rw [xpick_true]; exact ⟨rfl, rfl⟩)
                | (rw [xpick_false]; exact ⟨rfl, rfl⟩)
                | (rw [xnot, Bool.not_true]; exact ⟨rfl, rfl⟩)
                | (rw [xnot, Bool.not_false]; exact ⟨rfl, rfl⟩)
                | (rw [xgtr, decide_eq_true (by omega)]; exact ⟨rfl, rfl⟩)
                | (rw [xgtr, decide_eq_false (by omega)]; exact ⟨rfl, rfl⟩)
                | (rw [xlss, decide_eq_true (by omega)]; exact ⟨rfl, rfl⟩)
                | (rw [xlss, decide_eq_false (by omega)]; exact ⟨rfl, rfl⟩)
                | (rw [xgeq, decide_eq_true (by omega)]; exact ⟨rfl, rfl⟩)
                | (rw [xgeq, decide_eq_false (by omega)]; exact ⟨rfl, rfl⟩)
                | (rw [xsub, wi64 (by omega) (by omega), ei1]; exact ⟨rfl, rfl⟩)
                | (rw [xsgeq, hbl, Bool.not_true]; exact ⟨rfl, rfl⟩)
                | (rw [xsgeq, hbl, Bool.not_false]; exact ⟨rfl, rfl⟩)
                | (intro e3; first
                    | exact l1 _ (hE e3) _ ⟨rfl, Ext.refl _⟩
                    | exact l2 _ (hE e3) _ ⟨rfl, Ext.refl _⟩
                    | exact xcall_of (en_joineryref2_Name _) (hnm _) fun _ _ hq => hq)
                | exact ⟨rfl, rfl⟩)
      intro w2 e2
      rw [xc_true, bad (by rw [risingP, hgx, decide_eq_false (show ¬ 1 ≤ x by omega)]; rfl)]
      exact ⟨rfl, (h.step e2).ext⟩
    by_cases hB : 4 < x
    · have i2 := trivial
      repeat
        apply Exists.intro
        apply And.intro
        · first
            | (rw [xg_ft]; try rfl)
            | (rw [xg_tf]; try rfl)
            | (rw [xg_undef]; try rfl)
            | ((try rw [xg_same]); intro w3; first
                | exact i1 _ _ ⟨rfl, rfl⟩
                | exact i2 _ _ ⟨rfl, rfl⟩
                | (rw [xpick_true]; exact ⟨rfl, rfl⟩)
                | (rw [xpick_false]; exact ⟨rfl, rfl⟩)
                | (rw [xnot, Bool.not_true]; exact ⟨rfl, rfl⟩)
                | (rw [xnot, Bool.not_false]; exact ⟨rfl, rfl⟩)
                | (rw [xgtr, decide_eq_true (by omega)]; exact ⟨rfl, rfl⟩)
                | (rw [xgtr, decide_eq_false (by omega)]; exact ⟨rfl, rfl⟩)
                | (rw [xlss, decide_eq_true (by omega)]; exact ⟨rfl, rfl⟩)
                | (rw [xlss, decide_eq_false (by omega)]; exact ⟨rfl, rfl⟩)
                | (rw [xgeq, decide_eq_true (by omega)]; exact ⟨rfl, rfl⟩)
                | (rw [xgeq, decide_eq_false (by omega)]; exact ⟨rfl, rfl⟩)
                | (rw [xsub, wi64 (by omega) (by omega), ei1]; exact ⟨rfl, rfl⟩)
                | (rw [xsgeq, hbl, Bool.not_true]; exact ⟨rfl, rfl⟩)
                | (rw [xsgeq, hbl, Bool.not_false]; exact ⟨rfl, rfl⟩)
                | (intro e3; first
                    | exact l1 _ (hE e3) _ ⟨rfl, Ext.refl _⟩
                    | exact l2 _ (hE e3) _ ⟨rfl, Ext.refl _⟩
                    | exact xcall_of (en_joineryref2_Name _) (hnm _) fun _ _ hq => hq)
                | exact ⟨rfl, rfl⟩)
      intro w2 e2
      rw [xc_true, bad (by rw [risingP, hgx, decide_eq_false (show ¬ x ≤ 4 by omega), Bool.and_false]; rfl)]
      exact ⟨rfl, (h.step e2).ext⟩
    have hpx : decide (1 ≤ x) = true ∧ decide (x ≤ 4) = true := ⟨decide_eq_true (by omega), decide_eq_true (by omega)⟩
    by_cases h0 : i = 0
    · have i2 := trivial
      repeat
        apply Exists.intro
        apply And.intro
        · first
            | (rw [xg_ft]; try rfl)
            | (rw [xg_tf]; try rfl)
            | (rw [xg_undef]; try rfl)
            | ((try rw [xg_same]); intro w3; first
                | exact i1 _ _ ⟨rfl, rfl⟩
                | exact i2 _ _ ⟨rfl, rfl⟩
                | (rw [xpick_true]; exact ⟨rfl, rfl⟩)
                | (rw [xpick_false]; exact ⟨rfl, rfl⟩)
                | (rw [xnot, Bool.not_true]; exact ⟨rfl, rfl⟩)
                | (rw [xnot, Bool.not_false]; exact ⟨rfl, rfl⟩)
                | (rw [xgtr, decide_eq_true (by omega)]; exact ⟨rfl, rfl⟩)
                | (rw [xgtr, decide_eq_false (by omega)]; exact ⟨rfl, rfl⟩)
                | (rw [xlss, decide_eq_true (by omega)]; exact ⟨rfl, rfl⟩)
                | (rw [xlss, decide_eq_false (by omega)]; exact ⟨rfl, rfl⟩)
                | (rw [xgeq, decide_eq_true (by omega)]; exact ⟨rfl, rfl⟩)
                | (rw [xgeq, decide_eq_false (by omega)]; exact ⟨rfl, rfl⟩)
                | (rw [xsub, wi64 (by omega) (by omega), ei1]; exact ⟨rfl, rfl⟩)
                | (rw [xsgeq, hbl, Bool.not_true]; exact ⟨rfl, rfl⟩)
                | (rw [xsgeq, hbl, Bool.not_false]; exact ⟨rfl, rfl⟩)
                | (intro e3; first
                    | exact l1 _ (hE e3) _ ⟨rfl, Ext.refl _⟩
                    | exact l2 _ (hE e3) _ ⟨rfl, Ext.refl _⟩
                    | exact xcall_of (en_joineryref2_Name _) (hnm _) fun _ _ hq => hq)
                | exact ⟨rfl, rfl⟩)
      intro w2 e2
      rw [xc_false, xadd, wi64 (by omega) (by omega)]
      exact ⟨⟨i + 1, hlt, rfl, good (by rw [risingP, hgx, hpx.1, hpx.2, decide_eq_true h0]; rfl), h.step e2⟩, lenI_succ hlt⟩
    · have hlt2 : i - 1 < l.length := by omega
      obtain ⟨y, hy⟩ : ∃ y, l[i - 1]? = some y := ⟨_, List.getElem?_eq_getElem hlt2⟩
      obtain ⟨a2, i2, l2⟩ := int_at' hp hy
      have hgy : l.getD (i - 1) 0 = y := by rw [List.getD_eq_getElem?_getD, hy]; rfl
      have ei1 : (i : Int) - 1 = ((i - 1 : Nat) : Int) := by omega
      by_cases hbl : x ≤ y
      · repeat
          apply Exists.intro
          apply And.intro
          · first
              | (rw [xg_ft]; try rfl)
              | (rw [xg_tf]; try rfl)
              | (rw [xg_undef]; try rfl)
              | ((try rw [xg_same]); intro w3; first
                  | exact i1 _ _ ⟨rfl, rfl⟩
                  | exact i2 _ _ ⟨rfl, rfl⟩
                  | (rw [xpick_true]; exact ⟨rfl, rfl⟩)
                  | (rw [xpick_false]; exact ⟨rfl, rfl⟩)
                  | (rw [xnot, Bool.not_true]; exact ⟨rfl, rfl⟩)
                  | (rw [xnot, Bool.not_false]; exact ⟨rfl, rfl⟩)
                  | (rw [xgtr, decide_eq_true (by omega)]; exact ⟨rfl, rfl⟩)
                  | (rw [xgtr, decide_eq_false (by omega)]; exact ⟨rfl, rfl⟩)
                  | (rw [xlss, decide_eq_true (by omega)]; exact ⟨rfl, rfl⟩)
                  | (rw [xlss, decide_eq_false (by omega)]; exact ⟨rfl, rfl⟩)
                  | (rw [xgeq, decide_eq_true (by omega)]; exact ⟨rfl, rfl⟩)
                  | (rw [xgeq, decide_eq_false (by omega)]; exact ⟨rfl, rfl⟩)
                  | (rw [xsub, wi64 (by omega) (by omega), ei1]; exact ⟨rfl, rfl⟩)
                  | (rw [xsgeq, hbl, Bool.not_true]; exact ⟨rfl, rfl⟩)
                  | (rw [xsgeq, hbl, Bool.not_false]; exact ⟨rfl, rfl⟩)
                  | (intro e3; first
                      | exact l1 _ (hE e3) _ ⟨rfl, Ext.refl _⟩
                      | exact l2 _ (hE e3) _ ⟨rfl, Ext.refl _⟩
                      | exact xcall_of (en_joineryref2_Name _) (hnm _) fun _ _ hq => hq)
                  | exact ⟨rfl, rfl⟩)
        intro w2 e2
        rw [xc_true, bad (by rw [risingP, hgx, hgy, decide_eq_false h0, decide_eq_false (show ¬ y < x by omega)]; simp)]
        exact ⟨rfl, (h.step e2).ext⟩
      · repeat
          apply Exists.intro
          apply And.intro
          · first
              | (rw [xg_ft]; try rfl)
              | (rw [xg_tf]; try rfl)
              | (rw [xg_undef]; try rfl)
              | ((try rw [xg_same]); intro w3; first
                  | exact i1 _ _ ⟨rfl, rfl⟩
                  | exact i2 _ _ ⟨rfl, rfl⟩
                  | (rw [xpick_true]; exact ⟨rfl, rfl⟩)
                  | (rw [xpick_false]; exact ⟨rfl, rfl⟩)
                  | (rw [xnot, Bool.not_true]; exact ⟨rfl, rfl⟩)
                  | (rw [xnot, Bool.not_false]; exact ⟨rfl, rfl⟩)
                  | (rw [xgtr, decide_eq_true (by omega)]; exact ⟨rfl, rfl⟩)
                  | (rw [xgtr, decide_eq_false (by omega)]; exact ⟨rfl, rfl⟩)
                  | (rw [xlss, decide_eq_true (by omega)]; exact ⟨rfl, rfl⟩)
                  | (rw [xlss, decide_eq_false (by omega)]; exact ⟨rfl, rfl⟩)
                  | (rw [xgeq, decide_eq_true (by omega)]; exact ⟨rfl, rfl⟩)
                  | (rw [xgeq, decide_eq_false (by omega)]; exact ⟨rfl, rfl⟩)
                  | (rw [xsub, wi64 (by omega) (by omega), ei1]; exact ⟨rfl, rfl⟩)
                  | (rw [xsgeq, hbl, Bool.not_true]; exact ⟨rfl, rfl⟩)
                  | (rw [xsgeq, hbl, Bool.not_false]; exact ⟨rfl, rfl⟩)
                  | (intro e3; first
                      | exact l1 _ (hE e3) _ ⟨rfl, Ext.refl _⟩
                      | exact l2 _ (hE e3) _ ⟨rfl, Ext.refl _⟩
                      | exact xcall_of (en_joineryref2_Name _) (hnm _) fun _ _ hq => hq)
                  | exact ⟨rfl, rfl⟩)
        intro w2 e2
        rw [xc_false, xadd, wi64 (by omega) (by omega)]
        exact ⟨⟨i + 1, hlt, rfl, good (by rw [risingP, hgx, hgy, hpx.1, hpx.2, decide_eq_true (show y < x by omega), Bool.or_true]; rfl), h.step e2⟩, lenI_succ hlt⟩
  · intro hge
    have hi : i = l.length := by omega
    subst hi
    refine hp.len und_sl_int ?_
    rw [xgtr]
    refine ⟨congrArg Value.bool ?_, h.ext⟩
    rw [risingM, hu, Bool.true_and]
    exact decide_eq_decide.2 (by omega)
end Go.Proofs.YthkgbajldkicfaaGreatDoor
