/-
  What the document says is wrong with places.
-/
import Derived.Test.YthkgbajldkicfaaGreatDoorRfD
namespace Go.Proofs.YthkgbajldkicfaaGreatDoor
set_option linter.unusedVariables false
set_option linter.unusedSimpArgs false
open Go Go.Jo
set_option maxRecDepth 100000

/-- A place of a row of places, wherever it is read. -/
theorem placeAt_of {w : World} {p : Value} {l : List PlaceM} {i : Nat} {y : PlaceM} (hp : Row w 5 p l.length (placesL l)) (hy : l[i]? = some y) :
    ∃ b o, (∀ (w' : World) (K : Value → World → Prop), K (.pointer (some ⟨b, o, none⟩)) w' → XIdx Tryz.prog T_sl_api_Place p (.int .i64 (i : Nat)) w' K) ∧
      (∀ w', Ext w w' → ∀ K : Value → World → Prop, K (S y.pod) w' → XLoad Tryz.prog T_string (.pointer (some ⟨b, o + 0, none⟩)) w' K) ∧
      (∀ w', Ext w w' → ∀ K : Value → World → Prop, K (S y.node) w' → XLoad Tryz.prog T_string (.pointer (some ⟨b, o + 1, none⟩)) w' K) ∧
      (∀ w', Ext w w' → ∀ K : Value → World → Prop, K (vecV y.need) w' → XLoad Tryz.prog T_api_Vec (.pointer (some ⟨b, o + 2, none⟩)) w' K) := by
  obtain ⟨b1, o1, i1, c1⟩ := hp.at (k := .i64) und_sl_api_Place sz_api_Place (i := i) (List.getElem?_eq_some_iff.1 hy).1
  refine ⟨b1, o1, i1, fun w' e K hk => ?_, fun w' e K hk => ?_, fun w' e K hk => ?_⟩
  · exact ld_of ag_string (v := S y.pod) ((c1 _ e 0 (by omega)).trans (placesL_at hy 0 (by omega))) hk
  · exact ld_of ag_string (v := S y.node) ((c1 _ e 1 (by omega)).trans (placesL_at hy 1 (by omega))) hk
  · refine ldN_of ag_api_Vec sz_api_Vec (vs := vecC y.need) rfl (fun j hj => ?_) hk
    have := (c1 _ e (2 + j) (by omega)).trans (placesL_at hy (2 + j) (by omega))
    rw [Nat.add_assoc, this]
    match j, hj with
    | 0, _ => rfl
    | 1, _ => rfl
set_option maxHeartbeats 4000000 in
theorem c_fPlaces {w : World} {p : Value} {l : List PlaceM} (hp : Row w 5 p l.length (placesL l)) (hs : ∀ x ∈ l, x.pod.length ≤ 1000000 ∧ x.node.length ≤ 1000000) : RetV Tryz.prog F_joineryref4_places #[p] w (.int .i64 (placesE l)) := by
  refine call_joineryref4_places ?_
  have h := St.start w
  unfold S_joineryref4_places
  refine hp.len und_sl_api_Place ?_
  rw [xlss]
  refine or_st h (decide (8 < l.length)) ?_ ?_
  · intro _ J hJ
    refine hp.len und_sl_api_Place ?_
    rw [xgtr]
    have : decide ((8 : Int) < (l.length : Int)) = decide (8 < l.length) := decide_eq_decide.2 (by omega)
    rw [this]
    exact hJ _ h
  intro w1 h
  refine xc_of ?_ ?_
  · intro hb
    rw [Bool.or_eq_true, decide_eq_true_eq, decide_eq_true_eq] at hb
    rw [placesE, if_pos (by omega)]
    exact ⟨rfl, h.ext⟩
  intro hb
  rw [Bool.or_eq_false_iff, decide_eq_false_iff_not, decide_eq_false_iff_not] at hb
  have hE : placesE l = firstE l (l.find? (fun p => placeE p ≠ 0)) := by
    rw [placesE, if_neg (by omega)]
  refine ⟨fun v w2 => ∃ i : Nat, i ≤ l.length ∧ v = .int .i64 (i : Nat) ∧ l.find? (fun p => placeE p ≠ 0) = (l.drop i).find? (fun p => placeE p ≠ 0) ∧ St [] w [] w2, fun v _ => lenI l.length v, ⟨0, Nat.zero_le _, rfl, rfl, h⟩, ?_⟩
  clear h
  rintro - v w2 ⟨i, hi, rfl, hfind, h⟩
  refine hp.len und_sl_api_Place ?_
  rw [xlss]
  refine xc_dec ?_ ?_
  · intro hlt
    have hlt : i < l.length := by omega
    obtain ⟨y, hy⟩ : ∃ y, l[i]? = some y := ⟨_, List.getElem?_eq_getElem hlt⟩
    have hge : l[i] = y := (List.getElem?_eq_some_iff.1 hy).2
    have hsm := hs y (List.mem_of_getElem? hy)
    rw [List.drop_eq_getElem_cons hlt, hge, List.find?_cons] at hfind
    have bad : ∀ e, placeE y = e → e ≠ 0 → placesE l = e := fun e he h0 => by
      rw [hE, hfind]
      have : decide (placeE y ≠ 0) = true := decide_eq_true (by rw [he]; exact h0)
      rw [this]
      exact he
    obtain ⟨b0, o0, i0, lp, ln, lv⟩ := placeAt_of hp hy
    refine i0 _ _ ?_
    rw [fld_api_Place_Pod]
    refine lp _ h.ext _ ?_
    refine st_callV en_joineryref2_Name (c_fMarkName _ _ hsm.1) h ?_
    intro w3 h
    rw [xnot]
    refine or_st h (!nameM y.node) ?_ ?_
    · intro _ J hJ
      refine i0 _ _ ?_
      rw [fld_api_Place_Node]
      refine ln _ h.ext _ ?_
      refine st_callV en_joineryref2_Name (c_fMarkName _ _ hsm.2) h ?_
      intro w4 h
      rw [xnot]
      exact hJ _ h
    intro w4 h
    refine xc_of ?_ ?_
    · intro hn
      rw [bad 1 (by rw [placeE, if_pos hn]) (by decide)]
      exact ⟨rfl, h.ext⟩
    intro hn
    refine i0 _ _ ?_
    rw [fld_api_Place_Need]
    refine lv _ h.ext _ ?_
    refine st_callV en_joineryref3_Size (c_fSize _) h ?_
    intro w5 h
    rw [xnot]
    refine xc_of ?_ ?_
    · intro hr
      rw [bad 2 (by rw [placeE, hn, if_neg (by simp), if_pos hr]) (by decide)]
      exact ⟨rfl, h.ext⟩
    · intro hr
      have h0 : placeE y = 0 := by rw [placeE, hn, if_neg (by simp), hr, if_neg (by simp)]
      rw [xadd, wi64 (by omega) (by omega)]
      refine ⟨⟨i + 1, hlt, rfl, ?_, h⟩, lenI_succ hlt⟩
      rw [hfind]
      have : decide (placeE y ≠ 0) = false := decide_eq_false (by rw [h0]; simp)
      rw [this]
  intro hge
  have hi : i = l.length := by omega
  subst hi
  rw [List.drop_length] at hfind
  have hE : placesE l = if (l.map (·.pod)).Nodup then 0 else 4 := by rw [hE, hfind]; rfl
  refine ⟨fun v w2 => ∃ i : Nat, i ≤ l.length ∧ v = .int .i64 (i : Nat) ∧ ((l.take i).map (·.pod)).Nodup ∧ St [] w [] w2, fun v _ => lenI l.length v, ⟨0, Nat.zero_le _, rfl, by simp, h⟩, ?_⟩
  clear h
  rintro - v w3 ⟨i, hi, rfl, hnd, h⟩
  refine hp.len und_sl_api_Place ?_
  rw [xlss]
  refine xc_dec ?_ ?_
  · intro hlt
    have hlt : i < l.length := by omega
    obtain ⟨y, hy⟩ : ∃ y, l[i]? = some y := ⟨_, List.getElem?_eq_getElem hlt⟩
    have hgy : l[i] = y := (List.getElem?_eq_some_iff.1 hy).2
    obtain ⟨b0, o0, i0, lp, _, _⟩ := placeAt_of hp hy
    refine ⟨fun v w2 => ∃ k : Nat, k ≤ i ∧ v = .int .i64 (k : Nat) ∧ (∀ z ∈ l.take k, z.pod ≠ y.pod) ∧ St [] w [] w2, fun v _ => lenI i v, ⟨0, Nat.zero_le _, rfl, by simp, h⟩, ?_⟩
    clear h
    rintro - v w4 ⟨k, hk, rfl, hno, h⟩
    rw [xlss]
    refine xc_dec ?_ ?_
    · intro hki
      have hki : k < i := by omega
      obtain ⟨z, hz⟩ : ∃ z, l[k]? = some z := ⟨_, List.getElem?_eq_getElem (by omega)⟩
      have hgz : l[k] = z := (List.getElem?_eq_some_iff.1 hz).2
      obtain ⟨b1, o1, i1, lp1, _, _⟩ := placeAt_of hp hz
      have h := h.step (Ext.drew _)
      have e5 := h.ext
      refine ⟨Ext, Ext, preExt, .pointer (some ⟨b0, o0, none⟩), fun w5 => i0 _ _ ⟨rfl, rfl⟩, .pointer (some ⟨b0, o0 + 0, none⟩), fun w5 => by rw [fld_api_Place_Pod]; exact ⟨rfl, rfl⟩, S y.pod, fun w5 e => lp _ (e5.trans e) _ ⟨rfl, Ext.refl _⟩, .pointer (some ⟨b1, o1, none⟩), fun w5 => i1 _ _ ⟨rfl, rfl⟩, .pointer (some ⟨b1, o1 + 0, none⟩), fun w5 => by rw [fld_api_Place_Pod]; exact ⟨rfl, rfl⟩, S z.pod, fun w5 e => lp1 _ (e5.trans e) _ ⟨rfl, Ext.refl _⟩, .bool (decide (y.pod = z.pod)), fun w5 => by rw [xseql]; exact ⟨rfl, rfl⟩, fun w5 e => ?_⟩
      have h := h.step e
      refine xc_dec ?_ ?_
      · intro he
        rw [hE, if_neg]
        · exact ⟨rfl, h.ext⟩
        · intro hn
          have := List.pairwise_iff_getElem.1 hn k i (by simp; omega) (by simp; omega) hki
          rw [List.getElem_map, List.getElem_map, hgz, hgy] at this
          exact this he.symm
      · intro he
        rw [xadd, wi64 (by omega) (by omega)]
        refine ⟨⟨k + 1, by omega, rfl, fun u hu => ?_, h⟩, lenI_succ hki⟩
        rw [List.take_succ_eq_append_getElem (by omega), hgz] at hu
        rcases List.mem_append.1 hu with hu | hu
        · exact hno u hu
        · rw [List.mem_singleton] at hu
          subst hu
          exact fun e => he e.symm
    · intro hki
      have hki : k = i := by omega
      subst hki
      rw [xadd, wi64 (by omega) (by omega)]
      refine ⟨⟨k + 1, hlt, rfl, ?_, h⟩, lenI_succ hlt⟩
      rw [List.take_succ_eq_append_getElem hlt, List.map_append, hgy]
      refine List.pairwise_append.2 ⟨hnd, by simp, fun a ha b hb => ?_⟩
      obtain ⟨z, hz, rfl⟩ := List.mem_map.1 ha
      have hb : b = y.pod := by simpa using hb
      rw [hb]
      exact hno z hz
  · intro hge
    have hi : i = l.length := by omega
    subst hi
    rw [List.take_length] at hnd
    rw [hE, if_pos hnd]
    exact ⟨rfl, h.ext⟩
end Go.Proofs.YthkgbajldkicfaaGreatDoor
