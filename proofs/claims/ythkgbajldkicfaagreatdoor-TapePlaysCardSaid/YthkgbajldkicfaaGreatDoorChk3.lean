/-
  What is wrong with places.
-/
import Derived.Test.YthkgbajldkicfaaGreatDoorChk2
namespace Go.Proofs.YthkgbajldkicfaaGreatDoor
set_option linter.unusedVariables false
set_option linter.unusedSimpArgs false
open Go Go.Jo
set_option maxRecDepth 100000

theorem chg_sort {w : World} {g n : Nat} {os : Array Obj} {d : Array (List UInt8)} (hg : g < w.heap.size) : Chg [g] w (Sort.grow (Sort.putRow encStr (Sort.ahead w n) g 0 d) os) := by
  refine ⟨rfl, rfl, rfl, ?_, fun k hk hx => ?_⟩
  · simp
  · have hne : ¬ g = k := fun e => hx (by simp [e])
    rw [Sort.heap_grow_old _ _ (by simpa using hk)]
    simp [Sort.putRow, Sort.mapBlock, Array.getElem?_modify, hne]
theorem chg_put {w : World} {g n : Nat} {d : Array (List UInt8)} : Chg [g] w (Sort.putRow encStr (Sort.ahead w n) g 0 d) := by
  refine ⟨rfl, rfl, rfl, ?_, fun k hk hx => ?_⟩
  · simp
  · have hne : ¬ g = k := fun e => hx (by simp [e])
    simp [Sort.putRow, Sort.mapBlock, Array.getElem?_modify, hne]
abbrev sortS (l : List Str) : List Str := l.mergeSort fun x y => decide (x ≤ y)
theorem c_sort {w : World} {g cap : Nat} {l : List Str} (h : w.ownsRow 0 T_string 1 (.slice (some ⟨g, 0, none⟩) l.length cap) l.length (strsL l)) (hl : l.length ≤ 1000000) :
    Ret Tryz.prog F_slices_Sort_string_string #[.slice (some ⟨g, 0, none⟩) l.length cap] w fun _ w' => Chg [g] w w' ∧ Sort.Holds encStr w' g 0 (sortS l).toArray := by
  have hg : g < w.heap.size := (World.ownsRow.lt h g rfl).2
  have hH : Sort.Holds encStr w g 0 l.toArray := fun j hj => by
    have hj : j < l.length := by simpa using hj
    refine ⟨?_, ?_⟩
    · rw [Nat.zero_add, h.cellAt j (by omega)]
      simp [hj]
    · rw [Nat.zero_add]
      exact h.frozenAt j
  refine (Tryz.slices_Sort_string g 0 cap l w hH hg (by omega)).mono ?_
  rintro e w' ⟨rfl, n, os, rfl⟩
  refine ⟨_, rfl, chg_sort hg, ?_⟩
  exact Sort.holds_grow _ _ _ _ _ _ (by simpa using hg) (Sort.holds_putRow _ _ _ _ l.toArray _ (Sort.holds_ahead _ _ _ _ _ _ hH) (by simp))
theorem c_compact {w : World} {g cap : Nat} {l : List Str} (hH : Sort.Holds encStr w g 0 l.toArray) (hl : l.length ≤ 1000000) (hc : l.length ≤ cap) :
    Ret Tryz.prog F_slices_Compact_string_string #[.slice (some ⟨g, 0, none⟩) l.length cap] w fun v w' => v = .slice (some ⟨g, 0, none⟩) (Lib.compact l).length cap ∧ Chg [g] w w' := by
  refine (Tryz.slices_Compact_string g 0 cap l w hH (by omega) hc).mono ?_
  rintro e w' ⟨rfl, q, rfl⟩
  exact ⟨_, rfl, rfl, chg_put⟩
theorem sortS_length (l : List Str) : (sortS l).length = l.length := List.length_mergeSort _
theorem compact_lt (l : List Str) : (Lib.compact (sortS l)).length < l.length ↔ ¬ l.Nodup := by
  have hp : (sortS l).Perm l := List.mergeSort_perm _ _
  rw [← sortS_length l, ← hp.nodup_iff]
  have hs : (sortS l).Pairwise fun a b => decide (a ≤ b) = true := by
    refine List.pairwise_mergeSort (fun a b c h1 h2 => ?_) (fun a b => ?_) l
    · simp only [decide_eq_true_eq] at h1 h2 ⊢
      exact List.le_trans h1 h2
    · simp only [Bool.or_eq_true, decide_eq_true_eq]
      exact List.le_total a b
  generalize sortS l = z at hs
  constructor
  · intro h hn
    have : Lib.compact z = z := Lib.compact_all z fun j hj => by
      rw [Lib.keeps, decide_eq_true_eq]
      by_cases h0 : j = 0
      · exact .inl h0
      · right
        intro e
        rw [getElem!_pos z.toArray j (by simpa using hj), getElem!_pos z.toArray (j - 1) (by simp; omega)] at e
        have := List.pairwise_iff_getElem.1 hn (j - 1) j (by omega) hj (by omega)
        exact this (by simpa using e.symm)
    rw [this] at h
    omega
  · intro hn
    have hex : ∃ j, 0 < j ∧ ∃ hj : j < z.length, z[j] = z[j - 1] := by
      by_cases hh : ∃ j, 0 < j ∧ ∃ hj : j < z.length, z[j] = z[j - 1]
      · exact hh
      · exfalso
        refine hn (List.pairwise_iff_getElem.2 fun i j hi hj hij e => ?_)
        refine hh ⟨j, by omega, hj, ?_⟩
        have h1 := List.pairwise_iff_getElem.1 hs
        by_cases hij' : i = j - 1
        · subst hij'; exact e.symm
        · have a1 : z[i] ≤ z[j - 1] := by simpa using h1 i (j - 1) hi (by omega) (by omega)
          have a2 : z[j - 1] ≤ z[j] := by simpa using h1 (j - 1) j (by omega) hj (by omega)
          rw [← e] at a2
          rw [← e]
          exact List.le_antisymm a1 a2
    obtain ⟨j, h0, hj, e⟩ := hex
    have hk : Lib.keeps z.toArray j = false := Lib.keeps_neg h0 (by
      rw [getElem!_pos z.toArray j (by simpa using hj), getElem!_pos z.toArray (j - 1) (by simp; omega)]
      simpa using e)
    unfold Lib.compact Lib.compactUpTo
    rw [List.length_map]
    have hlt : ((List.range z.length).filter (Lib.keeps z.toArray)).length < (List.range z.length).length := by
      rw [List.length_filter_lt_length_iff_exists]
      exact ⟨j, List.mem_range.2 hj, by rw [hk]; simp⟩
    simpa using hlt

theorem place_cell {l : List PlaceM} {i j : Nat} {p : PlaceM} (hi : l[i]? = some p) (hj : j < 5) : (placesL l)[i * 5 + j]? = (placeC p)[j]? := by
  induction l generalizing i with
  | nil => simp at hi
  | cons q l ih =>
    rw [placesL, List.flatMap_cons]
    cases i with
    | zero =>
      have : q = p := by simpa using hi
      subst this
      rw [Nat.zero_mul, Nat.zero_add, List.getElem?_append_left (by simpa using hj)]
    | succ i =>
      have := ih (i := i) (by simpa using hi)
      rw [List.getElem?_append_right (by simp; omega), ← this]
      congr 1
      simp
      omega
set_option maxHeartbeats 2000000 in
theorem c_places {w : World} {p0 : Value} {l : List PlaceM} (hp : Row w 5 p0 l.length (placesL l)) (hl : l.length ≤ 1000000) (hs : ∀ p ∈ l, p.pod.length ≤ 1000000 ∧ p.node.length ≤ 1000000) : RetV Tryz.prog F_line_places #[p0] w (.int .i64 (placesE l)) := by
  refine call_line_places ?_
  have h := (St.start w).row0 T_string 1
  unfold S_line_places
  refine hp.len und_sl_api_Place ?_
  rw [xlss]
  refine or_st h (decide (8 < l.length)) ?_ ?_
  · intro _ J hJ
    refine hp.len und_sl_api_Place ?_
    rw [xgtr]
    have : decide ((8 : Int) < (l.length : Int)) = decide (8 < l.length) := by congr 1; exact propext ⟨fun h => by omega, fun h => by omega⟩
    rw [this]
    exact hJ _ h
  · intro w1 h
    refine xc_of ?_ ?_
    · intro hb
      rw [Bool.or_eq_true, decide_eq_true_eq, decide_eq_true_eq] at hb
      rw [placesE, if_pos (by omega)]
      exact ⟨rfl, h.ext⟩
    · intro hb
      rw [Bool.or_eq_false_iff, decide_eq_false_iff_not, decide_eq_false_iff_not] at hb
      have hE : placesE l = firstE l (l.find? (fun p => placeE p ≠ 0)) := by
        rw [placesE, if_neg (by omega)]
      refine hp.len und_sl_api_Place ?_
      refine ⟨fun u v w2 => ∃ i, i ≤ l.length ∧ v = .int .i64 (i : Nat) ∧ l.find? (fun p => placeE p ≠ 0) = (l.drop i).find? (fun p => placeE p ≠ 0) ∧ St [] w [.row T_string 1 u ((l.take i).map (·.pod)).length (strsL ((l.take i).map (·.pod)))] w2, fun _ v _ => match v with | .int _ n => l.length - n.toNat | _ => 0, ⟨0, Nat.zero_le _, rfl, rfl, h⟩, ?_⟩
      rintro - u v w2 ⟨i, hi, rfl, hfind, h⟩
      rw [xlss]
      refine xc_dec ?_ ?_
      · intro hlt
        have hlt : i < l.length := by omega
        obtain ⟨p, hpi⟩ : ∃ p, l[i]? = some p := ⟨_, List.getElem?_eq_getElem hlt⟩
        have hge : l[i] = p := by
          rw [List.getElem?_eq_getElem hlt] at hpi
          injection hpi
        have hsm := hs p (List.mem_of_getElem? hpi)
        rw [List.drop_eq_getElem_cons hlt, hge, List.find?_cons] at hfind
        have bad : ∀ e, placeE p = e → e ≠ 0 → placesE l = e := fun e he h0 => by
          rw [hE, hfind]
          have : decide (placeE p ≠ 0) = true := decide_eq_true (by rw [he]; exact h0)
          rw [this]
          exact he
        refine (hp.mono h.ext).idx und_sl_api_Place sz_api_Place hlt fun b0 o0 hc0 => ?_
        refine ldN_of ag_api_Place sz_api_Place (vs := placeC p) rfl (fun j hj => (hc0 j hj).trans (place_cell hpi hj)) ?_
        refine st_alloc zv_api_Place h ?_
        intro b1 w3 hb1 h
        try simp only [go_sem] at h
        refine st_store sz_api_Place h 0 rfl rfl rfl rfl ?_
        intro w4 h
        try simp only [go_sem] at h
        try simp only [go_sem]
        refine st_load ag_string h 0 rfl rfl ?_
        refine st_callV en_mark_Name (c_markName _ _ hsm.1) h ?_
        intro w5 h
        rw [xnot]
        refine or_st h (!nameM p.node) ?_ ?_
        · intro _ J hJ
          refine st_load ag_string h 0 rfl rfl ?_
          refine st_callV en_mark_Name (c_markName _ _ hsm.2) h ?_
          intro w6 h
          rw [xnot]
          exact hJ _ h
        · intro w6 h
          refine xc_of ?_ ?_
          · intro hn
            rw [bad 1 (by rw [placeE, if_pos hn]) (by decide)]
            exact ⟨rfl, h.ext⟩
          · intro hn
            refine st_loadN ag_api_Vec sz_api_Vec h 0 rfl rfl (vs := vecC p.need) rfl ?_
            refine st_callV en_line_size (c_size p.need _) h ?_
            intro w7 h
            rw [xnot]
            refine xc_of ?_ ?_
            · intro hr
              rw [bad 2 (by rw [placeE, hn, if_neg (by simp), if_pos hr]) (by decide)]
              exact ⟨rfl, h.ext⟩
            · intro hr
              have h0 : placeE p = 0 := by rw [placeE, hn, if_neg (by simp), hr, if_neg (by simp)]
              refine st_load ag_string h 0 rfl rfl ?_
              refine st_buildS (cs := #[S p.pod]) (e := T_string) (fun w => by kernel_rfl) h ?_
              intro bx w8 hbx h
              have hlen : ((l.take i).map (·.pod)).length = i := by simp; omega
              refine app_sl_string h 2 rfl [S p.pod] rfl (news_blk (h.at 0 rfl)) (by simp [Value.oneCell']) (by omega) ?_
              intro v' w9 h
              rw [wi64 (by omega) (by omega)]
              refine ⟨⟨i + 1, hlt, rfl, ?_, ?_⟩, ?_⟩
              · rw [hfind]
                have : decide (placeE p ≠ 0) = false := decide_eq_false (by rw [h0]; simp)
                rw [this]
              · have h := h.pick [2] (by decide) rfl
                have e1 : (l.take (i + 1)).map (·.pod) = (l.take i).map (·.pod) ++ [p.pod] := by
                  rw [List.take_succ_eq_append_getElem hlt, hge]
                  simp
                have e2 : strsL ((l.take (i + 1)).map (·.pod)) = strsL ((l.take i).map (·.pod)) ++ [S p.pod] := by rw [e1]; simp
                have e3 : ((l.take (i + 1)).map (·.pod)).length = ((l.take i).map (·.pod)).length + 1 := by rw [e1]; simp
                rw [e2, e3]
                exact h
              · show l.length - (((i : Int) + 1)).toNat < l.length - ((i : Int)).toNat
                omega
      · intro hge
        have hi : i = l.length := by omega
        subst hi
        rw [List.take_length] at h
        rw [List.drop_length] at hfind
        have hE : placesE l = if (l.map (·.pod)).Nodup then 0 else 4 := by rw [hE, hfind]; rfl
        have hml : (l.map (·.pod)).length = l.length := by simp
        have hr := h.atR 0 rfl
        have e2 := h.ext
        have hlow := fun k hk => (h.low _ List.mem_cons_self k hk).resolve_left (by simp)
        rcases own_cases hr with ⟨_, h0⟩ | ⟨g, cap, rfl, hc, hg, _⟩
        · omega
        · have hg0 : w.heap.size ≤ g := hlow g rfl
          refine xcall_of (en_slices_Sort_string_string _) (c_sort hr (by omega)) ?_
          rintro - w3 ⟨c3, hH⟩
          have hsl : (l.map (·.pod)).length = (sortS (l.map (·.pod))).length := (sortS_length _).symm
          rw [hsl]
          refine xcall_of (en_slices_Compact_string_string _) (c_compact hH (by omega) (by omega)) ?_
          rintro _ w4 ⟨rfl, c4⟩
          have e4 : Ext w w4 := by
            have c := c3.trans c4
            refine ⟨c.os.trans e2.os, c.tape.trans e2.tape, c.output.trans e2.output, Nat.le_trans e2.size c.size, fun k hk => ?_⟩
            exact (c.keep k (Nat.lt_of_lt_of_le hk e2.size) (by simp; omega)).trans (e2.block k hk)
          rw [xlen_slice und_sl_string]
          refine hp.len und_sl_api_Place ?_
          rw [xlss]
          have hlt := compact_lt (l.map (·.pod))
          rw [hml] at hlt
          refine xc_dec ?_ ?_
          · intro hx
            have hx : ¬ (l.map (·.pod)).Nodup := hlt.1 (by omega)
            rw [hE, if_neg hx]
            exact ⟨rfl, e4⟩
          · intro hx
            have hx : (l.map (·.pod)).Nodup := by
              by_cases hn : (l.map (·.pod)).Nodup
              · exact hn
              · exact absurd (hlt.2 hn) (by omega)
            rw [hE, if_pos hx]
            exact ⟨rfl, e4⟩
end Go.Proofs.YthkgbajldkicfaaGreatDoor
