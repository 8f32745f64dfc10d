/-
  The document's own reader: a line, as far as its form goes.
-/
import Derived.Test.YthkgbajldkicfaaGreatDoorRfY
namespace Go.Proofs.YthkgbajldkicfaaGreatDoor
set_option linter.unusedVariables false
set_option linter.unusedSimpArgs false
open Go Go.Jo
set_option maxRecDepth 100000

abbrev rdRes (v : Value) (l : List Str) (w w' : World) : Prop := ∃ (r : RecM) (pv lv mv tv : Value), v = .tuple #[recV r pv lv mv tv, .bool (readM l).2] ∧ ((readM l).2 = true → r = (readM l).1) ∧ St [] w (recR r pv lv mv tv) w'
abbrev rdL (q4 q2 : Nat) (r : RecM) (pv lv mv tv : Value) : List Res := .blk q4 (recO r pv lv mv tv) :: .blk q2 (recO zRec nilV nilV nilV nilV) :: recR r pv lv mv tv
/-- What was read, handed back. -/
theorem rd_ret {w w' : World} {l : List Str} {q4 q2 : Nat} {r : RecM} {pv lv mv tv : Value} {f : Bool} (h : St [] w (rdL q4 q2 r pv lv mv tv) w') (hf : f = (readM l).2) (hr : (readM l).2 = true → r = (readM l).1) :
    XStore Tryz.prog T_api_Record (pt q2) (recV r pv lv mv tv) w' fun w5 => XLoad Tryz.prog T_api_Record (pt q2) w5 fun r1 w6 => w6 = w5 ∧ rdRes (.tuple #[r1, .bool f]) l w w5 := by
  have hfl := st_flats (r := r) (pv := pv) (lv := lv) (mv := mv) (tv := tv) h (by simp)
  refine st_store sz_api_Record h 1 rfl rfl rfl (hfl.all r) ?_
  intro w5 h
  try simp only [go_sem] at h
  refine st_loadW ag_api_Record sz_api_Record h 1 rfl rfl ⟨rfl, r, pv, lv, mv, tv, ?_, hr, h.pick [2, 3, 4, 5] (by decide) rfl⟩
  rw [hf]
theorem readM_k0 {a b : Str} {rest : List Str} (hk : kindM a = 0) : readM (a :: b :: rest) = (zRec, false) := by simp [readM, hk]
theorem tailM_not3 {k : Nat} {r : RecM} {is : Bool} {rest : List Str} (hk : k ≠ 3) : tailM k r is rest = (r, is && rest.isEmpty) := by simp [tailM, hk]
theorem len2 (rest : List Str) : decide (((rest.length + 1 + 1 : Nat) : Int) = 2) = rest.isEmpty := by
  cases rest with
  | nil => rfl
  | cons a t =>
    rw [decide_eq_false (by simp; omega)]
    rfl
set_option maxHeartbeats 4000000 in
theorem c_fRead {w : World} {p0 : Value} {l : List Str} (hp : Row w 1 p0 l.length (strsL l)) (hl : l.length ≤ 1000000) (hs : ∀ x ∈ l, x.length ≤ 1000000) : Ret Tryz.prog F_joineryref4_read #[p0] w fun v w' => rdRes v l w w' := by
  refine call_joineryref4_read ?_
  have h := ((((St.start w).row0 T_string 1).row0 T_string 1).row0 T_api_Place 5).row0 T_int 1
  unfold S_joineryref4_read
  refine st_alloc zv_api_Record h ?_
  intro q2 w1 _ h
  refine hp.len und_sl_string ?_
  rw [xlss]
  refine xc_dec ?_ ?_
  · intro hlt
    have hr2 : (readM l).2 = false := by
      match l, hlt with
      | [], _ => rfl
      | [a], _ => rfl
      | a :: b :: t, hlt => simp at hlt; omega
    rw [xbuild (v := recV zRec nilV nilV nilV nilV) (fun w => by kernel_rfl)]
    refine st_store sz_api_Record h 0 rfl rfl rfl rfl ?_
    intro w2 h
    try simp only [go_sem] at h
    refine st_loadW ag_api_Record sz_api_Record h 0 rfl rfl ⟨rfl, zRec, nilV, nilV, nilV, nilV, ?_, (fun hh => Bool.noConfusion (hr2.symm.trans hh)), h.pick [1, 2, 3, 4] (by decide) rfl⟩
    rw [hr2]
  intro hge
  obtain ⟨a, b, rest, rfl⟩ : ∃ a b rest, l = a :: b :: rest := by
    match l, hge with
    | [], hge => simp at hge
    | [a], hge => simp at hge
    | a :: b :: t, _ => exact ⟨a, b, t, rfl⟩
  have hsa := hs a (by simp)
  have hsb := hs b (by simp)
  refine str_at (hp.mono h.ext) (i := 0) (by simp) rfl ?_
  intro b0 o0 hc0
  refine ld_of ag_string hc0 ?_
  refine st_callV en_joineryref4_kind c_fKind h ?_
  intro w2 h
  have hk7 := kindM_le a
  generalize hk : kindM a = k at *
  rw [xbuild (v := recV { zRec with kind := (k : Int) } nilV nilV nilV nilV) (fun w => by kernel_rfl)]
  refine st_alloc zv_api_Record h ?_
  intro q4 w3 _ h
  refine st_store sz_api_Record h 0 rfl rfl rfl rfl ?_
  intro w4 h
  try simp only [go_sem] at h
  have h : St [] w (rdL q4 q2 { zRec with kind := (k : Int) } nilV nilV nilV nilV) w4 := h
  rw [fld_api_Record_Kind]
  refine st_load ag_int (v := .int .i64 (k : Int)) h 0 rfl rfl ?_
  rw [xeql]
  refine xc_dec ?_ ?_
  · intro k0
    have k0 : k = 0 := by omega
    have e := readM_k0 (b := b) (rest := rest) (hk.trans k0)
    refine st_loadW ag_api_Record sz_api_Record h 0 rfl rfl ?_
    refine rd_ret h (by rw [e]) (fun hh => by rw [e] at hh; cases hh)
  intro k0
  have k0 : k ≠ 0 := by omega
  have hk0 : kindM a ≠ 0 := by rw [hk]; exact k0
  rw [xeql]
  refine xc_dec ?_ ?_
  · intro k1
    have k1 : k = 1 := by omega
    subst k1
    have e := readM_bare (b := b) (rest := rest) hk0 (by rw [hk]; rfl)
    rw [hk, tailM_not3 (by omega)] at e
    refine str_at (hp.mono h.ext) (i := 1) (by simp) rfl ?_
    intro b0 o0 hc0
    refine ld_of ag_string hc0 ?_
    refine st_callE en_joineryref4_ReadNode (c_fReadNode hsb) h ?_
    rintro v w5 ⟨n, mv, tv, rfl, hn, kk⟩ mg
    have h := mg _ kk
    rw [xe20, xe21, fld_api_Record_Node]
    have f1 := flat_own (h.atR 0 rfl)
    have f2 := flat_own (h.atR 1 rfl)
    have hflat : (nodeC n.name n.cap mv tv n.closed).all flat = true := by
      simp only [nodeC, List.all_cons, List.all_nil, f1, f2]
      rfl
    refine st_store sz_api_Node h 2 rfl rfl rfl hflat ?_
    intro w6 h
    try simp only [go_sem] at h
    have h : St [] w (rdL q4 q2 { zRec with kind := 1, node := n } nilV nilV mv tv) w6 := h.pick [2, 3, 4, 5, 0, 1] (by decide) rfl
    refine st_loadW ag_api_Record sz_api_Record h 0 rfl rfl ?_
    refine and_st h rest.isEmpty ?_ ?_
    · intro _ J hJ
      refine hp.len und_sl_string ?_
      rw [xeql, List.length_cons, List.length_cons, len2]
      exact hJ _ h
    intro w7 h
    have e2 : (readM (a :: b :: rest)).2 = ((Rd.node ⟨b, false⟩).2.fin && rest.isEmpty) := by rw [e]; rfl
    refine rd_ret h e2.symm fun hh => ?_
    rw [e2, Bool.and_eq_true] at hh
    rw [e, hn hh.1]
    rfl
  intro k1
  rw [xeql]
  refine xc_dec ?_ ?_
  · intro k2
    have k2 : k = 2 := by omega
    subst k2
    have e := readM_bare (b := b) (rest := rest) hk0 (by rw [hk]; rfl)
    rw [hk, tailM_not3 (by omega)] at e
    refine str_at (hp.mono h.ext) (i := 1) (by simp) rfl ?_
    intro b0 o0 hc0
    refine ld_of ag_string hc0 ?_
    refine st_callE en_joineryref4_ReadName (c_fReadName hsb) h ?_
    rintro v w5 ⟨t, rfl, hn, e5⟩ _
    have h := h.step e5
    rw [xe20, xe21, fld_api_Record_Node, fld_api_Node_Name]
    refine st_storeC sz_string h 0 rfl rfl rfl rfl ?_
    intro w6 h
    try simp only [go_sem] at h
    have h : St [] w (rdL q4 q2 { zRec with kind := 2, node := { zNode with name := t } } nilV nilV nilV nilV) w6 := h
    refine st_loadW ag_api_Record sz_api_Record h 0 rfl rfl ?_
    refine and_st h rest.isEmpty ?_ ?_
    · intro _ J hJ
      refine hp.len und_sl_string ?_
      rw [xeql, List.length_cons, List.length_cons, len2]
      exact hJ _ h
    intro w7 h
    have e2 : (readM (a :: b :: rest)).2 = ((Rd.name ⟨b, false⟩).2.fin && rest.isEmpty) := by rw [e]; rfl
    refine rd_ret h e2.symm fun hh => ?_
    rw [e2, Bool.and_eq_true] at hh
    rw [e, hn hh.1]
    rfl
  intro k2
  have hhead : headM k b = ({ zRec with kind := (k : Int), gang := (Rd.number ⟨b, false⟩).1 }, (Rd.number ⟨b, false⟩).2.fin) := by
    unfold headM
    rw [if_neg (by omega), if_neg (by omega)]
  refine str_at (hp.mono h.ext) (i := 1) (by simp) rfl ?_
  intro b0 o0 hc0
  refine ld_of ag_string hc0 ?_
  refine st_callE en_joineryref4_ReadNumber (c_fReadNumber hsb) h ?_
  rintro v w5 ⟨g, rfl, hn, e5⟩ _
  have h := h.step e5
  rw [xe20, xe21, fld_api_Record_Gang]
  refine st_storeC sz_int h 0 rfl rfl rfl rfl ?_
  intro w6 h
  try simp only [go_sem] at h
  have h : St [] w (rdL q4 q2 { zRec with kind := (k : Int), gang := (g : Int) } nilV nilV nilV nilV) w6 := h
  rw [fld_api_Record_Kind]
  refine st_load ag_int (v := .int .i64 (k : Int)) h 0 rfl rfl ?_
  rw [xneq]
  refine and_st h (decide ((k : Int) ≠ 7)) ?_ ?_
  · intro _ J hJ
    rw [fld_api_Record_Kind]
    refine st_load ag_int (v := .int .i64 (k : Int)) h 0 rfl rfl ?_
    rw [xneq]
    exact hJ _ h
  intro w7 h
  generalize hfn : (Rd.number ⟨b, false⟩).2.fin = fn at *
  refine xc_of ?_ ?_
  · intro hc
    rw [Bool.and_eq_true, decide_eq_true_eq, decide_eq_true_eq] at hc
    have hpe : peeredM (kindM a) = false := by
      rw [hk]
      unfold peeredM
      rw [decide_eq_false (by omega), decide_eq_false (by omega)]
      rfl
    have e := readM_bare (b := b) (rest := rest) hk0 hpe
    rw [hk, tailM_not3 (by omega), hhead] at e
    refine st_loadW ag_api_Record sz_api_Record h 0 rfl rfl ?_
    refine and_st h rest.isEmpty ?_ ?_
    · intro _ J hJ
      refine hp.len und_sl_string ?_
      rw [xeql, List.length_cons, List.length_cons, len2]
      exact hJ _ h
    intro w8 h
    have e2 : (readM (a :: b :: rest)).2 = (fn && rest.isEmpty) := by rw [e]
    refine rd_ret h e2.symm fun hh => ?_
    rw [e2, Bool.and_eq_true] at hh
    rw [e, hn hh.1]
  intro hc
  rw [Bool.and_eq_false_iff, decide_eq_false_iff_not, decide_eq_false_iff_not] at hc
  have hpe : peeredM (kindM a) = true := by
    rw [hk]
    unfold peeredM
    rw [Bool.or_eq_true, decide_eq_true_eq, decide_eq_true_eq]
    omega
  refine hp.len und_sl_string ?_
  rw [xlss]
  refine xc_dec ?_ ?_
  · intro h3
    obtain rfl : rest = [] := by
      cases rest with
      | nil => rfl
      | cons x t => simp at h3; omega
    have e := readM_nil (b := b) hk0 hpe
    refine st_loadW ag_api_Record sz_api_Record h 0 rfl rfl ?_
    refine rd_ret h (by rw [e]) (fun hh => by rw [e] at hh; cases hh)
  intro h3
  obtain ⟨c, rest, rfl⟩ : ∃ c t, rest = c :: t := by
    cases rest with
    | nil => simp at h3
    | cons x t => exact ⟨x, t, rfl⟩
  have e := readM_peer (b := b) (p := c) (rest := rest) hk0 hpe
  rw [hk, hhead] at e
  refine str_at (hp.mono h.ext) (i := 2) (by simp) rfl ?_
  intro b0 o0 hc0
  refine ld_of ag_string hc0 ?_
  refine st_callE en_joineryref4_ints (c_fInts (hs c (by simp))) h ?_
  rintro v w8 ⟨ps, pv, rfl, hps, hpl, kk⟩ mg
  have h := mg _ kk
  rw [xe20, xe21, fld_api_Record_Peers]
  have hpv := h.atR 0 rfl
  refine st_storeC sz_sl_int h 1 rfl (cells_own hpv) rfl (flat_own hpv) ?_
  intro w9 h
  try simp only [go_sem] at h
  generalize hfp : (Rd.peers ⟨c, false⟩).2.fin = fp at *
  have h : St [] w (rdL q4 q2 { zRec with kind := (k : Int), gang := (g : Int), peers := ps } pv nilV nilV nilV) w9 := h.pick [1, 2, 0, 4, 5, 6] (by decide) rfl
  refine ⟨fun u v w' => ∃ (i : Nat) (lv : Value) (pl : List PlaceM), i ≤ rest.length ∧ pl.length = i ∧ u = .bool (fp && finsM (rest.take i)) ∧ v = .int .i64 ((3 + i : Nat) : Int) ∧ (finsM (rest.take i) = true → pl = placesM (rest.take i)) ∧ St [] w (rdL q4 q2 { zRec with kind := (k : Int), gang := (g : Int), peers := ps, places := pl } pv lv nilV nilV) w', fun _ v _ => lenI (rest.length + 4) v, ⟨0, nilV, [], Nat.zero_le _, rfl, by simp [finsM], rfl, fun _ => rfl, h⟩, ?_⟩
  clear h
  rintro - u v w10 ⟨i, lv, pl, hi, hpli, rfl, rfl, hpl2, h⟩
  refine hp.len und_sl_string ?_
  rw [xlss]
  have hrl : rest.length ≤ 1000000 := by simp at hl; omega
  refine xc_dec ?_ ?_
  · intro hlt
    have hlt : i < rest.length := by simp at hlt; omega
    obtain ⟨x, hx⟩ : ∃ x, rest[i]? = some x := ⟨_, List.getElem?_eq_getElem hlt⟩
    have hxe : rest[i] = x := (List.getElem?_eq_some_iff.1 hx).2
    have hx3 : (a :: b :: c :: rest)[3 + i]? = some x := by
      rw [Nat.add_comm]
      exact hx
    refine str_at (hp.mono h.ext) (i := 3 + i) (by simp; omega) hx3 ?_
    intro b0 o0 hc0
    refine ld_of ag_string hc0 ?_
    refine st_callE en_joineryref4_place (c_fPlace (hs x (by simp [List.mem_of_getElem? hx]))) h ?_
    rintro v w11 ⟨n, rfl, hn2, e11⟩ _
    have h := h.step e11
    rw [xe20, xe21]
    refine st_alloc zv_api_Place h ?_
    intro q8 w12 _ h
    refine st_store sz_api_Place h 0 rfl rfl rfl rfl ?_
    intro w13 h
    try simp only [go_sem] at h
    have h : St [] w (.blk q8 (.cells (placeC n).toArray T_api_Place (0, 0)) :: rdL q4 q2 { zRec with kind := (k : Int), gang := (g : Int), peers := ps, places := pl } pv lv nilV nilV) w13 := h
    generalize hfx : (Rd.place ⟨x, false⟩).2.fin = fx at *
    refine and_st h fx ?_ ?_
    · intro _ J hJ
      exact hJ _ h
    intro w14 h
    rw [fld_api_Record_Places]
    refine st_load ag_sl_api_Place h 1 rfl rfl ?_
    refine st_loadW ag_api_Place sz_api_Place h 0 rfl rfl ?_
    refine st_buildS (cs := (placeC n).toArray) (e := T_api_Place) (fun w => by kernel_rfl) h ?_
    intro bx w15 hbx h
    refine app_sl_api_Place h 5 rfl (placeC n) rfl (news_blk (h.at 0 rfl)) (by simp [Value.oneCell']) (by simp; omega) ?_
    intro lv2 w16 h
    try simp only [go_sem] at h
    rw [fld_api_Record_Places]
    have hlv2 := h.atR 5 rfl
    refine st_storeC sz_sl_api_Place h 2 rfl (cells_own hlv2) rfl (flat_own hlv2) ?_
    intro w17 h
    try simp only [go_sem] at h
    rw [xadd, wi64 (by omega) (by omega)]
    have hft : finsM (rest.take (i + 1)) = (finsM (rest.take i) && fx) := by
      rw [List.take_succ_eq_append_getElem hlt, finsM, List.all_append, hxe]
      simp [finsM, hfx]
    refine ⟨⟨i + 1, lv2, pl ++ [n], hlt, by simp; omega, ?_, by congr 1, fun hh => ?_, ?_⟩, ?_⟩
    · rw [hft, Bool.and_assoc]
    · rw [hft, Bool.and_eq_true] at hh
      rw [hpl2 hh.1, hn2 hh.2, List.take_succ_eq_append_getElem hlt, placesM, placesM, List.map_append, hxe]
      rfl
    · have h := h.pick [2, 3, 4, 5, 6, 7] (by decide) rfl
      have ep : placesL (pl ++ [n]) = placesL pl ++ placeC n := by simp [placesL]
      unfold rdL recR
      rw [ep, List.length_append]
      exact h
    · show lenI _ _ < lenI _ _
      have e1 : ((3 + i : Nat) : Int) + 1 = ((3 + i + 1 : Nat) : Int) := by omega
      rw [e1]
      exact lenI_succ (by omega)
  · intro hge
    have hi : i = rest.length := by simp at hge; omega
    subst hi
    rw [List.take_length] at hpl2 ⊢
    refine st_loadW ag_api_Record sz_api_Record h 0 rfl rfl ?_
    refine and_st h (fp && finsM rest) ?_ ?_
    · intro _ J hJ
      exact hJ _ h
    intro w11 h
    have hk37 : k = 3 ∨ k = 7 := by omega
    have e2 : (readM (a :: b :: c :: rest)).2 = (fn && (fp && finsM rest) && (decide (k = 3) || rest.isEmpty)) := by
      rw [e]
      unfold tailM
      rcases hk37 with rfl | rfl
      · simp only [if_neg (show ¬ (3 ≠ 3) by omega)]
        cases fn <;> cases fp <;> cases finsM rest <;> rfl
      · simp only [if_pos (show 7 ≠ 3 by omega)]
        cases rest with
        | nil => cases fn <;> cases fp <;> rfl
        | cons x t => cases fn <;> cases fp <;> cases finsM (x :: t) <;> rfl
    have hrec : (readM (a :: b :: c :: rest)).2 = true → ({ zRec with kind := (k : Int), gang := (g : Int), peers := ps, places := pl } : RecM) = (readM (a :: b :: c :: rest)).1 := fun hh => by
      rw [e2, Bool.and_eq_true, Bool.and_eq_true, Bool.and_eq_true] at hh
      obtain ⟨⟨h1, h2, h3⟩, h4⟩ := hh
      rw [e, hn h1, hps h2, hpl2 h3]
      unfold tailM
      rcases hk37 with rfl | rfl
      · simp only [if_neg (show ¬ (3 ≠ 3) by omega)]
      · simp only [if_pos (show 7 ≠ 3 by omega)]
        have h4 : rest = [] := by simpa using h4
        subst h4
        rfl
    cases hQ : fn && (fp && finsM rest)
    · rw [hQ, Bool.false_and] at e2
      refine ⟨fun u w' => u = undef ∧ St [] w (rdL q4 q2 { zRec with kind := (k : Int), gang := (g : Int), peers := ps, places := pl } pv lv nilV nilV) w', ?_, by rw [xg_ft]; exact ⟨rfl, h⟩⟩
      rintro - u w12 ⟨rfl, h⟩
      refine ⟨fun u w' => St [] w (rdL q4 q2 { zRec with kind := (k : Int), gang := (g : Int), peers := ps, places := pl } pv lv nilV nilV) w', ?_, ⟨nofun, fun _ => h⟩⟩
      rintro - u w13 h
      refine ⟨fun u w' => St [] w (rdL q4 q2 { zRec with kind := (k : Int), gang := (g : Int), peers := ps, places := pl } pv lv nilV nilV) w', ?_, by rw [xg_ft]; exact h⟩
      rintro - u w14 h
      rw [xpick_false]
      exact rd_ret h e2.symm hrec
    · rw [hQ, Bool.true_and] at e2
      refine ⟨fun u w' => u = .bool (decide (k = 3)) ∧ St [] w (rdL q4 q2 { zRec with kind := (k : Int), gang := (g : Int), peers := ps, places := pl } pv lv nilV nilV) w', ?_, ?_⟩
      · rintro - u w12 ⟨rfl, h⟩
        refine ⟨fun u w' => (k ≠ 3 → u = .bool rest.isEmpty) ∧ St [] w (rdL q4 q2 { zRec with kind := (k : Int), gang := (g : Int), peers := ps, places := pl } pv lv nilV nilV) w', ?_, ?_⟩
        · rintro - u w13 ⟨hu, h⟩
          refine ⟨fun u w' => u = .bool (decide (k = 3) || rest.isEmpty) ∧ St [] w (rdL q4 q2 { zRec with kind := (k : Int), gang := (g : Int), peers := ps, places := pl } pv lv nilV nilV) w', ?_, ?_⟩
          · rintro - u w14 ⟨rfl, h⟩
            rw [xpick_true]
            exact rd_ret h e2.symm hrec
          · rw [xg_same]
            rcases hk37 with rfl | rfl
            · rw [show decide (3 = 3) = true from rfl, xpick_true]
              exact ⟨rfl, h⟩
            · rw [show decide (7 = 3) = false from rfl, xpick_false, hu (by omega)]
              exact ⟨rfl, h⟩
        · rcases hk37 with rfl | rfl
          · rw [show decide (3 = 3) = true from rfl, xg_tf]
            exact ⟨fun hh => absurd rfl hh, h⟩
          · rw [show decide (7 = 3) = false from rfl, xg_same]
            refine hp.len und_sl_string ?_
            rw [xeql]
            refine ⟨fun _ => ?_, h⟩
            have : decide (((a :: b :: c :: rest).length : Int) = 3) = rest.isEmpty := by
              cases rest with
              | nil => rfl
              | cons x t =>
                rw [decide_eq_false (by simp; omega)]
                rfl
            rw [this]
      · rw [xg_same, fld_api_Record_Kind]
        refine st_load ag_int (v := .int .i64 (k : Int)) h 0 rfl rfl ?_
        rw [xeql]
        have : decide ((k : Int) = 3) = decide (k = 3) := decide_eq_decide.2 (by omega)
        rw [this]
        exact ⟨rfl, h⟩
end Go.Proofs.YthkgbajldkicfaaGreatDoor
