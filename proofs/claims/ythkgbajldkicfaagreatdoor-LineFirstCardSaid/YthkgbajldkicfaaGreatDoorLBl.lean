/-
  The law LineBlanks, walked.
-/
import Derived.Test.YthkgbajldkicfaaGreatDoorMkOk
namespace Go.Proofs.YthkgbajldkicfaaGreatDoor
set_option linter.unusedVariables false
set_option linter.unusedSimpArgs false
open Go Go.Jo
set_option maxRecDepth 100000

theorem parse_check {s : Str} (h : (parseM s).2 = 0) : checkM (parseM s).1 = 0 := by
  unfold parseM at h ⊢
  simp only at h ⊢
  split at h
  · simp at h
  · rename_i h1
    rw [if_neg h1]
    split at h
    · rename_i h2
      exact absurd h h2
    · rename_i h2
      rw [if_neg h2]
      simpa using h2
def signs6 : List Str := [[32], [9], [10], [45], [0], [206, 177]]
theorem signs6_len : ∀ k, k < 6 → 1 ≤ (signs6.getD k []).length ∧ (signs6.getD k []).length ≤ 2 := by decide
set_option maxHeartbeats 4000000 in
theorem c_LineBlanks {w : World} (he : EnvP w) {p : Value} {ns : List Int} (kind gang : Int) (hp : Row w 1 p ns.length (intsL ns)) (hns : ∀ x ∈ ns, i64 x) (name at_ sign : Int) : RetV Tryz.prog F_joinerylaw4_LineBlanks #[.int .i64 kind, .int .i64 gang, p, .int .i64 name, .int .i64 at_, .int .i64 sign] w (.bool true) := by
  refine call_joinerylaw4_LineBlanks ?_
  have h := St.start w
  unfold S_joinerylaw4_LineBlanks
  refine st_callV en_joinerylaw4_known (c_known he) h ?_
  intro w1 h
  simp only [go_sem, Bool.not_true]
  refine st_callE en_joinerylaw4_Make (c_make kind gang name (hp.mono h.ext) hns) h ?_
  rintro rv w2 ⟨pv, lv, mv, tv, rfl, k2⟩ mg
  have h := mg _ k2
  have hf := st_flats (r := makeM kind gang ns name) h fun q hq => List.mem_append_left _ hq
  have hr := make_rec kind gang ns name
  have htl := text_len hr
  generalize hR : makeM kind gang ns name = r at *
  refine st_alloc zv_api_Record h ?_
  intro b13 w3 hb13 h
  try simp only [go_sem] at h
  refine st_store sz_api_Record h 0 rfl rfl rfl (hf.all _) ?_
  intro w4 h
  try simp only [go_sem] at h
  have h : St [] w (.blk b13 (recO r pv lv mv tv) :: recR r pv lv mv tv) w4 := h
  have hat : ∀ {w' : World} {L : List Res}, St [] w L w' → (∀ n, n < 4 → L[L.length - 4 + n]? = (recR r pv lv mv tv)[n]?) → RecAt w' r (recV r pv lv mv tv) := fun h hn =>
    ⟨pv, lv, mv, tv, rfl, Row.of_own (h.atR _ (hn 0 (by omega))), Row.of_own (h.atR _ (hn 1 (by omega))), Row.of_own (h.atR _ (hn 2 (by omega))), Row.of_own (h.atR _ (hn 3 (by omega)))⟩
  refine st_loadW ag_api_Record sz_api_Record h 0 rfl rfl ?_
  refine st_callV en_line_Text (c_text (he.mono h.ext) (recR_at (L := []) h.drop) (tiny_ok hr)) h ?_
  intro w5 h
  try simp only [go_sem]
  rw [wi64 (by omega) (by omega)]
  obtain ⟨k, hk, ek⟩ := within_nat at_ ((textM r).length + 1) (by omega)
  have ek : withinM at_ ((textM r).length + 1 : Int) = (k : Int) := by rw [← ek]; rfl
  refine st_callV en_joinerylaw4_within (c_within4 (a := at_) (n := ((textM r).length : Int) + 1) _ (by omega) (by omega)) h ?_
  intro w6 h
  rw [ek]
  obtain ⟨j, hj, ej⟩ := within_nat sign 6 (by omega)
  have ej : withinM sign 6 = (j : Int) := ej
  obtain ⟨s1, s2⟩ := signs6_len j hj
  have hx : signs6[j]? = some (signs6.getD j []) := by rw [List.getD_eq_getElem?_getD, List.getElem?_eq_getElem (show j < signs6.length from hj)]; rfl
  have h := h.step (Ext.drew _)
  refine ⟨Ext, Ext, preExt, S ((textM r).take k), fun w3 => ?_, .int .i64 (j : Int), fun w3 e3 => ?_, S ((textM r).drop k), fun w3 => ?_, fun w7 e7 => ?_⟩
  · rw [xslice_to und_string (by omega) (by omega), Int.toNat_natCast]; exact ⟨rfl, rfl⟩
  · rw [← ej]; exact xcall_of (en_joinerylaw4_within _) (c_within4 _ (by omega) (by omega)) fun _ _ hq => hq
  · rw [xslice_from und_string (by omega) (by omega), Int.toNat_natCast]; exact ⟨rfl, rfl⟩
  have h := h.step e7
  refine st_buildSE (cs := (strsL signs6).toArray) (e := T_string) (fun w => by kernel_rfl) h ?_
  intro bs w8 hbs e8 h
  have h := h.asRow 0 (k := 6) (sz := 1) rfl (by decide) (by kernel_rfl)
  have hrow : Row w8 1 (.slice (some ⟨bs, 0, none⟩) 6 6) signs6.length (strsL signs6) := Row.of_own (h.atR 0 rfl)
  obtain ⟨b1, o1, i1, c1⟩ := hrow.at (k := .i64) und_sl_string sz_string (i := j) hj
  refine ⟨e8, .pointer (some ⟨b1, o1, none⟩), fun w3 => i1 _ _ ⟨rfl, rfl⟩, fun w9 e9 => ?_⟩
  have h := h.step e9
  have hc := c1 _ e9 0 (by omega)
  simp only [Nat.add_zero, Nat.mul_one] at hc
  refine ld_of ag_string (v := S (signs6.getD j [])) (by rw [hc, List.getElem?_map, hx]; rfl) ?_
  have htk : ((textM r).take k).length = k := by rw [List.length_take]; omega
  have hdk : ((textM r).drop k).length = (textM r).length - k := by rw [List.length_drop]
  refine ⟨S ((textM r).take k ++ signs6.getD j []), fun w3 => ?_, S ((textM r).take k ++ signs6.getD j [] ++ (textM r).drop k), fun w3 => ?_, ?_⟩
  · rw [xcat _ _ _ _ _ _ _ (by omega)]; exact ⟨rfl, rfl⟩
  · rw [xcat _ _ _ _ _ _ _ (by rw [List.length_append]; omega)]; exact ⟨rfl, rfl⟩
  have htl2 : ((textM r).take k ++ signs6.getD j [] ++ (textM r).drop k).length = (textM r).length + (signs6.getD j []).length := by
    rw [List.length_append, List.length_append]; omega
  generalize (textM r).take k ++ signs6.getD j [] ++ (textM r).drop k = t at *
  refine st_callE en_line_Parse (c_parseO t (he.mono h.ext) (by omega)) h ?_
  rintro xv w10 ⟨px, lx, mx, tx, rfl, k10⟩ mg2
  have h := mg2 _ k10
  have hfx := st_flats (r := (parseM t).1) h fun q hq => List.mem_append_left _ hq
  try simp only [go_sem]
  refine st_alloc zv_api_Record h ?_
  intro b17 w11 hb17 h
  try simp only [go_sem] at h
  refine st_store sz_api_Record h 0 rfl rfl rfl (hfx.all _) ?_
  intro w12 h
  try simp only [go_sem] at h
  have h : St [] w (.blk b17 (recO (parseM t).1 px lx mx tx) :: (recR (parseM t).1 px lx mx tx ++ (.blk b13 (recO r pv lv mv tv) :: recR r pv lv mv tv))) w12 := h.pick [0, 1, 2, 3, 4, 6, 7, 8, 9, 10] (by decide) rfl
  generalize hLL : (.blk b17 (recO (parseM t).1 px lx mx tx) :: (recR (parseM t).1 px lx mx tx ++ (.blk b13 (recO r pv lv mv tv) :: recR r pv lv mv tv)) : List Res) = LL at h
  by_cases hE : (parseM t).2 = 0
  · rw [hE]
    try rw [xneq]
    rw [show decide ((0 : Int) ≠ 0) = false from rfl]
    have hx2 := rec_ok (parse_check hE)
    have hback := parse_back hE
    have hne : ¬ (parseM t).1 = r := fun e => by
      rw [e] at hback
      rw [← hback] at htl2
      omega
    refine ⟨fun u w' => u = undef ∧ St [] w LL w', ?_, by rw [xg_ft]; exact ⟨rfl, h⟩⟩
    rintro - u w13 ⟨rfl, h⟩
    rw [xpick_false]
    refine ⟨fun u w' => u = .bool true ∧ St [] w LL w', ?_, ?_⟩
    · rintro - u w14 ⟨rfl, h⟩
      refine ⟨fun u w' => u = .bool true ∧ St [] w LL w', ?_, ?_⟩
      · rintro - u w15 ⟨rfl, h⟩
        refine ⟨fun u w' => u = .bool true ∧ St [] w LL w', ?_, ?_⟩
        · rintro - u w16 ⟨rfl, h⟩
          refine ⟨fun u w' => u = .bool true ∧ St [] w LL w', ?_, ?_⟩
          · rintro - u w17 ⟨rfl, h⟩
            refine ⟨fun u w' => u = .bool true ∧ St [] w LL w', ?_, ?_⟩
            · rintro - u w18 ⟨rfl, h⟩
              rw [xpick_false]
              exact ⟨rfl, h.ext⟩
            · rw [xg_same, xpick_true]; exact ⟨rfl, h⟩
          · rw [xg_same]
            subst hLL
            refine st_loadW ag_api_Record sz_api_Record h 0 rfl rfl ?_
            refine st_callV en_line_Text (c_text (he.mono h.ext) (recR_at h.drop) (tiny_ok hx2)) h ?_
            intro w17 h
            rw [hback, xseql, decide_eq_true rfl]
            exact ⟨rfl, h⟩
        · rw [xg_same, xpick_true]; exact ⟨rfl, h⟩
      · rw [xg_same]
        subst hLL
        refine st_loadW ag_api_Record sz_api_Record h 0 rfl rfl ?_
        refine st_loadW ag_api_Record sz_api_Record h 5 rfl rfl ?_
        have h2 : RecAt w14 r (recV r pv lv mv tv) := ⟨pv, lv, mv, tv, rfl, Row.of_own (h.atR 6 rfl), Row.of_own (h.atR 7 rfl), Row.of_own (h.atR 8 rfl), Row.of_own (h.atR 9 rfl)⟩
        refine st_callV en_joineryref4_Same (c_rSame (recR_at h.drop) h2 (small_ok hx2)) h ?_
        intro w15 h
        rw [decide_eq_false hne, xnot]
        exact ⟨rfl, h⟩
    · rw [xg_same]
      try rw [xeql]
      exact ⟨rfl, h⟩
  · have hz := parse_zero hE
    try rw [xneq]
    rw [decide_eq_true hE]
    refine ⟨fun u w' => u = .bool true ∧ St [] w LL w', ?_, ?_⟩
    · rintro - u w13 ⟨rfl, h⟩
      rw [xpick_true]
      refine ⟨fun u w' => u = undef ∧ St [] w LL w', ?_, by rw [xg_tf]; exact ⟨rfl, h⟩⟩
      rintro - u w14 ⟨rfl, h⟩
      refine ⟨fun u w' => u = undef ∧ St [] w LL w', ?_, by rw [xg_undef]; exact ⟨rfl, h⟩⟩
      rintro - u w15 ⟨rfl, h⟩
      refine ⟨fun u w' => u = undef ∧ St [] w LL w', ?_, by rw [xg_tf]; exact ⟨rfl, h⟩⟩
      rintro - u w16 ⟨rfl, h⟩
      refine ⟨fun u w' => u = undef ∧ St [] w LL w', ?_, by rw [xg_undef]; exact ⟨rfl, h⟩⟩
      rintro - u w17 ⟨rfl, h⟩
      refine ⟨fun u w' => u = undef ∧ St [] w LL w', ?_, by rw [xg_tf]; exact ⟨rfl, h⟩⟩
      rintro - u w18 ⟨rfl, h⟩
      rw [xpick_true]
      exact ⟨rfl, h.ext⟩
    · rw [xg_same]
      subst hLL
      try simp only [go_sem]
      refine st_load ag_int h 0 rfl rfl ?_
      try rw [xeql]
      rw [show (parseM t).1.kind = 0 from by rw [hz]; rfl]
      exact ⟨rfl, h⟩
end Go.Proofs.YthkgbajldkicfaaGreatDoor
