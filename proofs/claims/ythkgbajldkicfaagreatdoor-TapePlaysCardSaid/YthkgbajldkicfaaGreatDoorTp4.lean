/-
  Tapes: all their records.
-/
import Derived.Test.YthkgbajldkicfaaGreatDoorTp3
namespace Go.Proofs.YthkgbajldkicfaaGreatDoor
set_option linter.unusedVariables false
set_option linter.unusedSimpArgs false
open Go Go.Jo
set_option maxRecDepth 100000

theorem St.permL {x : List Nat} {w0 w : World} {L L' : List Res} (h : St x w0 L w) (hp : L.Perm L') : St x w0 L' w :=
  ⟨h.chg, fun p hq => h.low p (hp.mem_iff.2 hq), hp.pairwise h.nd fun hh => Res.apart_symm hh, fun p hq => h.has p (hp.mem_iff.2 hq)⟩
theorem c_record {w : World} {r : RecM} (he : EnvP w) (hc : checkM r = 0) : Ret Tryz.prog F_tape_record #[S (textM r)] w fun v w' => ∃ pv lv mv tv, v = .iface T_api_Record (recV r pv lv mv tv) ∧ St [] w (recR r pv lv mv tv) w' := by
  refine call_tape_record ?_
  have h := St.start w
  unfold S_tape_record
  have hp := parse_text hc
  have htl := text_len (rec_ok hc)
  refine st_callE en_line_Parse (c_parseO (textM r) he (by omega)) h ?_
  rintro rv w1 ⟨pv, lv, mv, tv, rfl, k⟩ mg
  have h := mg _ k
  rw [hp] at h ⊢
  simp only at h ⊢
  have hf := st_flats (r := r) h fun q hq => List.mem_append_left _ hq
  rw [xe20, xe21]
  refine st_alloc zv_api_Record h ?_
  intro b w2 hb h
  refine st_store sz_api_Record h 0 rfl rfl rfl (hf.all _) ?_
  intro w3 h
  try simp only [go_sem] at h
  rw [xneq, show decide ((0 : Int) ≠ 0) = false from rfl, xc_false]
  refine st_loadW ag_api_Record sz_api_Record h 0 rfl rfl ?_
  refine xmki_of (r := .iface T_api_Record (recV r pv lv mv tv)) (by kernel_rfl) ?_
  exact ⟨pv, lv, mv, tv, rfl, h.pick [1, 2, 3, 4] (by decide) rfl⟩
abbrev Q4 := Value × Value × Value × Value
abbrev recC4 (x : RecM × Q4) : List Value := recC x.1 x.2.1 x.2.2.1 x.2.2.2.1 x.2.2.2.2
abbrev recV4 (x : RecM × Q4) : Value := recV x.1 x.2.1 x.2.2.1 x.2.2.2.1 x.2.2.2.2
abbrev recR4 (x : RecM × Q4) : List Res := recR x.1 x.2.1 x.2.2.1 x.2.2.2.1 x.2.2.2.2
def recsL (l : List (RecM × Q4)) : List Value := l.flatMap recC4
def resL (l : List (RecM × Q4)) : List Res := l.flatMap recR4
theorem recsL_at : ∀ {l : List (RecM × Q4)} {i : Nat} {x : RecM × Q4}, l[i]? = some x → ∀ j, j < 10 → (recsL l)[i * 10 + j]? = (recC4 x)[j]?
  | [], i, p, h, _, _ => by simp at h
  | q :: l, 0, p, h, j, hj => by
    have : q = p := by simpa using h
    subst this
    show (recC4 q ++ recsL l)[0 * 10 + j]? = _
    rw [Nat.zero_mul, Nat.zero_add, List.getElem?_append_left (by simpa using hj)]
  | q :: l, i + 1, p, h, j, hj => by
    have ih := recsL_at (l := l) (i := i) (x := p) (by simpa using h) j hj
    show (recC4 q ++ recsL l)[(i + 1) * 10 + j]? = _
    have e : (i + 1) * 10 + j = (i * 10 + j) + 10 := by omega
    rw [e, List.getElem?_append_right (by simp), ← ih]
    simp
theorem rec4_at {x : List Nat} {w0 w : World} {L : List Res} {y : RecM × Q4} (h : St x w0 L w) (hs : ∀ q ∈ recR4 y, q ∈ L) : RecAt w y.1 (recV4 y) :=
  ⟨_, _, _, _, rfl, Row.of_own (h.has _ (hs (.row T_int 1 y.2.1 y.1.peers.length (intsL y.1.peers)) (by simp))), Row.of_own (h.has _ (hs (.row T_api_Place 5 y.2.2.1 y.1.places.length (placesL y.1.places)) (by simp))), Row.of_own (h.has _ (hs (.row T_string 1 y.2.2.2.1 y.1.node.marks.length (strsL y.1.node.marks)) (by simp))), Row.of_own (h.has _ (hs (.row T_string 1 y.2.2.2.2 y.1.node.taints.length (strsL y.1.node.taints)) (by simp)))⟩
theorem resL_mem {l : List (RecM × Q4)} {y : RecM × Q4} (hy : y ∈ l) : ∀ q ∈ recR4 y, q ∈ resL l := fun q hq => List.mem_flatMap.2 ⟨y, hy, hq⟩
theorem c_clip {w : World} {v : Value} {n : Nat} {xs : List Value} (hv : Row w 10 v n xs) : Ret Tryz.prog F_slices_Clip_api_Record_api_Record #[v] w fun v' w' => Ext w w' ∧ Row w 10 v' n xs := by
  refine call_slices_Clip_api_Record_api_Record ?_
  unfold S_slices_Clip_api_Record_api_Record
  refine hv.len und_sl_api_Record ?_
  refine hv.len und_sl_api_Record ?_
  obtain ⟨hl, a, cap, rfl, hc, h⟩ := hv
  refine xslice_clip und_sl_api_Record sz_api_Record hc ?_
  exact ⟨Ext.refl _, hl, a, n, rfl, Nat.le_refl _, h⟩
set_option maxHeartbeats 2000000 in
theorem c_all {w : World} {b n : Nat} {v : Value} {rs : List RecM} (he : EnvP w) (hb : w.heap[b]? = some (tapeO v rs.length n)) (hv : Row w 1 v (textC (rs.map textM)).length (runesV (textC (rs.map textM)))) (hls : ∀ r ∈ rs, checkM r = 0 ∧ LineOk (textM r)) (hlen : (textC (rs.map textM)).length ≤ 1000000000) (hl : rs.length ≤ 100000) :
    Ret Tryz.prog F_tape_Tape_All #[pt b] w fun u w' => ∃ l : List (RecM × Q4), l.map (·.1) = rs ∧ Row w' 10 u rs.length (recsL l) ∧ St [] w (resL l) w' := by
  refine call_tape_Tape_All ?_
  have h := St.start w
  unfold S_tape_Tape_All
  rw [xnil_ptr, fld_tape_Tape_lines]
  refine ldB (i := 0 + 1) ag_int hb h.ext rfl ?_
  obtain ⟨inf, i1, i2, i3, i4⟩ := inf_sl_api_Record
  refine st_makeS und_sl_api_Record i1 i2 i3 i4 (by omega) (by simp only [maxLen]; omega) h ?_
  intro out w1 h
  have hb1 : w1.heap[b]? = some (tapeO v (rs.map textM).length n) := by rw [List.length_map]; exact heap_ext h.ext hb
  refine st_callR en_tape_Tape_Lines (c_lines hb1 (hv.mono h.ext) (fun s hs => by
    obtain ⟨r, hr, rfl⟩ := List.mem_map.1 hs
    exact (hls r hr).2) hlen (by rw [List.length_map]; omega)) h ?_
  intro lv w2 h
  have hlm : (rs.map textM).length = rs.length := List.length_map _
  refine (Row.of_own (h.atR 0 rfl)).len und_sl_string ?_
  rw [hlm]
  have h : St [] w (.row T_string 1 lv (rs.map textM).length (strsL (rs.map textM)) :: .row T_api_Record 10 out ([] : List (RecM × Q4)).length (recsL []) :: resL []) w2 := h
  refine ⟨fun u v w' => ∃ l : List (RecM × Q4), l.length ≤ rs.length ∧ l.map (·.1) = rs.take l.length ∧ v = .int .i64 (l.length : Nat) ∧ St [] w (.row T_string 1 lv (rs.map textM).length (strsL (rs.map textM)) :: .row T_api_Record 10 u l.length (recsL l) :: resL l) w', fun _ v _ => lenI rs.length v, ⟨[], Nat.zero_le _, rfl, rfl, h⟩, ?_⟩
  rintro - u v2 w3 ⟨l, hll, hlr, rfl, h⟩
  rw [xlss]
  refine xc_dec ?_ ?_
  · intro hlt
    have hlt : l.length < rs.length := by omega
    obtain ⟨r, hr⟩ : ∃ r, rs[l.length]? = some r := ⟨_, List.getElem?_eq_getElem hlt⟩
    have hge := (List.getElem?_eq_some_iff.1 hr).2
    have hok := hls r (List.mem_of_getElem? hr)
    have hx : (rs.map textM)[l.length]? = some (textM r) := by rw [List.getElem?_map, hr]; rfl
    refine str_at (Row.of_own (h.atR 0 rfl)) (by omega) hx ?_
    intro b0 o0 hc0
    refine ld_of ag_string hc0 ?_
    refine st_callE en_tape_record (c_record (he.mono h.ext) hok.1) h ?_
    rintro rv w4 ⟨pv, lv2, mv, tv, rfl, k⟩ mg
    have h := mg _ k
    have hf := st_flats (r := r) h fun q hq => List.mem_append_left _ hq
    refine xta_of (r := .tuple #[recV r pv lv2 mv tv, .bool true]) (by kernel_rfl) ?_
    rw [xe20, xe21]
    refine st_alloc zv_api_Record h ?_
    intro b6 w5 hb6 h
    refine st_store sz_api_Record h 0 rfl rfl rfl (hf.all _) ?_
    intro w6 h
    try simp only [go_sem] at h
    rw [xc_true]
    refine st_loadW ag_api_Record sz_api_Record h 0 rfl rfl ?_
    refine st_buildS (cs := (recC r pv lv2 mv tv).toArray) (e := T_api_Record) (fun w => by kernel_rfl) h ?_
    intro bx w7 hbx h
    have hone : ∀ u ∈ recC r pv lv2 mv tv, u.oneCell' = true := by
      intro u hu
      have hf2 := hf.all r
      have := List.all_eq_true.1 hf2 u hu
      cases u <;> first | rfl | exact absurd this (by simp [flat])
    refine app_sl_api_Record h 7 rfl (recC r pv lv2 mv tv) rfl (news_blk (h.at 0 rfl)) hone (by omega) ?_
    intro out2 w8 h
    rw [xadd, wi64 (by omega) (by omega)]
    have h := h.drop.drop
    have h : St [] w (recR r pv lv2 mv tv ++ (.row T_string 1 lv (rs.map textM).length (strsL (rs.map textM)) :: .row T_api_Record 10 out2 (l.length + 1) (recsL l ++ recC r pv lv2 mv tv) :: resL l)) w8 := h
    refine ⟨⟨l ++ [(r, pv, lv2, mv, tv)], by simp; omega, ?_, by simp, ?_⟩, lenI_succ hlt⟩
    · rw [List.map_append, hlr, List.length_append]
      show _ = rs.take (l.length + 1)
      rw [List.take_succ_eq_append_getElem hlt, hge]
      rfl
    · have h := St.permL h (L' := .row T_string 1 lv (rs.map textM).length (strsL (rs.map textM)) :: .row T_api_Record 10 out2 (l.length + 1) (recsL l ++ recC r pv lv2 mv tv) :: (resL l ++ recR r pv lv2 mv tv)) (by
        exact List.perm_append_comm)
      have e1 : recsL (l ++ [(r, pv, lv2, mv, tv)]) = recsL l ++ recC r pv lv2 mv tv := by simp [recsL]
      have e2 : resL (l ++ [(r, pv, lv2, mv, tv)]) = resL l ++ recR r pv lv2 mv tv := by simp [resL]
      rw [e1, e2, List.length_append]
      exact h
  · intro hge
    have hi : l.length = rs.length := by omega
    have hro := Row.of_own (h.atR 1 rfl)
    refine st_callE en_slices_Clip_api_Record_api_Record (Q := fun v' w' => Ext w3 w' ∧ Row w3 10 v' l.length (recsL l)) (c_clip hro) h ?_
    rintro v' w4 ⟨e, hrow⟩ mg
    refine ⟨l, ?_, ?_, ?_⟩
    · rw [hlr, hi, List.take_length]
    · rw [← hi]; exact hrow.mono e
    · exact (h.step e).drop.drop
end Go.Proofs.YthkgbajldkicfaaGreatDoor
