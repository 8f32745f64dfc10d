/-
  The law TapeOwn, walked.
-/
import Derived.Test.YthkgbajldkicfaaGreatDoorTKe
namespace Go.Proofs.YthkgbajldkicfaaGreatDoor
set_option linter.unusedVariables false
set_option linter.unusedSimpArgs false
open Go Go.Jo
set_option maxRecDepth 100000

theorem c_clipO {w : World} {v : Value} {n : Nat} {xs : List Value} (hv : Row w 10 v n xs) : Ret Tryz.prog F_slices_Clip_api_Record_api_Record #[v] w fun v' w' => Ext w w' ∧ ∃ a cap, v = .slice a n cap ∧ v' = .slice a n n := by
  refine call_slices_Clip_api_Record_api_Record ?_
  unfold S_slices_Clip_api_Record_api_Record
  refine hv.len und_sl_api_Record ?_
  refine hv.len und_sl_api_Record ?_
  obtain ⟨hl, a, cap, rfl, hc, h⟩ := hv
  refine xslice_clip und_sl_api_Record sz_api_Record hc ?_
  exact ⟨Ext.refl _, a, cap, rfl, rfl⟩
theorem Row.clip {w : World} {a : Option Addr} {sz n cap : Nat} {xs : List Value} (h : Row w sz (.slice a n cap) n xs) : Row w sz (.slice a n n) n xs := by
  obtain ⟨hl, a', cap', e, hc, h⟩ := h
  injection e with e1 e2 e3
  subst e1
  exact ⟨hl, a, n, rfl, Nat.le_refl _, h⟩
theorem own_at {w : World} {B : Nat} {e : TypeId} {sz : Nat} {v : Value} {m : Nat} {xs : List Value} (h : w.ownsRow B e sz v m xs) (hm : 0 < m) : ∃ g cap, v = .slice (some ⟨g, 0, none⟩) m cap := by
  rcases h.2 with ⟨_, h0⟩ | ⟨g, cap, cur, rfl, _⟩
  · omega
  · exact ⟨g, cap, rfl⟩
theorem xgS {b : Bool} {p q : Prop} (h : p) : XG (.bool b) b p q := by rw [xg_same]; exact h
set_option maxHeartbeats 2000000 in
theorem c_allO {w : World} {b n : Nat} {v : Value} {rs : List RecM} (he : EnvP w) (hb : w.heap[b]? = some (tapeO v rs.length n)) (hv : Row w 1 v (textC (rs.map textM)).length (runesV (textC (rs.map textM)))) (hls : ∀ r ∈ rs, checkM r = 0 ∧ LineOk (textM r)) (hlen : (textC (rs.map textM)).length ≤ 1000000000) (hl : rs.length ≤ 100000) :
    Ret Tryz.prog F_tape_Tape_All #[pt b] w fun u w' => ∃ (l : List (RecM × Q4)) (a : Option Addr) (cap : Nat), l.map (·.1) = rs ∧ u = .slice a rs.length rs.length ∧ St [] w (.row T_api_Record 10 (.slice a rs.length cap) rs.length (recsL l) :: resL l) w' := by
  refine call_tape_Tape_All ?_
  have h := St.start w
  unfold S_tape_Tape_All
  rw [xnil_ptr, fld_tape_Tape_lines]
  refine ldB (i := 0 + 1) ag_int hb h.ext rfl ?_
  obtain ⟨inf, i1, i2, i3, i4⟩ := inf_sl_api_Record
  refine st_makeS und_sl_api_Record i1 i2 i3 i4 (by omega) (by simp only [maxLen]; omega) h ?_
  intro out w1 h
  have hb1 : w1.heap[b]? = some (tapeO v (rs.map textM).length n) := by rw [List.length_map]; exact heap_ext h.ext hb
  refine st_callR en_tape_Tape_Lines (c_lines hb1 (hv.mono h.ext) (fun s hs => by
    obtain ⟨r, hr, rfl⟩ := List.mem_map.1 hs
    exact (hls r hr).2) hlen (by rw [List.length_map]; omega)) h ?_
  intro lv w2 h
  have hlm : (rs.map textM).length = rs.length := List.length_map _
  refine (Row.of_own (h.atR 0 rfl)).len und_sl_string ?_
  rw [hlm]
  have h : St [] w (.row T_string 1 lv (rs.map textM).length (strsL (rs.map textM)) :: .row T_api_Record 10 out ([] : List (RecM × Q4)).length (recsL []) :: resL []) w2 := h
  refine ⟨fun u v w' => ∃ l : List (RecM × Q4), l.length ≤ rs.length ∧ l.map (·.1) = rs.take l.length ∧ v = .int .i64 (l.length : Nat) ∧ St [] w (.row T_string 1 lv (rs.map textM).length (strsL (rs.map textM)) :: .row T_api_Record 10 u l.length (recsL l) :: resL l) w', fun _ v _ => lenI rs.length v, ⟨[], Nat.zero_le _, rfl, rfl, h⟩, ?_⟩
  rintro - u v2 w3 ⟨l, hll, hlr, rfl, h⟩
  rw [xlss]
  refine xc_dec ?_ ?_
  · intro hlt
    have hlt : l.length < rs.length := by omega
    obtain ⟨r, hr⟩ : ∃ r, rs[l.length]? = some r := ⟨_, List.getElem?_eq_getElem hlt⟩
    have hge := (List.getElem?_eq_some_iff.1 hr).2
    have hok := hls r (List.mem_of_getElem? hr)
    have hx : (rs.map textM)[l.length]? = some (textM r) := by rw [List.getElem?_map, hr]; rfl
    refine str_at (Row.of_own (h.atR 0 rfl)) (by omega) hx ?_
    intro b0 o0 hc0
    refine ld_of ag_string hc0 ?_
    refine st_callE en_tape_record (c_record (he.mono h.ext) hok.1) h ?_
    rintro rv w4 ⟨pv, lv2, mv, tv, rfl, k⟩ mg
    have h := mg _ k
    have hf := st_flats (r := r) h fun q hq => List.mem_append_left _ hq
    refine xta_of (r := .tuple #[recV r pv lv2 mv tv, .bool true]) (by kernel_rfl) ?_
    rw [xe20, xe21]
    refine st_alloc zv_api_Record h ?_
    intro b6 w5 hb6 h
    refine st_store sz_api_Record h 0 rfl rfl rfl (hf.all _) ?_
    intro w6 h
    try simp only [go_sem] at h
    rw [xc_true]
    refine st_loadW ag_api_Record sz_api_Record h 0 rfl rfl ?_
    refine st_buildS (cs := (recC r pv lv2 mv tv).toArray) (e := T_api_Record) (fun w => by kernel_rfl) h ?_
    intro bx w7 hbx h
    have hone : ∀ u ∈ recC r pv lv2 mv tv, u.oneCell' = true := by
      intro u hu
      have hf2 := hf.all r
      have := List.all_eq_true.1 hf2 u hu
      cases u <;> first | rfl | exact absurd this (by simp [flat])
    refine app_sl_api_Record h 7 rfl (recC r pv lv2 mv tv) rfl (news_blk (h.at 0 rfl)) hone (by omega) ?_
    intro out2 w8 h
    rw [xadd, wi64 (by omega) (by omega)]
    have h := h.drop.drop
    have h : St [] w (recR r pv lv2 mv tv ++ (.row T_string 1 lv (rs.map textM).length (strsL (rs.map textM)) :: .row T_api_Record 10 out2 (l.length + 1) (recsL l ++ recC r pv lv2 mv tv) :: resL l)) w8 := h
    refine ⟨⟨l ++ [(r, pv, lv2, mv, tv)], by simp; omega, ?_, by simp, ?_⟩, lenI_succ hlt⟩
    · rw [List.map_append, hlr, List.length_append]
      show _ = rs.take (l.length + 1)
      rw [List.take_succ_eq_append_getElem hlt, hge]
      rfl
    · have h := St.permL h (L' := .row T_string 1 lv (rs.map textM).length (strsL (rs.map textM)) :: .row T_api_Record 10 out2 (l.length + 1) (recsL l ++ recC r pv lv2 mv tv) :: (resL l ++ recR r pv lv2 mv tv)) (by
        exact List.perm_append_comm)
      have e1 : recsL (l ++ [(r, pv, lv2, mv, tv)]) = recsL l ++ recC r pv lv2 mv tv := by simp [recsL]
      have e2 : resL (l ++ [(r, pv, lv2, mv, tv)]) = resL l ++ recR r pv lv2 mv tv := by simp [resL]
      rw [e1, e2, List.length_append]
      exact h
  · intro hge
    have hi : l.length = rs.length := by omega
    have hro := Row.of_own (h.atR 1 rfl)
    refine st_callE en_slices_Clip_api_Record_api_Record (Q := fun v' w' => Ext w3 w' ∧ ∃ a cap, u = .slice a l.length cap ∧ v' = .slice a l.length l.length) (c_clipO hro) h ?_
    rintro v' w4 ⟨e, a, cap, rfl, rfl⟩ mg
    refine ⟨l, a, cap, ?_, ?_, ?_⟩
    · rw [hlr, hi, List.take_length]
    · rw [← hi]
    · rw [← hi]; exact (h.step e).drop
theorem ts_allO {w0 w : World} {b n : Nat} {rs : List RecM} {L : List Res} {K : Value → World → Prop} (he : EnvP w0) (h : TS [] w0 b rs n L w) (hk : ∀ a cap w' l, l.map (·.1) = rs → TS [] w0 b rs n (.row T_api_Record 10 (.slice a rs.length cap) rs.length (recsL l) :: (resL l ++ L)) w' → K (.slice a rs.length rs.length) w') : XCall Tryz.prog F_tape_Tape_All #[pt b] w K := by
  obtain ⟨v, hv⟩ := h.st
  have hl := h.len
  have hfew := h.few
  have hlm : (rs.map textM).length = rs.length := List.length_map _
  have hb := hv.at 0 rfl
  rw [hlm] at hb
  refine ts_callE en_tape_Tape_All (c_allO (he.mono h.ext) hb (Row.of_own (hv.atR 1 rfl)) (fun r hr => ⟨(h.good r hr).ok, (h.good r hr).line⟩) (by omega) (by omega)) h ?_
  rintro u w1 ⟨l, a, cap, hl1, rfl, k⟩ mg
  exact hk a cap w1 l hl1 (mg _ k)
theorem ts_storeR {w0 w : World} {b n : Nat} {rs : List RecM} {L : List Res} {t e : TypeId} {sz bb cap m o : Nat} {xs : List Value} {v : Value} {K : World → Prop} (hs : ∀ w, (sizeOf t).run Tryz.prog w = .ok 1 w) (h : TS [] w0 b rs n L w) (i : Nat) (hn : L[i]? = some (.row e sz (.slice (some ⟨bb, 0, none⟩) m cap) m xs)) (hc : v.cells = #[v]) (h1 : v.oneCell' = true) (hf : flat v = true) (ho : o < m * sz)
    (hk : ∀ w', TS [] w0 b rs n (L.set i (.row e sz (.slice (some ⟨bb, 0, none⟩) m cap) m (xs.set o v))) w' → K w') : XStore Tryz.prog t (.pointer (some ⟨bb, o, none⟩)) v w K := by
  obtain ⟨tv, hv⟩ := h.st
  refine st_storeR hs hv (i + 2) (by simpa using hn) hc h1 hf ho ?_
  intro w' hv
  exact hk w' ⟨⟨tv, hv⟩, h.good, h.le, h.few⟩
theorem one_rec {l : List (RecM × Q4)} {r : RecM} (h : l.map (·.1) = [r]) : ∃ pv lv mv tv, l = [(r, pv, lv, mv, tv)] := by
  match l, h with
  | [(r', pv, lv, mv, tv)], h =>
    have : r' = r := by simpa using h
    subst this
    exact ⟨pv, lv, mv, tv, rfl⟩
/-- What TapeOwn keeps beside its tape: the record that is wanted, and the other tape. -/
abbrev keptL (r : RecM) (q2 b2 : Nat) (pu lu mu tu v2 : Value) : List Res := .blk q2 (recO r pu lu mu tu) :: (recR r pu lu mu tu ++ tapeR b2 v2 [] 0)
set_option maxHeartbeats 8000000 in
theorem c_TapeOwn {w : World} (he : EnvP w) (kind gang : Int) {p : Value} {ns : List Int} (hp : Row w 1 p ns.length (intsL ns)) (hns : ∀ x ∈ ns, i64 x) (name : Int) : RetV Tryz.prog F_joinerylaw9_TapeOwn #[.int .i64 kind, .int .i64 gang, p, .int .i64 name] w (.bool true) := by
  refine call_joinerylaw9_TapeOwn ?_
  have h := St.start w
  unfold S_joinerylaw9_TapeOwn
  refine st_callV en_joinerylaw9_known (c_known9 he) h ?_
  intro w1 h
  rw [xnot, Bool.not_true, xc_false]
  refine ts_new h ?_
  intro b w2 h
  refine ts_callE en_tape_New (c_newT w2) h ?_
  rintro - w3 ⟨b2, rfl, k⟩ mg
  have h := mg _ k
  rw [xeqnil _ _ _ _ (by kernel_rfl)]
  refine or_p h false ?_ ?_
  · intro _ J hJ
    rw [xeqnil _ _ _ _ (by kernel_rfl)]
    exact hJ _ h
  intro w4 h
  rw [Bool.or_false, xc_false]
  refine ts_callE en_joinerylaw4_Make (c_make kind gang name (hp.mono h.ext) hns) h ?_
  rintro - w5 ⟨pv, lv, mv, tv, rfl, k⟩ mg
  have h := mg _ k
  refine ts_callE en_joinerylaw4_Make (c_make kind gang name (hp.mono h.ext) hns) h ?_
  rintro - w6 ⟨pu, lu, mu, tu, rfl, k⟩ mg
  have h := mg _ k
  have hg := make_good kind gang ns name
  generalize makeM kind gang ns name = r at *
  obtain ⟨v, hv⟩ := h.st
  refine st_alloc zv_api_Record hv ?_
  intro q1 w7 _ hv
  refine st_alloc zv_api_Record hv ?_
  intro q2 w8 _ hv
  have hv := hv.pick [2, 3, 1, 0, 8, 9, 10, 11, 4, 5, 6, 7, 12, 13] (by decide) rfl
  have hv : St [] w (tapeR b v [] 0 ++ (.blk q1 (recO zRec nilV nilV nilV nilV) :: .blk q2 (recO zRec nilV nilV nilV nilV) :: (recR r pv lv mv tv ++ (recR r pu lu mu tu ++ tapeR b2 nilV [] 0)))) w8 := hv
  have f1 := st_flats (r := r) (pv := pv) (lv := lv) (mv := mv) (tv := tv) hv (by simp)
  have f2 := st_flats (r := r) (pv := pu) (lv := lu) (mv := mu) (tv := tu) hv (by simp)
  refine st_store sz_api_Record hv 2 rfl rfl rfl (f1.all _) ?_
  intro w9 hv
  simp only [go_sem] at hv
  refine st_store sz_api_Record hv 3 rfl rfl rfl (f2.all _) ?_
  intro w10 hv
  simp only [go_sem] at hv
  have hv : St [] w (tapeR b v (([] : List RecM).map textM) 0 ++ (.blk q1 (recO r pv lv mv tv) :: (recR r pv lv mv tv ++ keptL r q2 b2 pu lu mu tu nilV))) w10 := hv.pick [0, 1, 2, 4, 5, 6, 7, 3, 8, 9, 10, 11, 12, 13] (by decide) rfl
  refine st_loadW ag_api_Record sz_api_Record hv 2 rfl rfl ?_
  have h : TS [] w b [] 0 (.blk q1 (recO r pv lv mv tv) :: (recR r pv lv mv tv ++ keptL r q2 b2 pu lu mu tu nilV)) w10 := ⟨⟨v, hv⟩, by simp, by simp, by simp⟩
  clear f1 f2
  refine ts_write (r := r) (he.mono h.ext) h ⟨pv, lv, mv, tv, rfl, Row.of_own (hv.atR 3 rfl), Row.of_own (hv.atR 4 rfl), Row.of_own (hv.atR 5 rfl), Row.of_own (hv.atR 6 rfl)⟩ hg (by simp) ?_
  intro w11 h
  have h : TS [] w b [r] 0 (.blk q1 (recO r pv lv mv tv) :: (recR r pv lv mv tv ++ keptL r q2 b2 pu lu mu tu nilV)) w11 := h
  have hrk := rec_ok hg.ok
  have hsm := small_ok hrk
  clear hv
  have hn3 := hrk.nodeAll.2.2.2.2.1
  have n1 := hrk.plen
  have n2 := hrk.pllen
  refine ⟨fun u w' => ∃ (i : Nat) (xs : List Value), i ≤ r.peers.length ∧ u = .int .i64 (i : Nat) ∧ TS [] w b [r] 0 (.blk q1 (recO r pv lv mv tv) :: .row T_int 1 pv r.peers.length xs :: .row T_api_Place 5 lv r.places.length (placesL r.places) :: .row T_string 1 mv r.node.marks.length (strsL r.node.marks) :: keptL r q2 b2 pu lu mu tu nilV) w', fun u _ => lenI r.peers.length u, ⟨0, _, Nat.zero_le _, rfl, h.take (((((List.sublist_cons_self _ _).cons_cons _).cons_cons _).cons_cons _).cons_cons _)⟩, ?_⟩
  rintro - u w12 ⟨i, xs, hi, rfl, h⟩
  obtain ⟨_, hv⟩ := h.st
  rw [fld_api_Record_Peers]
  refine st_load ag_sl_int hv 2 rfl rfl ?_
  refine (h.row 1 rfl).len und_sl_int ?_
  rw [xlss]
  refine xc_dec ?_ ?_
  · intro hlt
    have hlt : i < r.peers.length := by omega
    obtain ⟨g, cap, rfl⟩ := own_at (hv.atR 3 rfl) (by omega)
    rw [fld_api_Record_Peers]
    refine st_load ag_sl_int hv 2 rfl rfl ?_
    rw [idx_sl_int (by omega) (by omega), Int.toNat_natCast]
    refine ts_storeR sz_int h 1 rfl rfl rfl rfl (by omega) ?_
    intro w13 h
    rw [xadd, wi64 (by omega) (by omega)]
    exact ⟨⟨i + 1, _, hlt, rfl, h⟩, lenI_succ hlt⟩
  intro _
  refine ⟨fun u w' => ∃ (i : Nat) (xs : List Value), i ≤ r.places.length ∧ u = .int .i64 (i : Nat) ∧ TS [] w b [r] 0 (.blk q1 (recO r pv lv mv tv) :: .row T_api_Place 5 lv r.places.length xs :: .row T_string 1 mv r.node.marks.length (strsL r.node.marks) :: keptL r q2 b2 pu lu mu tu nilV) w', fun u _ => lenI r.places.length u, ⟨0, _, Nat.zero_le _, rfl, h.take ((List.sublist_cons_self _ _).cons_cons _)⟩, ?_⟩
  clear h hv
  rintro - u w13 ⟨i, xs, hi, rfl, h⟩
  obtain ⟨_, hv⟩ := h.st
  rw [fld_api_Record_Places]
  refine st_load ag_sl_api_Place hv 2 rfl rfl ?_
  refine (h.row 1 rfl).len und_sl_api_Place ?_
  rw [xlss]
  refine xc_dec ?_ ?_
  · intro hlt
    have hlt : i < r.places.length := by omega
    obtain ⟨g, cap, rfl⟩ := own_at (hv.atR 3 rfl) (by omega)
    rw [fld_api_Record_Places]
    refine st_load ag_sl_api_Place hv 2 rfl rfl ?_
    rw [idx_sl_api_Place (by omega) (by omega), Int.toNat_natCast, fld_api_Place_Pod]
    refine ts_storeR sz_string h 1 rfl rfl rfl rfl (by omega) ?_
    intro w14 h
    rw [xadd, wi64 (by omega) (by omega)]
    exact ⟨⟨i + 1, _, hlt, rfl, h⟩, lenI_succ hlt⟩
  intro _
  refine ⟨fun u w' => ∃ (i : Nat) (xs : List Value), i ≤ r.node.marks.length ∧ u = .int .i64 (i : Nat) ∧ TS [] w b [r] 0 (.blk q1 (recO r pv lv mv tv) :: .row T_string 1 mv r.node.marks.length xs :: keptL r q2 b2 pu lu mu tu nilV) w', fun u _ => lenI r.node.marks.length u, ⟨0, _, Nat.zero_le _, rfl, h.take ((List.sublist_cons_self _ _).cons_cons _)⟩, ?_⟩
  clear h hv
  rintro - u w14 ⟨i, xs, hi, rfl, h⟩
  obtain ⟨_, hv⟩ := h.st
  rw [fld_api_Record_Node, fld_api_Node_Marks]
  refine st_load ag_sl_string hv 2 rfl rfl ?_
  refine (h.row 1 rfl).len und_sl_string ?_
  rw [xlss]
  refine xc_dec ?_ ?_
  · intro hlt
    have hlt : i < r.node.marks.length := by omega
    obtain ⟨g, cap, rfl⟩ := own_at (hv.atR 3 rfl) (by omega)
    rw [fld_api_Record_Node, fld_api_Node_Marks]
    refine st_load ag_sl_string hv 2 rfl rfl ?_
    rw [idx_sl_string (by omega) (by omega), Int.toNat_natCast]
    refine ts_storeR sz_string h 1 rfl rfl rfl rfl (by omega) ?_
    intro w15 h
    rw [xadd, wi64 (by omega) (by omega)]
    exact ⟨⟨i + 1, _, hlt, rfl, h⟩, lenI_succ hlt⟩
  intro _
  have h : TS [] w b [r] 0 (keptL r q2 b2 pu lu mu tu nilV) w14 := h.take ((List.sublist_cons_self _ _).cons _)
  clear hv
  refine ts_allO he h ?_
  rintro ao cp w15 l hl h
  obtain ⟨px, lx, mx, tx, rfl⟩ := one_rec hl
  have h := h.step (Ext.drew _)
  have hrow := Row.clip (h.row 0 rfl)
  obtain ⟨b1, o1, i1, c1⟩ := hrow.at (k := .i64) und_sl_api_Record sz_api_Record (i := 0) (by simp)
  have ra : ∀ {w' : World} {L : List Res} {A : List Res} {pa la ma ta : Value}, TS [] w b [r] 0 L w' → (∀ q ∈ recR r pa la ma ta, q ∈ L) → RecAt w' r (recV r pa la ma ta) := fun {w' L A pa la ma ta} h hs => by
    obtain ⟨_, hv⟩ := h.st
    exact ⟨_, _, _, _, rfl, Row.of_own (hv.has _ (List.mem_append_right _ (hs (.row T_int 1 pa r.peers.length (intsL r.peers)) (by simp)))), Row.of_own (hv.has _ (List.mem_append_right _ (hs (.row T_api_Place 5 la r.places.length (placesL r.places)) (by simp)))), Row.of_own (hv.has _ (List.mem_append_right _ (hs (.row T_string 1 ma r.node.marks.length (strsL r.node.marks)) (by simp)))), Row.of_own (hv.has _ (List.mem_append_right _ (hs (.row T_string 1 ta r.node.taints.length (strsL r.node.taints)) (by simp))))⟩
  refine ⟨Ext, Ext, preExt, .int .i64 1, fun w3 => ?_, .bool false, fun w3 => ?_, .slice ao 1 1, xgS fun w3 => ⟨rfl, rfl⟩, .pointer (some ⟨b1, o1, none⟩), xgS fun w3 => ?_, recV r px lx mx tx, xgS fun w3 e3 => ?_, recV r pu lu mu tu, xgS fun w3 e3 => ?_, .bool true, xgS fun w3 e3 => ?_, .bool false, xgS fun w3 => ?_, .bool false, fun w3 => ?_, pt b2, xgS fun w3 => ⟨rfl, rfl⟩, fun w16 e16 => ?_⟩
  · rw [xlen_slice und_sl_api_Record]; exact ⟨rfl, rfl⟩
  · rw [xneq]; exact ⟨rfl, rfl⟩
  · exact i1 _ _ ⟨rfl, rfl⟩
  · refine ldN_of ag_api_Record sz_api_Record (vs := recC r px lx mx tx) rfl (fun j hj => (c1 _ e3 j hj).trans (recsL_at (l := [(r, px, lx, mx, tx)]) (x := (r, px, lx, mx, tx)) (i := 0) rfl j hj)) ⟨rfl, Ext.refl _⟩
  · obtain ⟨_, hv⟩ := (h.step e3).st
    exact st_loadW ag_api_Record sz_api_Record hv 7 rfl rfl ⟨rfl, Ext.refl _⟩
  · refine xcall_of (en_joineryref4_Same _) (c_rSame (ra (A := []) (h.step e3) (by simp [resL])) (ra (A := []) (h.step e3) (by simp [resL])) hsm) fun _ _ hq => ?_
    rw [decide_eq_true rfl] at hq
    exact hq
  · rw [xnot]; exact ⟨rfl, rfl⟩
  · rw [xpick_false]; exact ⟨rfl, rfl⟩
  have h := h.step e16
  clear i1 c1
  rw [xg_same]
  obtain ⟨_, hv⟩ := h.st
  refine ts_callE en_tape_Tape_All (c_all (b := b2) (rs := []) (n := 0) (v := nilV) (he.mono h.ext) (hv.at 12 rfl) (Row.of_own (hv.atR 13 rfl)) (by simp) (by simp [textC]) (by simp)) h ?_
  rintro u w17 ⟨l, hl, hu, k⟩ mg
  have h := mg _ k
  obtain rfl : l = [] := List.map_eq_nil_iff.1 hl
  have h : TS [] w b [r] 0 (.row T_api_Record 10 (.slice ao 1 cp) 1 (recsL [(r, px, lx, mx, tx)]) :: .row T_int 1 px r.peers.length (intsL r.peers) :: .row T_api_Place 5 lx r.places.length (placesL r.places) :: .row T_string 1 mx r.node.marks.length (strsL r.node.marks) :: .row T_string 1 tx r.node.taints.length (strsL r.node.taints) :: keptL r q2 b2 pu lu mu tu nilV) w17 := h
  clear hv
  refine ⟨.int .i64 0, xgS fun w3 => ?_, .bool false, xgS fun w3 => ?_, .bool false, fun w3 => ?_, ?_⟩
  · exact hu.len und_sl_api_Record ⟨rfl, rfl⟩
  · rw [xneq]; exact ⟨rfl, rfl⟩
  · rw [xpick_false]; exact ⟨rfl, rfl⟩
  rw [xc_false]
  refine ⟨fun u w' => ∃ (i : Nat) (xs : List Value), i ≤ r.places.length ∧ u = .int .i64 (i : Nat) ∧ TS [] w b [r] 0 (.row T_api_Record 10 (.slice ao 1 cp) 1 (recsL [(r, px, lx, mx, tx)]) :: .row T_int 1 px r.peers.length (intsL r.peers) :: .row T_api_Place 5 lx r.places.length xs :: .row T_string 1 mx r.node.marks.length (strsL r.node.marks) :: .row T_string 1 tx r.node.taints.length (strsL r.node.taints) :: keptL r q2 b2 pu lu mu tu nilV) w', fun u _ => lenI r.places.length u, ⟨0, _, Nat.zero_le _, rfl, h⟩, ?_⟩
  clear h
  rintro - u w18 ⟨i, xs, hi, rfl, h⟩
  have hrow := Row.clip (h.row 0 rfl)
  obtain ⟨b1, o1, i1, c1⟩ := hrow.at (k := .i64) und_sl_api_Record sz_api_Record (i := 0) (by simp)
  have lf : ∀ {K : Value → World → Prop}, K lx w18 → XLoad Tryz.prog T_sl_api_Place (.pointer (some ⟨b1, o1 + 3, none⟩)) w18 K := fun hk => ld_of ag_sl_api_Place ((c1 _ (Ext.refl _) 3 (by omega)).trans (recsL_at (l := [(r, px, lx, mx, tx)]) (x := (r, px, lx, mx, tx)) (i := 0) rfl 3 (by omega))) hk
  refine i1 _ _ ?_
  rw [fld_api_Record_Places]
  refine lf ?_
  refine (h.row 2 rfl).len und_sl_api_Place ?_
  rw [xlss]
  refine xc_dec ?_ ?_
  · intro hlt
    have hlt : i < r.places.length := by omega
    refine i1 _ _ ?_
    rw [fld_api_Record_Places]
    refine lf ?_
    clear lf
    obtain ⟨_, hv⟩ := h.st
    obtain ⟨g, cap, rfl⟩ := own_at (hv.atR 4 rfl) (by omega)
    rw [idx_sl_api_Place (by omega) (by omega), Int.toNat_natCast, fld_api_Place_Node]
    refine ts_storeR sz_string h 2 rfl rfl rfl rfl (by omega) ?_
    intro w19 h
    rw [xadd, wi64 (by omega) (by omega)]
    exact ⟨⟨i + 1, _, hlt, rfl, h⟩, lenI_succ hlt⟩
  intro _
  clear i1 c1 lf
  have h : TS [] w b [r] 0 (keptL r q2 b2 pu lu mu tu nilV) w18 := h.take (((((List.Sublist.refl _).cons _).cons _).cons _).cons _ |>.cons _)
  refine ts_lines h ?_
  intro sv w19 h
  refine (h.row 0 rfl).len und_sl_string ?_
  rw [xneq, decide_eq_false (by simp), xc_false]
  obtain ⟨_, hv⟩ := h.st
  obtain ⟨g, cap, rfl⟩ := own_at (hv.atR 2 rfl) (by simp)
  rw [idx_sl_string (by omega) (by simp)]
  refine ts_storeR sz_string h 0 rfl rfl rfl rfl (by simp) ?_
  intro w20 h
  have h : TS [] w b [r] 0 (keptL r q2 b2 pu lu mu tu nilV) w20 := h.take (List.sublist_cons_self _ _)
  clear hv
  refine ts_allO he h ?_
  rintro a2 cp2 w21 l hl h
  obtain ⟨px, lx, mx, tx, rfl⟩ := one_rec hl
  refine ts_lines h ?_
  intro ov w22 h
  have h := h.step (Ext.drew _)
  have hov := h.row 0 rfl
  have hrow := Row.clip (h.row 1 rfl)
  obtain ⟨b1, o1, i1, c1⟩ := hrow.at (k := .i64) und_sl_api_Record sz_api_Record (i := 0) (by simp)
  obtain ⟨b3, o3, i3, c3⟩ := hov.at (k := .i64) und_sl_string sz_string (i := 0) (by simp)
  refine ⟨Ext, Ext, preExt, .int .i64 1, fun w3 => ?_, .bool true, fun w3 => ?_, .slice a2 1 1, xgS fun w3 => ⟨rfl, rfl⟩, .pointer (some ⟨b1, o1, none⟩), xgS fun w3 => ?_, recV r px lx mx tx, xgS fun w3 e3 => ?_, recV r pu lu mu tu, xgS fun w3 e3 => ?_, .bool true, xgS fun w3 e3 => ?_, .bool true, fun w3 => ?_,
    ov, xgS fun w3 => ⟨rfl, rfl⟩, .int .i64 1, xgS fun w3 => ?_, .bool true, xgS fun w3 => ?_, .bool true, fun w3 => ?_, ov, xgS fun w3 => ⟨rfl, rfl⟩, .pointer (some ⟨b3, o3, none⟩), xgS fun w3 => ?_, S (textM r), xgS fun w3 e3 => ?_, recV r pu lu mu tu, xgS fun w3 e3 => ?_, S (textM r), xgS fun w3 e3 => ?_, .bool true, xgS fun w3 => ?_, .bool true, fun w3 => ?_, fun w23 e23 => ?_⟩
  · rw [xlen_slice und_sl_api_Record]; exact ⟨rfl, rfl⟩
  · rw [xeql]; exact ⟨rfl, rfl⟩
  · exact i1 _ _ ⟨rfl, rfl⟩
  · refine ldN_of ag_api_Record sz_api_Record (vs := recC r px lx mx tx) rfl (fun j hj => (c1 _ e3 j hj).trans (recsL_at (l := [(r, px, lx, mx, tx)]) (x := (r, px, lx, mx, tx)) (i := 0) rfl j hj)) ⟨rfl, Ext.refl _⟩
  · obtain ⟨_, hv⟩ := (h.step e3).st
    exact st_loadW ag_api_Record sz_api_Record hv 8 rfl rfl ⟨rfl, Ext.refl _⟩
  · refine xcall_of (en_joineryref4_Same _) (c_rSame (ra (A := []) (h.step e3) (by simp [resL])) (ra (A := []) (h.step e3) (by simp [resL])) hsm) fun _ _ hq => ?_
    rw [decide_eq_true rfl] at hq
    exact hq
  · rw [xpick_true]; exact ⟨rfl, rfl⟩
  · exact hov.len und_sl_string ⟨rfl, rfl⟩
  · rw [xeql]; exact ⟨rfl, rfl⟩
  · rw [xpick_true]; exact ⟨rfl, rfl⟩
  · exact i3 _ _ ⟨rfl, rfl⟩
  · exact ld_of ag_string (v := S (textM r)) ((c3 _ e3 0 (by omega)).trans rfl) ⟨rfl, Ext.refl _⟩
  · obtain ⟨_, hv⟩ := (h.step e3).st
    exact st_loadW ag_api_Record sz_api_Record hv 8 rfl rfl ⟨rfl, Ext.refl _⟩
  · exact xcall_of (en_joineryref4_Text _) (c_rText (ra (A := []) (h.step e3) (by simp [resL])) hrk) fun _ _ hq => hq
  · rw [xseql, decide_eq_true rfl]; exact ⟨rfl, rfl⟩
  · rw [xpick_true]; exact ⟨rfl, rfl⟩
  exact ⟨rfl, (h.step e23).ext⟩
end Go.Proofs.YthkgbajldkicfaaGreatDoor
