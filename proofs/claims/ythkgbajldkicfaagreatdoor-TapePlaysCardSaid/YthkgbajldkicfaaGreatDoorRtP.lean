/-
  The document's own tape.
-/
import Derived.Test.YthkgbajldkicfaaGreatDoorRef
import Derived.Test.YthkgbajldkicfaaGreatDoorTapeB
import Derived.Laws.OwnMore
namespace Go.Proofs.YthkgbajldkicfaaGreatDoor
set_option linter.unusedVariables false
set_option linter.unusedSimpArgs false
open Go Go.Jo
set_option maxRecDepth 100000

abbrev rtO (v : Value) (n : Nat) : Obj := .cells #[v, .int .i64 (n : Nat)] T_joineryref9_Tape (0, 0)
abbrev rtR (b : Nat) (v : Value) (ls : List Str) (n : Nat) : List Res := [.blk b (rtO v n), .row T_string 1 v ls.length (strsL ls)]
theorem st_boxE {x : List Nat} {w0 w : World} {L : List Res} {t : TypeId} {v : Value} {K : Value → World → Prop} (h : St x w0 L w) (hk : ∀ (b : Nat) (w' : World), Ext w w' → St x w0 (.blk b (.cells v.cells t) :: L) w' → K (.pointer (some ⟨b, 0, none⟩)) w') : XBox Tryz.prog t v w K := by
  rw [xbox]
  exact hk _ _ (ext_alloc w _) (h.new _)
theorem c_rtLasting {w : World} {b n : Nat} {v : Value} (hb : w.heap[b]? = some (rtO v n)) : RetV Tryz.prog F_joineryref9_Tape_Lasting #[pt b] w (.int .i64 (n : Nat)) := by
  refine call_joineryref9_Tape_Lasting ?_
  have h := St.startR hb
  unfold S_joineryref9_Tape_Lasting
  rw [xnil_ptr, fld_joineryref9_Tape_N]
  refine st_load ag_int h 0 rfl rfl ?_
  exact ⟨rfl, Ext.refl _⟩
theorem c_rtSync {w : World} {b n : Nat} {v : Value} {ls : List Str} (h : St (ownsL (rtR b v ls n)) w (rtR b v ls n) w) : Ret Tryz.prog F_joineryref9_Tape_Sync #[pt b] w fun u w' => u = .tuple #[] ∧ St (ownsL (rtR b v ls n)) w (rtR b v ls ls.length) w' := by
  refine call_joineryref9_Tape_Sync ?_
  unfold S_joineryref9_Tape_Sync
  have hrow := Row.of_own (h.atR 1 rfl)
  rw [xnil_ptr, fld_joineryref9_Tape_L]
  refine st_load ag_sl_string h 0 rfl rfl ?_
  refine hrow.len und_sl_string ?_
  rw [xnil_ptr, fld_joineryref9_Tape_N]
  refine st_store sz_int h 0 rfl rfl rfl rfl ?_
  intro w1 h
  try simp only [go_sem] at h
  exact ⟨rfl, h⟩
set_option maxHeartbeats 2000000 in
theorem c_rtCrash {w : World} {b n : Nat} {v : Value} {ls : List Str} (k : Int) (h : St (ownsL (rtR b v ls n)) w (rtR b v ls n) w) (hn : n ≤ ls.length) (hll : ls.length ≤ 1000000) :
    Ret Tryz.prog F_joineryref9_Tape_Crash #[pt b, .int .i64 k] w fun u w' => u = .tuple #[] ∧ ∃ v', St (ownsL (rtR b v ls n)) w (rtR b v' (ls.take (crashN k ls.length n)) (crashN k ls.length n)) w' := by
  refine call_joineryref9_Tape_Crash ?_
  unfold S_joineryref9_Tape_Crash
  have ho := h.atR 1 rfl
  have hrow := Row.of_own ho
  have hc := crashN_le k hn
  have e1 : max 0 (min k ((ls.length : Int) - (n : Int))) = ((crashN k ls.length n : Nat) : Int) - (n : Int) := by unfold crashN; omega
  have h := h.step (Ext.drew _)
  refine ⟨Ext, Ext, preExt, pt b, fun w3 => by rw [xnil_ptr]; exact ⟨rfl, rfl⟩, .pointer (some ⟨b, 0 + 0, none⟩), fun w3 => by rw [fld_joineryref9_Tape_L]; exact ⟨rfl, rfl⟩, v, fun w3 e3 => st_load ag_sl_string (h.step e3) 0 rfl rfl ⟨rfl, Ext.refl _⟩, .int .i64 (ls.length : Nat), fun w3 => hrow.len und_sl_string ⟨rfl, rfl⟩, pt b, fun w3 => by rw [xnil_ptr]; exact ⟨rfl, rfl⟩, .pointer (some ⟨b, 0 + 1, none⟩), fun w3 => by rw [fld_joineryref9_Tape_N]; exact ⟨rfl, rfl⟩, .int .i64 (n : Nat), fun w3 e3 => st_load ag_int (h.step e3) 0 rfl rfl ⟨rfl, Ext.refl _⟩, .int .i64 ((ls.length : Int) - (n : Int)), fun w3 => by rw [xsub, wi64 (by omega) (by omega)]; exact ⟨rfl, rfl⟩, .int .i64 (min k ((ls.length : Int) - (n : Int))), fun w3 => by rw [xmin]; exact ⟨rfl, rfl⟩, .int .i64 (max 0 (min k ((ls.length : Int) - (n : Int)))), fun w3 => by rw [xmax]; exact ⟨rfl, rfl⟩, fun w1 e2 => ?_⟩
  have h := (h.step e2).step (Ext.drew _)
  rw [e1]
  generalize crashN k ls.length n = m at *
  obtain ⟨a, cap, rfl, hac⟩ : ∃ a cap, v = .slice a ls.length cap ∧ ls.length ≤ cap := by
    obtain ⟨_, a, cap, e, hc, _⟩ := hrow
    exact ⟨a, cap, e, hc⟩
  refine ⟨Ext, Ext, preExt, pt b, fun w3 => by rw [xnil_ptr]; exact ⟨rfl, rfl⟩, .pointer (some ⟨b, 0 + 0, none⟩), fun w3 => by rw [fld_joineryref9_Tape_L]; exact ⟨rfl, rfl⟩, .slice a ls.length cap, fun w3 e3 => st_load ag_sl_string (h.step e3) 0 rfl rfl ⟨rfl, Ext.refl _⟩, pt b, fun w3 => by rw [xnil_ptr]; exact ⟨rfl, rfl⟩, .pointer (some ⟨b, 0 + 1, none⟩), fun w3 => by rw [fld_joineryref9_Tape_N]; exact ⟨rfl, rfl⟩, .int .i64 (n : Nat), fun w3 e3 => st_load ag_int (h.step e3) 0 rfl rfl ⟨rfl, Ext.refl _⟩, .int .i64 (m : Nat), fun w3 => by rw [xadd, show (n : Int) + ((m : Int) - (n : Int)) = (m : Int) by omega, wi64 (by omega) (by omega)]; exact ⟨rfl, rfl⟩, .slice a m cap, fun w3 => xslice_upto und_sl_string sz_string hc.2 hac ⟨rfl, rfl⟩, pt b, fun w3 => by rw [xnil_ptr]; exact ⟨rfl, rfl⟩, .pointer (some ⟨b, 0 + 0, none⟩), fun w3 => by rw [fld_joineryref9_Tape_L]; exact ⟨rfl, rfl⟩, fun w2 e3 => ?_⟩
  have h := h.step e3
  refine st_storeC sz_sl_string h 0 rfl rfl rfl rfl ?_
  intro w3 h
  try simp only [go_sem] at h
  rw [xnil_ptr, fld_joineryref9_Tape_L]
  refine st_load ag_sl_string h 0 rfl rfl ?_
  rw [xlen_slice und_sl_string, xnil_ptr, fld_joineryref9_Tape_N]
  refine st_store sz_int h 0 rfl rfl rfl rfl ?_
  intro w4 h
  try simp only [go_sem] at h
  refine ⟨rfl, .slice a m cap, ?_⟩
  have htl : (ls.take m).length = m := by rw [List.length_take]; omega
  have hl2 : strsL (ls.take m) = (strsL ls).take (m * 1) := by simp [List.map_take]
  have h2 := h.turn (n := 1) (r' := .row T_string 1 (.slice a m cap) m ((strsL ls).take (m * 1))) rfl (Chg.refl _ _) (own_take (h.atR 1 rfl) hc.2) (fun k hk => .inl (by cases a with
    | none => cases hk
    | some a => exact hk))
  unfold rtR
  rw [hl2, htl]
  exact h2
set_option maxHeartbeats 2000000 in
theorem c_rtWrite {w : World} {b n : Nat} {v rv : Value} {ls : List Str} {r : RecM} (h : St (ownsL (rtR b v ls n)) w (rtR b v ls n) w) (hr : RecAt w r rv) (hk : RecOk r) (hll : ls.length ≤ 100000) :
    Ret Tryz.prog F_joineryref9_Tape_Write #[pt b, rv] w fun u w' => u = .tuple #[] ∧ ∃ v', St (ownsL (rtR b v ls n)) w (rtR b v' (ls ++ [textM r]) n) w' := by
  refine call_joineryref9_Tape_Write ?_
  unfold S_joineryref9_Tape_Write
  obtain ⟨pv, lv, mv, tv, rfl, h1, h2, h3, h4⟩ := hr
  have e0 : ∀ {w' : World}, Ext w w' → RecAt w' r (recV r pv lv mv tv) := fun e => ⟨pv, lv, mv, tv, rfl, h1.mono e, h2.mono e, h3.mono e, h4.mono e⟩
  refine st_boxE h ?_
  intro q w1 e1 h
  have h : St (ownsL (rtR b v ls n)) w (.blk q (recO r pv lv mv tv) :: rtR b v ls n) w1 := h
  have h := h.step (Ext.drew _)
  have e1 := e1.trans (Ext.drew _)
  refine ⟨Ext, Ext, preExt, pt b, fun w3 => by rw [xnil_ptr]; exact ⟨rfl, rfl⟩, .pointer (some ⟨b, 0 + 0, none⟩), fun w3 => by rw [fld_joineryref9_Tape_L]; exact ⟨rfl, rfl⟩, v, fun w3 e3 => st_load ag_sl_string (h.step e3) 1 rfl rfl ⟨rfl, Ext.refl _⟩, recV r pv lv mv tv, fun w3 e3 => st_loadW ag_api_Record sz_api_Record (h.step e3) 0 rfl rfl ⟨rfl, Ext.refl _⟩, S (textM r), fun w3 e3 => xcall_of (en_joineryref4_Text _) (c_rText (e0 (e1.trans e3)) hk) fun _ _ hq => hq, fun w2 e2 => ?_⟩
  have h := h.step e2
  refine st_buildSE (cs := #[S (textM r)]) (e := T_string) (fun w => by kernel_rfl) h ?_
  intro bx w3 hbx e3 h
  refine ⟨e3, fun w4 e4 => ?_⟩
  have h := h.step e4
  refine app_sl_string h 3 rfl [S (textM r)] rfl (news_blk (h.at 0 rfl)) (by simp [Value.oneCell']) (by omega) ?_
  intro v' w5 h
  have hv := h.atR 3 rfl
  refine ⟨pt b, fun w3 => by rw [xnil_ptr]; exact ⟨rfl, rfl⟩, .pointer (some ⟨b, 0 + 0, none⟩), fun w3 => by rw [fld_joineryref9_Tape_L]; exact ⟨rfl, rfl⟩, ?_⟩
  refine st_storeC sz_sl_string h 2 rfl (cells_own hv) rfl (flat_own hv) ?_
  intro w6 h
  try simp only [go_sem] at h
  refine ⟨rfl, v', ?_⟩
  have h := h.pick [2, 3] (by decide) rfl
  have e5 : strsL (ls ++ [textM r]) = strsL ls ++ [S (textM r)] := by simp
  unfold rtR
  rw [e5, List.length_append]
  exact h
theorem c_rtLines {w : World} {b n : Nat} {v : Value} {ls : List Str} (hb : w.heap[b]? = some (rtO v n)) (ho : w.ownsRow 0 T_string 1 v ls.length (strsL ls)) (hll : ls.length ≤ 100000) :
    Ret Tryz.prog F_joineryref9_Tape_Lines #[pt b] w fun u w' => St [] w [.row T_string 1 u ls.length (strsL ls)] w' := by
  refine call_joineryref9_Tape_Lines ?_
  have h := St.start w
  unfold S_joineryref9_Tape_Lines
  refine st_buildR (cs := #[]) (e := T_string) (sz := 1) (fun w => by kernel_rfl) (by decide) rfl h ?_
  intro u w1 h
  rw [xnil_ptr, fld_joineryref9_Tape_L]
  refine ldB (i := 0 + 0) ag_sl_string hb h.ext rfl ?_
  rcases ho.2 with ⟨rfl, h0⟩ | ⟨g, cap, cur, rfl, _, _⟩
  · have hl : ls = [] := List.eq_nil_of_length_eq_zero h0
    subst hl
    obtain ⟨inf, i1, i2, i3, i4⟩ := inf_sl_string
    have hr := run_append_owned_none (P := Tryz.prog) (w := w1) 0 T_sl_string T_sl_string T_string inf 1 und_sl_string i1 u 0 [] (h.atR 0 rfl)
    have h6 : ∀ K : Value → World → Prop, XB Tryz.prog .append #[T_sl_string, T_sl_string] T_sl_string #[u, .slice none 0 0] w1 K = K u w1 := fun K => xb_v (by simp [builtin, hr])
    refine Eq.mpr (h6 _) ?_
    exact h
  · refine app_sl_string h 0 rfl (strsL ls) (by simp) (fun j y hj => ?_) (by simp [Value.oneCell']) (by omega) ?_
    · obtain ⟨hlt, _⟩ := List.getElem?_eq_some_iff.1 hj
      rw [Addr.add_lit, Nat.zero_add]
      have hlt : j < ls.length := by simpa using hlt
      have h1 := (ho.cellAt j (by omega)).trans hj
      exact cell_ext h.ext h1
    intro u' w2 h
    rw [Nat.zero_add] at h
    exact h
set_option maxHeartbeats 2000000 in
theorem c_rtAll {w : World} {b n : Nat} {v : Value} {rs : List RecM} (hb : w.heap[b]? = some (rtO v n)) (hv : Row w 1 v rs.length (strsL (rs.map textM))) (hg : ∀ r ∈ rs, RecG r) (hll : rs.length ≤ 100000) :
    Ret Tryz.prog F_joineryref9_Tape_All #[pt b] w fun u w' => ∃ l : List (RecM × Q4), l.map (·.1) = rs ∧ St [] w (.row T_api_Record 10 u rs.length (recsL l) :: resL l) w' := by
  refine call_joineryref9_Tape_All ?_
  have h := (St.start w).row0 T_api_Record 10
  unfold S_joineryref9_Tape_All
  refine ⟨fun u v w' => ∃ l : List (RecM × Q4), l.length ≤ rs.length ∧ l.map (·.1) = rs.take l.length ∧ v = .int .i64 (l.length : Nat) ∧ St [] w (.row T_api_Record 10 u l.length (recsL l) :: resL l) w', fun _ v _ => lenI rs.length v, ⟨[], Nat.zero_le _, rfl, rfl, h⟩, ?_⟩
  clear h
  rintro - u v2 w3 ⟨l, hll2, hlr, rfl, h⟩
  have hlm : (rs.map textM).length = rs.length := List.length_map _
  rw [xnil_ptr, fld_joineryref9_Tape_L]
  refine ldB (i := 0 + 0) ag_sl_string hb h.ext rfl ?_
  refine hv.len und_sl_string ?_
  rw [xlss]
  refine xc_dec ?_ ?_
  · intro hlt
    have hlt : l.length < rs.length := by omega
    obtain ⟨r, hr⟩ : ∃ r, rs[l.length]? = some r := ⟨_, List.getElem?_eq_getElem hlt⟩
    have hge := (List.getElem?_eq_some_iff.1 hr).2
    have hgr := hg r (List.mem_of_getElem? hr)
    have htl := text_len (rec_ok hgr.ok)
    have hx : (rs.map textM)[l.length]? = some (textM r) := by rw [List.getElem?_map, hr]; rfl
    rw [xnil_ptr, fld_joineryref9_Tape_L]
    refine ldB (i := 0 + 0) ag_sl_string hb h.ext rfl ?_
    refine str_at (l := rs.map textM) (by rw [hlm]; exact hv.mono h.ext) (by omega) hx ?_
    intro b0 o0 hc0
    refine ld_of ag_string hc0 ?_
    refine st_callE en_joineryref4_Parse (c_fParse _ (by omega)) h ?_
    rintro rv w4 ⟨pv, lv2, mv, tv, rfl, k⟩ mg
    have h := mg _ k
    rw [parse_text hgr.ok] at h ⊢
    have hf := st_flats (r := r) h fun q hq => List.mem_append_left _ hq
    rw [xe20, xe21]
    refine st_alloc zv_api_Record h ?_
    intro b6 w5 hb6 h
    refine st_store sz_api_Record h 0 rfl rfl rfl (hf.all _) ?_
    intro w6 h
    try simp only [go_sem] at h
    refine st_loadW ag_api_Record sz_api_Record h 0 rfl rfl ?_
    refine st_buildS (cs := (recC r pv lv2 mv tv).toArray) (e := T_api_Record) (fun w => by kernel_rfl) h ?_
    intro bx w7 hbx h
    have hone : ∀ u ∈ recC r pv lv2 mv tv, u.oneCell' = true := by
      intro u hu
      have hf2 := hf.all r
      have := List.all_eq_true.1 hf2 u hu
      cases u <;> first | rfl | exact absurd this (by simp [flat])
    refine app_sl_api_Record h 6 rfl (recC r pv lv2 mv tv) rfl (news_blk (h.at 0 rfl)) hone (by omega) ?_
    intro out2 w8 h
    rw [xadd, wi64 (by omega) (by omega)]
    have h := h.drop.drop
    have h : St [] w (recR r pv lv2 mv tv ++ (.row T_api_Record 10 out2 (l.length + 1) (recsL l ++ recC r pv lv2 mv tv) :: resL l)) w8 := h
    refine ⟨⟨l ++ [(r, pv, lv2, mv, tv)], by simp; omega, ?_, by simp, ?_⟩, lenI_succ hlt⟩
    · rw [List.map_append, hlr, List.length_append]
      show _ = rs.take (l.length + 1)
      rw [List.take_succ_eq_append_getElem hlt, hge]
      rfl
    · have h := St.permL h (L' := .row T_api_Record 10 out2 (l.length + 1) (recsL l ++ recC r pv lv2 mv tv) :: (resL l ++ recR r pv lv2 mv tv)) (by
        exact List.perm_append_comm)
      have e1 : recsL (l ++ [(r, pv, lv2, mv, tv)]) = recsL l ++ recC r pv lv2 mv tv := by simp [recsL]
      have e2 : resL (l ++ [(r, pv, lv2, mv, tv)]) = resL l ++ recR r pv lv2 mv tv := by simp [resL]
      rw [e1, e2, List.length_append]
      exact h
  · intro hge
    have hi : l.length = rs.length := by omega
    refine ⟨l, by rw [hlr, hi, List.take_length], ?_⟩
    rw [hi] at h
    exact h
end Go.Proofs.YthkgbajldkicfaaGreatDoor
