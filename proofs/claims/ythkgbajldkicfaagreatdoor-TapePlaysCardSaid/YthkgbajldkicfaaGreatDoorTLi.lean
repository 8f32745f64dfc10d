/-
  The law TapeLines, walked.
-/
import Derived.Test.YthkgbajldkicfaaGreatDoorRef
import Derived.Test.YthkgbajldkicfaaGreatDoorTapeB
import Derived.Test.YthkgbajldkicfaaGreatDoorArgs3
namespace Go.Proofs.YthkgbajldkicfaaGreatDoor
set_option linter.unusedVariables false
set_option linter.unusedSimpArgs false
open Go Go.Jo
set_option maxRecDepth 100000

/-- A call of a row of calls, wherever it is read. -/
theorem call_of {w : World} {p : Value} {l : List CallM} {i : Nat} {y : CallM} (hp : Row w 3 p l.length (callsL l)) (hy : l[i]? = some y) :
    ∃ b o, (∀ (w' : World) (K : Value → World → Prop), K (.pointer (some ⟨b, o, none⟩)) w' → XIdx Tryz.prog T_sl_joinerylaw9_Call p (.int .i64 (i : Nat)) w' K) ∧
      (∀ w', Ext w w' → ∀ K : Value → World → Prop, K (.int .i64 y.kind) w' → XLoad Tryz.prog T_int (.pointer (some ⟨b, o + 0, none⟩)) w' K) ∧
      (∀ w', Ext w w' → ∀ K : Value → World → Prop, K (.int .i64 y.n) w' → XLoad Tryz.prog T_int (.pointer (some ⟨b, o + 1, none⟩)) w' K) ∧
      (∀ w', Ext w w' → ∀ K : Value → World → Prop, K y.nv w' → XLoad Tryz.prog T_sl_int (.pointer (some ⟨b, o + 2, none⟩)) w' K) := by
  obtain ⟨b1, o1, i1, c1⟩ := hp.at (k := .i64) und_sl_joinerylaw9_Call sz_joinerylaw9_Call (i := i) (List.getElem?_eq_some_iff.1 hy).1
  refine ⟨b1, o1, i1, fun w' e K hk => ?_, fun w' e K hk => ?_, fun w' e K hk => ?_⟩
  · exact ld_of ag_int (v := .int .i64 y.kind) ((c1 _ e 0 (by omega)).trans (callsL_at hy 0 (by omega))) hk
  · exact ld_of ag_int (v := .int .i64 y.n) ((c1 _ e 1 (by omega)).trans (callsL_at hy 1 (by omega))) hk
  · exact ld_of ag_sl_int (v := y.nv) ((c1 _ e 2 (by omega)).trans (callsL_at hy 2 (by omega))) hk
abbrev recOf (c : CallM) : RecM := makeM c.kind c.n c.ns (c.n.tdiv 7)
theorem resL_at {l : List (RecM × Q4)} {i : Nat} {y : RecM × Q4} (hy : l[i]? = some y) : ∀ q ∈ recR4 y, q ∈ resL l := resL_mem (List.mem_of_getElem? hy)
set_option maxHeartbeats 8000000 in
theorem c_TapeLines {w : World} (he : EnvP w) {p : Value} {cl : List CallM} (hok : ∀ c ∈ cl, CallOk w c) (hp : Row w 3 p cl.length (callsL cl)) : RetV Tryz.prog F_joinerylaw9_TapeLines #[p] w (.bool true) := by
  refine call_joinerylaw9_TapeLines ?_
  have h := St.start w
  unfold S_joinerylaw9_TapeLines
  refine st_callV en_joinerylaw9_known (c_known9 he) h ?_
  intro w1 h
  rw [xnot, Bool.not_true, xc_false]
  refine ts_new h ?_
  intro b w2 h
  rw [xeqnil _ _ _ _ (by kernel_rfl), xc_false]
  refine ⟨fun u w' => ∃ i : Nat, i ≤ cl.length ∧ i ≤ 30 ∧ u = .int .i64 (i : Nat) ∧ TS [] w b ((cl.take i).map recOf) 0 [] w', fun u _ => lenI 31 u, ⟨0, by simp, by simp, rfl, h⟩, ?_⟩
  clear h
  rintro - u w3 ⟨i, hi, hi30, rfl, h⟩
  refine hp.len und_sl_joinerylaw9_Call ?_
  rw [xlss]
  refine and_p h (decide (i < 30)) ?_ ?_
  · intro _ J hJ
    rw [xlss]
    have : decide ((i : Int) < 30) = decide (i < 30) := decide_eq_decide.2 (by omega)
    rw [this]
    exact hJ _ h
  intro w4 h
  refine xc_of ?_ ?_
  · intro hc
    rw [Bool.and_eq_true, decide_eq_true_eq, decide_eq_true_eq] at hc
    have hlt : i < cl.length := by omega
    obtain ⟨c, hy⟩ : ∃ c, cl[i]? = some c := ⟨_, List.getElem?_eq_getElem hlt⟩
    have hge := (List.getElem?_eq_some_iff.1 hy).2
    have ck := hok c (List.mem_of_getElem? hy)
    have hni := ck.n
    obtain ⟨bc, oc, ic, lk, lN, lns⟩ := call_of hp hy
    have h := h.step (Ext.drew _)
    have hE : ∀ {w' : World}, Ext w4.drew w' → Ext w w' := fun e => h.ext.trans e
    refine ⟨Ext, Ext, preExt, ?_⟩
    repeat
      apply Exists.intro
      apply And.intro
      · first
          | (rw [xg_ft]; try rfl)
          | (rw [xg_tf]; try rfl)
          | (rw [xg_undef]; try rfl)
          | ((try rw [xg_same]); intro w3; first
              | exact ic _ _ ⟨rfl, rfl⟩
              | exact ir _ _ ⟨rfl, rfl⟩
              | exact is1 _ _ ⟨rfl, rfl⟩
              | (rw [fld_joinerylaw9_Call_Kind]; exact ⟨rfl, rfl⟩)
              | (rw [fld_joinerylaw9_Call_N]; exact ⟨rfl, rfl⟩)
              | (rw [fld_joinerylaw9_Call_Ns]; exact ⟨rfl, rfl⟩)
              | (rw [xpick_true]; exact ⟨rfl, rfl⟩)
              | (rw [xpick_false]; exact ⟨rfl, rfl⟩)
              | (rw [xnot, Bool.not_true]; exact ⟨rfl, rfl⟩)
              | (rw [xnot, Bool.not_false]; exact ⟨rfl, rfl⟩)
              | (rw [xquoN hni (by omega)]; exact ⟨rfl, rfl⟩)
              | (rw [xneq, decide_eq_false (by omega)]; exact ⟨rfl, rfl⟩)
              | (rw [xsneq, decide_eq_false (by simp)]; exact ⟨rfl, rfl⟩)
              | (intro e3; first
                  | exact lk _ (hE e3) _ ⟨rfl, Ext.refl _⟩
                  | exact lN _ (hE e3) _ ⟨rfl, Ext.refl _⟩
                  | exact lns _ (hE e3) _ ⟨rfl, Ext.refl _⟩
                  | exact lr _ (hE2 e3) _ ⟨rfl, Ext.refl _⟩
                  | exact ls _ (hE2 e3) _ ⟨rfl, Ext.refl _⟩
                  | exact l8 _ (hE2 e3) _ ⟨rfl, Ext.refl _⟩
                  | exact xcall_of (en_joineryref4_Same _) (hsm _ (hE2 e3)) fun _ _ hq => hq
                  | exact xcall_of (en_joineryref4_Text _) (htx _ (hE2 e3)) fun _ _ hq => hq)
              | exact ⟨rfl, rfl⟩)
    intro w5 e5
    have h := h.step e5
    have hlen : ((cl.take i).map recOf).length = i := by rw [List.length_map, List.length_take]; omega
    refine ts_callE en_joinerylaw4_Make (c_make c.kind c.n (c.n.tdiv 7) (ck.row.mono h.ext) ck.ns) h ?_
    rintro rv w6 ⟨pv, lv, mv, tv, rfl, k⟩ mg
    have h := mg _ k
    refine ts_write (r := recOf c) (he.mono h.ext) h (recR_at (L := []) k) (make_good _ _ _ _) (by omega) ?_
    intro w7 h
    have h := h.none
    rw [xadd, wi64 (by omega) (by omega)]
    refine ⟨⟨i + 1, hlt, by omega, rfl, ?_⟩, lenI_succ (by omega)⟩
    rw [List.take_succ_eq_append_getElem hlt, hge, List.map_append]
    exact h
  intro hc
  rw [Bool.and_eq_false_iff, decide_eq_false_iff_not, decide_eq_false_iff_not] at hc
  have hmin : min (cl.length : Int) 30 = (i : Int) := by omega
  have hlen : ((cl.take i).map recOf).length = i := by rw [List.length_map, List.length_take]; omega
  have hat : ∀ j c, cl[j]? = some c → j < i → ((cl.take i).map recOf)[j]? = some (recOf c) := fun j c hj hji => by
    rw [List.getElem?_map, List.getElem?_take, if_pos hji, hj]
    rfl
  generalize hrs : (cl.take i).map recOf = rs at *
  refine ts_allO he h ?_
  intro ao cap w5 l hl h
  have hll : l.length = rs.length := by rw [← hl, List.length_map]
  refine ts_lines h ?_
  intro sv w6 h
  rw [xlen_slice und_sl_api_Record]
  refine (h.row 0 rfl).len und_sl_string ?_
  rw [xneq, decide_eq_false (by omega)]
  refine or_p h false ?_ ?_
  · intro _ J hJ
    rw [xlen_slice und_sl_api_Record]
    refine hp.len und_sl_joinerylaw9_Call ?_
    rw [xmin, hmin, xneq, decide_eq_false (by omega)]
    exact hJ _ h
  intro w7 h
  rw [Bool.or_false, xc_false]
  refine ⟨fun u w' => ∃ j : Nat, j ≤ i ∧ u = .int .i64 (j : Nat) ∧ TS [] w b rs 0 (.row T_string 1 sv rs.length (strsL (rs.map textM)) :: .row T_api_Record 10 (.slice ao rs.length cap) rs.length (recsL l) :: (resL l ++ [])) w', fun u _ => lenI i u, ⟨0, Nat.zero_le _, rfl, h⟩, ?_⟩
  clear h
  rintro - u w8 ⟨j, hj, rfl, h⟩
  rw [xlen_slice und_sl_api_Record, xlss]
  refine xc_dec ?_ ?_
  · intro hlt
    have hlt : j < i := by omega
    obtain ⟨c, hy⟩ : ∃ c, cl[j]? = some c := ⟨_, List.getElem?_eq_getElem (by omega)⟩
    have ck := hok c (List.mem_of_getElem? hy)
    have hrj := hat j c hy hlt
    have hg : RecG (recOf c) := make_good c.kind c.n c.ns (c.n.tdiv 7)
    have hni := ck.n
    obtain ⟨y, hyl⟩ : ∃ y, l[j]? = some y := ⟨_, List.getElem?_eq_getElem (by omega)⟩
    have hy1 : y.1 = recOf c := by
      have := congrArg (fun l => l[j]?) hl
      simp only [List.getElem?_map, hyl, hrj] at this
      exact Option.some.inj this
    obtain ⟨r', px, lx, mx, tx⟩ := y
    have hy1 : r' = recOf c := hy1
    subst hy1
    have hrk := rec_ok hg.ok
    have hsmall := small_ok hrk
    have htl := text_len hrk
    have hpt : parseM (textM (recOf c)) = (recOf c, 0) := parse_text hg.ok
    have hst : (rs.map textM)[j]? = some (textM (recOf c)) := by rw [List.getElem?_map, hrj]; rfl
    generalize hR : recOf c = r at *
    have lm : (rs.map textM).length = rs.length := List.length_map _
    have hrow1 : Row w8 1 sv (rs.map textM).length (strsL (rs.map textM)) := by rw [lm]; exact h.row 0 rfl
    obtain ⟨a1, i1, l1⟩ := str_of hrow1 hst
    refine i1 _ _ ?_
    refine l1 _ (Ext.refl _) _ ?_
    clear i1 l1 hrow1
    refine ts_callE en_joineryref4_Parse (c_fParse _ (by omega)) h ?_
    rintro v w9 ⟨pc, lc, mc, tc, rfl, k⟩ mg
    have h := mg _ k
    rw [hpt] at h ⊢
    rw [xe20, xe21]
    obtain ⟨tv, hv⟩ := h.st
    have fl : Flats pc lc mc tc := st_flats (r := r) hv fun q hq => List.mem_append_right _ (List.mem_append_left _ hq)
    refine st_alloc zv_api_Record hv ?_
    intro q8 w10 _ hv
    refine st_store sz_api_Record hv 0 rfl rfl rfl (fl.all _) ?_
    intro w11 hv
    simp only [go_sem] at hv
    have hv : St [] w (.blk q8 (recO r pc lc mc tc) :: (tapeR b tv (rs.map textM) 0 ++ (recR r pc lc mc tc ++ (.row T_string 1 sv rs.length (strsL (rs.map textM)) :: .row T_api_Record 10 (.slice ao rs.length cap) rs.length (recsL l) :: (resL l ++ []))))) w11.drew := hv.step (Ext.drew _)
    have hmem : ∀ q ∈ recR4 (r, px, lx, mx, tx), q ∈ (.blk q8 (recO r pc lc mc tc) :: (tapeR b tv (rs.map textM) 0 ++ (recR r pc lc mc tc ++ (.row T_string 1 sv rs.length (strsL (rs.map textM)) :: .row T_api_Record 10 (.slice ao rs.length cap) rs.length (recsL l) :: (resL l ++ []))))) := fun q hq => by
      have := resL_at hyl q hq
      simp only [List.mem_cons, List.mem_append]
      exact .inr (.inr (.inr (.inr (.inr (.inl this)))))
    have hE : ∀ {w' : World}, Ext w11.drew w' → Ext w w' := fun e => hv.ext.trans e
    have hE2 : ∀ {w' : World}, Ext w11.drew w' → Ext w11.drew w' := fun e => e
    have hrow1 : Row w11.drew 1 sv (rs.map textM).length (strsL (rs.map textM)) := by rw [lm]; exact Row.of_own (hv.atR 7 rfl)
    obtain ⟨a1, is1, ls⟩ := str_of hrow1 hst
    have hrow2 := Row.clip (Row.of_own (hv.atR 8 rfl))
    obtain ⟨b2, o2, ir, c2⟩ := hrow2.at (k := .i64) und_sl_api_Record sz_api_Record (i := j) (by omega)
    have lr : ∀ w', Ext w11.drew w' → ∀ K : Value → World → Prop, K (recV r px lx mx tx) w' → XLoad Tryz.prog T_api_Record (.pointer (some ⟨b2, o2, none⟩)) w' K := fun w' e K hk => ldN_of ag_api_Record sz_api_Record (vs := recC r px lx mx tx) rfl (fun jj hj => (c2 _ e jj hj).trans (recsL_at (x := (r, px, lx, mx, tx)) hyl jj hj)) hk
    have l8 : ∀ w', Ext w11.drew w' → ∀ K : Value → World → Prop, K (recV r pc lc mc tc) w' → XLoad Tryz.prog T_api_Record (.pointer (some ⟨q8, 0, none⟩)) w' K := fun w' e K hk => st_loadW ag_api_Record sz_api_Record (hv.step e) 0 rfl rfl hk
    have ra : RecAt w11.drew r (recV r px lx mx tx) := rec4_at (y := (r, px, lx, mx, tx)) hv hmem
    have rp : RecAt w11.drew r (recV r pc lc mc tc) := ⟨pc, lc, mc, tc, rfl, Row.of_own (hv.atR 3 rfl), Row.of_own (hv.atR 4 rfl), Row.of_own (hv.atR 5 rfl), Row.of_own (hv.atR 6 rfl)⟩
    have hsm : ∀ w', Ext w11.drew w' → RetV Tryz.prog F_joineryref4_Same #[recV r pc lc mc tc, recV r px lx mx tx] w' (.bool true) := fun w' e => by
      have := c_rSame (rp.mono e) (ra.mono e) hsmall
      rw [decide_eq_true rfl] at this
      exact this
    have htx : ∀ w', Ext w11.drew w' → RetV Tryz.prog F_joineryref4_Text #[recV r px lx mx tx] w' (S (textM r)) := fun w' e => c_rText (ra.mono e) hrk
    obtain ⟨bc, oc, ic, lk, lN, lns⟩ := call_of hp hy
    refine ⟨Ext, Ext, preExt, ?_⟩
    repeat
      apply Exists.intro
      apply And.intro
      · first
          | (rw [xg_ft]; try rfl)
          | (rw [xg_tf]; try rfl)
          | (rw [xg_undef]; try rfl)
          | ((try rw [xg_same]); intro w3; first
              | exact ic _ _ ⟨rfl, rfl⟩
              | exact ir _ _ ⟨rfl, rfl⟩
              | exact is1 _ _ ⟨rfl, rfl⟩
              | (rw [fld_joinerylaw9_Call_Kind]; exact ⟨rfl, rfl⟩)
              | (rw [fld_joinerylaw9_Call_N]; exact ⟨rfl, rfl⟩)
              | (rw [fld_joinerylaw9_Call_Ns]; exact ⟨rfl, rfl⟩)
              | (rw [xpick_true]; exact ⟨rfl, rfl⟩)
              | (rw [xpick_false]; exact ⟨rfl, rfl⟩)
              | (rw [xnot, Bool.not_true]; exact ⟨rfl, rfl⟩)
              | (rw [xnot, Bool.not_false]; exact ⟨rfl, rfl⟩)
              | (rw [xquoN hni (by omega)]; exact ⟨rfl, rfl⟩)
              | (rw [xneq, decide_eq_false (by omega)]; exact ⟨rfl, rfl⟩)
              | (rw [xsneq, decide_eq_false (by simp)]; exact ⟨rfl, rfl⟩)
              | (intro e3; first
                  | exact lk _ (hE e3) _ ⟨rfl, Ext.refl _⟩
                  | exact lN _ (hE e3) _ ⟨rfl, Ext.refl _⟩
                  | exact lns _ (hE e3) _ ⟨rfl, Ext.refl _⟩
                  | exact lr _ (hE2 e3) _ ⟨rfl, Ext.refl _⟩
                  | exact ls _ (hE2 e3) _ ⟨rfl, Ext.refl _⟩
                  | exact l8 _ (hE2 e3) _ ⟨rfl, Ext.refl _⟩
                  | exact xcall_of (en_joineryref4_Same _) (hsm _ (hE2 e3)) fun _ _ hq => hq
                  | exact xcall_of (en_joineryref4_Text _) (htx _ (hE2 e3)) fun _ _ hq => hq)
              | exact ⟨rfl, rfl⟩)
    intro w12 e12
    have hv := hv.step e12
    rw [xg_same]
    have hmk := c_make c.kind c.n (c.n.tdiv 7) (ck.row.mono hv.ext) ck.ns
    rw [show makeM c.kind c.n c.ns (c.n.tdiv 7) = r from hR] at hmk
    refine xcall_of (en_joinerylaw4_Make _) hmk ?_
    rintro rv w13 ⟨pd, ld, md, td, rfl, k⟩
    have e13 := k.ext
    have hv := hv.step e13
    refine ⟨e13, fun w14 e14 => ?_⟩
    have hv := hv.step e14
    rw [xg_same]
    have rd : RecAt w14 r (recV r pd ld md td) := (recR_at (L := []) k).mono e14
    have hs2 := c_rSame (ra.mono ((e12.trans e13).trans e14)) rd hsmall
    rw [decide_eq_true rfl] at hs2
    refine st_callV en_joineryref4_Same hs2 hv ?_
    intro w15 hv
    refine ⟨.bool false, xgS (fun w3 => by rw [xnot, Bool.not_true]; exact ⟨rfl, rfl⟩), .bool false, fun w3 => by rw [xpick_false]; exact ⟨rfl, rfl⟩, ?_⟩
    rw [xc_false, xadd, wi64 (by omega) (by omega)]
    refine ⟨⟨j + 1, by omega, rfl, ⟨tv, ?_⟩, h.good, h.le, h.few⟩, lenI_succ (by omega)⟩
    exact hv.perm (((List.Sublist.refl (tapeR b tv (rs.map textM) 0)).append (List.sublist_append_right (recR r pc lc mc tc) _)).cons _)
  · intro _
    exact ⟨rfl, h.ext⟩
end Go.Proofs.YthkgbajldkicfaaGreatDoor
