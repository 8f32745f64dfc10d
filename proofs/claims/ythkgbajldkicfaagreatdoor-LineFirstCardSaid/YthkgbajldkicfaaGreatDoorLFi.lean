/-
  The law LineFirst, walked.
-/
import Derived.Test.YthkgbajldkicfaaGreatDoorRfP
import Derived.Test.YthkgbajldkicfaaGreatDoorLBl
namespace Go.Proofs.YthkgbajldkicfaaGreatDoor
set_option linter.unusedVariables false
set_option linter.unusedSimpArgs false
open Go Go.Jo
set_option maxRecDepth 100000

theorem st_permP {x : List Nat} {w0 w : World} {L L' : List Res} (h : St x w0 L w) (hp : L.Perm L') : St x w0 L' w :=
  ⟨h.chg, fun p hq => h.low p (hp.mem_iff.2 hq), hp.pairwise h.nd fun hh => Res.apart_symm hh, fun p hq => h.has p (hp.mem_iff.2 hq)⟩
theorem st_allocX {x : List Nat} {w0 w : World} {L : List Res} {t : TypeId} {z : Value} {K : Value → World → Prop} (hz : ∀ w, (zeroValue t).run Tryz.prog w = .ok z w) (h : St x w0 L w) (hk : ∀ (b : Nat) (w' : World), Ext w w' → St x w0 (.blk b (.cells z.cells t) :: L) w' → K (.pointer (some ⟨b, 0, none⟩)) w') : XAlloc Tryz.prog t w K := by
  rw [xalloc hz]
  exact hk _ _ (ext_alloc w _) (h.new _)
abbrev prsRes (R : RecM) (e : Int) (w : World) (v : Value) (w' : World) : Prop := ∃ pv lv mv tv, v = .tuple #[recV R pv lv mv tv, .int .i64 e] ∧ St [] w (recR R pv lv mv tv) w'
section
variable {w w1 : World} {L : List Res} {f : FuncId} {args : Array Value} {R : RecM} {e : Int} {K : Value → Value → World → Prop}
theorem st_pA (he : ∀ (args : Array Value) w, (callFunc f args).run Tryz.prog w = .ok (.enter f args) w) (hf : ∀ w1, Ext w w1 → Ret Tryz.prog f args w1 (prsRes R e w1)) (h : St [] w L w1)
    (hk : ∀ q pv lv mv tv w', St [] w (.blk q (recO R pv lv mv tv) :: (recR R pv lv mv tv ++ L)) w' → K (pt q) (.int .i64 e) w') :
    XCall Tryz.prog f args w1 fun v w2 => ∃ d1 : Value, (∀ w36 : World, XExt Tryz.prog v 0 w36 fun v64 w38 => v64 = d1 ∧ w38 = w36) ∧ ∃ d2 : Value, (∀ w39 : World, XExt Tryz.prog v 1 w39 fun v65 w41 => v65 = d2 ∧ w41 = w39) ∧
      XAlloc Tryz.prog T_api_Record w2 fun q w3 => XStore Tryz.prog T_api_Record q d1 w3 fun w4 => K q d2 w4 := by
  refine st_callE he (hf _ h.ext) h ?_
  rintro v w2 ⟨pv, lv, mv, tv, rfl, k⟩ mg
  have h := mg _ k
  have fl : Flats pv lv mv tv := st_flats (r := R) h fun q hq => List.mem_append_left _ hq
  refine ⟨recV R pv lv mv tv, fun w => by rw [xe20]; exact ⟨rfl, rfl⟩, .int .i64 e, fun w => by rw [xe21]; exact ⟨rfl, rfl⟩, ?_⟩
  refine st_alloc zv_api_Record h ?_
  intro q w3 _ h
  refine st_store sz_api_Record h 0 rfl rfl rfl (fl.all _) ?_
  intro w4 h
  try simp only [go_sem] at h
  exact hk q pv lv mv tv w4 h
theorem st_pB (he : ∀ (args : Array Value) w, (callFunc f args).run Tryz.prog w = .ok (.enter f args) w) (hf : ∀ w1, Ext w w1 → Ret Tryz.prog f args w1 (prsRes R e w1)) (h : St [] w L w1)
    (hk : ∀ q pv lv mv tv w', St [] w (.blk q (recO R pv lv mv tv) :: (recR R pv lv mv tv ++ L)) w' → K (pt q) (.int .i64 e) w') :
    XAlloc Tryz.prog T_api_Record w1 fun q w2 => Ext w1 w2 ∧ ∀ w3 : World, Ext w2 w3 → XCall Tryz.prog f args w3 fun v w2 => ∃ d1 : Value, (∀ w36 : World, XExt Tryz.prog v 0 w36 fun v64 w38 => v64 = d1 ∧ w38 = w36) ∧ ∃ d2 : Value, (∀ w39 : World, XExt Tryz.prog v 1 w39 fun v65 w41 => v65 = d2 ∧ w41 = w39) ∧
      XStore Tryz.prog T_api_Record q d1 w2 fun w4 => K q d2 w4 := by
  refine st_allocX zv_api_Record h ?_
  intro q w2 e2 h
  refine ⟨e2, fun w3 e3 => ?_⟩
  have h := h.step e3
  refine st_callE he (hf _ h.ext) h ?_
  rintro v w4 ⟨pv, lv, mv, tv, rfl, k⟩ mg
  have h := mg _ k
  have fl : Flats pv lv mv tv := st_flats (r := R) h fun q hq => List.mem_append_left _ hq
  refine ⟨recV R pv lv mv tv, fun w => by rw [xe20]; exact ⟨rfl, rfl⟩, .int .i64 e, fun w => by rw [xe21]; exact ⟨rfl, rfl⟩, ?_⟩
  have h := st_permP h (L' := .blk q (recO zRec nilV nilV nilV nilV) :: (recR R pv lv mv tv ++ L)) List.perm_middle
  refine st_store sz_api_Record h 0 rfl rfl rfl (fl.all _) ?_
  intro w5 h
  try simp only [go_sem] at h
  exact hk q pv lv mv tv w5 h
end
/-- The kinds' words, a blank behind each. -/
def words7 : List Str := verbsM.map fun v => v ++ [32]
theorem words7_at {k : Nat} (hk : k < 7) : words7[k]? = some (verbsM.getD k [] ++ [32]) ∧ (verbsM.getD k []).length ≤ 7 := by
  have : ∀ k, k < 7 → words7[k]? = some (verbsM.getD k [] ++ [32]) ∧ (verbsM.getD k []).length ≤ 7 := by decide
  exact this k hk
theorem text_front {r : RecM} (h : RecOk r) : ∃ t : Str, t ≠ [] ∧ textM r = (headT r ++ [32]) ++ t := by
  have hw := words_no32 h (secT r) (by simp [wordsT, frontT])
  unfold textM wordsT frontT
  refine ⟨Lib.join (secT r :: ((if peeredI r.kind then [peersT r.peers] else []) ++ r.places.map placeT)) [32], ?_, ?_⟩
  · rw [Lib.join_cons]
    intro e
    exact hw.2 (List.append_eq_nil_iff.1 e).1
  · rw [List.cons_append, List.cons_append, List.cons_append, List.nil_append, Lib.join_cons, Lib.join_cons]
    simp [Lib.joinTail]
theorem holds_form (t : Str) : parseM ([104, 111, 108, 100, 115, 32] ++ t) = (zRec, 8) := by
  have hs : spl ([104, 111, 108, 100, 115, 32] ++ t) = [104, 111, 108, 100, 115] :: spl t := spl_word [104, 111, 108, 100, 115] t (by decide)
  have hr : (readM (wordsM ([104, 111, 108, 100, 115, 32] ++ t))).2 = false := by
    unfold wordsM
    split
    · rfl
    · rw [hs]
      cases h : spl t with
      | nil => rfl
      | cons b rest => rw [readM_k0 (by decide)]
  rw [parseM, if_pos hr]
theorem parse_small {s : Str} (hs : s.length ≤ 900000) : RecSmall (parseM s).1 := by
  have hw := words_small s
  have := read_small (wordsM s) (by omega) fun x hx => Nat.le_trans (hw.2 x hx) hs
  unfold parseM
  simp only
  split
  · exact zRec_small
  · split
    · exact zRec_small
    · exact this
theorem xcat' {w : World} (t : Str) (h : t.length ≤ 100000) {K : Value → World → Prop} : XBin Tryz.prog .add 9 true false (Value.string ⟨#[104, 111, 108, 100, 115, 32]⟩) (S t) w K = K (S ([104, 111, 108, 100, 115, 32] ++ t)) w := xcat _ _ _ [104, 111, 108, 100, 115, 32] t w K (by simp; omega)
set_option maxHeartbeats 8000000 in
theorem c_LineFirst {w : World} (he : EnvP w) (kind gang : Int) {p : Value} {ns : List Int} (hp : Row w 1 p ns.length (intsL ns)) (hns : ∀ x ∈ ns, i64 x) (name other : Int) : RetV Tryz.prog F_joinerylaw4_LineFirst #[.int .i64 kind, .int .i64 gang, p, .int .i64 name, .int .i64 other] w (.bool true) := by
  refine call_joinerylaw4_LineFirst ?_
  have h := St.start w
  unfold S_joinerylaw4_LineFirst
  refine st_callV en_joinerylaw4_known (c_known he) h ?_
  intro w1 h
  rw [xnot, Bool.not_true, xc_false]
  refine st_callE en_joinerylaw4_Make (c_make kind gang name (hp.mono h.ext) hns) h ?_
  rintro rv w2 ⟨pv, lv, mv, tv, rfl, k2⟩ mg
  have h := mg _ k2
  have hf := st_flats (r := makeM kind gang ns name) h fun q hq => List.mem_append_left _ hq
  have hr := make_rec kind gang ns name
  have htl := text_len hr
  generalize hR : makeM kind gang ns name = r at *
  refine st_alloc zv_api_Record h ?_
  intro b13 w3 hb13 h
  refine st_store sz_api_Record h 0 rfl rfl rfl (hf.all _) ?_
  intro w4 h
  try simp only [go_sem] at h
  have h : St [] w (.blk b13 (recO r pv lv mv tv) :: recR r pv lv mv tv) w4 := h
  refine st_loadW ag_api_Record sz_api_Record h 0 rfl rfl ?_
  refine st_callV en_line_Text (c_text (he.mono h.ext) (recR_at (L := []) h.drop) (tiny_ok hr)) h ?_
  intro w5 h
  refine st_buildS (cs := (strsL words7).toArray) (e := T_string) (fun w => by kernel_rfl) h ?_
  intro bs w6 hbs h
  have h := h.asRow 0 (k := 7) (sz := 1) rfl (by decide) (by kernel_rfl)
  have hrow : Row w6 1 (.slice (some ⟨bs, 0, none⟩) 7 7) words7.length (strsL words7) := Row.of_own (h.atR 0 rfl)
  have hlo := hr.lo
  have hhi := hr.hi
  obtain ⟨kn, hkn⟩ : ∃ kn : Nat, r.kind = (kn : Int) + 1 := ⟨(r.kind - 1).toNat, by omega⟩
  obtain ⟨hx, hvl⟩ := words7_at (k := kn) (by omega)
  have hhd : headT r = verbsM.getD kn [] := by
    unfold headT
    rw [if_pos ⟨hlo, hhi⟩, hkn]
    congr 1
  obtain ⟨t, htne, htx⟩ := text_front hr
  rw [hhd] at htx
  generalize hW : verbsM.getD kn [] ++ [32] = W at *
  have hWl : W.length ≤ 8 := by
    have : W.length = (verbsM.getD kn []).length + 1 := by rw [← hW, List.length_append]; rfl
    omega
  have htl2 : t.length ≤ 5000 := by
    have := congrArg List.length htx
    rw [List.length_append] at this
    omega
  have htp : 1 ≤ t.length := by
    cases t with
    | nil => exact absurd rfl htne
    | cons a l => simp
  rw [htx] at htl ⊢
  rw [fld_api_Record_Kind]
  refine st_load ag_int (v := .int .i64 r.kind) h 1 rfl rfl ?_
  rw [xsub, wi64 (by omega) (by omega), show r.kind - 1 = ((kn : Nat) : Int) by omega]
  obtain ⟨a0, i0, l0⟩ := str_of hrow hx
  have h0 := h
  refine i0 _ _ ?_
  refine l0 _ (Ext.refl _) _ ?_
  rw [xlen_string und_string, xlen_string und_string, xleq, decide_eq_false (by rw [List.length_append]; omega)]
  refine or_st h false ?_ ?_
  · intro _ J hJ
    rw [xlen_string und_string, xslice_to und_string (by omega) (by rw [List.length_append]; omega), Int.toNat_natCast, List.take_left, xsneq, decide_eq_false (by simp)]
    exact hJ _ h
  intro w7 h
  rw [Bool.or_false, xc_false]
  obtain ⟨k, hk, ek⟩ := within_nat other 7 (by omega)
  have ek : withinM other 7 = (k : Int) := ek
  refine st_callV en_joinerylaw4_within (c_within4 (a := other) (n := 7) _ (by omega) (by omega)) h ?_
  intro w8 h
  rw [ek]
  obtain ⟨hxk, hkl⟩ := words7_at hk
  have hVl : (verbsM.getD k [] ++ [32]).length = (verbsM.getD k []).length + 1 := by rw [List.length_append]; rfl
  generalize verbsM.getD k [] ++ [32] = V at *
  have hrow8 : Row w8.drew 1 (.slice (some ⟨bs, 0, none⟩) 7 7) words7.length (strsL words7) := (Row.of_own (h.atR 0 rfl)).mono (Ext.drew _)
  have h := h.step (Ext.drew _)
  obtain ⟨a1, i1, l1⟩ := str_of hrow8 hxk
  have hVt : (V ++ t).length ≤ 900000 := by rw [List.length_append]; omega
  have parse1 : ∀ w1, Ext w w1 → Ret Tryz.prog F_line_Parse #[S (V ++ t)] w1 (prsRes (parseM (V ++ t)).1 (parseM (V ++ t)).2 w1) := fun w1 e => c_parseO _ (he.mono e) hVt
  have parse2 : ∀ w1, Ext w w1 → Ret Tryz.prog F_joineryref4_Parse #[S (V ++ t)] w1 (prsRes (parseM (V ++ t)).1 (parseM (V ++ t)).2 w1) := fun w1 e => c_fParse _ hVt
  have hps := parse_small hVt
  refine ⟨Ext, Ext, preExt, .pointer (some a1), fun w3 => i1 _ _ ⟨rfl, rfl⟩, S V, fun w3 e3 => l1 _ e3 _ ⟨rfl, Ext.refl _⟩, .int .i64 (W.length : Nat), fun w3 => by rw [xlen_string und_string]; exact ⟨rfl, rfl⟩, S t, fun w3 => by rw [xslice_from und_string (by omega) (by rw [List.length_append]; omega), Int.toNat_natCast, List.drop_left]; exact ⟨rfl, rfl⟩, S (V ++ t), fun w3 => by rw [xcat _ _ _ _ _ _ _ (by omega)]; exact ⟨rfl, rfl⟩, fun w9 e9 => ?_⟩
  have h := h.step e9
  clear i1 l1 hrow8 h0 hrow i0 l0
  refine ⟨st_pA en_line_Parse parse1 h ?_, st_pB en_line_Parse parse1 h ?_⟩
  all_goals
    intro q16 pa la ma ta w10 h
    have hrow8 : Row w10.drew 1 (.slice (some ⟨bs, 0, none⟩) 7 7) words7.length (strsL words7) := (Row.of_own (h.atR 5 rfl)).mono (Ext.drew _)
    have h := h.step (Ext.drew _)
    obtain ⟨a1, i1, l1⟩ := str_of hrow8 hxk
    refine ⟨Ext, Ext, preExt, .pointer (some a1), fun w3 => i1 _ _ ⟨rfl, rfl⟩, S V, fun w3 e3 => l1 _ e3 _ ⟨rfl, Ext.refl _⟩, .int .i64 (W.length : Nat), fun w3 => by rw [xlen_string und_string]; exact ⟨rfl, rfl⟩, S t, fun w3 => by rw [xslice_from und_string (by omega) (by rw [List.length_append]; omega), Int.toNat_natCast, List.drop_left]; exact ⟨rfl, rfl⟩, S (V ++ t), fun w3 => by rw [xcat _ _ _ _ _ _ _ (by omega)]; exact ⟨rfl, rfl⟩, fun w11 e11 => ?_⟩
    have h := h.step e11
    clear i1 l1 hrow8
    refine ⟨st_pA en_joineryref4_Parse parse2 h ?_, st_pB en_joineryref4_Parse parse2 h ?_⟩
    all_goals
      intro q18 pb lb mb tb w12 h
      rw [xlen_string und_string, xslice_from und_string (by omega) (by rw [List.length_append]; omega), Int.toNat_natCast, List.drop_left, xcat' t (by omega)]
      refine st_callE en_line_Parse (c_parseO _ (he.mono h.ext) (by rw [List.length_append]; simp; omega)) h ?_
      rintro v w13 ⟨pc, lc, mc, tc, rfl, k⟩ mg
      have h := mg _ k
      rw [holds_form] at h ⊢
      have fl : Flats pc lc mc tc := st_flats (r := zRec) h fun q hq => List.mem_append_left _ hq
      rw [xe20, xe21]
      refine st_alloc zv_api_Record h ?_
      intro q20 w14 _ h
      refine st_store sz_api_Record h 0 rfl rfl rfl (fl.all _) ?_
      intro w15 h
      try simp only [go_sem] at h
      rw [xeql, decide_eq_true rfl]
      refine and_st h true ?_ ?_
      · intro _ J hJ
        refine st_loadW ag_api_Record sz_api_Record h 10 rfl rfl ?_
        refine st_loadW ag_api_Record sz_api_Record h 5 rfl rfl ?_
        refine st_callV en_joineryref4_Same (c_rSame (r := (parseM (V ++ t)).1) (s := (parseM (V ++ t)).1) ⟨pa, la, ma, ta, rfl, Row.of_own (h.atR 11 rfl), Row.of_own (h.atR 12 rfl), Row.of_own (h.atR 13 rfl), Row.of_own (h.atR 14 rfl)⟩ ⟨pb, lb, mb, tb, rfl, Row.of_own (h.atR 6 rfl), Row.of_own (h.atR 7 rfl), Row.of_own (h.atR 8 rfl), Row.of_own (h.atR 9 rfl)⟩ hps) h ?_
        intro w16 h
        rw [decide_eq_true rfl]
        exact hJ _ h
      intro w16 h
      refine and_st h true ?_ ?_
      · intro _ J hJ
        rw [xeql, decide_eq_true rfl]
        exact hJ _ h
      intro w17 h
      exact ⟨rfl, h.ext⟩
end Go.Proofs.YthkgbajldkicfaaGreatDoor
