/-
  The document's own check of a record, and its own reading of a line: what the program's says.
-/
import Derived.Test.YthkgbajldkicfaaGreatDoorRfF
namespace Go.Proofs.YthkgbajldkicfaaGreatDoor
set_option linter.unusedVariables false
set_option linter.unusedSimpArgs false
open Go Go.Jo
set_option maxRecDepth 100000

theorem xgS' {b : Bool} {p q : Prop} (h : p) : XG (.bool b) b p q := by rw [xg_same]; exact h
set_option maxHeartbeats 4000000 in
theorem c_fCheck {w : World} {r : RecM} {v : Value} (hr : RecAt w r v) (hz : RecSmall r) (h1 : 1 ≤ r.kind) (h7 : r.kind ≤ 7) : RetV Tryz.prog F_joineryref4_Check #[v] w (.int .i64 (checkM r)) := by
  refine call_joineryref4_Check ?_
  have hr0 := hr
  have h := St.start w
  unfold S_joineryref4_Check
  obtain ⟨pv, lv, mv, tv, rfl, hp, hl, hm, ht⟩ := hr
  refine st_box h ?_
  intro b w1 hb h
  try simp only [go_sem] at h
  have h : St [] w [.blk b (recO r pv lv mv tv)] w1 := h
  have h := h.step (Ext.drew _)
  have e1 := h.ext
  refine ⟨Ext, Ext, preExt, .pointer (some ⟨b, 0 + 0, none⟩), fun w3 => by rw [fld_api_Record_Kind]; exact ⟨rfl, rfl⟩, .int .i64 r.kind, fun w3 e3 => st_load ag_int (h.step e3) 0 rfl rfl ⟨rfl, Ext.refl _⟩, .bool false, fun w3 => by rw [xlss, decide_eq_false (by omega)]; exact ⟨rfl, rfl⟩, .pointer (some ⟨b, 0 + 0, none⟩), xgS' fun w3 => by rw [fld_api_Record_Kind]; exact ⟨rfl, rfl⟩, .int .i64 r.kind, xgS' fun w3 e3 => st_load ag_int (h.step e3) 0 rfl rfl ⟨rfl, Ext.refl _⟩, .bool false, xgS' fun w3 => by rw [xgtr, decide_eq_false (by omega)]; exact ⟨rfl, rfl⟩, .bool false, fun w3 => by rw [xpick_false]; exact ⟨rfl, rfl⟩, recV r pv lv mv tv, xgS' fun w3 e3 => st_loadW ag_api_Record sz_api_Record (h.step e3) 0 rfl rfl ⟨rfl, Ext.refl _⟩, recV r pv lv mv tv, xgS' fun w3 e3 => st_loadW ag_api_Record sz_api_Record (h.step e3) 0 rfl rfl ⟨rfl, Ext.refl _⟩, fun w2 e2 => ?_⟩
  have h := h.step e2
  rw [xg_same]
  refine xcall_of (en_joineryref4_kept _) (c_fKept (hr0.mono h.ext)) ?_
  rintro v3 w3 ⟨hk, e3⟩
  have h := h.step e3
  refine ⟨e3, fun w4 e4 => ?_⟩
  have h := h.step e4
  rw [xg_same]
  refine st_callV en_joineryref4_Same (c_rSame (hr0.mono h.ext) (hk.mono e4) hz) h ?_
  intro w5 h
  have hmm := kept_iff h1 h7
  refine ⟨.bool (moreM r), xgS' fun w3 => by rw [xnot, hmm]; exact ⟨rfl, rfl⟩, .bool (moreM r), fun w3 => by rw [xpick_false]; exact ⟨rfl, rfl⟩, ?_⟩
  refine xc_of ?_ ?_
  · intro hmt
    refine ⟨?_, h.ext⟩
    rw [checkM, if_pos (.inr (.inr hmt))]
  intro hmf
  have hc0 : ¬ (r.kind < 1 ∨ 7 < r.kind ∨ moreM r = true) := by
    rintro (hh | hh | hh)
    · omega
    · omega
    · rw [hmf] at hh; cases hh
  rw [fld_api_Record_Kind]
  refine st_load ag_int (v := .int .i64 r.kind) h 0 rfl rfl ?_
  rw [xeql]
  refine xc_dec ?_ ?_
  · intro k1
    rw [fld_api_Record_Node]
    refine st_loadN ag_api_Node sz_api_Node h 0 rfl rfl (vs := nodeC r.node.name r.node.cap mv tv r.node.closed) rfl ?_
    refine st_callV en_joineryref3_Node (c_fNode (hm.mono h.ext) (ht.mono h.ext) hz.node) h ?_
    intro w6 h
    refine ⟨?_, h.ext⟩
    rw [checkM, if_neg hc0, if_pos k1]
  intro k1
  rw [xeql]
  refine xc_dec ?_ ?_
  · intro k2
    rw [fld_api_Record_Node, fld_api_Node_Name]
    refine st_load ag_string (v := S r.node.name) h 0 rfl rfl ?_
    refine st_callV en_joineryref2_Name (c_fMarkName _ _ hz.node.name) h ?_
    intro w6 h
    rw [xnot]
    refine xc_of ?_ ?_
    · intro hn
      refine ⟨?_, h.ext⟩
      rw [checkM, if_neg hc0, if_neg k1, if_pos ⟨k2, by simpa using hn⟩]
    · intro hn
      refine ⟨?_, h.ext⟩
      rw [checkM, if_neg hc0, if_neg k1, if_neg (by rw [show nameM r.node.name = true by simpa using hn]; simp), if_pos k2]
  intro k2
  have hc : checkM r = if r.gang < 1 ∨ 999999 < r.gang ∨ peeredI r.kind = true ∧ risingM r.peers = false then 2 else if r.kind = 3 then placesE r.places else 0 := by
    rw [checkM, if_neg hc0, if_neg k1, if_neg (fun hh => k2 hh.1), if_neg k2]
  rw [fld_api_Record_Gang]
  refine st_load ag_int (v := .int .i64 r.gang) h 0 rfl rfl ?_
  rw [xlss]
  refine or_st h (decide (999999 < r.gang)) ?_ ?_
  · intro _ J hJ
    rw [fld_api_Record_Gang]
    refine st_load ag_int (v := .int .i64 r.gang) h 0 rfl rfl ?_
    rw [xgtr]
    exact hJ _ h
  intro w6 h
  cases hq : decide (r.gang < 1) || decide (999999 < r.gang)
  · rw [Bool.or_eq_false_iff, decide_eq_false_iff_not, decide_eq_false_iff_not] at hq
    have tail : ∀ {w' : World} (hnp : ¬ (peeredI r.kind = true ∧ risingM r.peers = false)), St [] w [.blk b (recO r pv lv mv tv)] w' →
        XFld Tryz.prog T_api_Record (pt b) 0 w' fun v56 w58 => XLoad Tryz.prog T_int v56 w58 fun v57 w59 => XBin Tryz.prog .eql 3 false true v57 (Value.int .i64 3) w59 fun v58 w60 => XC v58 (XFld Tryz.prog T_api_Record (pt b) 3 w60 fun v59 w61 => XLoad Tryz.prog T_sl_api_Place v59 w61 fun v60 w62 => XCall Tryz.prog F_joineryref4_places #[v60] w62 fun v61 w63 => v61 = .int .i64 (checkM r) ∧ Ext w w63) ((.int .i64 0 : Value) = .int .i64 (checkM r) ∧ Ext w w60) := fun hnp h => by
      have hc2 : checkM r = if r.kind = 3 then placesE r.places else 0 := by
        rw [hc, if_neg]
        rintro (hh | hh | hh)
        · exact hq.1 hh
        · exact hq.2 hh
        · exact hnp hh
      rw [fld_api_Record_Kind]
      refine st_load ag_int (v := .int .i64 r.kind) h 0 rfl rfl ?_
      rw [xeql]
      refine xc_dec ?_ ?_
      · intro k3
        rw [fld_api_Record_Places]
        refine st_load ag_sl_api_Place h 0 rfl rfl ?_
        refine st_callV en_joineryref4_places (c_fPlaces (hl.mono h.ext) hz.pod) h ?_
        intro w7 h
        rw [hc2, if_pos k3]
        exact ⟨rfl, h.ext⟩
      · intro k3
        rw [hc2, if_neg k3]
        exact ⟨rfl, h.ext⟩
    have peer : ∀ {w' : World} {K : Value → World → Prop}, St [] w [.blk b (recO r pv lv mv tv)] w' → (∀ w'', St [] w [.blk b (recO r pv lv mv tv)] w'' → K (.bool (!risingM r.peers)) w'') → XFld Tryz.prog T_api_Record (pt b) 2 w' fun v50 w64 => XLoad Tryz.prog T_sl_int v50 w64 fun v51 w65 => XCall Tryz.prog F_joineryref4_peers #[v51] w65 fun v52 w66 => XUn Tryz.prog .not v52 w66 K := fun h hK => by
      rw [fld_api_Record_Peers]
      refine st_load ag_sl_int h 0 rfl rfl ?_
      refine st_callV en_joineryref4_peers (c_fPeers (hp.mono h.ext) (by have := hz.peers; omega)) h ?_
      intro w7 h
      rw [xnot]
      exact hK _ h
    have kin : ∀ {w' : World} {K : Value → World → Prop}, St [] w [.blk b (recO r pv lv mv tv)] w' → K (.int .i64 r.kind) w' → XFld Tryz.prog T_api_Record (pt b) 0 w' fun v41 w71 => XLoad Tryz.prog T_int v41 w71 K := fun h hK => by
      rw [fld_api_Record_Kind]
      exact st_load ag_int (v := .int .i64 r.kind) h 0 rfl rfl hK
    repeat first
      | refine Exists.intro _ (And.intro (fun _ _ _ hh => hh) ?_)
      | rw [xnot, Bool.not_true]
      | rw [xnot, Bool.not_false]
      | rw [xgeq, decide_eq_true (by omega)]
      | rw [xgeq, decide_eq_false (by omega)]
      | rw [xleq, decide_eq_true (by omega)]
      | rw [xleq, decide_eq_false (by omega)]
      | rw [xlss, decide_eq_true (by omega)]
      | rw [xlss, decide_eq_false (by omega)]
      | rw [xgtr, decide_eq_true (by omega)]
      | rw [xgtr, decide_eq_false (by omega)]
      | rw [xeql, decide_eq_true (by omega)]
      | rw [xeql, decide_eq_false (by omega)]
      | rw [xpick_true]
      | rw [xpick_false]
      | rw [xg_same]
      | rw [xg_tf]
      | rw [xg_ft]
      | rw [xg_undef]
      | rw [xc_true]
      | rw [xc_false]
    refine kin h ?_
    by_cases k3 : r.kind = 3
    · have hpk : peeredI r.kind = true := by rw [k3]; rfl
      repeat first
        | refine Exists.intro _ (And.intro (fun _ _ _ hh => hh) ?_)
        | rw [xnot, Bool.not_true]
        | rw [xnot, Bool.not_false]
        | rw [xgeq, decide_eq_true (by omega)]
        | rw [xgeq, decide_eq_false (by omega)]
        | rw [xleq, decide_eq_true (by omega)]
        | rw [xleq, decide_eq_false (by omega)]
        | rw [xlss, decide_eq_true (by omega)]
        | rw [xlss, decide_eq_false (by omega)]
        | rw [xgtr, decide_eq_true (by omega)]
        | rw [xgtr, decide_eq_false (by omega)]
        | rw [xeql, decide_eq_true (by omega)]
        | rw [xeql, decide_eq_false (by omega)]
        | rw [xpick_true]
        | rw [xpick_false]
        | rw [xg_same]
        | rw [xg_tf]
        | rw [xg_ft]
        | rw [xg_undef]
        | rw [xc_true]
        | rw [xc_false]
      refine peer h fun w7 h => ?_
      cases hrs : risingM r.peers
      · repeat first
          | refine Exists.intro _ (And.intro (fun _ _ _ hh => hh) ?_)
          | rw [xnot, Bool.not_true]
          | rw [xnot, Bool.not_false]
          | rw [xgeq, decide_eq_true (by omega)]
          | rw [xgeq, decide_eq_false (by omega)]
          | rw [xleq, decide_eq_true (by omega)]
          | rw [xleq, decide_eq_false (by omega)]
          | rw [xlss, decide_eq_true (by omega)]
          | rw [xlss, decide_eq_false (by omega)]
          | rw [xgtr, decide_eq_true (by omega)]
          | rw [xgtr, decide_eq_false (by omega)]
          | rw [xeql, decide_eq_true (by omega)]
          | rw [xeql, decide_eq_false (by omega)]
          | rw [xpick_true]
          | rw [xpick_false]
          | rw [xg_same]
          | rw [xg_tf]
          | rw [xg_ft]
          | rw [xg_undef]
          | rw [xc_true]
          | rw [xc_false]
        refine ⟨?_, h.ext⟩
        rw [hc, if_pos (.inr (.inr ⟨hpk, hrs⟩))]
      · rw [Bool.not_true]
        repeat first
          | refine Exists.intro _ (And.intro (fun _ _ _ hh => hh) ?_)
          | rw [xnot, Bool.not_true]
          | rw [xnot, Bool.not_false]
          | rw [xgeq, decide_eq_true (by omega)]
          | rw [xgeq, decide_eq_false (by omega)]
          | rw [xleq, decide_eq_true (by omega)]
          | rw [xleq, decide_eq_false (by omega)]
          | rw [xlss, decide_eq_true (by omega)]
          | rw [xlss, decide_eq_false (by omega)]
          | rw [xgtr, decide_eq_true (by omega)]
          | rw [xgtr, decide_eq_false (by omega)]
          | rw [xeql, decide_eq_true (by omega)]
          | rw [xeql, decide_eq_false (by omega)]
          | rw [xpick_true]
          | rw [xpick_false]
          | rw [xg_same]
          | rw [xg_tf]
          | rw [xg_ft]
          | rw [xg_undef]
          | rw [xc_true]
          | rw [xc_false]
        exact tail (by rw [hrs]; simp) h
    · repeat first
        | refine Exists.intro _ (And.intro (fun _ _ _ hh => hh) ?_)
        | rw [xnot, Bool.not_true]
        | rw [xnot, Bool.not_false]
        | rw [xgeq, decide_eq_true (by omega)]
        | rw [xgeq, decide_eq_false (by omega)]
        | rw [xleq, decide_eq_true (by omega)]
        | rw [xleq, decide_eq_false (by omega)]
        | rw [xlss, decide_eq_true (by omega)]
        | rw [xlss, decide_eq_false (by omega)]
        | rw [xgtr, decide_eq_true (by omega)]
        | rw [xgtr, decide_eq_false (by omega)]
        | rw [xeql, decide_eq_true (by omega)]
        | rw [xeql, decide_eq_false (by omega)]
        | rw [xpick_true]
        | rw [xpick_false]
        | rw [xg_same]
        | rw [xg_tf]
        | rw [xg_ft]
        | rw [xg_undef]
        | rw [xc_true]
        | rw [xc_false]
      refine kin h ?_
      by_cases k7 : r.kind = 7
      · have hpk : peeredI r.kind = true := by rw [k7]; rfl
        repeat first
          | refine Exists.intro _ (And.intro (fun _ _ _ hh => hh) ?_)
          | rw [xnot, Bool.not_true]
          | rw [xnot, Bool.not_false]
          | rw [xgeq, decide_eq_true (by omega)]
          | rw [xgeq, decide_eq_false (by omega)]
          | rw [xleq, decide_eq_true (by omega)]
          | rw [xleq, decide_eq_false (by omega)]
          | rw [xlss, decide_eq_true (by omega)]
          | rw [xlss, decide_eq_false (by omega)]
          | rw [xgtr, decide_eq_true (by omega)]
          | rw [xgtr, decide_eq_false (by omega)]
          | rw [xeql, decide_eq_true (by omega)]
          | rw [xeql, decide_eq_false (by omega)]
          | rw [xpick_true]
          | rw [xpick_false]
          | rw [xg_same]
          | rw [xg_tf]
          | rw [xg_ft]
          | rw [xg_undef]
          | rw [xc_true]
          | rw [xc_false]
        refine peer h fun w7 h => ?_
        cases hrs : risingM r.peers
        · repeat first
            | refine Exists.intro _ (And.intro (fun _ _ _ hh => hh) ?_)
            | rw [xnot, Bool.not_true]
            | rw [xnot, Bool.not_false]
            | rw [xgeq, decide_eq_true (by omega)]
            | rw [xgeq, decide_eq_false (by omega)]
            | rw [xleq, decide_eq_true (by omega)]
            | rw [xleq, decide_eq_false (by omega)]
            | rw [xlss, decide_eq_true (by omega)]
            | rw [xlss, decide_eq_false (by omega)]
            | rw [xgtr, decide_eq_true (by omega)]
            | rw [xgtr, decide_eq_false (by omega)]
            | rw [xeql, decide_eq_true (by omega)]
            | rw [xeql, decide_eq_false (by omega)]
            | rw [xpick_true]
            | rw [xpick_false]
            | rw [xg_same]
            | rw [xg_tf]
            | rw [xg_ft]
            | rw [xg_undef]
            | rw [xc_true]
            | rw [xc_false]
          refine ⟨?_, h.ext⟩
          rw [hc, if_pos (.inr (.inr ⟨hpk, hrs⟩))]
        · rw [Bool.not_true]
          repeat first
            | refine Exists.intro _ (And.intro (fun _ _ _ hh => hh) ?_)
            | rw [xnot, Bool.not_true]
            | rw [xnot, Bool.not_false]
            | rw [xgeq, decide_eq_true (by omega)]
            | rw [xgeq, decide_eq_false (by omega)]
            | rw [xleq, decide_eq_true (by omega)]
            | rw [xleq, decide_eq_false (by omega)]
            | rw [xlss, decide_eq_true (by omega)]
            | rw [xlss, decide_eq_false (by omega)]
            | rw [xgtr, decide_eq_true (by omega)]
            | rw [xgtr, decide_eq_false (by omega)]
            | rw [xeql, decide_eq_true (by omega)]
            | rw [xeql, decide_eq_false (by omega)]
            | rw [xpick_true]
            | rw [xpick_false]
            | rw [xg_same]
            | rw [xg_tf]
            | rw [xg_ft]
            | rw [xg_undef]
            | rw [xc_true]
            | rw [xc_false]
          exact tail (by rw [hrs]; simp) h
      · have hpk : peeredI r.kind = false := by
          unfold peeredI
          rw [decide_eq_false k3, decide_eq_false k7]
          rfl
        repeat first
          | refine Exists.intro _ (And.intro (fun _ _ _ hh => hh) ?_)
          | rw [xnot, Bool.not_true]
          | rw [xnot, Bool.not_false]
          | rw [xgeq, decide_eq_true (by omega)]
          | rw [xgeq, decide_eq_false (by omega)]
          | rw [xleq, decide_eq_true (by omega)]
          | rw [xleq, decide_eq_false (by omega)]
          | rw [xlss, decide_eq_true (by omega)]
          | rw [xlss, decide_eq_false (by omega)]
          | rw [xgtr, decide_eq_true (by omega)]
          | rw [xgtr, decide_eq_false (by omega)]
          | rw [xeql, decide_eq_true (by omega)]
          | rw [xeql, decide_eq_false (by omega)]
          | rw [xpick_true]
          | rw [xpick_false]
          | rw [xg_same]
          | rw [xg_tf]
          | rw [xg_ft]
          | rw [xg_undef]
          | rw [xc_true]
          | rw [xc_false]
        exact tail (by rw [hpk]; simp) h
  · rw [Bool.or_eq_true, decide_eq_true_eq, decide_eq_true_eq] at hq
    repeat first
      | refine Exists.intro _ (And.intro (fun _ _ _ hh => hh) ?_)
      | rw [xnot, Bool.not_true]
      | rw [xnot, Bool.not_false]
      | rw [xgeq, decide_eq_true (by omega)]
      | rw [xgeq, decide_eq_false (by omega)]
      | rw [xleq, decide_eq_true (by omega)]
      | rw [xleq, decide_eq_false (by omega)]
      | rw [xlss, decide_eq_true (by omega)]
      | rw [xlss, decide_eq_false (by omega)]
      | rw [xgtr, decide_eq_true (by omega)]
      | rw [xgtr, decide_eq_false (by omega)]
      | rw [xeql, decide_eq_true (by omega)]
      | rw [xeql, decide_eq_false (by omega)]
      | rw [xpick_true]
      | rw [xpick_false]
      | rw [xg_same]
      | rw [xg_tf]
      | rw [xg_ft]
      | rw [xg_undef]
      | rw [xc_true]
      | rw [xc_false]
    refine ⟨?_, h.ext⟩
    rw [hc, if_pos]
    rcases hq with hq | hq
    · exact .inl hq
    · exact .inr (.inl hq)
theorem tailM_kind (k : Nat) (r : RecM) (is : Bool) (rest : List Str) : (tailM k r is rest).1.kind = r.kind := by
  unfold tailM
  split <;> rfl
theorem readM_kind {l : List Str} (h : (readM l).2 = true) : 1 ≤ (readM l).1.kind ∧ (readM l).1.kind ≤ 7 := by
  match l, h with
  | [], h => cases h
  | [a], h => cases h
  | a :: b :: rest, h =>
    by_cases k0 : kindM a = 0
    · rw [readM_k0 k0] at h; cases h
    · have h7 := kindM_le a
      have hk := head_kind (kindM a) b
      cases hp : peeredM (kindM a)
      · rw [readM_bare k0 hp, tailM_kind, hk]
        omega
      · cases rest with
        | nil => rw [readM_nil k0 hp] at h; cases h
        | cons c t =>
          rw [readM_peer k0 hp, tailM_kind]
          show 1 ≤ (headM (kindM a) b).1.kind ∧ _
          rw [hk]
          omega
set_option maxHeartbeats 2000000 in
/-- The document's own reading of a line is the program's. -/
theorem c_fParse {w : World} (s : Str) (hs : s.length ≤ 900000) : Ret Tryz.prog F_joineryref4_Parse #[S s] w fun v w' => ∃ pv lv mv tv, v = .tuple #[recV (parseM s).1 pv lv mv tv, .int .i64 (parseM s).2] ∧ St [] w (recR (parseM s).1 pv lv mv tv) w' := by
  refine call_joineryref4_Parse ?_
  have h := St.start w
  unfold S_joineryref4_Parse
  have hw := words_small s
  refine st_alloc zv_api_Record h ?_
  intro b1 w1 hb1 h
  refine st_callE en_joineryref4_Words (c_fWords (by omega)) h ?_
  rintro v0 w2 k mg
  have h := mg _ k
  have hsm := read_small (wordsM s) (by omega) fun x hx => Nat.le_trans (hw.2 x hx) hs
  refine st_callE en_joineryref4_read (c_fRead (Row.of_own (h.atR 0 rfl)) (by omega) fun x hx => Nat.le_trans (hw.2 x hx) (by omega)) h ?_
  rintro v w3 ⟨r, pv, lv, mv, tv, rfl, hre, k⟩ mg
  have h := mg _ k
  have fl : Flats pv lv mv tv := st_flats (r := r) h fun q hq => List.mem_append_left _ hq
  have hz : ∀ {L : List Res} {w' : World}, St [] w L w' → St [] w (recR zRec nilV nilV nilV nilV) w' := fun h => (((h.nil.row0 T_string 1).row0 T_string 1).row0 T_api_Place 5).row0 T_int 1
  rw [xe20, xe21]
  refine st_alloc zv_api_Record h ?_
  intro b4 w4 hb4 h
  refine st_store sz_api_Record h 0 rfl rfl rfl (fl.all _) ?_
  intro w5 h
  try simp only [go_sem] at h
  have h : St [] w (.blk b4 (recO r pv lv mv tv) :: (recR r pv lv mv tv ++ [.row T_string 1 v0 (wordsM s).length (strsL (wordsM s)), .blk b1 (recO zRec nilV nilV nilV nilV)])) w5 := h
  rw [xnot]
  refine xc_of ?_ ?_
  · intro hn
    have hn : (readM (wordsM s)).2 = false := by simpa using hn
    rw [xbuild (v := recV zRec nilV nilV nilV nilV) (fun w => by kernel_rfl)]
    refine put_rec h 6 rfl ⟨rfl, rfl, rfl, rfl⟩ fun w6 h => ?_
    have hp : parseM s = (zRec, 8) := by rw [parseM, if_pos hn]
    rw [hp]
    exact ⟨_, _, _, _, rfl, hz h⟩
  · intro hn
    have hn : (readM (wordsM s)).2 = true := by simpa using hn
    obtain rfl := hre hn
    have hk := readM_kind hn
    refine st_loadW ag_api_Record sz_api_Record h 0 rfl rfl ?_
    refine st_callV en_joineryref4_Check (c_fCheck (recR_at h.drop) hsm hk.1 hk.2) h ?_
    intro w6 h
    rw [xneq]
    refine xc_dec ?_ ?_
    · intro hc
      rw [xbuild (v := recV zRec nilV nilV nilV nilV) (fun w => by kernel_rfl)]
      refine put_rec h 6 rfl ⟨rfl, rfl, rfl, rfl⟩ fun w7 h => ?_
      have hp : parseM s = (zRec, checkM (readM (wordsM s)).1) := by rw [parseM, if_neg (by rw [hn]; simp), if_pos hc]
      rw [hp]
      exact ⟨_, _, _, _, rfl, hz h⟩
    · intro hc
      have hp : parseM s = ((readM (wordsM s)).1, 0) := by rw [parseM, if_neg (by rw [hn]; simp), if_neg hc]
      refine st_loadW ag_api_Record sz_api_Record h 0 rfl rfl ?_
      refine st_store sz_api_Record h 6 rfl rfl rfl (fl.all _) ?_
      intro w7 h
      try simp only [go_sem] at h
      refine st_loadW ag_api_Record sz_api_Record h 6 rfl rfl ?_
      rw [hp]
      exact ⟨rfl, _, _, _, _, rfl, h.pick [1, 2, 3, 4] (by decide) rfl⟩
end Go.Proofs.YthkgbajldkicfaaGreatDoor
