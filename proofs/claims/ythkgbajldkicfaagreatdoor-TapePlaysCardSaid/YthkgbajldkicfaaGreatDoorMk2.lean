/-
  Records made of numbers: the whole of one.
-/
import Derived.Test.YthkgbajldkicfaaGreatDoorMk
namespace Go.Proofs.YthkgbajldkicfaaGreatDoor
set_option linter.unusedVariables false
set_option linter.unusedSimpArgs false
open Go Go.Jo
set_option maxRecDepth 100000

def kN (ns : List Int) (i : Nat) : Int := ns.getD i (i : Int)
def placeN (ns : List Int) (i : Nat) : PlaceM := ⟨[112, eC i], nameN (kN ns i), ⟨withinM ((kN ns i).tdiv 8) 1099511627777, withinM (kN ns i) 9⟩, decide (withinM ((kN ns i).tdiv 3) 3 = 0)⟩
def cntN (ns : List Int) : Nat := max 1 (min 8 ns.length)
def placesTo (ns : List Int) (k : Nat) : List PlaceM := (List.range k).map (placeN ns)
def placesN (ns : List Int) : List PlaceM := placesTo ns (cntN ns)
def gangN (g : Int) : Int := 1 + withinM g 999999
def kindN (k : Int) : Int := 1 + withinM k 7
def makeM (kind gang : Int) (ns : List Int) (name : Int) : RecM :=
  if kindN kind = 1 then ⟨1, 0, [], [], nodeN name (ns.headD 5)⟩
  else if kindN kind = 2 then ⟨2, 0, [], [], { zNode with name := nameN name }⟩
  else if kindN kind = 3 then ⟨3, gangN gang, peersN name, placesN ns, zNode⟩
  else if kindN kind = 7 then ⟨7, gangN gang, peersN name, [], zNode⟩
  else ⟨kindN kind, gangN gang, [], [], zNode⟩
theorem placesTo_succ (ns : List Int) (k : Nat) : placesTo ns (k + 1) = placesTo ns k ++ [placeN ns k] := by simp [placesTo, List.range_succ]
theorem placesTo_len (ns : List Int) (k : Nat) : (placesTo ns k).length = k := by simp [placesTo]
/-- A record is handed back out of one block, by way of another. -/
theorem fin_rec {x : List Nat} {w0 w : World} {L : List Res} {b9 b8 : Nat} {r z : RecM} {pv lv mv tv p2 l2 m2 t2 : Value} (h : St x w0 L w) (n m : Nat) (hn : L[n]? = some (.blk b9 (recO r pv lv mv tv))) (hm : L[m]? = some (.blk b8 (recO z p2 l2 m2 t2))) (hnm : m ≠ n) (hf : Flats pv lv mv tv) {K : Value → World → Prop} (hk : ∀ w', St x w0 (L.set m (.blk b8 (recO r pv lv mv tv))) w' → K (recV r pv lv mv tv) w') :
    XLoad Tryz.prog T_api_Record (pt b9) w fun v w4 => XStore Tryz.prog T_api_Record (pt b8) v w4 fun w5 => XLoad Tryz.prog T_api_Record (pt b8) w5 fun v w6 => w6 = w5 ∧ K v w5 := by
  refine st_loadW ag_api_Record sz_api_Record h n hn rfl ?_
  refine st_store sz_api_Record h m hm rfl rfl (hf.all r) ?_
  intro w' h
  try simp only [go_sem] at h
  have hlt := (List.getElem?_eq_some_iff.1 hm).1
  refine st_loadW ag_api_Record sz_api_Record h m (by rw [List.getElem?_set_self hlt]) rfl ⟨rfl, hk _ h⟩
set_option maxHeartbeats 4000000 in
theorem c_make {w : World} {p : Value} {ns : List Int} (kind gang name : Int) (hp : Row w 1 p ns.length (intsL ns)) (hns : ∀ x ∈ ns, i64 x) :
    Ret Tryz.prog F_joinerylaw4_Make #[.int .i64 kind, .int .i64 gang, p, .int .i64 name] w fun v w' => ∃ pv lv mv tv, v = recV (makeM kind gang ns name) pv lv mv tv ∧ St [] w (recR (makeM kind gang ns name) pv lv mv tv) w' := by
  refine call_joinerylaw4_Make ?_
  have h := (((St.start w).row0 T_string 1).row0 T_api_Place 5).row0 T_int 1
  unfold S_joinerylaw4_Make
  refine st_alloc zv_api_Record h ?_
  intro b8 w1 hb8 h
  try simp only [go_sem] at h
  obtain ⟨hk0, hk1⟩ := within_lt kind 7 (by omega)
  obtain ⟨hg0, hg1⟩ := within_lt gang 999999 (by omega)
  refine st_callV en_joinerylaw4_within (c_within4 (a := kind) (n := 7) _ (by omega) (by omega)) h ?_
  intro w2 h
  rw [xadd, wi64 (by omega) (by omega)]
  refine st_callV en_joinerylaw4_within (c_within4 (a := gang) (n := 999999) _ (by omega) (by omega)) h ?_
  intro w3 h
  rw [xadd, wi64 (by omega) (by omega)]
  rw [xbuild (v := recV ⟨kindN kind, gangN gang, [], [], zNode⟩ nilV nilV nilV nilV) (fun w => by kernel_rfl)]
  refine st_alloc zv_api_Record h ?_
  intro b9 w4 hb9 h
  try simp only [go_sem] at h
  refine st_store sz_api_Record h 0 rfl rfl rfl rfl ?_
  intro w5 h
  try simp only [go_sem] at h
  have h : St [] w [.blk b9 (recO ⟨kindN kind, gangN gang, [], [], zNode⟩ nilV nilV nilV nilV), .blk b8 (recO zRec nilV nilV nilV nilV), .row T_int 1 nilV 0 [], .row T_api_Place 5 nilV 0 [], .row T_string 1 nilV 0 []] w5 := h
  refine ⟨fun u w' => u = .int .i64 (ns.headD 5) ∧ St [] w [.blk b9 (recO ⟨kindN kind, gangN gang, [], [], zNode⟩ nilV nilV nilV nilV), .blk b8 (recO zRec nilV nilV nilV nilV), .row T_int 1 nilV 0 [], .row T_api_Place 5 nilV 0 [], .row T_string 1 nilV 0 []] w', ?_, ?_⟩
  · rintro - u w6 ⟨rfl, h⟩
    have hhd : i64 (ns.headD 5) := by
      cases ns with
      | nil => exact ⟨by decide, by decide⟩
      | cons x ns => exact hns x (by simp)
    try simp only [go_sem]
    refine st_load ag_int h 0 rfl rfl ?_
    rw [xeql]
    refine xc_dec ?_ ?_
    · intro k1
      have k1 : kindN kind = 1 := k1
      refine st_callE en_joinerylaw3_Node (c_node3 name (ns.headD 5) hhd _) h ?_
      rintro nv w7 ⟨mv, tv, rfl, k⟩ mg
      have h := mg _ k
      have hm := h.atR 0 rfl
      have ht := h.atR 1 rfl
      try simp only [go_sem]
      refine st_store sz_int h 2 rfl rfl rfl rfl ?_
      intro w8 h
      try simp only [go_sem] at h
      refine st_store sz_api_Node h 2 rfl rfl rfl (by simp only [Value.cells, List.all_cons, List.all_nil, flat_own hm, flat_own ht]; rfl) ?_
      intro w9 h
      try simp only [go_sem] at h
      have em : makeM kind gang ns name = ⟨1, 0, [], [], nodeN name (ns.headD 5)⟩ := by unfold makeM; rw [if_pos k1]
      rw [em]
      rw [k1] at h
      refine fin_rec (r := ⟨1, 0, [], [], nodeN name (ns.headD 5)⟩) (z := zRec) (pv := nilV) (lv := nilV) h 2 3 rfl rfl (by decide) ⟨rfl, rfl, flat_own hm, flat_own ht⟩ ?_
      intro w10 h
      exact ⟨_, _, _, _, rfl, h.pick [4, 5, 0, 1] (by decide) rfl⟩
    · intro k1
      have k1 : ¬ kindN kind = 1 := k1
      rw [xeql]
      refine xc_dec ?_ ?_
      · intro k2
        have k2 : kindN kind = 2 := k2
        refine st_callV en_joinerylaw2_Name (c_name2 name _) h ?_
        intro w7 h
        try simp only [go_sem]
        refine st_store sz_int h 0 rfl rfl rfl rfl ?_
        intro w8 h
        try simp only [go_sem] at h
        refine st_store sz_string h 0 rfl rfl rfl rfl ?_
        intro w9 h
        try simp only [go_sem] at h
        have em : makeM kind gang ns name = ⟨2, 0, [], [], { zNode with name := nameN name }⟩ := by unfold makeM; rw [if_neg k1, if_pos k2]
        rw [em]
        rw [k2] at h
        refine fin_rec (r := ⟨2, 0, [], [], { zNode with name := nameN name }⟩) (z := zRec) (pv := nilV) (lv := nilV) (mv := nilV) (tv := nilV) h 0 1 rfl rfl (by decide) ⟨rfl, rfl, rfl, rfl⟩ ?_
        intro w10 h
        have h := h.row0 T_string 1
        exact ⟨_, _, _, _, rfl, h.pick [3, 4, 5, 0] (by decide) rfl⟩
      · intro k2
        have k2 : ¬ kindN kind = 2 := k2
        rw [xeql]
        refine xc_dec ?_ ?_
        · intro k3
          have k3 : kindN kind = 3 := k3
          have em : makeM kind gang ns name = ⟨3, gangN gang, peersN name, placesN ns, zNode⟩ := by unfold makeM; rw [if_neg k1, if_neg k2, if_pos k3]
          rw [em]
          refine st_callR en_joinerylaw4_Peers (c_peersN name _) h ?_
          intro pv w7 h
          have hpv := h.atR 0 rfl
          try simp only [go_sem]
          refine st_storeC sz_sl_int h 1 rfl (cells_own hpv) rfl (flat_own hpv) ?_
          intro w8 h
          try simp only [go_sem] at h
          rw [k3] at h
          have h := h.pick [1, 2, 0, 4, 5] (by decide) rfl
          have h : St [] w [.blk b9 (recO ⟨3, gangN gang, [], [], zNode⟩ pv nilV nilV nilV), .blk b8 (recO zRec nilV nilV nilV nilV), .row T_int 1 pv (peersN name).length (intsL (peersN name)), .row T_api_Place 5 nilV 0 (placesL (placesTo ns 0)), .row T_string 1 nilV 0 []] w8 := h
          refine ⟨fun u w' => ∃ i lv, i ≤ cntN ns ∧ u = .int .i64 (i : Nat) ∧ St [] w [.blk b9 (recO ⟨3, gangN gang, [], [], zNode⟩ pv lv nilV nilV), .blk b8 (recO zRec nilV nilV nilV nilV), .row T_int 1 pv (peersN name).length (intsL (peersN name)), .row T_api_Place 5 lv i (placesL (placesTo ns i)), .row T_string 1 nilV 0 []] w', fun u _ => lenI (cntN ns) u, ⟨0, nilV, Nat.zero_le _, rfl, h⟩, ?_⟩
          rintro - u w9 ⟨i, lv, hi, rfl, h⟩
          have hc8 : cntN ns ≤ 8 := by unfold cntN; omega
          have hcond : (decide ((i : Int) < 8) && decide (i < ns.length) || decide (i = 0)) = decide (i < cntN ns) := by
            have b1 : decide ((i : Int) < 8) = decide (i < 8) := decide_eq_decide.2 (by omega)
            rw [b1, Bool.eq_iff_iff]
            simp only [Bool.or_eq_true, Bool.and_eq_true, decide_eq_true_eq]
            unfold cntN
            omega
          rw [xlss]
          refine and_st h (decide (i < ns.length)) ?_ ?_
          · intro _ J hJ
            refine hp.len und_sl_int ?_
            rw [xlss]
            have e : decide ((i : Int) < (ns.length : Int)) = decide (i < ns.length) := decide_eq_decide.2 (by omega)
            rw [e]
            exact hJ _ h
          intro w10 h
          refine or_st h (decide (i = 0)) ?_ ?_
          · intro _ J hJ
            rw [xeql]
            have e : decide ((i : Int) = 0) = decide (i = 0) := decide_eq_decide.2 (by omega)
            rw [e]
            exact hJ _ h
          intro w11 h
          rw [hcond]
          refine xc_dec ?_ ?_
          · intro hlt
            refine ⟨fun u w' => u = .int .i64 (kN ns i) ∧ St [] w [.blk b9 (recO ⟨3, gangN gang, [], [], zNode⟩ pv lv nilV nilV), .blk b8 (recO zRec nilV nilV nilV nilV), .row T_int 1 pv (peersN name).length (intsL (peersN name)), .row T_api_Place 5 lv i (placesL (placesTo ns i)), .row T_string 1 nilV 0 []] w', ?_, ?_⟩
            · rintro - u w12 ⟨rfl, h⟩
              have hkn : i64 (kN ns i) := by
                unfold kN
                rw [List.getD_eq_getElem?_getD]
                by_cases hl : i < ns.length
                · rw [List.getElem?_eq_getElem hl]; exact hns _ (List.getElem_mem _)
                · rw [List.getElem?_eq_none (by omega)]; exact ⟨by show (-9223372036854775808 : Int) ≤ (i : Int); omega, by show (i : Int) ≤ 9223372036854775807; omega⟩
              have h := h.step (Ext.drew _)
              have hu : (97 + (i : Int)) = ((eC i).toNat : Int) := by
                unfold eC
                rw [UInt8.toNat_ofNat']
                omega
              refine ⟨Ext, Ext, preExt, .pointer (some ⟨b9, 3, none⟩), fun w3 => ?_, lv, fun w3 e3 => ?_, .int .i64 (97 + (i : Int)), fun w3 => ?_, .int .u8 (97 + (i : Int)), fun w3 => ?_, S (nameN (kN ns i)), fun w3 e3 => ?_, .int .i64 ((kN ns i).tdiv 8), fun w3 => ?_, .int .i64 (withinM ((kN ns i).tdiv 8) 1099511627777), fun w3 e3 => ?_, .int .i64 (withinM (kN ns i) 9), fun w3 e3 => ?_, vecV (placeN ns i).need, fun w3 => ?_, .int .i64 ((kN ns i).tdiv 3), fun w3 => ?_, .int .i64 (withinM ((kN ns i).tdiv 3) 3), fun w3 e3 => ?_, .bool (placeN ns i).alone, fun w3 => ?_, fun w13 e13 => ?_⟩
              · simp only [go_sem]; exact ⟨by trivial, by trivial⟩
              · exact st_load ag_sl_api_Place (h.step e3) 0 rfl rfl ⟨rfl, Ext.refl _⟩
              · rw [xadd, wi64 (by omega) (by omega)]; exact ⟨rfl, rfl⟩
              · rw [xconv_int und_int und_uint8, wu8 (by omega) (by omega)]; exact ⟨rfl, rfl⟩
              · exact xcall_of (en_joinerylaw2_Name _) (c_name2 _ _) fun _ _ hq => hq
              · rw [xquoN hkn (by omega)]; exact ⟨rfl, rfl⟩
              · exact xcall_of (en_joinerylaw4_within _) (c_within4 _ (by omega) (by omega)) fun _ _ hq => hq
              · exact xcall_of (en_joinerylaw4_within _) (c_within4 _ (by omega) (by omega)) fun _ _ hq => hq
              · rw [xbuild (v := vecV (placeN ns i).need) (fun w => by kernel_rfl)]; exact ⟨rfl, rfl⟩
              · rw [xquoN hkn (by omega)]; exact ⟨rfl, rfl⟩
              · exact xcall_of (en_joinerylaw4_within _) (c_within4 _ (by omega) (by omega)) fun _ _ hq => hq
              · rw [xeql]; exact ⟨rfl, rfl⟩
              have h := h.step e13
              refine st_buildSE (cs := #[.int .u8 (97 + (i : Int))]) (e := T_uint8) (fun w => by kernel_rfl) h ?_
              intro bc w14 hbc e14 h
              refine ⟨e14, fun w15 e15 => ?_⟩
              have h := h.step e15
              rw [hu] at h
              refine st_bytes1 (u := eC i) und_sl_uint8 und_uint8 und_string h 0 rfl ?_
              refine ⟨Ext.refl _, S [112, eC i], fun w3 => ?_, placeV (placeN ns i), fun w3 => ?_, fun w16 e16 => ?_⟩
              · rw [xcat _ _ _ _ _ _ _ (by simp)]; exact ⟨rfl, rfl⟩
              · rw [xbuild (v := placeV (placeN ns i)) (fun w => by kernel_rfl)]; exact ⟨rfl, rfl⟩
              have h := h.step e16
              refine st_buildSE (cs := (placeC (placeN ns i)).toArray) (e := T_api_Place) (fun w => by kernel_rfl) h ?_
              intro bq w17 hbq e17 h
              refine ⟨e17, fun w18 e18 => ?_⟩
              have h := h.step e18
              refine app_sl_api_Place h 5 rfl (placeC (placeN ns i)) rfl (news_blk (h.at 0 rfl)) (by simp [Value.oneCell']) (by omega) ?_
              intro lv2 w19 h
              try simp only [go_sem] at h
              have hlv2 := h.atR 5 rfl
              refine ⟨.pointer (some ⟨b9, 3, none⟩), fun w3 => ?_, ?_⟩
              · simp only [go_sem]; exact ⟨by trivial, by trivial⟩
              refine st_storeC sz_sl_api_Place h 2 rfl (cells_own hlv2) rfl (flat_own hlv2) ?_
              intro w20 h
              try simp only [go_sem] at h
              rw [xadd, wi64 (by omega) (by omega)]
              refine ⟨⟨i + 1, lv2, hlt, rfl, ?_⟩, lenI_succ hlt⟩
              have h := h.pick [2, 3, 4, 5, 6] (by decide) rfl
              rw [placesTo_succ]
              have e : placesL (placesTo ns i ++ [placeN ns i]) = placesL (placesTo ns i) ++ placeC (placeN ns i) := by simp
              rw [e]
              exact h
            · refine hp.len und_sl_int ?_
              rw [xlss]
              refine xc_dec ?_ ?_
              · intro hl
                have hl : i < ns.length := by omega
                obtain ⟨b1, o1, i1, c1⟩ := hp.at (k := .i64) und_sl_int sz_int hl
                refine i1 _ _ ?_
                refine ld_of ag_int (v := .int .i64 (kN ns i)) ?_ ⟨rfl, h⟩
                have := c1 _ h.ext 0 (by omega)
                rw [Nat.add_zero] at this
                rw [this]
                simp [kN, List.getD_eq_getElem?_getD, hl]
              · intro hl
                have hl : ns.length ≤ i := by omega
                refine ⟨?_, h⟩
                simp [kN, List.getD_eq_getElem?_getD, hl]
          · intro hge
            have hi : i = cntN ns := by omega
            subst hi
            have hlv := h.atR 3 rfl
            have hpl : placesN ns = placesTo ns (cntN ns) := rfl
            refine fin_rec (r := ⟨3, gangN gang, peersN name, placesN ns, zNode⟩) (z := zRec) (mv := nilV) (tv := nilV) h 0 1 rfl rfl (by decide) ⟨flat_own (h.atR 2 rfl), flat_own hlv, rfl, rfl⟩ ?_
            intro w12 h
            have h := h.row0 T_string 1
            have h := h.pick [3, 4, 5, 0] (by decide) rfl
            refine ⟨_, _, _, _, rfl, ?_⟩
            rw [hpl]
            simp only [recR, placesTo_len]
            exact h
        · intro k3
          have k3 : ¬ kindN kind = 3 := k3
          rw [xeql]
          refine xc_dec ?_ ?_
          · intro k7
            have k7 : kindN kind = 7 := k7
            have em : makeM kind gang ns name = ⟨7, gangN gang, peersN name, [], zNode⟩ := by unfold makeM; rw [if_neg k1, if_neg k2, if_neg k3, if_pos k7]
            rw [em]
            refine st_callR en_joinerylaw4_Peers (c_peersN name _) h ?_
            intro pv w7 h
            have hpv := h.atR 0 rfl
            try simp only [go_sem]
            refine st_storeC sz_sl_int h 1 rfl (cells_own hpv) rfl (flat_own hpv) ?_
            intro w8 h
            try simp only [go_sem] at h
            rw [k7] at h
            refine fin_rec (r := ⟨7, gangN gang, peersN name, [], zNode⟩) (z := zRec) (lv := nilV) (mv := nilV) (tv := nilV) h 1 2 rfl rfl (by decide) ⟨flat_own hpv, rfl, rfl, rfl⟩ ?_
            intro w12 h
            have h := h.row0 T_string 1
            exact ⟨_, _, _, _, rfl, h.pick [1, 5, 6, 0] (by decide) rfl⟩
          · intro k7
            have k7 : ¬ kindN kind = 7 := k7
            have em : makeM kind gang ns name = ⟨kindN kind, gangN gang, [], [], zNode⟩ := by unfold makeM; rw [if_neg k1, if_neg k2, if_neg k3, if_neg k7]
            rw [em]
            refine fin_rec (r := ⟨kindN kind, gangN gang, [], [], zNode⟩) (z := zRec) (pv := nilV) (lv := nilV) (mv := nilV) (tv := nilV) h 0 1 rfl rfl (by decide) ⟨rfl, rfl, rfl, rfl⟩ ?_
            intro w12 h
            have h := h.row0 T_string 1
            exact ⟨_, _, _, _, rfl, h.pick [3, 4, 5, 0] (by decide) rfl⟩
  · refine hp.len und_sl_int ?_
    rw [xgtr]
    refine xc_dec ?_ ?_
    · intro hl
      have hl : 0 < ns.length := by omega
      obtain ⟨b1, o1, i1, c1⟩ := hp.at (k := .i64) und_sl_int sz_int hl
      refine i1 _ _ ?_
      refine ld_of ag_int (v := .int .i64 (ns.headD 5)) ?_ ⟨rfl, h⟩
      have := c1 _ h.ext 0 (by omega)
      rw [Nat.add_zero] at this
      rw [this]
      cases ns with
      | nil => simp at hl
      | cons x ns => rfl
    · intro hl
      have hl : ns = [] := List.eq_nil_of_length_eq_zero (by omega)
      subst hl
      exact ⟨rfl, h⟩
end Go.Proofs.YthkgbajldkicfaaGreatDoor
