/-
  The law LineEight, walked.
-/
import Derived.Test.YthkgbajldkicfaaGreatDoorKn
import Derived.Test.YthkgbajldkicfaaGreatDoorSame
import Derived.Test.YthkgbajldkicfaaGreatDoorXMem2
namespace Go.Proofs.YthkgbajldkicfaaGreatDoor
set_option linter.unusedVariables false
set_option linter.unusedSimpArgs false
open Go Go.Jo
set_option maxRecDepth 100000

def eC (i : Nat) : UInt8 := UInt8.ofNat (97 + i)
def eP (k : Nat) : List PlaceM := (List.range k).map fun i => ⟨[112, eC i], [110], zVec, false⟩
def eR (k : Nat) : RecM := ⟨3, 3, [2], eP k, zNode⟩
def eS : Nat → Str
  | 0 => [112, 114, 101, 112, 97, 114, 101, 32, 51, 32, 50]
  | i + 1 => eS i ++ [32] ++ [112, eC i] ++ [62, 110, 58, 48, 44, 48]
def eW (k : Nat) : Int := if k < 1 ∨ 8 < k then 3 else 0
def e8 (k : Nat) : Bool := decide ((parseM (eS k)).2 = eW k) && decide (checkM (eR k) = eW k) && (decide (eW k ≠ 0) || decide ((parseM (eS k)).1.places.length = k))
theorem e8_all : ∀ k, k < 11 → e8 k = true := by decide +kernel
def eT (k i j : Nat) : RecM := { eR k with places := (eP k).set i ⟨[112, eC j], [110], zVec, false⟩ }
def e9 (k : Nat) : Bool := (List.range k).all fun i => (List.range k).all fun j => decide (checkM (eT k i j) = 4) == decide (i ≠ j)
theorem e9_all : ∀ k, k < 9 → e9 k = true := by decide +kernel
abbrev LL8 (b12 b8 bp i : Nat) (pv plv mv tv lv : Value) : List Res := [.blk b12 (recO (parseM (eS i)).1 pv plv mv tv), .blk b8 (recO (eR 0) (.slice (some ⟨bp, 0, none⟩) 1 1) lv nilV nilV), .row T_int 1 (.slice (some ⟨bp, 0, none⟩) 1 1) 1 (intsL [2]), .row T_api_Place 5 lv i (placesL (eP i)), .row T_api_Place 5 plv (parseM (eS i)).1.places.length (placesL (parseM (eS i)).1.places)]
theorem eS_len (k : Nat) : (eS k).length = 11 + 9 * k := by
  induction k with
  | zero => rfl
  | succ k ih => simp [eS, ih]; omega
theorem eP_len (k : Nat) : (eP k).length = k := by simp [eP]
theorem eP_succ (k : Nat) : eP (k + 1) = eP k ++ [⟨[112, eC k], [110], zVec, false⟩] := by simp [eP, List.range_succ]
theorem eP_at {k i : Nat} (h : i < k) : (eP k)[i]? = some ⟨[112, eC i], [110], zVec, false⟩ := by simp [eP, h]
theorem placesL_pod : ∀ {l : List PlaceM} {i : Nat} {p : PlaceM} (s : Str), l[i]? = some p → (placesL l).set (i * 5) (S s) = placesL (l.set i { p with pod := s })
  | [], i, p, s, h => by simp at h
  | q :: l, 0, p, s, h => by
    have : q = p := by simpa using h
    subst this
    rfl
  | q :: l, i + 1, p, s, h => by
    have ih := placesL_pod (l := l) (i := i) (p := p) s (by simpa using h)
    have e : (i + 1) * 5 = i * 5 + 1 + 1 + 1 + 1 + 1 := by omega
    show (placeC q ++ placesL l).set ((i + 1) * 5) (S s) = placeC q ++ placesL (l.set i { p with pod := s })
    rw [e, ← ih]
    rfl
set_option maxHeartbeats 4000000 in
theorem c_LineEight {w : World} (he : EnvP w) (a b c : Int) : RetV Tryz.prog F_joinerylaw4_LineEight #[.int .i64 a, .int .i64 b, .int .i64 c] w (.bool true) := by
  refine call_joinerylaw4_LineEight ?_
  have h := (St.start w).row0 T_api_Place 5
  unfold S_joinerylaw4_LineEight
  refine st_callV en_joinerylaw4_known (c_known he) h ?_
  intro w1 h
  simp only [go_sem, Bool.not_true]
  obtain ⟨hk0, hk1⟩ := within_lt a 11 (by omega)
  refine st_callV en_joinerylaw4_within (c_within4 (a := a) (n := 11) w1 (by omega) (by omega)) h ?_
  intro w2 h
  obtain ⟨k, hk⟩ : ∃ k : Nat, withinM a 11 = (k : Int) := ⟨(withinM a 11).toNat, by omega⟩
  rw [hk] at hk1 ⊢
  have hk11 : k < 11 := by omega
  refine st_buildS (cs := (intsL [2]).toArray) (e := T_int) (fun w => by kernel_rfl) h ?_
  intro bp w3 hbp h
  have h := h.asRow 0 (k := 1) (sz := 1) rfl (by decide) (by kernel_rfl)
  rw [xbuild (v := recV (eR 0) (.slice (some ⟨bp, 0, none⟩) 1 1) nilV nilV nilV) (fun w => by kernel_rfl)]
  refine st_alloc zv_api_Record h ?_
  intro b8 w4 hb8 h
  try simp only [go_sem] at h
  refine st_store sz_api_Record h 0 rfl rfl rfl rfl ?_
  intro w5 h
  try simp only [go_sem] at h
  have h : St [] w [.blk b8 (recO (eR 0) (.slice (some ⟨bp, 0, none⟩) 1 1) nilV nilV nilV), .row T_int 1 (.slice (some ⟨bp, 0, none⟩) 1 1) 1 (intsL [2]), .row T_api_Place 5 nilV 0 (placesL (eP 0))] w5 := h
  refine ⟨fun u v w' => ∃ i lv, i ≤ k ∧ u = S (eS i) ∧ v = .int .i64 (i : Nat) ∧ St [] w [.blk b8 (recO (eR 0) (.slice (some ⟨bp, 0, none⟩) 1 1) lv nilV nilV), .row T_int 1 (.slice (some ⟨bp, 0, none⟩) 1 1) 1 (intsL [2]), .row T_api_Place 5 lv i (placesL (eP i))] w', fun _ v _ => lenI k v, ⟨0, nilV, Nat.zero_le _, rfl, rfl, h⟩, ?_⟩
  rintro - u v w6 ⟨i, lv, hi, rfl, rfl, h⟩
  rw [xlss]
  refine xc_dec ?_ ?_
  · intro hlt
    have hlt : i < k := by omega
    rw [xadd, wi64 (by omega) (by omega), xconv_int und_int und_uint8, wu8 (by omega) (by omega)]
    refine st_buildS (cs := #[.int .u8 (97 + (i : Int))]) (e := T_uint8) (fun w => by kernel_rfl) h ?_
    intro bc w7 hbc h
    have hu : (97 + (i : Int)) = ((eC i).toNat : Int) := by
      unfold eC
      rw [UInt8.toNat_ofNat']
      omega
    rw [hu] at h
    refine st_bytes1 (u := eC i) und_sl_uint8 und_uint8 und_string h 0 rfl ?_
    rw [xcat _ _ _ _ _ _ _ (by simp)]
    simp only [go_sem]
    refine st_load ag_sl_api_Place h 1 rfl rfl ?_
    rw [xbuild (v := placeV ⟨[112, eC i], [110], zVec, false⟩) (fun w => by kernel_rfl)]
    refine st_buildS (cs := (placeC ⟨[112, eC i], [110], zVec, false⟩).toArray) (e := T_api_Place) (fun w => by kernel_rfl) h ?_
    intro bq w8 hbq h
    refine app_sl_api_Place h 4 rfl (placeC ⟨[112, eC i], [110], zVec, false⟩) rfl (news_blk (h.at 0 rfl)) (by simp [Value.oneCell']) (by omega) ?_
    intro lv2 w9 h
    try simp only [go_sem] at h
    have hlv2 := h.atR 4 rfl
    refine st_storeC sz_sl_api_Place h 2 rfl (cells_own hlv2) rfl (flat_own hlv2) ?_
    intro w10 h
    try simp only [go_sem] at h
    have hl := eS_len i
    rw [xcat _ _ _ _ _ _ _ (by simp; omega), xcat _ _ _ _ _ _ _ (by simp; omega), xcat _ _ _ _ _ _ _ (by simp; omega), wi64 (by omega) (by omega)]
    have h := h.pick [2, 3, 4] (by decide) rfl
    refine ⟨⟨i + 1, lv2, hlt, rfl, rfl, ?_⟩, lenI_succ hlt⟩
    rw [eP_succ]
    have e : placesL (eP i ++ [⟨[112, eC i], [110], zVec, false⟩]) = placesL (eP i) ++ placeC ⟨[112, eC i], [110], zVec, false⟩ := by simp
    rw [e]
    exact h
  · intro hge
    have hi : i = k := by omega
    subst hi
    have hok := e8_all i hk11
    unfold e8 at hok
    simp only [Bool.and_eq_true, Bool.or_eq_true, decide_eq_true_eq] at hok
    obtain ⟨⟨hp2, hck⟩, hpl⟩ := hok
    have hl := eS_len i
    refine st_callE en_line_Parse (c_parseO (eS i) (he.mono h.ext) (by omega)) h ?_
    rintro rv w7 ⟨pv, plv, mv, tv, rfl, k7⟩ mg
    rw [hp2]
    have h := mg _ k7
    have hf : Flats pv plv mv tv := st_flats (r := (parseM (eS i)).1) h fun q hq => List.mem_append_left _ hq
    simp only [go_sem]
    refine st_alloc zv_api_Record h ?_
    intro b12 w8 hb12 h
    try simp only [go_sem] at h
    refine st_store sz_api_Record h 0 rfl rfl rfl (hf.all _) ?_
    intro w9 h
    try simp only [go_sem] at h
    have h : St [] w (LL8 b12 b8 bp i pv plv mv tv lv) w9 := h.pick [0, 5, 6, 7, 2] (by decide) rfl
    have eW0 : ∀ {w'}, St [] w (LL8 b12 b8 bp i pv plv mv tv lv) w' → RecAt w' (eR i) (recV (eR 0) (.slice (some ⟨bp, 0, none⟩) 1 1) lv nilV nilV) := fun h =>
      ⟨_, lv, nilV, nilV, rfl, Row.of_own (h.atR 2 rfl), by have := Row.of_own (h.atR 3 rfl); rw [show (eR i).places = eP i from rfl, eP_len]; exact this, Row.nil _ _, Row.nil _ _⟩
    have hsm : ∀ l : List PlaceM, l.length ≤ 1000 → (∀ p ∈ l, p.pod.length ≤ 1000 ∧ p.node.length ≤ 1000) → RecSmall { eR i with places := l } := fun l h1 h2 => ⟨by simp [eR], by simp only; omega, fun p hp => by have := h2 p hp; omega, zNode_small⟩
    have hps : ∀ p ∈ eP i, p.pod.length ≤ 1000 ∧ p.node.length ≤ 1000 := fun p hp => by
      obtain ⟨j, _, rfl⟩ := List.mem_map.1 hp
      simp
    have chk : ∀ {w'} {K : Value → World → Prop}, (h : St [] w (LL8 b12 b8 bp i pv plv mv tv lv) w') → (∀ w2, St [] w (LL8 b12 b8 bp i pv plv mv tv lv) w2 → K (.int .i64 (eW i)) w2) →
        XLoad Tryz.prog T_api_Record (pt b8) w' fun v w2 => XCall Tryz.prog F_line_Check #[v] w2 K := fun h hk => by
      refine st_loadW ag_api_Record sz_api_Record h 1 rfl rfl ?_
      refine st_callV en_line_Check (c_check (eW0 h) (hsm (eP i) (by rw [eP_len]; omega) hps)) h ?_
      intro w2 h
      rw [hck]
      exact hk w2 h
    refine ⟨fun u w' => u = .int .i64 (eW i) ∧ St [] w (LL8 b12 b8 bp i pv plv mv tv lv) w', ?_, ?_⟩
    · rintro - u w10 ⟨rfl, h⟩
      refine chk h fun w11 h => ?_
      rw [xneq, decide_eq_false (by simp)]
      refine or_st h false ?_ ?_
      · intro _ J hJ
        rw [xneq, decide_eq_false (by simp)]
        exact hJ _ h
      intro w12 h
      refine or_st h (decide (eW i ≠ 0)) ?_ ?_
      · intro _ J hJ
        rw [xneq]
        exact hJ _ h
      intro w13 h
      refine xc_of ?_ ?_
      · intro hw
        refine chk h fun w14 h => ?_
        rw [xeql, decide_eq_true rfl]
        refine and_st h true ?_ ?_
        · intro _ J hJ
          rw [xeql, decide_eq_true rfl]
          exact hJ _ h
        intro w15 h
        exact ⟨rfl, h.ext⟩
      · intro hw
        have hw : eW i = 0 := by simpa using hw
        have hi8 : 1 ≤ i ∧ i ≤ 8 := by
          unfold eW at hw
          split at hw
          · simp at hw
          · omega
        have hlen : (parseM (eS i)).1.places.length = i := hpl.resolve_left fun hh => hh hw
        obtain ⟨ha0, ha1⟩ := within_lt b (i : Int) (by omega)
        obtain ⟨hb0, hb1⟩ := within_lt c (i : Int) (by omega)
        obtain ⟨ia, hia⟩ : ∃ n : Nat, withinM b (i : Int) = (n : Int) := ⟨(withinM b (i : Int)).toNat, by omega⟩
        obtain ⟨jb, hjb⟩ : ∃ n : Nat, withinM c (i : Int) = (n : Int) := ⟨(withinM c (i : Int)).toNat, by omega⟩
        refine st_callV en_joinerylaw4_within (c_within4 (a := b) (n := (i : Int)) w13 (by omega) (by omega)) h ?_
        intro w14 h
        refine st_callV en_joinerylaw4_within (c_within4 (a := c) (n := (i : Int)) w14 (by omega) (by omega)) h ?_
        intro w15 h
        rw [hia, hjb]
        have hia' : ia < i := by omega
        have hjb' : jb < i := by omega
        have h := h.step (Ext.drew _)
        obtain ⟨g, cap, rfl⟩ : ∃ g cap, lv = .slice (some ⟨g, 0, none⟩) i cap := by
          rcases (h.atR 3 rfl).2 with ⟨_, h0⟩ | ⟨g, cap, cur, rfl, _⟩
          · omega
          · exact ⟨g, cap, rfl⟩
        have c9 := h.atR 3 rfl
        refine ⟨Ext, Ext, preExt, .pointer (some ⟨b8, 3, none⟩), fun w3 => ?_, .slice (some ⟨g, 0, none⟩) i cap, fun w3 e3 => ?_, .pointer (some ⟨b8, 3, none⟩), fun w3 => ?_, .slice (some ⟨g, 0, none⟩) i cap, fun w3 e3 => ?_, .pointer (some ⟨g, jb * 5, none⟩), fun w3 => ?_, .pointer (some ⟨g, jb * 5, none⟩), fun w3 => ?_, S [112, eC jb], fun w3 e3 => ?_, .pointer (some ⟨g, ia * 5, none⟩), fun w3 => ?_, .pointer (some ⟨g, ia * 5, none⟩), fun w3 => ?_, fun w16 e16 => ?_⟩
        · simp only [go_sem]; exact ⟨by trivial, by trivial⟩
        · exact st_load ag_sl_api_Place (h.step e3) 1 rfl rfl ⟨rfl, Ext.refl _⟩
        · simp only [go_sem]; exact ⟨by trivial, by trivial⟩
        · exact st_load ag_sl_api_Place (h.step e3) 1 rfl rfl ⟨rfl, Ext.refl _⟩
        · rw [idx_sl_api_Place (by omega) (by omega), Int.toNat_natCast, Nat.zero_add]; exact ⟨rfl, rfl⟩
        · simp only [go_sem]; exact ⟨by trivial, by trivial⟩
        · refine ld_of ag_string ?_ ⟨rfl, Ext.refl _⟩
          rw [(h.step e3).cellR (n := 3) rfl (by omega)]
          have := placesL_at (eP_at hjb') 0 (by omega)
          rw [Nat.add_zero] at this
          rw [this]
          rfl
        · rw [idx_sl_api_Place (by omega) (by omega), Int.toNat_natCast, Nat.zero_add]; exact ⟨rfl, rfl⟩
        · simp only [go_sem]; exact ⟨by trivial, by trivial⟩
        have h := h.step e16
        refine st_storeR sz_string h 3 rfl rfl rfl rfl (by omega) ?_
        intro w17 h
        rw [placesL_pod [112, eC jb] (eP_at hia')] at h
        simp only [go_sem] at h ⊢
        refine st_load ag_sl_api_Place h 0 rfl rfl ?_
        refine st_load ag_sl_api_Place h 0 rfl rfl ?_
        have rp := Row.of_own (h.atR 4 rfl)
        refine st_callV en_joineryref4_Places (c_rPlaces rp rp (by omega)) h ?_
        intro w18 h
        rw [decide_eq_true rfl]
        refine and_st h true ?_ ?_
        · intro _ J hJ
          try simp only [go_sem]
          refine st_load ag_sl_api_Place h 0 rfl rfl ?_
          refine (Row.of_own (h.atR 4 rfl)).len und_sl_api_Place ?_
          try rw [xeql]
          rw [decide_eq_true (by omega)]
          exact hJ _ h
        intro w19 h
        refine and_st h true ?_ ?_
        · intro _ J hJ
          refine st_loadW ag_api_Record sz_api_Record h 1 rfl rfl ?_
          have hset : ∀ p ∈ (eP i).set ia ⟨[112, eC jb], [110], zVec, false⟩, p.pod.length ≤ 1000 ∧ p.node.length ≤ 1000 := fun p hp => by
            rcases List.mem_or_eq_of_mem_set hp with hp | rfl
            · exact hps p hp
            · simp
          have hat : RecAt w19 (eT i ia jb) (recV (eR 0) (.slice (some ⟨bp, 0, none⟩) 1 1) (.slice (some ⟨g, 0, none⟩) i cap) nilV nilV) :=
            ⟨_, _, nilV, nilV, rfl, Row.of_own (h.atR 2 rfl), by have := Row.of_own (h.atR 3 rfl); rw [show (eT i ia jb).places = (eP i).set ia ⟨[112, eC jb], [110], zVec, false⟩ from rfl, List.length_set, eP_len]; exact this, Row.nil _ _, Row.nil _ _⟩
          refine st_callV en_line_Check (c_check hat (hsm _ (by rw [List.length_set, eP_len]; omega) hset)) h ?_
          intro w20 h
          have h9 := List.all_eq_true.1 (List.all_eq_true.1 (e9_all i (by omega)) ia (List.mem_range.2 hia')) jb (List.mem_range.2 hjb')
          have h9 : decide (checkM (eT i ia jb) = 4) = decide (ia ≠ jb) := by simpa using h9
          try rw [xeql]
          try rw [xneq]
          rw [xbeql (show Tryz.prog.underlying T_bool = some .bool by kernel_rfl)]
          have h10 : decide ((ia : Int) ≠ (jb : Int)) = decide (ia ≠ jb) := decide_eq_decide.2 (by omega)
          rw [h9, h10, decide_eq_true rfl]
          exact hJ _ h
        intro w20 h
        exact ⟨rfl, h.ext⟩
    · try rw [xlss]
      refine or_st h (decide (8 < i)) ?_ ?_
      · intro _ J hJ
        try rw [xgtr]
        have e : decide ((8 : Int) < (i : Int)) = decide (8 < i) := decide_eq_decide.2 (by omega)
        rw [e]
        exact hJ _ h
      intro w10 h
      refine xc_of ?_ ?_
      · intro hh
        have hh : i < 1 ∨ 8 < i := by simp only [Bool.or_eq_true, decide_eq_true_eq] at hh; omega
        exact ⟨by unfold eW; rw [if_pos hh], h⟩
      · intro hh
        have hh : ¬ (i < 1 ∨ 8 < i) := by simp only [Bool.or_eq_false_iff, decide_eq_false_iff_not] at hh; omega
        exact ⟨by unfold eW; rw [if_neg hh], h⟩
end Go.Proofs.YthkgbajldkicfaaGreatDoor
