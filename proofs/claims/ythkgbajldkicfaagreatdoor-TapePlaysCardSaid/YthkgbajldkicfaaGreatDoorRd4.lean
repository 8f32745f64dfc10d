/-
  A line is read.
-/
import Derived.Test.YthkgbajldkicfaaGreatDoorRd3
namespace Go.Proofs.YthkgbajldkicfaaGreatDoor
set_option linter.unusedVariables false
set_option linter.unusedSimpArgs false
open Go Go.Jo
set_option maxRecDepth 100000

abbrev placesL (l : List PlaceM) : List Value := l.flatMap placeC
theorem placesL_length (l : List PlaceM) : (placesL l).length = l.length * 5 := by
  induction l with
  | nil => rfl
  | cons p l ih => rw [placesL, List.flatMap_cons, List.length_append, List.length_cons]; simp only [placesL] at ih; rw [ih]; simp; omega
theorem placesL_one (l : List PlaceM) : ∀ u ∈ placesL l, u.oneCell' = true := fun u hu => by
  obtain ⟨p, _, hp⟩ := List.mem_flatMap.1 hu
  simp only [placeC, List.mem_cons, List.not_mem_nil, or_false] at hp
  rcases hp with rfl | rfl | rfl | rfl | rfl <;> rfl
theorem c_cloneP {w : World} {B : Nat} {v : Value} {l : List PlaceM} (h : w.ownsRow B T_api_Place 5 v l.length (placesL l)) (hl : l.length ≤ 1000000) : RetR Tryz.prog F_slices_Clone_api_Place_api_Place #[v] w T_api_Place 5 l.length (placesL l) := by
  refine call_slices_Clone_api_Place_api_Place ?_
  have h0 := St.start w
  unfold S_slices_Clone_api_Place_api_Place
  rcases own_cases h with ⟨rfl, hn⟩ | ⟨g, cap, rfl, hc, _, hcell⟩
  · have : l = [] := List.eq_nil_of_length_eq_zero hn
    subst this
    rw [xbin_v (P := Tryz.prog) (v := .bool true) (w' := w) (by kernel_rfl), xc_true]
    exact ⟨Ext.refl _, World.ownsRow_nil _ _ _ _⟩
  · rw [xbin_v (P := Tryz.prog) (v := .bool false) (w' := w) (by kernel_rfl), xc_false]
    refine st_buildR (cs := #[]) (e := T_api_Place) (sz := 5) (fun w => by kernel_rfl) (by decide) rfl h0 ?_
    intro v1 w1 h1
    have e1 := h1.chg.ext
    refine app_sl_api_Place h1 0 rfl (placesL l) (placesL_length l) (fun j u hj => ?_) (placesL_one l) (by omega) ?_
    · rw [Addr.add_lit, Nat.zero_add]
      have hj' : j < l.length * 5 := by
        rw [← placesL_length]
        exact (List.getElem?_eq_some_iff.1 hj).1
      exact cell_ext e1 ((hcell j hj').trans hj)
    · intro v2 w2 h2
      refine ⟨h2.chg.ext, ?_⟩
      have hr := h2.atR 0 rfl
      rw [Nat.zero_add] at hr
      refine ownsRow_base hr fun k hk => ?_
      exact (h2.low _ List.mem_cons_self k hk).resolve_left (by simp)

theorem c_peered (k : Nat) (w : World) (hk : k ≤ 7) : RetV Tryz.prog F_line_peered #[.int .i64 (k : Nat)] w (.bool (peeredM k)) := by
  refine call_line_peered ?_
  have h := St.start w
  unfold S_line_peered
  simp only [go_sem]
  refine or_st h (decide (k = 7)) ?_ ?_
  · intro _ J hJ
    have : decide ((k : Int) = 7) = decide (k = 7) := by congr 1; exact propext ⟨fun h => by omega, fun h => by omega⟩
    rw [this]
    exact hJ _ h
  · intro w1 h
    have : decide ((k : Int) = 3) = decide (k = 3) := by congr 1; exact propext ⟨fun h => by omega, fun h => by omega⟩
    rw [this]
    exact ⟨rfl, h.ext⟩

/-- A record, as a value. -/
abbrev recC (r : RecM) (pv lv mv tv : Value) : List Value := [.int .i64 r.kind, .int .i64 r.gang, pv, lv, S r.node.name, .int .i64 r.node.cap.cpu, .int .i64 r.node.cap.mem, mv, tv, .bool r.node.closed]
abbrev recV (r : RecM) (pv lv mv tv : Value) : Value := .agg (recC r pv lv mv tv).toArray
abbrev recO (r : RecM) (pv lv mv tv : Value) : Obj := .cells (recC r pv lv mv tv).toArray T_api_Record (0, 0)
abbrev recR (r : RecM) (pv lv mv tv : Value) : List Res := [.row T_int 1 pv r.peers.length (intsL r.peers), .row T_api_Place 5 lv r.places.length (placesL r.places), .row T_string 1 mv r.node.marks.length (strsL r.node.marks), .row T_string 1 tv r.node.taints.length (strsL r.node.taints)]
/-- What a value that is a record says. -/
def RecAt (w : World) (r : RecM) (v : Value) : Prop := ∃ pv lv mv tv, v = recV r pv lv mv tv ∧ Row w 1 pv r.peers.length (intsL r.peers) ∧ Row w 5 lv r.places.length (placesL r.places) ∧ Row w 1 mv r.node.marks.length (strsL r.node.marks) ∧ Row w 1 tv r.node.taints.length (strsL r.node.taints)
theorem RecAt.mono {w w' : World} {r : RecM} {v : Value} (h : RecAt w r v) (e : Ext w w') : RecAt w' r v := by
  obtain ⟨pv, lv, mv, tv, rfl, h1, h2, h3, h4⟩ := h
  exact ⟨pv, lv, mv, tv, rfl, h1.mono e, h2.mono e, h3.mono e, h4.mono e⟩

theorem set_same {L : List Res} {n : Nat} {r : Res} (h : L[n]? = some r) : L.set n r = L := by
  obtain ⟨hl, rfl⟩ := List.getElem?_eq_some_iff.1 h
  exact List.set_getElem_self hl
structure Flats (pv lv mv tv : Value) : Prop where
  p : flat pv = true
  l : flat lv = true
  m : flat mv = true
  t : flat tv = true
theorem Flats.all {pv lv mv tv : Value} (h : Flats pv lv mv tv) (r : RecM) : (recC r pv lv mv tv).all flat = true := by
  simp only [recC, List.all_cons, List.all_nil, h.p, h.l, h.m, h.t]
  rfl
theorem st_flats {x : List Nat} {w0 w : World} {L : List Res} {r : RecM} {pv lv mv tv : Value} (h : St x w0 L w) (hs : ∀ q ∈ recR r pv lv mv tv, q ∈ L) : Flats pv lv mv tv :=
  ⟨flat_own (h.has _ (hs (.row T_int 1 pv r.peers.length (intsL r.peers)) (by simp))), flat_own (h.has _ (hs (.row T_api_Place 5 lv r.places.length (placesL r.places)) (by simp))),
   flat_own (h.has _ (hs (.row T_string 1 mv r.node.marks.length (strsL r.node.marks)) (by simp))), flat_own (h.has _ (hs (.row T_string 1 tv r.node.taints.length (strsL r.node.taints)) (by simp)))⟩
theorem put_rec {x : List Nat} {w0 w : World} {L : List Res} {b : Nat} {r : RecM} {pv lv mv tv : Value} (h : St x w0 L w) (n : Nat) (hn : L[n]? = some (.blk b (recO r pv lv mv tv))) (hf : Flats pv lv mv tv) {K : Value → World → Prop} (hk : ∀ w', St x w0 L w' → K (recV r pv lv mv tv) w') :
    XStore Tryz.prog T_api_Record (pt b) (recV r pv lv mv tv) w fun w5 => XLoad Tryz.prog T_api_Record (pt b) w5 fun v w6 => w6 = w5 ∧ K v w5 := by
  refine st_store sz_api_Record h n hn rfl rfl (hf.all r) ?_
  intro w' h
  simp only [go_sem] at h
  rw [set_same hn] at h
  exact st_loadW ag_api_Record sz_api_Record h n hn rfl ⟨rfl, hk _ h⟩
theorem ret_rec {x : List Nat} {w0 w : World} {L : List Res} {b : Nat} {r : RecM} {pv lv mv tv : Value} (h : St x w0 L w) (n : Nat) (hn : L[n]? = some (.blk b (recO r pv lv mv tv))) (hf : Flats pv lv mv tv) {K : Value → World → Prop} (hk : ∀ w', St x w0 L w' → K (recV r pv lv mv tv) w') :
    XLoad Tryz.prog T_api_Record (pt b) w fun v w4 => XStore Tryz.prog T_api_Record (pt b) v w4 fun w5 => XLoad Tryz.prog T_api_Record (pt b) w5 fun v w6 => w6 = w5 ∧ K v w5 :=
  st_loadW ag_api_Record sz_api_Record h n hn rfl (put_rec h n hn hf hk)

theorem readM_nil {a b : Str} (hk : kindM a ≠ 0) (hp : peeredM (kindM a) = true) : readM [a, b] = ((headM (kindM a) b).1, false) := by simp [readM, hk, hp]
theorem readM_peer {a b p : Str} {rest : List Str} (hk : kindM a ≠ 0) (hp : peeredM (kindM a) = true) : readM (a :: b :: p :: rest) = tailM (kindM a) { (headM (kindM a) b).1 with peers := (Rd.peers ⟨p, false⟩).1 } ((Rd.peers ⟨p, false⟩).2.fin && (headM (kindM a) b).2) rest := by simp [readM, hk, hp]
theorem readM_bare {a b : Str} {rest : List Str} (hk : kindM a ≠ 0) (hp : peeredM (kindM a) = false) : readM (a :: b :: rest) = tailM (kindM a) (headM (kindM a) b).1 (headM (kindM a) b).2 rest := by simp [readM, hk, hp]
/-- The first word's row. -/
theorem str_at {w : World} {v : Value} {l : List Str} (h : Row w 1 v l.length (strsL l)) {i : Nat} (hi : i < l.length) {K : Value → World → Prop} {k : IntKind} {x : Str} (hx : l[i]? = some x) (hk : ∀ b o, w.cell? ⟨b, o, none⟩ = some (S x) → K (.pointer (some ⟨b, o, none⟩)) w) : XIdx Tryz.prog T_sl_string v (.int k (i : Nat)) w K := by
  refine h.idx und_sl_string sz_string hi fun b o hc => hk b o ?_
  have := hc 0 (by omega)
  rw [Nat.add_zero, Nat.mul_one, Nat.add_zero] at this
  rw [this]
  simp [hx]

/-- What is owned while a record is read. -/
abbrev LR (q bR : Nat) (rd : Rd) (r : RecM) (pv lv mv tv : Value) : List Res := .blk q (rdO rd) :: .blk bR (recO r pv lv mv tv) :: recR r pv lv mv tv
set_option maxHeartbeats 4000000 in
theorem c_read {w : World} {p0 : Value} {l : List Str} (he : EnvP w) (hp : Row w 1 p0 l.length (strsL l)) (hl : l.length ≤ 1000000) (hs : ∀ x ∈ l, x.length ≤ 1000000) :
    Ret Tryz.prog F_line_read #[p0] w fun v w' => ∃ pv lv mv tv, v = .tuple #[recV (readM l).1 pv lv mv tv, .bool (readM l).2] ∧ St [] w (recR (readM l).1 pv lv mv tv) w' := by
  refine call_line_read ?_
  have h := ((((St.start w).row0 T_string 1).row0 T_string 1).row0 T_api_Place 5).row0 T_int 1
  unfold S_line_read
  refine st_alloc zv_api_Record h ?_
  intro bR w1 hbR h
  try simp only [go_sem] at h
  have h : St [] w (.blk bR (recO zRec (.slice none 0 0) (.slice none 0 0) (.slice none 0 0) (.slice none 0 0)) :: recR zRec (.slice none 0 0) (.slice none 0 0) (.slice none 0 0) (.slice none 0 0)) w1 := h
  have fz : Flats (.slice none 0 0) (.slice none 0 0) (.slice none 0 0) (.slice none 0 0) := ⟨rfl, rfl, rfl, rfl⟩
  refine hp.len und_sl_string ?_
  rw [xlss]
  refine xc_dec ?_ ?_
  · intro hlt
    have hr : readM l = (zRec, false) := by
      match l, hlt with
      | [], _ => rfl
      | [a], _ => rfl
      | a :: b :: r, hlt => simp at hlt; omega
    refine ret_rec h 0 rfl fz fun w' h => ?_
    rw [hr]
    exact ⟨_, _, _, _, rfl, h.drop⟩
  · intro hge
    obtain ⟨a, b, rest, rfl⟩ : ∃ a b rest, l = a :: b :: rest := by
      match l, hge with
      | [], hge => simp at hge
      | [a], hge => simp at hge
      | a :: b :: r, _ => exact ⟨a, b, r, rfl⟩
    have e1 := h.ext
    refine str_at (hp.mono e1) (i := 0) (by simp) rfl ?_
    intro b0 o0 hc0
    refine ld_of ag_string hc0 ?_
    refine st_callV en_line_kind (c_kind a w1 (he.mono e1)) h ?_
    intro w2 h
    have hk7 := kindM_le a
    simp only [go_sem]
    refine st_store sz_int h 0 rfl rfl rfl rfl ?_
    intro w3 h
    try simp only [go_sem] at h
    have e3 := h.ext
    refine str_at (hp.mono e3) (i := 1) (by simp) rfl ?_
    intro b0 o0 hc0
    refine ld_of ag_string hc0 ?_
    rw [xbuild (v := .agg #[S b, .bool false]) (fun w => by kernel_rfl)]
    refine st_box h ?_
    intro q w4 hq h
    try simp only [go_sem] at h
    have e4 := h.ext
    obtain ⟨vr, hvr, hxs⟩ := hp.fromE (P := Tryz.prog) (i := 2) (k := .i64) und_sl_string sz_string (by simp)
    refine hxs w4 _ ?_
    have hvr : Row w 1 vr rest.length (strsL rest) := by simpa using hvr
    have hk0n : (kindM a : Int) = ((kindM a : Nat) : Int) := rfl
    have hdec : ∀ n : Nat, decide ((kindM a : Int) = (n : Int)) = decide (kindM a = n) := fun n => by congr 1; exact propext ⟨fun h => by omega, fun h => by omega⟩
    -- behind the second word
    refine ⟨fun w' => kindM a ≠ 0 ∧ ∃ rd mv tv, rd.fin = (headM (kindM a) b).2 ∧ (headM (kindM a) b).1.peers = [] ∧ (headM (kindM a) b).1.places = [] ∧ (headM (kindM a) b).1.kind = kindM a ∧ St [] w (LR q bR rd (headM (kindM a) b).1 (.slice none 0 0) (.slice none 0 0) mv tv) w', ?_, ?_⟩
    · rintro - w5 ⟨hk0, rd, mv, tv, hfin, hpe, hpl, hki, h⟩
      refine st_callV en_line_reader_end (c_end (h.at 0 rfl)) h ?_
      intro w6 h
      rw [hfin]
      have h := h.drop
      have fz' : Flats (.slice none 0 0) (.slice none 0 0) mv tv := ⟨rfl, rfl, flat_own (h.atR 3 (by rfl)), flat_own (h.atR 4 (by rfl))⟩
      -- behind the peers
      refine ⟨fun u v w' => ∃ is1 r1 rest1 pv, u = .bool is1 ∧ Row w 1 v rest1.length (strsL rest1) ∧ (∀ x ∈ rest1, x ∈ rest) ∧ rest1.length ≤ rest.length ∧ r1.kind = ((kindM a : Nat) : Int) ∧ r1.places = [] ∧ tailM (kindM a) r1 is1 rest1 = readM (a :: b :: rest) ∧
        St [] w (.blk bR (recO r1 pv (.slice none 0 0) mv tv) :: recR r1 pv (.slice none 0 0) mv tv) w', ?_, ?_⟩
      · rintro - u v w7 ⟨is1, r1, rest1, pv, rfl, hv, hsub, hlen1, hki1, hpl1, hrd, h⟩
        have fl : Flats pv (.slice none 0 0) mv tv := st_flats (r := r1) h fun q hq => List.mem_cons_of_mem _ hq
        refine st_load ag_int h 0 rfl rfl ?_
        rw [hki1, xneq]
        refine xc_dec ?_ ?_
        · intro hk3
          have hk3 : kindM a ≠ 3 := fun e => hk3 (by rw [e]; rfl)
          refine st_loadW ag_api_Record sz_api_Record h 0 rfl rfl ?_
          refine and_st h (decide (rest1 = [])) ?_ ?_
          · intro _ J hJ
            refine hv.len und_sl_string ?_
            rw [xeql]
            have : decide (((rest1.length : Nat) : Int) = 0) = decide (rest1 = []) := by cases rest1 <;> simp <;> omega
            rw [this]
            exact hJ _ h
          · intro w8 h
            refine put_rec h 0 rfl fl fun w9 h => ?_
            have hr : readM (a :: b :: rest) = (r1, is1 && decide (rest1 = [])) := by
              rw [← hrd, tailM, if_pos hk3]
              cases rest1 <;> rfl
            rw [hr]
            exact ⟨_, _, _, _, rfl, h.drop⟩
        · intro hk3
          have hk3 : kindM a = 3 := by
            have hk3 : ¬ ((kindM a : Int) ≠ 3) := hk3
            omega
          refine hv.len und_sl_string ?_
          have e1 : { r1 with places := placesM (rest1.take 0) } = r1 := by
            cases r1
            simp only at hpl1
            simp [hpl1, placesM]
          refine ⟨fun u v w2 => ∃ i lv, i ≤ rest1.length ∧ u = .bool (is1 && finsM (rest1.take i)) ∧ v = .int .i64 (i : Nat) ∧ St [] w (.blk bR (recO { r1 with places := placesM (rest1.take i) } pv lv mv tv) :: recR { r1 with places := placesM (rest1.take i) } pv lv mv tv) w2,
            fun _ v _ => match v with | .int _ n => rest1.length - n.toNat | _ => 0, ⟨0, .slice none 0 0, Nat.zero_le _, by simp [finsM], rfl, by rw [e1]; exact h⟩, ?_⟩
          rintro - u v w8 ⟨i, lv, hi, rfl, rfl, h⟩
          rw [xlss]
          have hlv := h.atR 2 rfl
          refine xc_dec ?_ ?_
          · intro hlt
            have hlt : i < rest1.length := by omega
            obtain ⟨x, hx⟩ : ∃ x, rest1[i]? = some x := ⟨_, List.getElem?_eq_getElem hlt⟩
            have hxs : x.length ≤ 1000000 := hs x (List.mem_cons_of_mem _ (List.mem_cons_of_mem _ (hsub x (List.mem_of_getElem? hx))))
            refine str_at (hv.mono h.ext) hlt hx ?_
            intro b0 o0 hc0
            refine ld_of ag_string hc0 ?_
            rw [xbuild (v := .agg #[S x, .bool false]) (fun w => by kernel_rfl)]
            refine st_box h ?_
            intro q3 w9 hq3 h
            try simp only [go_sem] at h
            have h : St [] w (.blk q3 (rdO ⟨x, false⟩) :: .blk bR (recO { r1 with places := placesM (rest1.take i) } pv lv mv tv) :: recR { r1 with places := placesM (rest1.take i) } pv lv mv tv) w9 := h
            have h := h.step (Ext.drew _)
            have hne : ∀ w', Chg [q3] w9.drew w' → w'.heap[bR]? = some (recO { r1 with places := placesM (rest1.take i) } pv lv mv tv) := fun w' hc => by
              refine (hc.keep bR (Array.getElem?_eq_some_iff.1 (h.at 1 rfl)).1 fun hm => ?_).trans (h.at 1 rfl)
              have hm : bR = q3 := by simpa using hm
              have := (List.pairwise_cons.1 h.nd).1 (.blk bR (recO { r1 with places := placesM (rest1.take i) } pv lv mv tv)) (by simp)
              rcases this with h1 | h1
              · cases h1
              · exact h1 (by rw [hm]; rfl)
            refine ⟨Chg [q3], Eq, preChg _, .pointer (some ⟨bR, 3, none⟩), fun w10 => ⟨by trivial, by trivial⟩, lv, fun w10 hc => ?_, ?_⟩
            · have hb := hne w10 hc
              exact ld_of ag_sl_api_Place (by rw [cellx0 hb]; rfl) ⟨rfl, rfl⟩
            rintro w10 rfl
            refine xcall_of (en_line_reader_place _) (c_place (h.at 0 rfl)) ?_
            rintro v w11 ⟨rfl, hchg, hb⟩
            refine ⟨hchg, ?_⟩
            rintro w12 rfl
            have h := h.turnB (n := 0) rfl hchg hb
            try simp only [go_sem] at h
            refine st_buildSE (cs := (placeC (Rd.place ⟨x, false⟩).1).toArray) (e := T_api_Place) (fun w => by kernel_rfl) h ?_
            intro bx w13 hbx e13 h
            refine ⟨Chg.of_ext e13, ?_⟩
            rintro w14 rfl
            have hlen : (placesM (rest1.take i)).length = i := by simp [placesM]; omega
            have hpn : placesM (rest1.take (i + 1)) = placesM (rest1.take i) ++ [(Rd.place ⟨x, false⟩).1] := by
              rw [List.take_succ_eq_append_getElem hlt, placesM, List.map_append]
              have : rest1[i] = x := by
                rw [List.getElem?_eq_getElem hlt] at hx
                injection hx
              simp [placesM, this]
            refine app_sl_api_Place h 4 rfl (placeC (Rd.place ⟨x, false⟩).1) rfl (news_blk (h.at 0 rfl)) (by simp [Value.oneCell']) (by rw [hlen]; simp at hl; omega) ?_
            intro lv2 w15 h
            try simp only [go_sem] at h
            have hlv2 := h.atR 4 rfl
            refine ⟨.pointer (some ⟨bR, 3, none⟩), fun w10 => ⟨by trivial, by trivial⟩, ?_⟩
            refine st_storeC sz_sl_api_Place h 2 rfl (cells_own hlv2) rfl (flat_own hlv2) ?_
            intro w16 h
            try simp only [go_sem] at h
            refine st_callV en_line_reader_end (c_end (h.at 1 rfl)) h ?_
            intro w17 h
            refine and_st h (is1 && finsM (rest1.take i)) ?_ ?_
            · intro _ J hJ
              exact hJ _ h
            · intro w18 h
              rw [xadd, wi64 (by omega) (by simp at hl; omega)]
              refine ⟨⟨i + 1, lv2, hlt, ?_, rfl, ?_⟩, ?_⟩
              · have : finsM (rest1.take (i + 1)) = (finsM (rest1.take i) && (Rd.place ⟨x, false⟩).2.fin) := by
                  rw [List.take_succ_eq_append_getElem hlt, finsM, List.all_append]
                  have : rest1[i] = x := by
                    rw [List.getElem?_eq_getElem hlt] at hx
                    injection hx
                  simp [finsM, this]
                rw [this]
                cases (Rd.place ⟨x, false⟩).2.fin <;> cases is1 <;> cases finsM (rest1.take i) <;> rfl
              · have h := h.pick [2, 3, 4, 5, 6] (by decide) rfl
                have hp2 : placesL (placesM (rest1.take (i + 1))) = placesL (placesM (rest1.take i)) ++ placeC (Rd.place ⟨x, false⟩).1 := by
                  rw [hpn, placesL, List.flatMap_append]
                  simp
                have hl2 : (placesM (rest1.take (i + 1))).length = (placesM (rest1.take i)).length + 1 := by rw [hpn]; simp
                simp only [recR, hp2, hl2]
                exact h
              · show rest1.length - (((i : Int) + 1)).toNat < rest1.length - ((i : Int)).toNat
                omega
          · intro hge
            have hi : i = rest1.length := by omega
            subst hi
            rw [List.take_length] at h hlv ⊢
            refine st_load ag_sl_api_Place h 0 rfl rfl ?_
            have hpm : (placesM rest1).length = rest1.length := by simp [placesM]
            refine st_callR en_slices_Clone_api_Place_api_Place (c_cloneP hlv (by rw [hpm]; simp at hl; omega)) h ?_
            intro lv2 w9 h
            have hlv2 := h.atR 0 rfl
            refine st_storeC sz_sl_api_Place h 1 rfl (cells_own hlv2) rfl (flat_own hlv2) ?_
            intro w10 h
            try simp only [go_sem] at h
            have h := h.pick [1, 2, 0, 4, 5] (by decide) rfl
            have h : St [] w (.blk bR (recO { r1 with places := placesM rest1 } pv lv2 mv tv) :: recR { r1 with places := placesM rest1 } pv lv2 mv tv) w10 := h
            have fl2 : Flats pv lv2 mv tv := ⟨fl.p, flat_own hlv2, fl.m, fl.t⟩
            refine ret_rec h 0 rfl fl2 fun w11 h => ?_
            have hr : readM (a :: b :: rest) = ({ r1 with places := placesM rest1 }, is1 && finsM rest1) := by
              rw [← hrd, tailM, if_neg (by rw [hk3]; simp)]
            rw [hr]
            exact ⟨_, _, _, _, rfl, h.drop⟩
      · -- the peers
        have hkd : (headM (kindM a) b).1.kind = ((kindM a : Nat) : Int) := hki
        refine st_load ag_int h 0 rfl rfl ?_
        rw [hkd]
        refine st_callV en_line_peered (c_peered (kindM a) _ hk7) h ?_
        intro w7 h
        refine xc_of ?_ ?_
        · intro hpd
          refine hvr.len und_sl_string ?_
          rw [xeql]
          refine xc_dec ?_ ?_
          · intro h0
            have h0 : rest = [] := List.eq_nil_of_length_eq_zero (by omega)
            subst h0
            refine ret_rec (r := (headM (kindM a) b).1) h 0 rfl fz' fun w' h => ?_
            rw [readM_nil hk0 hpd]
            exact ⟨_, _, _, _, rfl, h.drop⟩
          · intro h0
            obtain ⟨p, rest1, rfl⟩ : ∃ p rest1, rest = p :: rest1 := by
              cases rest with
              | nil => simp at h0
              | cons p r => exact ⟨p, r, rfl⟩
            refine str_at (hvr.mono h.ext) (i := 0) (by simp) rfl ?_
            intro b0 o0 hc0
            refine ld_of ag_string hc0 ?_
            rw [xbuild (v := .agg #[S p, .bool false]) (fun w => by kernel_rfl)]
            refine st_box h ?_
            intro q2 w8 hq2 h
            try simp only [go_sem] at h
            have h : St [] w (.blk q2 (rdO ⟨p, false⟩) :: .blk bR (recO (headM (kindM a) b).1 (.slice none 0 0) (.slice none 0 0) mv tv) :: recR (headM (kindM a) b).1 (.slice none 0 0) (.slice none 0 0) mv tv) w8 := h
            obtain ⟨vr1, hvr1, hxs1⟩ := hvr.fromE (P := Tryz.prog) (i := 1) (k := .i64) und_sl_string sz_string (by simp)
            refine ⟨Ext, Ext, preExt, vr1, fun w9 => hxs1 w9 _ ⟨rfl, rfl⟩, ?_⟩
            have h := h.step (Ext.drew _)
            refine st_callTR en_line_reader_peers (c_peers (h.at 0 rfl) (hs p (by simp))) h 0 rfl ?_
            intro pv w9 h
            have hpv := h.atR 0 rfl
            refine ⟨.pointer (some ⟨bR, 2, none⟩), fun w10 => ⟨by trivial, by trivial⟩, ?_⟩
            refine st_storeC sz_sl_int h 2 rfl (cells_own hpv) rfl (flat_own hpv) ?_
            intro w10 h
            try simp only [go_sem] at h
            refine st_callV en_line_reader_end (c_end (h.at 1 rfl)) h ?_
            intro w11 h
            refine and_st h (headM (kindM a) b).2 ?_ ?_
            · intro _ J hJ
              exact hJ _ h
            · intro w12 h
              refine ⟨_, { (headM (kindM a) b).1 with peers := (Rd.peers ⟨p, false⟩).1 }, rest1, pv, rfl, by simpa using hvr1, fun x hx => List.mem_cons_of_mem _ hx, by simp, hki, hpl, ?_, ?_⟩
              · exact (readM_peer hk0 hpd).symm
              · have := h.pick [2, 0, 4, 5, 6] (by decide) rfl
                exact this
        · intro hpd
          refine ⟨_, (headM (kindM a) b).1, rest, .slice none 0 0, rfl, hvr, fun x hx => hx, Nat.le_refl _, hki, hpl, (readM_bare hk0 hpd).symm, h⟩
    · have h : St [] w (LR q bR ⟨b, false⟩ { zRec with kind := (kindM a : Nat) } (.slice none 0 0) (.slice none 0 0) (.slice none 0 0) (.slice none 0 0)) w4 := h
      refine st_load ag_int h 1 rfl rfl ?_
      rw [xeql]
      refine xc_dec ?_ ?_
      · intro hk
        have hk : kindM a = 0 := by have hk : (kindM a : Int) = 0 := hk; omega
        refine ret_rec h 1 rfl fz fun w' h => ?_
        have hr : readM (a :: b :: rest) = (zRec, false) := by
          simp only [readM, hk, if_true]
        rw [hr]
        rw [hk] at h ⊢
        exact ⟨_, _, _, _, rfl, h.drop.drop⟩
      · intro hk
        have hk : kindM a ≠ 0 := fun e => hk (by rw [e]; rfl)
        refine st_load ag_int h 1 rfl rfl ?_
        rw [xeql]
        have hbs : b.length ≤ 1000000 := hs b (by simp)
        refine xc_dec ?_ ?_
        · intro hk1
          have hk1 : kindM a = 1 := by have hk1 : (kindM a : Int) = 1 := hk1; omega
          have hh : headM (kindM a) b = ({ zRec with kind := (kindM a : Nat), node := (Rd.node ⟨b, false⟩).1 }, (Rd.node ⟨b, false⟩).2.fin) := by
            unfold headM
            rw [if_pos hk1]
          refine st_callM en_line_reader_node (c_node (h.at 0 rfl) hbs) h 0 rfl ?_
          rintro v w5 ⟨mv, tv, rfl, k⟩ mg
          have h := mg _ _ k
          have hm : flat mv = true := flat_own (h.atR 1 rfl)
          have ht : flat tv = true := flat_own (h.atR 0 rfl)
          refine st_store sz_api_Node h 3 rfl rfl rfl (by simp only [Value.cells, List.all_cons, List.all_nil, hm, ht]; rfl) ?_
          intro w6 h
          try simp only [go_sem] at h
          rw [hh]
          exact ⟨hk, _, mv, tv, rfl, rfl, rfl, rfl, h.pick [2, 3, 4, 5, 1, 0] (by decide) rfl⟩
        · intro hk1
          have hk1 : kindM a ≠ 1 := fun e => hk1 (by rw [e]; rfl)
          refine st_load ag_int h 1 rfl rfl ?_
          rw [xeql]
          refine xc_dec ?_ ?_
          · intro hk2
            have hk2 : kindM a = 2 := by have hk2 : (kindM a : Int) = 2 := hk2; omega
            have hh : headM (kindM a) b = ({ zRec with kind := (kindM a : Nat), node := { zNode with name := (Rd.name ⟨b, false⟩).1 } }, (Rd.name ⟨b, false⟩).2.fin) := by
              unfold headM
              rw [if_neg hk1, if_pos hk2]
            refine st_callT en_line_reader_name (c_name (h.at 0 rfl)) h 0 rfl ?_
            intro w5 h
            try simp only [go_sem] at h
            refine st_store sz_string h 1 rfl rfl rfl rfl ?_
            intro w6 h
            try simp only [go_sem] at h
            rw [hh]
            exact ⟨hk, _, _, _, rfl, rfl, rfl, rfl, h⟩
          · intro hk2
            have hk2 : kindM a ≠ 2 := fun e => hk2 (by rw [e]; rfl)
            have hh : headM (kindM a) b = ({ zRec with kind := (kindM a : Nat), gang := (Rd.number ⟨b, false⟩).1 }, (Rd.number ⟨b, false⟩).2.fin) := by
              unfold headM
              rw [if_neg hk1, if_neg hk2]
            refine st_callT en_line_reader_number (c_number (h.at 0 rfl)) h 0 rfl ?_
            intro w5 h
            try simp only [go_sem] at h
            refine st_store sz_int h 1 rfl rfl rfl rfl ?_
            intro w6 h
            try simp only [go_sem] at h
            rw [hh]
            exact ⟨hk, _, _, _, rfl, rfl, rfl, rfl, h⟩
end Go.Proofs.YthkgbajldkicfaaGreatDoor
