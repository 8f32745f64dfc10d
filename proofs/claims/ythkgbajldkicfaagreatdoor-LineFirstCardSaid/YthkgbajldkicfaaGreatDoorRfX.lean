/-
  The document's own reader: a place, peers.
-/
import Derived.Test.YthkgbajldkicfaaGreatDoorRfW
namespace Go.Proofs.YthkgbajldkicfaaGreatDoor
set_option linter.unusedVariables false
set_option linter.unusedSimpArgs false
open Go Go.Jo
set_option maxRecDepth 100000

set_option maxHeartbeats 4000000 in
theorem c_fPlace {w : World} {s : Str} (hs : s.length ≤ 1000000) : Ret Tryz.prog F_joineryref4_place #[S s] w fun v w' => ∃ (n : PlaceM), v = .tuple #[placeV n, .bool (Rd.place ⟨s, false⟩).2.fin] ∧ ((Rd.place ⟨s, false⟩).2.fin = true → n = (Rd.place ⟨s, false⟩).1) ∧ Ext w w' := by
  refine call_joineryref4_place ?_
  have h := St.start w
  unfold S_joineryref4_place
  refine st_alloc zv_api_Place h ?_
  intro q2 w0 _ h
  rw [xbuild (v := .agg #[S s, .int .i64 0, .bool false]) (fun w => by kernel_rfl)]
  refine st_box h ?_
  intro b w1 hb h
  refine st_callA (A := [.blk b (rfO ⟨s, 0, false⟩)]) en_joineryref4_Reader_Name h (fun k => c_fName (k.at 0 rfl) (Rl.start hs)) ?_
  rintro v w2 ⟨t, p1, b1, rfl, _, hl1, he1, _, k⟩ mg
  have h := mg _ k
  rw [xbuild (v := placeV ⟨t, [], zVec, false⟩) (fun w => by kernel_rfl)]
  refine st_alloc zv_api_Place h ?_
  intro q5 w3 _ h
  refine st_store sz_api_Place h 0 rfl rfl rfl rfl ?_
  intro w4 h
  try simp only [go_sem] at h
  have h := h.pick [1, 0, 2] (by decide) rfl
  refine st_callA (A := [.blk b (rfO ⟨s, p1, b1⟩)]) en_joineryref4_Reader_Must h (fun k => c_fMust 62 (k.at 0 rfl) hl1) ?_
  rintro v w5 ⟨p2, b2, rfl, hl2, k⟩ mg
  have h := mg _ k
  refine st_callA (A := [.blk b (rfO ⟨s, p2, b2⟩)]) en_joineryref4_Reader_Name h (fun k => c_fName (k.at 0 rfl) hl2) ?_
  rintro v w6 ⟨t2, p3, b3, rfl, _, hl3, he3, _, k⟩ mg
  have h := mg _ k
  rw [fld_api_Place_Node]
  refine st_store sz_string h 1 rfl rfl rfl rfl ?_
  intro w7 h
  try simp only [go_sem] at h
  refine st_callA (A := [.blk b (rfO ⟨s, p3, b3⟩)]) en_joineryref4_Reader_Must h (fun k => c_fMust 58 (k.at 0 rfl) hl3) ?_
  rintro v w8 ⟨p4, b4, rfl, hl4, k⟩ mg
  have h := mg _ k
  refine st_callA (A := [.blk b (rfO ⟨s, p4, b4⟩)]) en_joineryref4_Reader_Vec h (fun k => c_fVec (k.at 0 rfl) hl4) ?_
  rintro v w9 ⟨u, p5, b5, rfl, hl5, he5, k⟩ mg
  have h := mg _ k
  rw [fld_api_Place_Need]
  refine st_store sz_api_Vec h 1 rfl rfl rfl rfl ?_
  intro w10 h
  try simp only [go_sem] at h
  refine st_callA (A := [.blk b (rfO ⟨s, p5, b5⟩)]) en_joineryref4_Reader_sign h (fun k => c_fSign 33 (k.at 0 rfl) hl5) ?_
  rintro v w12 ⟨cl, p9, rfl, hl9, he9, _, _, k⟩ mg
  have h := mg _ k
  rw [fld_api_Place_Alone]
  refine st_storeC sz_bool h 1 rfl rfl rfl rfl ?_
  intro w13 h
  try simp only [go_sem] at h
  have hfin : (Rd.place ⟨s, false⟩).2.fin = _ := hl9.fin
  have hvals : b5 = false → (⟨t, t2, u, cl⟩ : PlaceM) = (Rd.place ⟨s, false⟩).1 := fun h5 => by
    have h4 := hl4.back hl5 (vec_no _) h5
    have h3 := hl3.back hl4 (must_no 58 _) h4
    have h2 := hl2.back hl3 (nameNo _) h3
    have h1 := hl1.back hl2 (must_no 62 _) h2
    rw [he1 h1, he3 h3, he5 h5, he9 h5]
    rfl
  have h := (h.pick [2, 0, 1] (by decide) rfl).step (Ext.drew _)
  have h : St [] w [.blk q2 (.cells #[.string ⟨#[]⟩, .string ⟨#[]⟩, .int .i64 0, .int .i64 0, .bool false] T_api_Place (0, 0)), .blk b (.cells #[S s, .int .i64 (p9 : Nat), .bool b5] T_joineryref4_Reader (0, 0)), .blk q5 (.cells (placeC ⟨t, t2, u, cl⟩).toArray T_api_Place (0, 0))] w13.drew := h
  have hm := fun {w' : World} (hc : Chg [q2] w13.drew w') => St.mod h hc
  refine ⟨Chg [q2], Eq, preChg _, ?_⟩
  have hlt := trivial
  have tail : ∀ {f : Bool}, (f = (Rd.place ⟨s, false⟩).2.fin) → ((Rd.place ⟨s, false⟩).2.fin = true → (⟨t, t2, u, cl⟩ : PlaceM) = (Rd.place ⟨s, false⟩).1) →
      XStore Tryz.prog T_api_Place (pt q2) (placeV ⟨t, t2, u, cl⟩) w13.drew fun w56 => Chg [q2] w13.drew w56 ∧ ∀ w57 : World, w56 = w57 → XLoad Tryz.prog T_api_Place (pt q2) w57 fun r1 w58 => w58 = w57 ∧ (∃ (n : PlaceM), (.tuple #[r1, .bool f] : Value) = .tuple #[placeV n, .bool (Rd.place ⟨s, false⟩).2.fin] ∧ ((Rd.place ⟨s, false⟩).2.fin = true → n = (Rd.place ⟨s, false⟩).1) ∧ Ext w w57) := fun hf hn => by
    refine st_storeG sz_api_Place h 0 rfl rfl rfl rfl ?_
    intro w56 hc h
    try simp only [go_sem] at h
    refine ⟨hc, ?_⟩
    rintro w57 rfl
    refine st_loadW ag_api_Place sz_api_Place h 0 rfl rfl ⟨rfl, ⟨t, t2, u, cl⟩, ?_, hn, h.ext⟩
    rw [hf]
  cases b5
  · by_cases hpe : p9 = s.length
    · repeat
        apply Exists.intro
        apply And.intro
        · first
            | (rw [xg_ft]; try rfl)
            | (rw [xg_tf]; try rfl)
            | ((try rw [xg_same]); intro w3; first
                | (rw [xnil_ptr]; exact ⟨rfl, rfl⟩)
                | (rw [fld_joineryref4_Reader_S]; exact ⟨rfl, rfl⟩)
                | (rw [fld_joineryref4_Reader_P]; exact ⟨rfl, rfl⟩)
                | (rw [fld_joineryref4_Reader_Bad]; exact ⟨rfl, rfl⟩)
                | (rw [xpick_true]; exact ⟨rfl, rfl⟩)
                | (rw [xpick_false]; exact ⟨rfl, rfl⟩)
                | (rw [xnot, Bool.not_true]; exact ⟨rfl, rfl⟩)
                | (rw [xnot, Bool.not_false]; exact ⟨rfl, rfl⟩)
                | (rw [xnot]; exact ⟨rfl, rfl⟩)
                | (rw [xlen_string und_string]; exact ⟨rfl, rfl⟩)
                | (rw [xix_str und_string _ _ _ hlt]; exact ⟨rfl, rfl⟩)
                | (rw [xgeq, decide_eq_true (by omega)]; exact ⟨rfl, rfl⟩)
                | (rw [xgeq, decide_eq_false (by omega)]; exact ⟨rfl, rfl⟩)
                | (rw [xleq, decide_eq_true (by omega)]; exact ⟨rfl, rfl⟩)
                | (rw [xleq, decide_eq_false (by omega)]; exact ⟨rfl, rfl⟩)
                | (rw [xlss, decide_eq_true (by omega)]; exact ⟨rfl, rfl⟩)
                | (rw [xlss, decide_eq_false (by omega)]; exact ⟨rfl, rfl⟩)
                | (rw [xeql, decide_eq_true (by omega)]; exact ⟨rfl, rfl⟩)
                | (rw [xeql, decide_eq_false (by omega)]; exact ⟨rfl, rfl⟩)
                | (rw [xneq, decide_eq_true (by omega)]; exact ⟨rfl, rfl⟩)
                | (rw [xneq, decide_eq_false (by omega)]; exact ⟨rfl, rfl⟩)
                | (intro e3; first
                    | exact st_load ag_bool (h.step e3) 0 rfl rfl ⟨rfl, Ext.refl _⟩
                    | exact st_load ag_int (h.step e3) 0 rfl rfl ⟨rfl, Ext.refl _⟩
                    | exact st_load ag_string (h.step e3) 0 rfl rfl ⟨rfl, Ext.refl _⟩
                    | exact st_load ag_bool (hm e3) 0 rfl rfl ⟨rfl, rfl⟩
                    | exact st_load ag_int (hm e3) 0 rfl rfl ⟨rfl, rfl⟩
                    | exact st_loadW ag_api_Node sz_api_Node (hm e3) 1 rfl rfl ⟨rfl, rfl⟩
                    | exact st_loadW ag_api_Place sz_api_Place (hm e3) 1 rfl rfl ⟨rfl, rfl⟩
                    | exact xcall_of (en_joineryref4_parting _) (hpt _) fun _ _ hq => hq)
                | (rw [xmul, wi64 (by omega) (by omega)]; exact ⟨rfl, rfl⟩)
                | (rw [xsub, wu8 (by omega) (by omega)]; exact ⟨rfl, rfl⟩)
                | (rw [xconv_int und_uint8 und_int, wi64 (by omega) (by omega)]; exact ⟨rfl, rfl⟩)
                | (rw [xadd, wi64 (by omega) (by omega)]; exact ⟨rfl, rfl⟩)
                | (rw [xslice_mid und_string (by omega) (by omega)]; exact ⟨rfl, rfl⟩)
                | exact ⟨rfl, rfl⟩)
      rintro w3 rfl
      exact tail (by rw [hfin]; simp [hpe]) fun _ => hvals rfl
    · repeat
        apply Exists.intro
        apply And.intro
        · first
            | (rw [xg_ft]; try rfl)
            | (rw [xg_tf]; try rfl)
            | ((try rw [xg_same]); intro w3; first
                | (rw [xnil_ptr]; exact ⟨rfl, rfl⟩)
                | (rw [fld_joineryref4_Reader_S]; exact ⟨rfl, rfl⟩)
                | (rw [fld_joineryref4_Reader_P]; exact ⟨rfl, rfl⟩)
                | (rw [fld_joineryref4_Reader_Bad]; exact ⟨rfl, rfl⟩)
                | (rw [xpick_true]; exact ⟨rfl, rfl⟩)
                | (rw [xpick_false]; exact ⟨rfl, rfl⟩)
                | (rw [xnot, Bool.not_true]; exact ⟨rfl, rfl⟩)
                | (rw [xnot, Bool.not_false]; exact ⟨rfl, rfl⟩)
                | (rw [xnot]; exact ⟨rfl, rfl⟩)
                | (rw [xlen_string und_string]; exact ⟨rfl, rfl⟩)
                | (rw [xix_str und_string _ _ _ hlt]; exact ⟨rfl, rfl⟩)
                | (rw [xgeq, decide_eq_true (by omega)]; exact ⟨rfl, rfl⟩)
                | (rw [xgeq, decide_eq_false (by omega)]; exact ⟨rfl, rfl⟩)
                | (rw [xleq, decide_eq_true (by omega)]; exact ⟨rfl, rfl⟩)
                | (rw [xleq, decide_eq_false (by omega)]; exact ⟨rfl, rfl⟩)
                | (rw [xlss, decide_eq_true (by omega)]; exact ⟨rfl, rfl⟩)
                | (rw [xlss, decide_eq_false (by omega)]; exact ⟨rfl, rfl⟩)
                | (rw [xeql, decide_eq_true (by omega)]; exact ⟨rfl, rfl⟩)
                | (rw [xeql, decide_eq_false (by omega)]; exact ⟨rfl, rfl⟩)
                | (rw [xneq, decide_eq_true (by omega)]; exact ⟨rfl, rfl⟩)
                | (rw [xneq, decide_eq_false (by omega)]; exact ⟨rfl, rfl⟩)
                | (intro e3; first
                    | exact st_load ag_bool (h.step e3) 0 rfl rfl ⟨rfl, Ext.refl _⟩
                    | exact st_load ag_int (h.step e3) 0 rfl rfl ⟨rfl, Ext.refl _⟩
                    | exact st_load ag_string (h.step e3) 0 rfl rfl ⟨rfl, Ext.refl _⟩
                    | exact st_load ag_bool (hm e3) 0 rfl rfl ⟨rfl, rfl⟩
                    | exact st_load ag_int (hm e3) 0 rfl rfl ⟨rfl, rfl⟩
                    | exact st_loadW ag_api_Node sz_api_Node (hm e3) 1 rfl rfl ⟨rfl, rfl⟩
                    | exact st_loadW ag_api_Place sz_api_Place (hm e3) 1 rfl rfl ⟨rfl, rfl⟩
                    | exact xcall_of (en_joineryref4_parting _) (hpt _) fun _ _ hq => hq)
                | (rw [xmul, wi64 (by omega) (by omega)]; exact ⟨rfl, rfl⟩)
                | (rw [xsub, wu8 (by omega) (by omega)]; exact ⟨rfl, rfl⟩)
                | (rw [xconv_int und_uint8 und_int, wi64 (by omega) (by omega)]; exact ⟨rfl, rfl⟩)
                | (rw [xadd, wi64 (by omega) (by omega)]; exact ⟨rfl, rfl⟩)
                | (rw [xslice_mid und_string (by omega) (by omega)]; exact ⟨rfl, rfl⟩)
                | exact ⟨rfl, rfl⟩)
      rintro w3 rfl
      exact tail (by rw [hfin]; simp [hpe]) fun _ => hvals rfl
  · repeat
      apply Exists.intro
      apply And.intro
      · first
          | (rw [xg_ft]; try rfl)
          | (rw [xg_tf]; try rfl)
          | ((try rw [xg_same]); intro w3; first
              | (rw [xnil_ptr]; exact ⟨rfl, rfl⟩)
              | (rw [fld_joineryref4_Reader_S]; exact ⟨rfl, rfl⟩)
              | (rw [fld_joineryref4_Reader_P]; exact ⟨rfl, rfl⟩)
              | (rw [fld_joineryref4_Reader_Bad]; exact ⟨rfl, rfl⟩)
              | (rw [xpick_true]; exact ⟨rfl, rfl⟩)
              | (rw [xpick_false]; exact ⟨rfl, rfl⟩)
              | (rw [xnot, Bool.not_true]; exact ⟨rfl, rfl⟩)
              | (rw [xnot, Bool.not_false]; exact ⟨rfl, rfl⟩)
              | (rw [xnot]; exact ⟨rfl, rfl⟩)
              | (rw [xlen_string und_string]; exact ⟨rfl, rfl⟩)
              | (rw [xix_str und_string _ _ _ hlt]; exact ⟨rfl, rfl⟩)
              | (rw [xgeq, decide_eq_true (by omega)]; exact ⟨rfl, rfl⟩)
              | (rw [xgeq, decide_eq_false (by omega)]; exact ⟨rfl, rfl⟩)
              | (rw [xleq, decide_eq_true (by omega)]; exact ⟨rfl, rfl⟩)
              | (rw [xleq, decide_eq_false (by omega)]; exact ⟨rfl, rfl⟩)
              | (rw [xlss, decide_eq_true (by omega)]; exact ⟨rfl, rfl⟩)
              | (rw [xlss, decide_eq_false (by omega)]; exact ⟨rfl, rfl⟩)
              | (rw [xeql, decide_eq_true (by omega)]; exact ⟨rfl, rfl⟩)
              | (rw [xeql, decide_eq_false (by omega)]; exact ⟨rfl, rfl⟩)
              | (rw [xneq, decide_eq_true (by omega)]; exact ⟨rfl, rfl⟩)
              | (rw [xneq, decide_eq_false (by omega)]; exact ⟨rfl, rfl⟩)
              | (intro e3; first
                  | exact st_load ag_bool (h.step e3) 0 rfl rfl ⟨rfl, Ext.refl _⟩
                  | exact st_load ag_int (h.step e3) 0 rfl rfl ⟨rfl, Ext.refl _⟩
                  | exact st_load ag_string (h.step e3) 0 rfl rfl ⟨rfl, Ext.refl _⟩
                  | exact st_load ag_bool (hm e3) 0 rfl rfl ⟨rfl, rfl⟩
                  | exact st_load ag_int (hm e3) 0 rfl rfl ⟨rfl, rfl⟩
                  | exact st_loadW ag_api_Node sz_api_Node (hm e3) 1 rfl rfl ⟨rfl, rfl⟩
                  | exact st_loadW ag_api_Place sz_api_Place (hm e3) 1 rfl rfl ⟨rfl, rfl⟩
                  | exact xcall_of (en_joineryref4_parting _) (hpt _) fun _ _ hq => hq)
              | (rw [xmul, wi64 (by omega) (by omega)]; exact ⟨rfl, rfl⟩)
              | (rw [xsub, wu8 (by omega) (by omega)]; exact ⟨rfl, rfl⟩)
              | (rw [xconv_int und_uint8 und_int, wi64 (by omega) (by omega)]; exact ⟨rfl, rfl⟩)
              | (rw [xadd, wi64 (by omega) (by omega)]; exact ⟨rfl, rfl⟩)
              | (rw [xslice_mid und_string (by omega) (by omega)]; exact ⟨rfl, rfl⟩)
              | exact ⟨rfl, rfl⟩)
    rintro w3 rfl
    exact tail (by rw [hfin]; rfl) fun hh => by rw [hfin] at hh; cases hh
theorem peersN_no : ∀ (f : Nat) (x : Rd), x.no = true → (Rd.peersN f x).2.no = true
  | 0, x, h => h
  | f + 1, x, h => by
    unfold Rd.peersN
    split
    · exact peersN_no f _ (number_no _ h)
    · exact h
theorem more_no (x : Rd) (h : x.no = true) : (Rd.more x).2.no = true := peersN_no _ x h
theorem more_step {x : Rd} (h : (x.sign 44).1 = true) : Rd.more x = (((x.sign 44).2.number.1 : Int) :: (Rd.more (x.sign 44).2.number.2).1, (Rd.more (x.sign 44).2.number.2).2) := by
  have hlen := signP_len 44 x.s
  have h' : (signP 44 x.s).1 = true := h
  rw [h', if_pos rfl] at hlen
  have hlen : (x.sign 44).2.s.length + 1 = x.s.length := hlen
  have hn := number_len (x.sign 44).2
  unfold Rd.more
  rw [show x.s.length = (x.sign 44).2.s.length + 1 by omega]
  conv => lhs; unfold Rd.peersN
  rw [if_pos h]
  simp only
  rw [peersN_more (x.sign 44).2.s.length (x.sign 44).2.number.2.s.length _ (by omega) (Nat.le_refl _)]
theorem more_stop {x : Rd} (h : (x.sign 44).1 = false) : Rd.more x = ([], x) := by
  unfold Rd.more
  cases hl : x.s.length with
  | zero => rfl
  | succ n =>
    unfold Rd.peersN
    rw [if_neg (by rw [h]; simp)]
set_option maxHeartbeats 4000000 in
theorem c_fInts {w : World} {s : Str} (hs : s.length ≤ 1000000) : Ret Tryz.prog F_joineryref4_ints #[S s] w fun v w' => ∃ (l : List Int) (u : Value), v = .tuple #[u, .bool (Rd.peers ⟨s, false⟩).2.fin] ∧ ((Rd.peers ⟨s, false⟩).2.fin = true → l = (Rd.peers ⟨s, false⟩).1) ∧ l.length ≤ 1000001 ∧ St [] w [.row T_int 1 u l.length (intsL l)] w' := by
  refine call_joineryref4_ints ?_
  have h := St.start w
  unfold S_joineryref4_ints
  rw [xbuild (v := .agg #[S s, .int .i64 0, .bool false]) (fun w => by kernel_rfl)]
  refine st_box h ?_
  intro b w1 hb h
  refine st_callA (A := [.blk b (rfO ⟨s, 0, false⟩)]) en_joineryref4_Reader_Number h (fun k => c_fNumber (k.at 0 rfl) (Rl.start hs)) ?_
  rintro v w2 ⟨n0, p1, b1, rfl, _, hl1, he1, _, k⟩ mg
  have h := mg _ k
  refine st_buildS (cs := #[.int .i64 (n0 : Nat)]) (e := T_int) (fun w => by kernel_rfl) h ?_
  intro bl w3 hbl h
  have h := h.asRow 0 (k := 1) (sz := 1) (e := T_int) rfl (by decide) (by rfl)
  refine ⟨fun u w2 => ∃ (y : Rd) (acc : List Int) (p : Nat) (bad : Bool), acc.length ≤ p + 1 ∧ Rl y ⟨s, p, bad⟩ ∧ (bad = false → (Rd.peers ⟨s, false⟩).1 = acc ++ (Rd.more y).1) ∧ (Rd.peers ⟨s, false⟩).2 = (Rd.more y).2 ∧ St [] w [.row T_int 1 u acc.length (intsL acc), .blk b (rfO ⟨s, p, bad⟩)] w2, fun _ w2 => s.length - rfP b w2, ⟨(Rd.number ⟨s, false⟩).2, [(n0 : Int)], p1, b1, by simp, hl1, fun hh => by rw [he1 hh]; rfl, rfl, h⟩, ?_⟩
  clear h
  rintro - u w4 ⟨y, acc, p, bad, hl, hy, h1, h2, h⟩
  have hpos : rfP b w4 = p := rfP_of (h.at 1 rfl)
  have hle : p ≤ s.length := hy.le
  have h := h.pick [1, 0] (by decide) rfl
  refine st_callA (A := [.blk b (rfO ⟨s, p, bad⟩)]) (L := [.row T_int 1 u acc.length (intsL acc)]) en_joineryref4_Reader_sign h (fun k => c_fSign 44 (k.at 0 rfl) hy) ?_
  rintro v w5 ⟨t, p2, rfl, hl2, ht, hp, hp0, k⟩ mg
  have h := mg _ k
  refine xc_of ?_ ?_
  · intro e
    subst e
    obtain ⟨hp, hbad⟩ := hp rfl
    have hbad : bad = false := hbad
    subst hbad
    have hst := (ht rfl).symm
    refine st_callA (A := [.blk b (rfO ⟨s, p2, false⟩)]) (L := [.row T_int 1 u acc.length (intsL acc)]) en_joineryref4_Reader_Number h (fun k => c_fNumber (k.at 0 rfl) hl2) ?_
    rintro v w6 ⟨t2, p3, bad3, rfl, ht2, hl3, he3, hp3, k⟩ mg
    have h := mg _ k
    refine st_buildS (cs := #[.int .i64 (t2 : Nat)]) (e := T_int) (fun w => by kernel_rfl) h ?_
    intro bx w7 hbx h
    have hp3 : p2 ≤ p3 := hp3
    have hp : p2 = p + 1 := hp
    have hl3' : p3 ≤ s.length := hl3.le
    refine app_sl_int h 2 rfl [.int .i64 (t2 : Nat)] rfl (news_blk (h.at 0 rfl)) (by simp [Value.oneCell']) (by omega) ?_
    intro v' w8 h
    have h := h.pick [2, 1] (by decide) rfl
    have hpos6 : rfP b w8 = p3 := rfP_of (h.at 1 rfl)
    have hsg := more_step hst
    refine ⟨⟨(y.sign 44).2.number.2, acc ++ [(t2 : Int)], p3, bad3, by simp; omega, hl3, fun hh => ?_, ?_, ?_⟩, by show s.length - rfP b w8 < s.length - rfP b w4; rw [hpos6, hpos]; omega⟩
    · rw [h1 rfl, hsg, he3 hh]; simp
    · rw [h2, hsg]
    · have : intsL (acc ++ [(t2 : Int)]) = intsL acc ++ [.int .i64 (t2 : Nat)] := by simp
      rw [this, List.length_append]
      exact h
  · intro e
    subst e
    have hp0 : p2 = p := hp0 rfl
    subst hp0
    have hrow := h.pick [1] (by decide) rfl
    have hY : Rl (Rd.peers ⟨s, false⟩).2 ⟨s, p2, bad⟩ ∧ (bad = false → acc = (Rd.peers ⟨s, false⟩).1) := by
      cases bad
      · have hst := (ht rfl).symm
        have hsg := more_stop hst
        rw [sign_no hst] at hl2
        rw [hsg] at h1 h2
        exact ⟨by rw [h2]; exact hl2, fun _ => by rw [h1 rfl, List.append_nil]⟩
      · refine ⟨⟨hle, hs, ?_, nofun⟩, nofun⟩
        rw [h2]
        exact more_no y hy.no
    have hfin := hY.1.fin
    have h : St [] w [.blk b (.cells #[S s, .int .i64 (p2 : Nat), .bool bad] T_joineryref4_Reader (0, 0)), .row T_int 1 u acc.length (intsL acc)] w5.drew := h.step (Ext.drew _)
    refine ⟨Ext, Ext, preExt, ?_⟩
    have hlt := trivial
    cases bad
    · by_cases hpe : p2 = s.length
      · repeat
          apply Exists.intro
          apply And.intro
          · first
              | (rw [xg_ft]; try rfl)
              | (rw [xg_tf]; try rfl)
              | ((try rw [xg_same]); intro w3; first
                  | (rw [xnil_ptr]; exact ⟨rfl, rfl⟩)
                  | (rw [fld_joineryref4_Reader_S]; exact ⟨rfl, rfl⟩)
                  | (rw [fld_joineryref4_Reader_P]; exact ⟨rfl, rfl⟩)
                  | (rw [fld_joineryref4_Reader_Bad]; exact ⟨rfl, rfl⟩)
                  | (rw [xpick_true]; exact ⟨rfl, rfl⟩)
                  | (rw [xpick_false]; exact ⟨rfl, rfl⟩)
                  | (rw [xnot, Bool.not_true]; exact ⟨rfl, rfl⟩)
                  | (rw [xnot, Bool.not_false]; exact ⟨rfl, rfl⟩)
                  | (rw [xnot]; exact ⟨rfl, rfl⟩)
                  | (rw [xlen_string und_string]; exact ⟨rfl, rfl⟩)
                  | (rw [xix_str und_string _ _ _ hlt]; exact ⟨rfl, rfl⟩)
                  | (rw [xgeq, decide_eq_true (by omega)]; exact ⟨rfl, rfl⟩)
                  | (rw [xgeq, decide_eq_false (by omega)]; exact ⟨rfl, rfl⟩)
                  | (rw [xleq, decide_eq_true (by omega)]; exact ⟨rfl, rfl⟩)
                  | (rw [xleq, decide_eq_false (by omega)]; exact ⟨rfl, rfl⟩)
                  | (rw [xlss, decide_eq_true (by omega)]; exact ⟨rfl, rfl⟩)
                  | (rw [xlss, decide_eq_false (by omega)]; exact ⟨rfl, rfl⟩)
                  | (rw [xeql, decide_eq_true (by omega)]; exact ⟨rfl, rfl⟩)
                  | (rw [xeql, decide_eq_false (by omega)]; exact ⟨rfl, rfl⟩)
                  | (rw [xneq, decide_eq_true (by omega)]; exact ⟨rfl, rfl⟩)
                  | (rw [xneq, decide_eq_false (by omega)]; exact ⟨rfl, rfl⟩)
                  | (intro e3; first
                      | exact st_load ag_bool (h.step e3) 0 rfl rfl ⟨rfl, Ext.refl _⟩
                      | exact st_load ag_int (h.step e3) 0 rfl rfl ⟨rfl, Ext.refl _⟩
                      | exact st_load ag_string (h.step e3) 0 rfl rfl ⟨rfl, Ext.refl _⟩
                      | exact st_load ag_bool (hm e3) 0 rfl rfl ⟨rfl, rfl⟩
                      | exact st_load ag_int (hm e3) 0 rfl rfl ⟨rfl, rfl⟩
                      | exact st_loadW ag_api_Node sz_api_Node (hm e3) 1 rfl rfl ⟨rfl, rfl⟩
                      | exact st_loadW ag_api_Place sz_api_Place (hm e3) 1 rfl rfl ⟨rfl, rfl⟩
                      | exact xcall_of (en_joineryref4_parting _) (hpt _) fun _ _ hq => hq)
                  | (rw [xmul, wi64 (by omega) (by omega)]; exact ⟨rfl, rfl⟩)
                  | (rw [xsub, wu8 (by omega) (by omega)]; exact ⟨rfl, rfl⟩)
                  | (rw [xconv_int und_uint8 und_int, wi64 (by omega) (by omega)]; exact ⟨rfl, rfl⟩)
                  | (rw [xadd, wi64 (by omega) (by omega)]; exact ⟨rfl, rfl⟩)
                  | (rw [xslice_mid und_string (by omega) (by omega)]; exact ⟨rfl, rfl⟩)
                  | exact ⟨rfl, rfl⟩)
        intro w3 e3
        have h := h.step e3
        have e : (Rd.peers ⟨s, false⟩).2.fin = true := by rw [hfin]; simp [hpe]
        exact ⟨Ext.refl _, fun w4 e4 => ⟨acc, u, by rw [e], fun _ => hY.2 rfl, by omega, (h.step e4).pick [1] (by decide) rfl⟩⟩
      · repeat
          apply Exists.intro
          apply And.intro
          · first
              | (rw [xg_ft]; try rfl)
              | (rw [xg_tf]; try rfl)
              | ((try rw [xg_same]); intro w3; first
                  | (rw [xnil_ptr]; exact ⟨rfl, rfl⟩)
                  | (rw [fld_joineryref4_Reader_S]; exact ⟨rfl, rfl⟩)
                  | (rw [fld_joineryref4_Reader_P]; exact ⟨rfl, rfl⟩)
                  | (rw [fld_joineryref4_Reader_Bad]; exact ⟨rfl, rfl⟩)
                  | (rw [xpick_true]; exact ⟨rfl, rfl⟩)
                  | (rw [xpick_false]; exact ⟨rfl, rfl⟩)
                  | (rw [xnot, Bool.not_true]; exact ⟨rfl, rfl⟩)
                  | (rw [xnot, Bool.not_false]; exact ⟨rfl, rfl⟩)
                  | (rw [xnot]; exact ⟨rfl, rfl⟩)
                  | (rw [xlen_string und_string]; exact ⟨rfl, rfl⟩)
                  | (rw [xix_str und_string _ _ _ hlt]; exact ⟨rfl, rfl⟩)
                  | (rw [xgeq, decide_eq_true (by omega)]; exact ⟨rfl, rfl⟩)
                  | (rw [xgeq, decide_eq_false (by omega)]; exact ⟨rfl, rfl⟩)
                  | (rw [xleq, decide_eq_true (by omega)]; exact ⟨rfl, rfl⟩)
                  | (rw [xleq, decide_eq_false (by omega)]; exact ⟨rfl, rfl⟩)
                  | (rw [xlss, decide_eq_true (by omega)]; exact ⟨rfl, rfl⟩)
                  | (rw [xlss, decide_eq_false (by omega)]; exact ⟨rfl, rfl⟩)
                  | (rw [xeql, decide_eq_true (by omega)]; exact ⟨rfl, rfl⟩)
                  | (rw [xeql, decide_eq_false (by omega)]; exact ⟨rfl, rfl⟩)
                  | (rw [xneq, decide_eq_true (by omega)]; exact ⟨rfl, rfl⟩)
                  | (rw [xneq, decide_eq_false (by omega)]; exact ⟨rfl, rfl⟩)
                  | (intro e3; first
                      | exact st_load ag_bool (h.step e3) 0 rfl rfl ⟨rfl, Ext.refl _⟩
                      | exact st_load ag_int (h.step e3) 0 rfl rfl ⟨rfl, Ext.refl _⟩
                      | exact st_load ag_string (h.step e3) 0 rfl rfl ⟨rfl, Ext.refl _⟩
                      | exact st_load ag_bool (hm e3) 0 rfl rfl ⟨rfl, rfl⟩
                      | exact st_load ag_int (hm e3) 0 rfl rfl ⟨rfl, rfl⟩
                      | exact st_loadW ag_api_Node sz_api_Node (hm e3) 1 rfl rfl ⟨rfl, rfl⟩
                      | exact st_loadW ag_api_Place sz_api_Place (hm e3) 1 rfl rfl ⟨rfl, rfl⟩
                      | exact xcall_of (en_joineryref4_parting _) (hpt _) fun _ _ hq => hq)
                  | (rw [xmul, wi64 (by omega) (by omega)]; exact ⟨rfl, rfl⟩)
                  | (rw [xsub, wu8 (by omega) (by omega)]; exact ⟨rfl, rfl⟩)
                  | (rw [xconv_int und_uint8 und_int, wi64 (by omega) (by omega)]; exact ⟨rfl, rfl⟩)
                  | (rw [xadd, wi64 (by omega) (by omega)]; exact ⟨rfl, rfl⟩)
                  | (rw [xslice_mid und_string (by omega) (by omega)]; exact ⟨rfl, rfl⟩)
                  | exact ⟨rfl, rfl⟩)
        intro w3 e3
        have h := h.step e3
        have e : (Rd.peers ⟨s, false⟩).2.fin = false := by rw [hfin]; simp [hpe]
        exact ⟨Ext.refl _, fun w4 e4 => ⟨acc, u, by rw [e], fun _ => hY.2 rfl, by omega, (h.step e4).pick [1] (by decide) rfl⟩⟩
    · repeat
        apply Exists.intro
        apply And.intro
        · first
            | (rw [xg_ft]; try rfl)
            | (rw [xg_tf]; try rfl)
            | ((try rw [xg_same]); intro w3; first
                | (rw [xnil_ptr]; exact ⟨rfl, rfl⟩)
                | (rw [fld_joineryref4_Reader_S]; exact ⟨rfl, rfl⟩)
                | (rw [fld_joineryref4_Reader_P]; exact ⟨rfl, rfl⟩)
                | (rw [fld_joineryref4_Reader_Bad]; exact ⟨rfl, rfl⟩)
                | (rw [xpick_true]; exact ⟨rfl, rfl⟩)
                | (rw [xpick_false]; exact ⟨rfl, rfl⟩)
                | (rw [xnot, Bool.not_true]; exact ⟨rfl, rfl⟩)
                | (rw [xnot, Bool.not_false]; exact ⟨rfl, rfl⟩)
                | (rw [xnot]; exact ⟨rfl, rfl⟩)
                | (rw [xlen_string und_string]; exact ⟨rfl, rfl⟩)
                | (rw [xix_str und_string _ _ _ hlt]; exact ⟨rfl, rfl⟩)
                | (rw [xgeq, decide_eq_true (by omega)]; exact ⟨rfl, rfl⟩)
                | (rw [xgeq, decide_eq_false (by omega)]; exact ⟨rfl, rfl⟩)
                | (rw [xleq, decide_eq_true (by omega)]; exact ⟨rfl, rfl⟩)
                | (rw [xleq, decide_eq_false (by omega)]; exact ⟨rfl, rfl⟩)
                | (rw [xlss, decide_eq_true (by omega)]; exact ⟨rfl, rfl⟩)
                | (rw [xlss, decide_eq_false (by omega)]; exact ⟨rfl, rfl⟩)
                | (rw [xeql, decide_eq_true (by omega)]; exact ⟨rfl, rfl⟩)
                | (rw [xeql, decide_eq_false (by omega)]; exact ⟨rfl, rfl⟩)
                | (rw [xneq, decide_eq_true (by omega)]; exact ⟨rfl, rfl⟩)
                | (rw [xneq, decide_eq_false (by omega)]; exact ⟨rfl, rfl⟩)
                | (intro e3; first
                    | exact st_load ag_bool (h.step e3) 0 rfl rfl ⟨rfl, Ext.refl _⟩
                    | exact st_load ag_int (h.step e3) 0 rfl rfl ⟨rfl, Ext.refl _⟩
                    | exact st_load ag_string (h.step e3) 0 rfl rfl ⟨rfl, Ext.refl _⟩
                    | exact st_load ag_bool (hm e3) 0 rfl rfl ⟨rfl, rfl⟩
                    | exact st_load ag_int (hm e3) 0 rfl rfl ⟨rfl, rfl⟩
                    | exact st_loadW ag_api_Node sz_api_Node (hm e3) 1 rfl rfl ⟨rfl, rfl⟩
                    | exact st_loadW ag_api_Place sz_api_Place (hm e3) 1 rfl rfl ⟨rfl, rfl⟩
                    | exact xcall_of (en_joineryref4_parting _) (hpt _) fun _ _ hq => hq)
                | (rw [xmul, wi64 (by omega) (by omega)]; exact ⟨rfl, rfl⟩)
                | (rw [xsub, wu8 (by omega) (by omega)]; exact ⟨rfl, rfl⟩)
                | (rw [xconv_int und_uint8 und_int, wi64 (by omega) (by omega)]; exact ⟨rfl, rfl⟩)
                | (rw [xadd, wi64 (by omega) (by omega)]; exact ⟨rfl, rfl⟩)
                | (rw [xslice_mid und_string (by omega) (by omega)]; exact ⟨rfl, rfl⟩)
                | exact ⟨rfl, rfl⟩)
      intro w3 e3
      have h := h.step e3
      have e : (Rd.peers ⟨s, false⟩).2.fin = false := by rw [hfin]; rfl
      exact ⟨Ext.refl _, fun w4 e4 => ⟨acc, u, by rw [e], (fun hh => Bool.noConfusion (e.symm.trans hh)), by omega, (h.step e4).pick [1] (by decide) rfl⟩⟩
end Go.Proofs.YthkgbajldkicfaaGreatDoor
