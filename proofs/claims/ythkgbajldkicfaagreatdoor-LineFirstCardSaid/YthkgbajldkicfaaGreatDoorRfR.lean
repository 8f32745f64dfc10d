/-
  The document's own reader of words, beside the program's.
-/
import Derived.Test.YthkgbajldkicfaaGreatDoorRTx
import Derived.Test.YthkgbajldkicfaaGreatDoorPrs
import Derived.Test.YthkgbajldkicfaaGreatDoorXMem3
namespace Go.Proofs.YthkgbajldkicfaaGreatDoor
set_option linter.unusedVariables false
set_option linter.unusedSimpArgs false
open Go Go.Jo
set_option maxRecDepth 100000

structure RR where
  s : Str
  p : Nat
  bad : Bool
abbrev rfO (r : RR) : Obj := .cells #[S r.s, .int .i64 (r.p : Int), .bool r.bad] T_joineryref4_Reader (0, 0)
/-- The two readers stand alike. -/
structure Rl (x : Rd) (r : RR) : Prop where
  le : r.p ≤ r.s.length
  few : r.s.length ≤ 1000000
  no : x.no = r.bad
  rest : r.bad = false → x.s = r.s.drop r.p
theorem drop_at {s : Str} {p : Nat} (h : p < s.length) : s.drop p = s[p] :: s.drop (p + 1) := List.drop_eq_getElem_cons h
theorem u8_ne {a b : UInt8} (h : ¬ (a.toNat : Int) = (b.toNat : Int)) : a ≠ b := fun e => h (by rw [e])
theorem u8_eq {a b : UInt8} (h : (a.toNat : Int) = (b.toNat : Int)) : a = b := UInt8.toNat_inj.1 (by omega)
theorem c_fSign {w : World} {b : Nat} {x : Rd} {r : RR} (c : UInt8) (hb : w.heap[b]? = some (rfO r)) (hr : Rl x r) :
    Ret Tryz.prog F_joineryref4_Reader_sign #[pt b, .int .u8 (c.toNat : Int)] w fun v w' => ∃ (t : Bool) (p : Nat), v = .bool t ∧ Rl (x.sign c).2 ⟨r.s, p, r.bad⟩ ∧ (r.bad = false → t = (x.sign c).1) ∧ (t = true → p = r.p + 1 ∧ r.bad = false) ∧ (t = false → p = r.p) ∧ St [b] w [.blk b (rfO ⟨r.s, p, r.bad⟩)] w' := by
  refine call_joineryref4_Reader_sign ?_
  have h := St.startR hb
  unfold S_joineryref4_Reader_sign
  obtain ⟨s, p, bad⟩ := r
  obtain ⟨xs, no⟩ := x
  obtain ⟨hle, hfew, hno, hrest⟩ := hr
  simp only at hle hfew hno hrest
  have h : St [b] w [.blk b (.cells #[S s, .int .i64 (p : Int), .bool bad] T_joineryref4_Reader (0, 0))] w.drew := h.step (Ext.drew _)
  refine ⟨Ext, Ext, preExt, ?_⟩
  cases bad
  · have hrest := hrest rfl
    by_cases hlt : p < s.length
    · by_cases hc : (s[p].toNat : Int) = (c.toNat : Int)
      · have hc' := u8_eq hc
        repeat
          apply Exists.intro
          apply And.intro
          · first
              | (rw [xg_ft]; try rfl)
              | (rw [xg_tf]; try rfl)
              | ((try rw [xg_same]); intro w3; first
                  | (rw [xnil_ptr]; exact ⟨rfl, rfl⟩)
                  | (rw [fld_joineryref4_Reader_S]; exact ⟨rfl, rfl⟩)
                  | (rw [fld_joineryref4_Reader_P]; exact ⟨rfl, rfl⟩)
                  | (rw [fld_joineryref4_Reader_Bad]; exact ⟨rfl, rfl⟩)
                  | (rw [xpick_true]; exact ⟨rfl, rfl⟩)
                  | (rw [xpick_false]; exact ⟨rfl, rfl⟩)
                  | (rw [xnot, Bool.not_true]; exact ⟨rfl, rfl⟩)
                  | (rw [xnot, Bool.not_false]; exact ⟨rfl, rfl⟩)
                  | (rw [xnot]; exact ⟨rfl, rfl⟩)
                  | (rw [xlen_string und_string]; exact ⟨rfl, rfl⟩)
                  | (rw [xix_str und_string _ _ _ hlt]; exact ⟨rfl, rfl⟩)
                  | (rw [xgeq, decide_eq_true (by omega)]; exact ⟨rfl, rfl⟩)
                  | (rw [xgeq, decide_eq_false (by omega)]; exact ⟨rfl, rfl⟩)
                  | (rw [xleq, decide_eq_true (by omega)]; exact ⟨rfl, rfl⟩)
                  | (rw [xleq, decide_eq_false (by omega)]; exact ⟨rfl, rfl⟩)
                  | (rw [xlss, decide_eq_true (by omega)]; exact ⟨rfl, rfl⟩)
                  | (rw [xlss, decide_eq_false (by omega)]; exact ⟨rfl, rfl⟩)
                  | (rw [xeql, decide_eq_true (by omega)]; exact ⟨rfl, rfl⟩)
                  | (rw [xeql, decide_eq_false (by omega)]; exact ⟨rfl, rfl⟩)
                  | (rw [xneq, decide_eq_true (by omega)]; exact ⟨rfl, rfl⟩)
                  | (rw [xneq, decide_eq_false (by omega)]; exact ⟨rfl, rfl⟩)
                  | (intro e3; first
                      | exact st_load ag_bool (h.step e3) 0 rfl rfl ⟨rfl, Ext.refl _⟩
                      | exact st_load ag_int (h.step e3) 0 rfl rfl ⟨rfl, Ext.refl _⟩
                      | exact st_load ag_string (h.step e3) 0 rfl rfl ⟨rfl, Ext.refl _⟩
                      | exact st_load ag_bool (hm e3) 0 rfl rfl ⟨rfl, rfl⟩
                      | exact st_load ag_int (hm e3) 0 rfl rfl ⟨rfl, rfl⟩
                      | exact st_loadW ag_api_Node sz_api_Node (hm e3) 1 rfl rfl ⟨rfl, rfl⟩
                      | exact st_loadW ag_api_Place sz_api_Place (hm e3) 1 rfl rfl ⟨rfl, rfl⟩
                      | exact xcall_of (en_joineryref4_parting _) (hpt _) fun _ _ hq => hq)
                  | (rw [xmul, wi64 (by omega) (by omega)]; exact ⟨rfl, rfl⟩)
                  | (rw [xsub, wu8 (by omega) (by omega)]; exact ⟨rfl, rfl⟩)
                  | (rw [xconv_int und_uint8 und_int, wi64 (by omega) (by omega)]; exact ⟨rfl, rfl⟩)
                  | (rw [xadd, wi64 (by omega) (by omega)]; exact ⟨rfl, rfl⟩)
                  | (rw [xslice_mid und_string (by omega) (by omega)]; exact ⟨rfl, rfl⟩)
                  | exact ⟨rfl, rfl⟩)
        intro w1 e1
        have h := h.step e1
        rw [xc_false, xnil_ptr, fld_joineryref4_Reader_P]
        refine st_load ag_int h 0 rfl rfl ?_
        rw [xadd, wi64 (by omega) (by omega), xnil_ptr, fld_joineryref4_Reader_P]
        refine st_store sz_int h 0 rfl rfl rfl rfl ?_
        intro w2 h
        try simp only [go_sem] at h
        have e2 : signP c xs = (true, s.drop (p + 1)) := by
          rw [hrest, drop_at hlt]
          exact if_pos hc'
        refine ⟨true, p + 1, rfl, ⟨hlt, hfew, hno, fun _ => ?_⟩, fun _ => ?_, fun _ => ⟨rfl, rfl⟩, nofun, h⟩
        · simp only [Rd.sign, e2]
        · simp only [Rd.sign, e2]
      · have hc' := u8_ne hc
        repeat
          apply Exists.intro
          apply And.intro
          · first
              | (rw [xg_ft]; try rfl)
              | (rw [xg_tf]; try rfl)
              | ((try rw [xg_same]); intro w3; first
                  | (rw [xnil_ptr]; exact ⟨rfl, rfl⟩)
                  | (rw [fld_joineryref4_Reader_S]; exact ⟨rfl, rfl⟩)
                  | (rw [fld_joineryref4_Reader_P]; exact ⟨rfl, rfl⟩)
                  | (rw [fld_joineryref4_Reader_Bad]; exact ⟨rfl, rfl⟩)
                  | (rw [xpick_true]; exact ⟨rfl, rfl⟩)
                  | (rw [xpick_false]; exact ⟨rfl, rfl⟩)
                  | (rw [xnot, Bool.not_true]; exact ⟨rfl, rfl⟩)
                  | (rw [xnot, Bool.not_false]; exact ⟨rfl, rfl⟩)
                  | (rw [xnot]; exact ⟨rfl, rfl⟩)
                  | (rw [xlen_string und_string]; exact ⟨rfl, rfl⟩)
                  | (rw [xix_str und_string _ _ _ hlt]; exact ⟨rfl, rfl⟩)
                  | (rw [xgeq, decide_eq_true (by omega)]; exact ⟨rfl, rfl⟩)
                  | (rw [xgeq, decide_eq_false (by omega)]; exact ⟨rfl, rfl⟩)
                  | (rw [xleq, decide_eq_true (by omega)]; exact ⟨rfl, rfl⟩)
                  | (rw [xleq, decide_eq_false (by omega)]; exact ⟨rfl, rfl⟩)
                  | (rw [xlss, decide_eq_true (by omega)]; exact ⟨rfl, rfl⟩)
                  | (rw [xlss, decide_eq_false (by omega)]; exact ⟨rfl, rfl⟩)
                  | (rw [xeql, decide_eq_true (by omega)]; exact ⟨rfl, rfl⟩)
                  | (rw [xeql, decide_eq_false (by omega)]; exact ⟨rfl, rfl⟩)
                  | (rw [xneq, decide_eq_true (by omega)]; exact ⟨rfl, rfl⟩)
                  | (rw [xneq, decide_eq_false (by omega)]; exact ⟨rfl, rfl⟩)
                  | (intro e3; first
                      | exact st_load ag_bool (h.step e3) 0 rfl rfl ⟨rfl, Ext.refl _⟩
                      | exact st_load ag_int (h.step e3) 0 rfl rfl ⟨rfl, Ext.refl _⟩
                      | exact st_load ag_string (h.step e3) 0 rfl rfl ⟨rfl, Ext.refl _⟩
                      | exact st_load ag_bool (hm e3) 0 rfl rfl ⟨rfl, rfl⟩
                      | exact st_load ag_int (hm e3) 0 rfl rfl ⟨rfl, rfl⟩
                      | exact st_loadW ag_api_Node sz_api_Node (hm e3) 1 rfl rfl ⟨rfl, rfl⟩
                      | exact st_loadW ag_api_Place sz_api_Place (hm e3) 1 rfl rfl ⟨rfl, rfl⟩
                      | exact xcall_of (en_joineryref4_parting _) (hpt _) fun _ _ hq => hq)
                  | (rw [xmul, wi64 (by omega) (by omega)]; exact ⟨rfl, rfl⟩)
                  | (rw [xsub, wu8 (by omega) (by omega)]; exact ⟨rfl, rfl⟩)
                  | (rw [xconv_int und_uint8 und_int, wi64 (by omega) (by omega)]; exact ⟨rfl, rfl⟩)
                  | (rw [xadd, wi64 (by omega) (by omega)]; exact ⟨rfl, rfl⟩)
                  | (rw [xslice_mid und_string (by omega) (by omega)]; exact ⟨rfl, rfl⟩)
                  | exact ⟨rfl, rfl⟩)
        intro w1 e1
        have h := h.step e1
        rw [xc_true]
        have e2 : signP c xs = (false, xs) := by
          rw [hrest, drop_at hlt]
          exact if_neg hc'
        refine ⟨false, p, rfl, ⟨hle, hfew, hno, fun _ => ?_⟩, fun _ => ?_, nofun, fun _ => rfl, h⟩
        · simp only [Rd.sign, e2]; exact hrest
        · simp only [Rd.sign, e2]
    · have hlt' := hlt
      repeat
        apply Exists.intro
        apply And.intro
        · first
            | (rw [xg_ft]; try rfl)
            | (rw [xg_tf]; try rfl)
            | ((try rw [xg_same]); intro w3; first
                | (rw [xnil_ptr]; exact ⟨rfl, rfl⟩)
                | (rw [fld_joineryref4_Reader_S]; exact ⟨rfl, rfl⟩)
                | (rw [fld_joineryref4_Reader_P]; exact ⟨rfl, rfl⟩)
                | (rw [fld_joineryref4_Reader_Bad]; exact ⟨rfl, rfl⟩)
                | (rw [xpick_true]; exact ⟨rfl, rfl⟩)
                | (rw [xpick_false]; exact ⟨rfl, rfl⟩)
                | (rw [xnot, Bool.not_true]; exact ⟨rfl, rfl⟩)
                | (rw [xnot, Bool.not_false]; exact ⟨rfl, rfl⟩)
                | (rw [xnot]; exact ⟨rfl, rfl⟩)
                | (rw [xlen_string und_string]; exact ⟨rfl, rfl⟩)
                | (rw [xix_str und_string _ _ _ hlt]; exact ⟨rfl, rfl⟩)
                | (rw [xgeq, decide_eq_true (by omega)]; exact ⟨rfl, rfl⟩)
                | (rw [xgeq, decide_eq_false (by omega)]; exact ⟨rfl, rfl⟩)
                | (rw [xleq, decide_eq_true (by omega)]; exact ⟨rfl, rfl⟩)
                | (rw [xleq, decide_eq_false (by omega)]; exact ⟨rfl, rfl⟩)
                | (rw [xlss, decide_eq_true (by omega)]; exact ⟨rfl, rfl⟩)
                | (rw [xlss, decide_eq_false (by omega)]; exact ⟨rfl, rfl⟩)
                | (rw [xeql, decide_eq_true (by omega)]; exact ⟨rfl, rfl⟩)
                | (rw [xeql, decide_eq_false (by omega)]; exact ⟨rfl, rfl⟩)
                | (rw [xneq, decide_eq_true (by omega)]; exact ⟨rfl, rfl⟩)
                | (rw [xneq, decide_eq_false (by omega)]; exact ⟨rfl, rfl⟩)
                | (intro e3; first
                    | exact st_load ag_bool (h.step e3) 0 rfl rfl ⟨rfl, Ext.refl _⟩
                    | exact st_load ag_int (h.step e3) 0 rfl rfl ⟨rfl, Ext.refl _⟩
                    | exact st_load ag_string (h.step e3) 0 rfl rfl ⟨rfl, Ext.refl _⟩
                    | exact st_load ag_bool (hm e3) 0 rfl rfl ⟨rfl, rfl⟩
                    | exact st_load ag_int (hm e3) 0 rfl rfl ⟨rfl, rfl⟩
                    | exact st_loadW ag_api_Node sz_api_Node (hm e3) 1 rfl rfl ⟨rfl, rfl⟩
                    | exact st_loadW ag_api_Place sz_api_Place (hm e3) 1 rfl rfl ⟨rfl, rfl⟩
                    | exact xcall_of (en_joineryref4_parting _) (hpt _) fun _ _ hq => hq)
                | (rw [xmul, wi64 (by omega) (by omega)]; exact ⟨rfl, rfl⟩)
                | (rw [xsub, wu8 (by omega) (by omega)]; exact ⟨rfl, rfl⟩)
                | (rw [xconv_int und_uint8 und_int, wi64 (by omega) (by omega)]; exact ⟨rfl, rfl⟩)
                | (rw [xadd, wi64 (by omega) (by omega)]; exact ⟨rfl, rfl⟩)
                | (rw [xslice_mid und_string (by omega) (by omega)]; exact ⟨rfl, rfl⟩)
                | exact ⟨rfl, rfl⟩)
      intro w1 e1
      have h := h.step e1
      rw [xc_true]
      have e0 : xs = [] := by rw [hrest, List.drop_eq_nil_iff]; omega
      have e2 : signP c xs = (false, xs) := by rw [e0]; rfl
      refine ⟨false, p, rfl, ⟨hle, hfew, hno, fun _ => ?_⟩, fun _ => ?_, nofun, fun _ => rfl, h⟩
      · simp only [Rd.sign, e2]; exact hrest
      · simp only [Rd.sign, e2]
  · have hlt : True := trivial
    repeat
      apply Exists.intro
      apply And.intro
      · first
          | (rw [xg_ft]; try rfl)
          | (rw [xg_tf]; try rfl)
          | ((try rw [xg_same]); intro w3; first
              | (rw [xnil_ptr]; exact ⟨rfl, rfl⟩)
              | (rw [fld_joineryref4_Reader_S]; exact ⟨rfl, rfl⟩)
              | (rw [fld_joineryref4_Reader_P]; exact ⟨rfl, rfl⟩)
              | (rw [fld_joineryref4_Reader_Bad]; exact ⟨rfl, rfl⟩)
              | (rw [xpick_true]; exact ⟨rfl, rfl⟩)
              | (rw [xpick_false]; exact ⟨rfl, rfl⟩)
              | (rw [xnot, Bool.not_true]; exact ⟨rfl, rfl⟩)
              | (rw [xnot, Bool.not_false]; exact ⟨rfl, rfl⟩)
              | (rw [xnot]; exact ⟨rfl, rfl⟩)
              | (rw [xlen_string und_string]; exact ⟨rfl, rfl⟩)
              | (rw [xix_str und_string _ _ _ hlt]; exact ⟨rfl, rfl⟩)
              | (rw [xgeq, decide_eq_true (by omega)]; exact ⟨rfl, rfl⟩)
              | (rw [xgeq, decide_eq_false (by omega)]; exact ⟨rfl, rfl⟩)
              | (rw [xleq, decide_eq_true (by omega)]; exact ⟨rfl, rfl⟩)
              | (rw [xleq, decide_eq_false (by omega)]; exact ⟨rfl, rfl⟩)
              | (rw [xlss, decide_eq_true (by omega)]; exact ⟨rfl, rfl⟩)
              | (rw [xlss, decide_eq_false (by omega)]; exact ⟨rfl, rfl⟩)
              | (rw [xeql, decide_eq_true (by omega)]; exact ⟨rfl, rfl⟩)
              | (rw [xeql, decide_eq_false (by omega)]; exact ⟨rfl, rfl⟩)
              | (rw [xneq, decide_eq_true (by omega)]; exact ⟨rfl, rfl⟩)
              | (rw [xneq, decide_eq_false (by omega)]; exact ⟨rfl, rfl⟩)
              | (intro e3; first
                  | exact st_load ag_bool (h.step e3) 0 rfl rfl ⟨rfl, Ext.refl _⟩
                  | exact st_load ag_int (h.step e3) 0 rfl rfl ⟨rfl, Ext.refl _⟩
                  | exact st_load ag_string (h.step e3) 0 rfl rfl ⟨rfl, Ext.refl _⟩
                  | exact st_load ag_bool (hm e3) 0 rfl rfl ⟨rfl, rfl⟩
                  | exact st_load ag_int (hm e3) 0 rfl rfl ⟨rfl, rfl⟩
                  | exact st_loadW ag_api_Node sz_api_Node (hm e3) 1 rfl rfl ⟨rfl, rfl⟩
                  | exact st_loadW ag_api_Place sz_api_Place (hm e3) 1 rfl rfl ⟨rfl, rfl⟩
                  | exact xcall_of (en_joineryref4_parting _) (hpt _) fun _ _ hq => hq)
              | (rw [xmul, wi64 (by omega) (by omega)]; exact ⟨rfl, rfl⟩)
              | (rw [xsub, wu8 (by omega) (by omega)]; exact ⟨rfl, rfl⟩)
              | (rw [xconv_int und_uint8 und_int, wi64 (by omega) (by omega)]; exact ⟨rfl, rfl⟩)
              | (rw [xadd, wi64 (by omega) (by omega)]; exact ⟨rfl, rfl⟩)
              | (rw [xslice_mid und_string (by omega) (by omega)]; exact ⟨rfl, rfl⟩)
              | exact ⟨rfl, rfl⟩)
    intro w1 e1
    have h := h.step e1
    rw [xc_true]
    exact ⟨false, p, rfl, ⟨hle, hfew, hno, nofun⟩, nofun, nofun, fun _ => rfl, h⟩
theorem c_fMust {w : World} {b : Nat} {x : Rd} {r : RR} (c : UInt8) (hb : w.heap[b]? = some (rfO r)) (hr : Rl x r) :
    Ret Tryz.prog F_joineryref4_Reader_Must #[pt b, .int .u8 (c.toNat : Int)] w fun v w' => ∃ (p : Nat) (bad : Bool), v = .tuple #[] ∧ Rl (x.must c) ⟨r.s, p, bad⟩ ∧ St [b] w [.blk b (rfO ⟨r.s, p, bad⟩)] w' := by
  refine call_joineryref4_Reader_Must ?_
  have h := St.startR hb
  unfold S_joineryref4_Reader_Must
  refine st_callA (A := [.blk b (rfO r)]) (L := []) en_joineryref4_Reader_sign h (fun k => c_fSign c (k.at 0 rfl) hr) ?_
  rintro v w1 ⟨t, p, rfl, hl, ht, hp, _, k⟩ mg
  have h := mg _ k
  rw [xnot]
  cases t
  · rw [Bool.not_false, xc_true, xnil_ptr, fld_joineryref4_Reader_Bad]
    refine st_store sz_bool h 0 rfl rfl rfl rfl ?_
    intro w2 h
    try simp only [go_sem] at h
    refine ⟨p, true, rfl, ⟨hl.le, hl.few, ?_, nofun⟩, h⟩
    have hno := hl.no
    unfold Rd.must
    simp only [Rd.sign] at hno ht
    cases hbad : r.bad
    · rw [← ht hbad]; rfl
    · rw [hno, hbad]; simp
  · rw [Bool.not_true, xc_false]
    have hb2 := (hp rfl).2
    refine ⟨p, r.bad, rfl, ⟨hl.le, hl.few, ?_, fun hh => ?_⟩, h⟩
    · have hno := hl.no
      unfold Rd.must
      simp only [Rd.sign] at hno ht
      rw [← ht hb2, hno]
      rfl
    · exact hl.rest hh
theorem c_fParting (c : UInt8) (w : World) : RetV Tryz.prog F_joineryref4_parting #[.int .u8 (c.toNat : Int)] w (.bool (isPart c)) := by
  refine call_joineryref4_parting ?_
  unfold S_joineryref4_parting
  refine ⟨fun u w' => ∃ i : Nat, i ≤ 8 ∧ u = .int .i64 (i : Nat) ∧ w' = w ∧ ∀ j (hj : j < signs.length), j < i → signs[j] ≠ c, fun u _ => lenI 8 u, ⟨0, by omega, rfl, rfl, fun _ _ hj => by omega⟩, ?_⟩
  rintro - u w1 ⟨i, hi, rfl, rfl, hn⟩
  rw [xlss]
  refine xc_dec ?_ ?_
  · intro hlt
    have hlt : i < signs.length := by show i < 8; omega
    rw [xix_str und_string signs _ _ hlt, xeql]
    refine xc_dec ?_ ?_
    · intro e
      have e := u8_eq e
      refine ⟨?_, Ext.refl _⟩
      have : ∀ (i : Fin 8), isPart (signs[i.1]'i.2) = true := by decide
      rw [← e, this ⟨i, hlt⟩]
    · intro e
      rw [xadd, wi64 (by omega) (by omega)]
      refine ⟨⟨i + 1, hlt, rfl, rfl, fun j hj h1 => ?_⟩, lenI_succ hlt⟩
      rcases Nat.lt_succ_iff_lt_or_eq.1 h1 with h1 | rfl
      · exact hn j hj h1
      · exact u8_ne e
  · intro hge
    refine ⟨?_, Ext.refl _⟩
    have hn : ∀ j (hj : j < signs.length), signs[j] ≠ c := fun j hj => hn j hj (by have : j < 8 := hj; omega)
    have h0 := hn 0 (by decide); have h1 := hn 1 (by decide); have h2 := hn 2 (by decide); have h3 := hn 3 (by decide)
    have h4 := hn 4 (by decide); have h5 := hn 5 (by decide); have h6 := hn 6 (by decide); have h7 := hn 7 (by decide)
    have hh : isPart c = false := by
      simp only [isPart, Bool.or_eq_false_iff, beq_eq_false_iff_ne]
      exact ⟨⟨⟨⟨⟨⟨⟨Ne.symm h0, Ne.symm h1⟩, Ne.symm h2⟩, Ne.symm h3⟩, Ne.symm h4⟩, Ne.symm h5⟩, Ne.symm h6⟩, Ne.symm h7⟩
    rw [hh]
theorem xslice_mid {w : World} {t : TypeId} {s : List UInt8} {k k' : IntKind} {i j : Nat} {K : Value → World → Prop} (ht : Tryz.prog.underlying t = some .string) (h0 : i ≤ j) (h1 : j ≤ s.length) : XSlice Tryz.prog t (S s) (some (.int k (i : Nat))) (some (.int k' (j : Nat))) none w K = K (S ((s.drop i).take (j - i))) w := by
  have e : XSlice Tryz.prog t (S s) (some (.int k (i : Nat))) (some (.int k' (j : Nat))) none w K = XV Tryz.prog (Instr.sliceAt t (S s) (some (.int k (i : Nat))) (some (.int k' (j : Nat))) none) w K := propext ⟨(·.h), (⟨·⟩)⟩
  rw [e]
  refine xv_ok ?_
  have hz : (⟨s.toArray⟩ : ByteArray).size = s.length := by simp [ByteArray.size]
  have h2 : (i : Int) ≤ (j : Int) := by omega
  have h3 : (j : Int) ≤ (s.length : Int) := by omega
  simp [Instr.sliceAt, Instr.slice, run_underlying ht, Instr.sliceBounds, Instr.sliceBound, asIntOf, hz, h0, h1, h2, h3, extract_list]
  rw [List.drop_take]
/-- How far a reader is. -/
def rfP (b : Nat) (w : World) : Nat := match w.heap[b]? with
  | some (.cells cs _ _) => match nthV cs.toList 1 with
    | some (.int _ n) => n.toNat
    | _ => 0
  | _ => 0
theorem rfP_of {w : World} {b : Nat} {s : Value} {p : Nat} {u : Value} {T : TypeId} (h : w.heap[b]? = some (.cells #[s, .int .i64 (p : Nat), u] T (0, 0))) : rfP b w = p := by
  unfold rfP
  rw [h]
  exact Int.toNat_natCast p
set_option maxHeartbeats 1000000 in
theorem c_fName {w : World} {b : Nat} {x : Rd} {r : RR} (hb : w.heap[b]? = some (rfO r)) (hr : Rl x r) :
    Ret Tryz.prog F_joineryref4_Reader_Name #[pt b] w fun v w' => ∃ (t : Str) (p : Nat) (bad : Bool), v = S t ∧ t.length ≤ 1000000 ∧ Rl x.name.2 ⟨r.s, p, bad⟩ ∧ (bad = false → t = x.name.1) ∧ r.p ≤ p ∧ St [b] w [.blk b (rfO ⟨r.s, p, bad⟩)] w' := by
  refine call_joineryref4_Reader_Name ?_
  have h := St.startR hb
  unfold S_joineryref4_Reader_Name
  obtain ⟨s, p, bad⟩ := r
  obtain ⟨xs, no⟩ := x
  obtain ⟨hle, hfew, hno, hrest⟩ := hr
  simp only at hle hfew hno hrest
  have h : St [b] w [.blk b (.cells #[S s, .int .i64 (p : Nat), .bool bad] T_joineryref4_Reader (0, 0))] w := h
  rw [xnil_ptr, fld_joineryref4_Reader_P]
  refine st_load ag_int h 0 rfl rfl ?_
  refine ⟨fun w' => ∃ i, p + i ≤ s.length ∧ (∀ j (hj : j < s.length), p ≤ j → j < p + i → isPart s[j] = false) ∧ St [b] w [.blk b (.cells #[S s, .int .i64 ((p + i : Nat) : Int), .bool bad] T_joineryref4_Reader (0, 0))] w', fun w' => s.length - rfP b w', ⟨0, hle, fun _ _ _ _ => by omega, h⟩, ?_⟩
  clear h
  rintro - w1 ⟨i, hi, hn, h⟩
  have hpos := rfP_of (h.at 0 rfl)
  have h := h.step (Ext.drew _)
  refine ⟨Ext, Ext, preExt, ?_⟩
  by_cases hlt : p + i < s.length
  · cases hq : isPart s[p + i]
    · have hpt : ∀ w, RetV Tryz.prog F_joineryref4_parting #[.int .u8 (s[p + i].toNat : Int)] w (.bool false) := fun w => hq ▸ c_fParting _ w
      repeat
        apply Exists.intro
        apply And.intro
        · first
            | (rw [xg_ft]; try rfl)
            | (rw [xg_tf]; try rfl)
            | ((try rw [xg_same]); intro w3; first
                | (rw [xnil_ptr]; exact ⟨rfl, rfl⟩)
                | (rw [fld_joineryref4_Reader_S]; exact ⟨rfl, rfl⟩)
                | (rw [fld_joineryref4_Reader_P]; exact ⟨rfl, rfl⟩)
                | (rw [fld_joineryref4_Reader_Bad]; exact ⟨rfl, rfl⟩)
                | (rw [xpick_true]; exact ⟨rfl, rfl⟩)
                | (rw [xpick_false]; exact ⟨rfl, rfl⟩)
                | (rw [xnot, Bool.not_true]; exact ⟨rfl, rfl⟩)
                | (rw [xnot, Bool.not_false]; exact ⟨rfl, rfl⟩)
                | (rw [xnot]; exact ⟨rfl, rfl⟩)
                | (rw [xlen_string und_string]; exact ⟨rfl, rfl⟩)
                | (rw [xix_str und_string _ _ _ hlt]; exact ⟨rfl, rfl⟩)
                | (rw [xgeq, decide_eq_true (by omega)]; exact ⟨rfl, rfl⟩)
                | (rw [xgeq, decide_eq_false (by omega)]; exact ⟨rfl, rfl⟩)
                | (rw [xleq, decide_eq_true (by omega)]; exact ⟨rfl, rfl⟩)
                | (rw [xleq, decide_eq_false (by omega)]; exact ⟨rfl, rfl⟩)
                | (rw [xlss, decide_eq_true (by omega)]; exact ⟨rfl, rfl⟩)
                | (rw [xlss, decide_eq_false (by omega)]; exact ⟨rfl, rfl⟩)
                | (rw [xeql, decide_eq_true (by omega)]; exact ⟨rfl, rfl⟩)
                | (rw [xeql, decide_eq_false (by omega)]; exact ⟨rfl, rfl⟩)
                | (rw [xneq, decide_eq_true (by omega)]; exact ⟨rfl, rfl⟩)
                | (rw [xneq, decide_eq_false (by omega)]; exact ⟨rfl, rfl⟩)
                | (intro e3; first
                    | exact st_load ag_bool (h.step e3) 0 rfl rfl ⟨rfl, Ext.refl _⟩
                    | exact st_load ag_int (h.step e3) 0 rfl rfl ⟨rfl, Ext.refl _⟩
                    | exact st_load ag_string (h.step e3) 0 rfl rfl ⟨rfl, Ext.refl _⟩
                    | exact st_load ag_bool (hm e3) 0 rfl rfl ⟨rfl, rfl⟩
                    | exact st_load ag_int (hm e3) 0 rfl rfl ⟨rfl, rfl⟩
                    | exact st_loadW ag_api_Node sz_api_Node (hm e3) 1 rfl rfl ⟨rfl, rfl⟩
                    | exact st_loadW ag_api_Place sz_api_Place (hm e3) 1 rfl rfl ⟨rfl, rfl⟩
                    | exact xcall_of (en_joineryref4_parting _) (hpt _) fun _ _ hq => hq)
                | (rw [xmul, wi64 (by omega) (by omega)]; exact ⟨rfl, rfl⟩)
                | (rw [xsub, wu8 (by omega) (by omega)]; exact ⟨rfl, rfl⟩)
                | (rw [xconv_int und_uint8 und_int, wi64 (by omega) (by omega)]; exact ⟨rfl, rfl⟩)
                | (rw [xadd, wi64 (by omega) (by omega)]; exact ⟨rfl, rfl⟩)
                | (rw [xslice_mid und_string (by omega) (by omega)]; exact ⟨rfl, rfl⟩)
                | exact ⟨rfl, rfl⟩)
      intro w2 e2
      have h := h.step e2
      rw [xc_true, xnil_ptr, fld_joineryref4_Reader_P]
      refine st_load ag_int h 0 rfl rfl ?_
      rw [xadd, wi64 (by omega) (by omega), xnil_ptr, fld_joineryref4_Reader_P]
      refine st_store sz_int h 0 rfl rfl rfl rfl ?_
      intro w3 h
      try simp only [go_sem] at h
      have ec : ((p + i : Nat) : Int) + 1 = ((p + (i + 1) : Nat) : Int) := by omega
      rw [ec] at h
      have hpos3 := rfP_of (h.at 0 rfl)
      refine ⟨⟨i + 1, by omega, fun j hj h1 h2 => ?_, h⟩, by show s.length - rfP b w3 < s.length - rfP b w1; rw [hpos3, hpos]; omega⟩
      rcases Nat.lt_succ_iff_lt_or_eq.1 (show j < (p + i) + 1 by omega) with h3 | rfl
      · exact hn j hj h1 h3
      · exact hq
    · have hpt : ∀ w, RetV Tryz.prog F_joineryref4_parting #[.int .u8 (s[p + i].toNat : Int)] w (.bool true) := fun w => hq ▸ c_fParting _ w
      repeat
        apply Exists.intro
        apply And.intro
        · first
            | (rw [xg_ft]; try rfl)
            | (rw [xg_tf]; try rfl)
            | ((try rw [xg_same]); intro w3; first
                | (rw [xnil_ptr]; exact ⟨rfl, rfl⟩)
                | (rw [fld_joineryref4_Reader_S]; exact ⟨rfl, rfl⟩)
                | (rw [fld_joineryref4_Reader_P]; exact ⟨rfl, rfl⟩)
                | (rw [fld_joineryref4_Reader_Bad]; exact ⟨rfl, rfl⟩)
                | (rw [xpick_true]; exact ⟨rfl, rfl⟩)
                | (rw [xpick_false]; exact ⟨rfl, rfl⟩)
                | (rw [xnot, Bool.not_true]; exact ⟨rfl, rfl⟩)
                | (rw [xnot, Bool.not_false]; exact ⟨rfl, rfl⟩)
                | (rw [xnot]; exact ⟨rfl, rfl⟩)
                | (rw [xlen_string und_string]; exact ⟨rfl, rfl⟩)
                | (rw [xix_str und_string _ _ _ hlt]; exact ⟨rfl, rfl⟩)
                | (rw [xgeq, decide_eq_true (by omega)]; exact ⟨rfl, rfl⟩)
                | (rw [xgeq, decide_eq_false (by omega)]; exact ⟨rfl, rfl⟩)
                | (rw [xleq, decide_eq_true (by omega)]; exact ⟨rfl, rfl⟩)
                | (rw [xleq, decide_eq_false (by omega)]; exact ⟨rfl, rfl⟩)
                | (rw [xlss, decide_eq_true (by omega)]; exact ⟨rfl, rfl⟩)
                | (rw [xlss, decide_eq_false (by omega)]; exact ⟨rfl, rfl⟩)
                | (rw [xeql, decide_eq_true (by omega)]; exact ⟨rfl, rfl⟩)
                | (rw [xeql, decide_eq_false (by omega)]; exact ⟨rfl, rfl⟩)
                | (rw [xneq, decide_eq_true (by omega)]; exact ⟨rfl, rfl⟩)
                | (rw [xneq, decide_eq_false (by omega)]; exact ⟨rfl, rfl⟩)
                | (intro e3; first
                    | exact st_load ag_bool (h.step e3) 0 rfl rfl ⟨rfl, Ext.refl _⟩
                    | exact st_load ag_int (h.step e3) 0 rfl rfl ⟨rfl, Ext.refl _⟩
                    | exact st_load ag_string (h.step e3) 0 rfl rfl ⟨rfl, Ext.refl _⟩
                    | exact st_load ag_bool (hm e3) 0 rfl rfl ⟨rfl, rfl⟩
                    | exact st_load ag_int (hm e3) 0 rfl rfl ⟨rfl, rfl⟩
                    | exact st_loadW ag_api_Node sz_api_Node (hm e3) 1 rfl rfl ⟨rfl, rfl⟩
                    | exact st_loadW ag_api_Place sz_api_Place (hm e3) 1 rfl rfl ⟨rfl, rfl⟩
                    | exact xcall_of (en_joineryref4_parting _) (hpt _) fun _ _ hq => hq)
                | (rw [xmul, wi64 (by omega) (by omega)]; exact ⟨rfl, rfl⟩)
                | (rw [xsub, wu8 (by omega) (by omega)]; exact ⟨rfl, rfl⟩)
                | (rw [xconv_int und_uint8 und_int, wi64 (by omega) (by omega)]; exact ⟨rfl, rfl⟩)
                | (rw [xadd, wi64 (by omega) (by omega)]; exact ⟨rfl, rfl⟩)
                | (rw [xslice_mid und_string (by omega) (by omega)]; exact ⟨rfl, rfl⟩)
                | exact ⟨rfl, rfl⟩)
      intro w2 e2
      have h := h.step e2
      rw [xc_false]
      have hend : p + i = s.length ∨ ∃ hl : p + i < s.length, isPart s[p + i] = true := .inr ⟨hlt, hq⟩
      have hT : bad = false → xs.takeWhile (fun b => !isPart b) = xs.take i ∧ xs.dropWhile (fun b => !isPart b) = xs.drop i := fun hh => by
        have hrest := hrest hh
        have hxl : xs.length = s.length - p := by rw [hrest, List.length_drop]
        refine takeWhile_at (fun b => !isPart b) xs i (by omega) (fun j hj h1 => ?_) (fun hj => ?_)
        · subst hrest
          rw [List.getElem_drop, hn (p + j) (by omega) (by omega) (by omega)]
          rfl
        · subst hrest
          rcases hend with hend | ⟨hl, hend⟩
          · omega
          · rw [List.getElem_drop, hend]
            rfl
      have hB : ∀ {w' : World}, St [b] w [.blk b (.cells #[S s, .int .i64 ((p + i : Nat) : Int), .bool (bad || decide (i = 0))] T_joineryref4_Reader (0, 0))] w' → Rl (Rd.name ⟨xs, no⟩).2 ⟨s, p + i, bad || decide (i = 0)⟩ := fun _ => by
        refine ⟨hi, hfew, ?_, fun hh => ?_⟩
        · cases bad
          · have hxl : xs.length = s.length - p := by rw [hrest rfl, List.length_drop]
            simp only [Rd.name, (hT rfl).1, hno, Bool.false_or]
            cases i with
            | zero => rfl
            | succ i =>
              cases xs with
              | nil => simp at hxl; omega
              | cons a l => simp
          · simp only [Rd.name, hno, Bool.true_or]
        · have hh : bad = false ∧ i ≠ 0 := by simpa using hh
          show xs.dropWhile _ = _
          rw [(hT hh.1).2, hrest hh.1, List.drop_drop]
      refine ⟨fun w' => St [b] w [.blk b (.cells #[S s, .int .i64 ((p + i : Nat) : Int), .bool (bad || decide (i = 0))] T_joineryref4_Reader (0, 0))] w', ?_, ?_⟩
      · rintro - w3 h
        have h := h.step (Ext.drew _)
        refine ⟨Ext, Ext, preExt, ?_⟩
        repeat
          apply Exists.intro
          apply And.intro
          · first
              | (rw [xg_ft]; try rfl)
              | (rw [xg_tf]; try rfl)
              | ((try rw [xg_same]); intro w3; first
                  | (rw [xnil_ptr]; exact ⟨rfl, rfl⟩)
                  | (rw [fld_joineryref4_Reader_S]; exact ⟨rfl, rfl⟩)
                  | (rw [fld_joineryref4_Reader_P]; exact ⟨rfl, rfl⟩)
                  | (rw [fld_joineryref4_Reader_Bad]; exact ⟨rfl, rfl⟩)
                  | (rw [xpick_true]; exact ⟨rfl, rfl⟩)
                  | (rw [xpick_false]; exact ⟨rfl, rfl⟩)
                  | (rw [xnot, Bool.not_true]; exact ⟨rfl, rfl⟩)
                  | (rw [xnot, Bool.not_false]; exact ⟨rfl, rfl⟩)
                  | (rw [xnot]; exact ⟨rfl, rfl⟩)
                  | (rw [xlen_string und_string]; exact ⟨rfl, rfl⟩)
                  | (rw [xix_str und_string _ _ _ hlt]; exact ⟨rfl, rfl⟩)
                  | (rw [xgeq, decide_eq_true (by omega)]; exact ⟨rfl, rfl⟩)
                  | (rw [xgeq, decide_eq_false (by omega)]; exact ⟨rfl, rfl⟩)
                  | (rw [xleq, decide_eq_true (by omega)]; exact ⟨rfl, rfl⟩)
                  | (rw [xleq, decide_eq_false (by omega)]; exact ⟨rfl, rfl⟩)
                  | (rw [xlss, decide_eq_true (by omega)]; exact ⟨rfl, rfl⟩)
                  | (rw [xlss, decide_eq_false (by omega)]; exact ⟨rfl, rfl⟩)
                  | (rw [xeql, decide_eq_true (by omega)]; exact ⟨rfl, rfl⟩)
                  | (rw [xeql, decide_eq_false (by omega)]; exact ⟨rfl, rfl⟩)
                  | (rw [xneq, decide_eq_true (by omega)]; exact ⟨rfl, rfl⟩)
                  | (rw [xneq, decide_eq_false (by omega)]; exact ⟨rfl, rfl⟩)
                  | (intro e3; first
                      | exact st_load ag_bool (h.step e3) 0 rfl rfl ⟨rfl, Ext.refl _⟩
                      | exact st_load ag_int (h.step e3) 0 rfl rfl ⟨rfl, Ext.refl _⟩
                      | exact st_load ag_string (h.step e3) 0 rfl rfl ⟨rfl, Ext.refl _⟩
                      | exact st_load ag_bool (hm e3) 0 rfl rfl ⟨rfl, rfl⟩
                      | exact st_load ag_int (hm e3) 0 rfl rfl ⟨rfl, rfl⟩
                      | exact st_loadW ag_api_Node sz_api_Node (hm e3) 1 rfl rfl ⟨rfl, rfl⟩
                      | exact st_loadW ag_api_Place sz_api_Place (hm e3) 1 rfl rfl ⟨rfl, rfl⟩
                      | exact xcall_of (en_joineryref4_parting _) (hpt _) fun _ _ hq => hq)
                  | (rw [xmul, wi64 (by omega) (by omega)]; exact ⟨rfl, rfl⟩)
                  | (rw [xsub, wu8 (by omega) (by omega)]; exact ⟨rfl, rfl⟩)
                  | (rw [xconv_int und_uint8 und_int, wi64 (by omega) (by omega)]; exact ⟨rfl, rfl⟩)
                  | (rw [xadd, wi64 (by omega) (by omega)]; exact ⟨rfl, rfl⟩)
                  | (rw [xslice_mid und_string (by omega) (by omega)]; exact ⟨rfl, rfl⟩)
                  | exact ⟨rfl, rfl⟩)
        intro w4 e4
        have h := h.step e4
        refine ⟨(s.drop p).take (p + i - p), p + i, bad || decide (i = 0), rfl, ?_, hB h, fun hh => ?_, Nat.le_add_right p i, h⟩
        · have := List.length_take_le (p + i - p) (s.drop p)
          have := List.length_drop (i := p) (l := s)
          omega
        · have hh : bad = false ∧ i ≠ 0 := by simpa using hh
          show _ = xs.takeWhile _
          rw [(hT hh.1).1, hrest hh.1, Nat.add_sub_cancel_left]
      · rw [xnil_ptr, fld_joineryref4_Reader_P]
        refine st_load ag_int h 0 rfl rfl ?_
        rw [xeql]
        refine xc_dec ?_ ?_
        · intro h0
          have h0 : i = 0 := by omega
          rw [xnil_ptr, fld_joineryref4_Reader_Bad]
          refine st_store sz_bool h 0 rfl rfl rfl rfl ?_
          intro w3 h
          try simp only [go_sem] at h
          rw [decide_eq_true h0, Bool.or_true]
          exact h
        · intro h0
          have h0 : ¬ i = 0 := by omega
          rw [decide_eq_false h0, Bool.or_false]
          exact h
  · have hlt' := hlt
    repeat
      apply Exists.intro
      apply And.intro
      · first
          | (rw [xg_ft]; try rfl)
          | (rw [xg_tf]; try rfl)
          | ((try rw [xg_same]); intro w3; first
              | (rw [xnil_ptr]; exact ⟨rfl, rfl⟩)
              | (rw [fld_joineryref4_Reader_S]; exact ⟨rfl, rfl⟩)
              | (rw [fld_joineryref4_Reader_P]; exact ⟨rfl, rfl⟩)
              | (rw [fld_joineryref4_Reader_Bad]; exact ⟨rfl, rfl⟩)
              | (rw [xpick_true]; exact ⟨rfl, rfl⟩)
              | (rw [xpick_false]; exact ⟨rfl, rfl⟩)
              | (rw [xnot, Bool.not_true]; exact ⟨rfl, rfl⟩)
              | (rw [xnot, Bool.not_false]; exact ⟨rfl, rfl⟩)
              | (rw [xnot]; exact ⟨rfl, rfl⟩)
              | (rw [xlen_string und_string]; exact ⟨rfl, rfl⟩)
              | (rw [xix_str und_string _ _ _ hlt]; exact ⟨rfl, rfl⟩)
              | (rw [xgeq, decide_eq_true (by omega)]; exact ⟨rfl, rfl⟩)
              | (rw [xgeq, decide_eq_false (by omega)]; exact ⟨rfl, rfl⟩)
              | (rw [xleq, decide_eq_true (by omega)]; exact ⟨rfl, rfl⟩)
              | (rw [xleq, decide_eq_false (by omega)]; exact ⟨rfl, rfl⟩)
              | (rw [xlss, decide_eq_true (by omega)]; exact ⟨rfl, rfl⟩)
              | (rw [xlss, decide_eq_false (by omega)]; exact ⟨rfl, rfl⟩)
              | (rw [xeql, decide_eq_true (by omega)]; exact ⟨rfl, rfl⟩)
              | (rw [xeql, decide_eq_false (by omega)]; exact ⟨rfl, rfl⟩)
              | (rw [xneq, decide_eq_true (by omega)]; exact ⟨rfl, rfl⟩)
              | (rw [xneq, decide_eq_false (by omega)]; exact ⟨rfl, rfl⟩)
              | (intro e3; first
                  | exact st_load ag_bool (h.step e3) 0 rfl rfl ⟨rfl, Ext.refl _⟩
                  | exact st_load ag_int (h.step e3) 0 rfl rfl ⟨rfl, Ext.refl _⟩
                  | exact st_load ag_string (h.step e3) 0 rfl rfl ⟨rfl, Ext.refl _⟩
                  | exact st_load ag_bool (hm e3) 0 rfl rfl ⟨rfl, rfl⟩
                  | exact st_load ag_int (hm e3) 0 rfl rfl ⟨rfl, rfl⟩
                  | exact st_loadW ag_api_Node sz_api_Node (hm e3) 1 rfl rfl ⟨rfl, rfl⟩
                  | exact st_loadW ag_api_Place sz_api_Place (hm e3) 1 rfl rfl ⟨rfl, rfl⟩
                  | exact xcall_of (en_joineryref4_parting _) (hpt _) fun _ _ hq => hq)
              | (rw [xmul, wi64 (by omega) (by omega)]; exact ⟨rfl, rfl⟩)
              | (rw [xsub, wu8 (by omega) (by omega)]; exact ⟨rfl, rfl⟩)
              | (rw [xconv_int und_uint8 und_int, wi64 (by omega) (by omega)]; exact ⟨rfl, rfl⟩)
              | (rw [xadd, wi64 (by omega) (by omega)]; exact ⟨rfl, rfl⟩)
              | (rw [xslice_mid und_string (by omega) (by omega)]; exact ⟨rfl, rfl⟩)
              | exact ⟨rfl, rfl⟩)
    intro w2 e2
    have h := h.step e2
    rw [xc_false]
    have hend : p + i = s.length ∨ ∃ hl : p + i < s.length, isPart s[p + i] = true := .inl (by omega)
    have hT : bad = false → xs.takeWhile (fun b => !isPart b) = xs.take i ∧ xs.dropWhile (fun b => !isPart b) = xs.drop i := fun hh => by
      have hrest := hrest hh
      have hxl : xs.length = s.length - p := by rw [hrest, List.length_drop]
      refine takeWhile_at (fun b => !isPart b) xs i (by omega) (fun j hj h1 => ?_) (fun hj => ?_)
      · subst hrest
        rw [List.getElem_drop, hn (p + j) (by omega) (by omega) (by omega)]
        rfl
      · subst hrest
        rcases hend with hend | ⟨hl, hend⟩
        · omega
        · rw [List.getElem_drop, hend]
          rfl
    have hB : ∀ {w' : World}, St [b] w [.blk b (.cells #[S s, .int .i64 ((p + i : Nat) : Int), .bool (bad || decide (i = 0))] T_joineryref4_Reader (0, 0))] w' → Rl (Rd.name ⟨xs, no⟩).2 ⟨s, p + i, bad || decide (i = 0)⟩ := fun _ => by
      refine ⟨hi, hfew, ?_, fun hh => ?_⟩
      · cases bad
        · have hxl : xs.length = s.length - p := by rw [hrest rfl, List.length_drop]
          simp only [Rd.name, (hT rfl).1, hno, Bool.false_or]
          cases i with
          | zero => rfl
          | succ i =>
            cases xs with
            | nil => simp at hxl; omega
            | cons a l => simp
        · simp only [Rd.name, hno, Bool.true_or]
      · have hh : bad = false ∧ i ≠ 0 := by simpa using hh
        show xs.dropWhile _ = _
        rw [(hT hh.1).2, hrest hh.1, List.drop_drop]
    refine ⟨fun w' => St [b] w [.blk b (.cells #[S s, .int .i64 ((p + i : Nat) : Int), .bool (bad || decide (i = 0))] T_joineryref4_Reader (0, 0))] w', ?_, ?_⟩
    · rintro - w3 h
      have h := h.step (Ext.drew _)
      refine ⟨Ext, Ext, preExt, ?_⟩
      repeat
        apply Exists.intro
        apply And.intro
        · first
            | (rw [xg_ft]; try rfl)
            | (rw [xg_tf]; try rfl)
            | ((try rw [xg_same]); intro w3; first
                | (rw [xnil_ptr]; exact ⟨rfl, rfl⟩)
                | (rw [fld_joineryref4_Reader_S]; exact ⟨rfl, rfl⟩)
                | (rw [fld_joineryref4_Reader_P]; exact ⟨rfl, rfl⟩)
                | (rw [fld_joineryref4_Reader_Bad]; exact ⟨rfl, rfl⟩)
                | (rw [xpick_true]; exact ⟨rfl, rfl⟩)
                | (rw [xpick_false]; exact ⟨rfl, rfl⟩)
                | (rw [xnot, Bool.not_true]; exact ⟨rfl, rfl⟩)
                | (rw [xnot, Bool.not_false]; exact ⟨rfl, rfl⟩)
                | (rw [xnot]; exact ⟨rfl, rfl⟩)
                | (rw [xlen_string und_string]; exact ⟨rfl, rfl⟩)
                | (rw [xix_str und_string _ _ _ hlt]; exact ⟨rfl, rfl⟩)
                | (rw [xgeq, decide_eq_true (by omega)]; exact ⟨rfl, rfl⟩)
                | (rw [xgeq, decide_eq_false (by omega)]; exact ⟨rfl, rfl⟩)
                | (rw [xleq, decide_eq_true (by omega)]; exact ⟨rfl, rfl⟩)
                | (rw [xleq, decide_eq_false (by omega)]; exact ⟨rfl, rfl⟩)
                | (rw [xlss, decide_eq_true (by omega)]; exact ⟨rfl, rfl⟩)
                | (rw [xlss, decide_eq_false (by omega)]; exact ⟨rfl, rfl⟩)
                | (rw [xeql, decide_eq_true (by omega)]; exact ⟨rfl, rfl⟩)
                | (rw [xeql, decide_eq_false (by omega)]; exact ⟨rfl, rfl⟩)
                | (rw [xneq, decide_eq_true (by omega)]; exact ⟨rfl, rfl⟩)
                | (rw [xneq, decide_eq_false (by omega)]; exact ⟨rfl, rfl⟩)
                | (intro e3; first
                    | exact st_load ag_bool (h.step e3) 0 rfl rfl ⟨rfl, Ext.refl _⟩
                    | exact st_load ag_int (h.step e3) 0 rfl rfl ⟨rfl, Ext.refl _⟩
                    | exact st_load ag_string (h.step e3) 0 rfl rfl ⟨rfl, Ext.refl _⟩
                    | exact st_load ag_bool (hm e3) 0 rfl rfl ⟨rfl, rfl⟩
                    | exact st_load ag_int (hm e3) 0 rfl rfl ⟨rfl, rfl⟩
                    | exact st_loadW ag_api_Node sz_api_Node (hm e3) 1 rfl rfl ⟨rfl, rfl⟩
                    | exact st_loadW ag_api_Place sz_api_Place (hm e3) 1 rfl rfl ⟨rfl, rfl⟩
                    | exact xcall_of (en_joineryref4_parting _) (hpt _) fun _ _ hq => hq)
                | (rw [xmul, wi64 (by omega) (by omega)]; exact ⟨rfl, rfl⟩)
                | (rw [xsub, wu8 (by omega) (by omega)]; exact ⟨rfl, rfl⟩)
                | (rw [xconv_int und_uint8 und_int, wi64 (by omega) (by omega)]; exact ⟨rfl, rfl⟩)
                | (rw [xadd, wi64 (by omega) (by omega)]; exact ⟨rfl, rfl⟩)
                | (rw [xslice_mid und_string (by omega) (by omega)]; exact ⟨rfl, rfl⟩)
                | exact ⟨rfl, rfl⟩)
      intro w4 e4
      have h := h.step e4
      refine ⟨(s.drop p).take (p + i - p), p + i, bad || decide (i = 0), rfl, ?_, hB h, fun hh => ?_, Nat.le_add_right p i, h⟩
      · have := List.length_take_le (p + i - p) (s.drop p)
        have := List.length_drop (i := p) (l := s)
        omega
      · have hh : bad = false ∧ i ≠ 0 := by simpa using hh
        show _ = xs.takeWhile _
        rw [(hT hh.1).1, hrest hh.1, Nat.add_sub_cancel_left]
    · rw [xnil_ptr, fld_joineryref4_Reader_P]
      refine st_load ag_int h 0 rfl rfl ?_
      rw [xeql]
      refine xc_dec ?_ ?_
      · intro h0
        have h0 : i = 0 := by omega
        rw [xnil_ptr, fld_joineryref4_Reader_Bad]
        refine st_store sz_bool h 0 rfl rfl rfl rfl ?_
        intro w3 h
        try simp only [go_sem] at h
        rw [decide_eq_true h0, Bool.or_true]
        exact h
      · intro h0
        have h0 : ¬ i = 0 := by omega
        rw [decide_eq_false h0, Bool.or_false]
        exact h
end Go.Proofs.YthkgbajldkicfaaGreatDoor
