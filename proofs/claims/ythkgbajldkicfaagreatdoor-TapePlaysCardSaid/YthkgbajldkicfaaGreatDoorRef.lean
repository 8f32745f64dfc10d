/-
  Ref: RfR, RfN, RfV, RfW, RfX, RfY, RfZ, RfC, RfD, RfE, RfF, RfP, in one text.
-/
import Derived.Test.YthkgbajldkicfaaGreatDoorRTx
import Derived.Test.YthkgbajldkicfaaGreatDoorPrs
import Derived.Test.YthkgbajldkicfaaGreatDoorXMem3
namespace Go.Proofs.YthkgbajldkicfaaGreatDoor
set_option linter.unusedVariables false
set_option linter.unusedSimpArgs false
open Go Go.Jo
set_option maxRecDepth 100000

structure RR where
  s : Str
  p : Nat
  bad : Bool
abbrev rfO (r : RR) : Obj := .cells #[S r.s, .int .i64 (r.p : Int), .bool r.bad] T_joineryref4_Reader (0, 0)
/-- The two readers stand alike. -/
structure Rl (x : Rd) (r : RR) : Prop where
  le : r.p ≤ r.s.length
  few : r.s.length ≤ 1000000
  no : x.no = r.bad
  rest : r.bad = false → x.s = r.s.drop r.p
theorem drop_at {s : Str} {p : Nat} (h : p < s.length) : s.drop p = s[p] :: s.drop (p + 1) := List.drop_eq_getElem_cons h
theorem u8_ne {a b : UInt8} (h : ¬ (a.toNat : Int) = (b.toNat : Int)) : a ≠ b := fun e => h (by rw [e])
theorem u8_eq {a b : UInt8} (h : (a.toNat : Int) = (b.toNat : Int)) : a = b := UInt8.toNat_inj.1 (by omega)
theorem c_fSign {w : World} {b : Nat} {x : Rd} {r : RR} (c : UInt8) (hb : w.heap[b]? = some (rfO r)) (hr : Rl x r) :
    Ret Tryz.prog F_joineryref4_Reader_sign #[pt b, .int .u8 (c.toNat : Int)] w fun v w' => ∃ (t : Bool) (p : Nat), v = .bool t ∧ Rl (x.sign c).2 ⟨r.s, p, r.bad⟩ ∧ (r.bad = false → t = (x.sign c).1) ∧ (t = true → p = r.p + 1 ∧ r.bad = false) ∧ (t = false → p = r.p) ∧ St [b] w [.blk b (rfO ⟨r.s, p, r.bad⟩)] w' := by
  refine call_joineryref4_Reader_sign ?_
  have h := St.startR hb
  unfold S_joineryref4_Reader_sign
  obtain ⟨s, p, bad⟩ := r
  obtain ⟨xs, no⟩ := x
  obtain ⟨hle, hfew, hno, hrest⟩ := hr
  simp only at hle hfew hno hrest
  have h : St [b] w [.blk b (.cells #[S s, .int .i64 (p : Int), .bool bad] T_joineryref4_Reader (0, 0))] w.drew := h.step (Ext.drew _)
  refine ⟨Ext, Ext, preExt, ?_⟩
  cases bad
  · have hrest := hrest rfl
    by_cases hlt : p < s.length
    · by_cases hc : (s[p].toNat : Int) = (c.toNat : Int)
      · have hc' := u8_eq hc
        repeat
          apply Exists.intro
          apply And.intro
          · first
              | (rw [xg_ft]; try rfl)
              | (rw [xg_tf]; try rfl)
              | ((try rw [xg_same]); intro w3; first
                  | (rw [xnil_ptr]; exact ⟨rfl, rfl⟩)
                  | (rw [fld_joineryref4_Reader_S]; exact ⟨rfl, rfl⟩)
                  | (rw [fld_joineryref4_Reader_P]; exact ⟨rfl, rfl⟩)
                  | (rw [fld_joineryref4_Reader_Bad]; exact ⟨rfl, rfl⟩)
                  | (rw [xpick_true]; exact ⟨rfl, rfl⟩)
                  | (rw [xpick_false]; exact ⟨rfl, rfl⟩)
                  | (rw [xnot, Bool.not_true]; exact ⟨rfl, rfl⟩)
                  | (rw [xnot, Bool.not_false]; exact ⟨rfl, rfl⟩)
                  | (rw [xnot]; exact ⟨rfl, rfl⟩)
                  | (rw [xlen_string und_string]; exact ⟨rfl, rfl⟩)
                  | (rw [xix_str und_string _ _ _ hlt]; exact ⟨rfl, rfl⟩)
                  | (rw [xgeq, decide_eq_true (by omega)]; exact ⟨rfl, rfl⟩)
                  | (rw [xgeq, decide_eq_false (by omega)]; exact ⟨rfl, rfl⟩)
                  | (rw [xleq, decide_eq_true (by omega)]; exact ⟨rfl, rfl⟩)
                  | (rw [xleq, decide_eq_false (by omega)]; exact ⟨rfl, rfl⟩)
                  | (rw [xlss, decide_eq_true (by omega)]; exact ⟨rfl, rfl⟩)
                  | (rw [xlss, decide_eq_false (by omega)]; exact ⟨rfl, rfl⟩)
                  | (rw [xeql, decide_eq_true (by omega)]; exact ⟨rfl, rfl⟩)
                  | (rw [xeql, decide_eq_false (by omega)]; exact ⟨rfl, rfl⟩)
                  | (rw [xneq, decide_eq_true (by omega)]; exact ⟨rfl, rfl⟩)
                  | (rw [xneq, decide_eq_false (by omega)]; exact ⟨rfl, rfl⟩)
                  | (intro e3; first
                      | exact st_load ag_bool (h.step e3) 0 rfl rfl ⟨rfl, Ext.refl _⟩
                      | exact st_load ag_int (h.step e3) 0 rfl rfl ⟨rfl, Ext.refl _⟩
                      | exact st_load ag_string (h.step e3) 0 rfl rfl ⟨rfl, Ext.refl _⟩
                      | exact st_load ag_bool (hm e3) 0 rfl rfl ⟨rfl, rfl⟩
                      | exact st_load ag_int (hm e3) 0 rfl rfl ⟨rfl, rfl⟩
                      | exact st_loadW ag_api_Node sz_api_Node (hm e3) 1 rfl rfl ⟨rfl, rfl⟩
                      | exact st_loadW ag_api_Place sz_api_Place (hm e3) 1 rfl rfl ⟨rfl, rfl⟩
                      | exact xcall_of (en_joineryref4_parting _) (hpt _) fun _ _ hq => hq)
                  | (rw [xmul, wi64 (by omega) (by omega)]; exact ⟨rfl, rfl⟩)
                  | (rw [xsub, wu8 (by omega) (by omega)]; exact ⟨rfl, rfl⟩)
                  | (rw [xconv_int und_uint8 und_int, wi64 (by omega) (by omega)]; exact ⟨rfl, rfl⟩)
                  | (rw [xadd, wi64 (by omega) (by omega)]; exact ⟨rfl, rfl⟩)
                  | (rw [xslice_mid und_string (by omega) (by omega)]; exact ⟨rfl, rfl⟩)
                  | exact ⟨rfl, rfl⟩)
        intro w1 e1
        have h := h.step e1
        rw [xc_false, xnil_ptr, fld_joineryref4_Reader_P]
        refine st_load ag_int h 0 rfl rfl ?_
        rw [xadd, wi64 (by omega) (by omega), xnil_ptr, fld_joineryref4_Reader_P]
        refine st_store sz_int h 0 rfl rfl rfl rfl ?_
        intro w2 h
        try simp only [go_sem] at h
        have e2 : signP c xs = (true, s.drop (p + 1)) := by
          rw [hrest, drop_at hlt]
          exact if_pos hc'
        refine ⟨true, p + 1, rfl, ⟨hlt, hfew, hno, fun _ => ?_⟩, fun _ => ?_, fun _ => ⟨rfl, rfl⟩, nofun, h⟩
        · simp only [Rd.sign, e2]
        · simp only [Rd.sign, e2]
      · have hc' := u8_ne hc
        repeat
          apply Exists.intro
          apply And.intro
          · first
              | (rw [xg_ft]; try rfl)
              | (rw [xg_tf]; try rfl)
              | ((try rw [xg_same]); intro w3; first
                  | (rw [xnil_ptr]; exact ⟨rfl, rfl⟩)
                  | (rw [fld_joineryref4_Reader_S]; exact ⟨rfl, rfl⟩)
                  | (rw [fld_joineryref4_Reader_P]; exact ⟨rfl, rfl⟩)
                  | (rw [fld_joineryref4_Reader_Bad]; exact ⟨rfl, rfl⟩)
                  | (rw [xpick_true]; exact ⟨rfl, rfl⟩)
                  | (rw [xpick_false]; exact ⟨rfl, rfl⟩)
                  | (rw [xnot, Bool.not_true]; exact ⟨rfl, rfl⟩)
                  | (rw [xnot, Bool.not_false]; exact ⟨rfl, rfl⟩)
                  | (rw [xnot]; exact ⟨rfl, rfl⟩)
                  | (rw [xlen_string und_string]; exact ⟨rfl, rfl⟩)
                  | (rw [xix_str und_string _ _ _ hlt]; exact ⟨rfl, rfl⟩)
                  | (rw [xgeq, decide_eq_true (by omega)]; exact ⟨rfl, rfl⟩)
                  | (rw [xgeq, decide_eq_false (by omega)]; exact ⟨rfl, rfl⟩)
                  | (rw [xleq, decide_eq_true (by omega)]; exact ⟨rfl, rfl⟩)
                  | (rw [xleq, decide_eq_false (by omega)]; exact ⟨rfl, rfl⟩)
                  | (rw [xlss, decide_eq_true (by omega)]; exact ⟨rfl, rfl⟩)
                  | (rw [xlss, decide_eq_false (by omega)]; exact ⟨rfl, rfl⟩)
                  | (rw [xeql, decide_eq_true (by omega)]; exact ⟨rfl, rfl⟩)
                  | (rw [xeql, decide_eq_false (by omega)]; exact ⟨rfl, rfl⟩)
                  | (rw [xneq, decide_eq_true (by omega)]; exact ⟨rfl, rfl⟩)
                  | (rw [xneq, decide_eq_false (by omega)]; exact ⟨rfl, rfl⟩)
                  | (intro e3; first
                      | exact st_load ag_bool (h.step e3) 0 rfl rfl ⟨rfl, Ext.refl _⟩
                      | exact st_load ag_int (h.step e3) 0 rfl rfl ⟨rfl, Ext.refl _⟩
                      | exact st_load ag_string (h.step e3) 0 rfl rfl ⟨rfl, Ext.refl _⟩
                      | exact st_load ag_bool (hm e3) 0 rfl rfl ⟨rfl, rfl⟩
                      | exact st_load ag_int (hm e3) 0 rfl rfl ⟨rfl, rfl⟩
                      | exact st_loadW ag_api_Node sz_api_Node (hm e3) 1 rfl rfl ⟨rfl, rfl⟩
                      | exact st_loadW ag_api_Place sz_api_Place (hm e3) 1 rfl rfl ⟨rfl, rfl⟩
                      | exact xcall_of (en_joineryref4_parting _) (hpt _) fun _ _ hq => hq)
                  | (rw [xmul, wi64 (by omega) (by omega)]; exact ⟨rfl, rfl⟩)
                  | (rw [xsub, wu8 (by omega) (by omega)]; exact ⟨rfl, rfl⟩)
                  | (rw [xconv_int und_uint8 und_int, wi64 (by omega) (by omega)]; exact ⟨rfl, rfl⟩)
                  | (rw [xadd, wi64 (by omega) (by omega)]; exact ⟨rfl, rfl⟩)
                  | (rw [xslice_mid und_string (by omega) (by omega)]; exact ⟨rfl, rfl⟩)
                  | exact ⟨rfl, rfl⟩)
        intro w1 e1
        have h := h.step e1
        rw [xc_true]
        have e2 : signP c xs = (false, xs) := by
          rw [hrest, drop_at hlt]
          exact if_neg hc'
        refine ⟨false, p, rfl, ⟨hle, hfew, hno, fun _ => ?_⟩, fun _ => ?_, nofun, fun _ => rfl, h⟩
        · simp only [Rd.sign, e2]; exact hrest
        · simp only [Rd.sign, e2]
    · have hlt' := hlt
      repeat
        apply Exists.intro
        apply And.intro
        · first
            | (rw [xg_ft]; try rfl)
            | (rw [xg_tf]; try rfl)
            | ((try rw [xg_same]); intro w3; first
                | (rw [xnil_ptr]; exact ⟨rfl, rfl⟩)
                | (rw [fld_joineryref4_Reader_S]; exact ⟨rfl, rfl⟩)
                | (rw [fld_joineryref4_Reader_P]; exact ⟨rfl, rfl⟩)
                | (rw [fld_joineryref4_Reader_Bad]; exact ⟨rfl, rfl⟩)
                | (rw [xpick_true]; exact ⟨rfl, rfl⟩)
                | (rw [xpick_false]; exact ⟨rfl, rfl⟩)
                | (rw [xnot, Bool.not_true]; exact ⟨rfl, rfl⟩)
                | (rw [xnot, Bool.not_false]; exact ⟨rfl, rfl⟩)
                | (rw [xnot]; exact ⟨rfl, rfl⟩)
                | (rw [xlen_string und_string]; exact ⟨rfl, rfl⟩)
                | (rw [xix_str und_string _ _ _ hlt]; exact ⟨rfl, rfl⟩)
                | (rw [xgeq, decide_eq_true (by omega)]; exact ⟨rfl, rfl⟩)
                | (rw [xgeq, decide_eq_false (by omega)]; exact ⟨rfl, rfl⟩)
                | (rw [xleq, decide_eq_true (by omega)]; exact ⟨rfl, rfl⟩)
                | (rw [xleq, decide_eq_false (by omega)]; exact ⟨rfl, rfl⟩)
                | (rw [xlss, decide_eq_true (by omega)]; exact ⟨rfl, rfl⟩)
                | (rw [xlss, decide_eq_false (by omega)]; exact ⟨rfl, rfl⟩)
                | (rw [xeql, decide_eq_true (by omega)]; exact ⟨rfl, rfl⟩)
                | (rw [xeql, decide_eq_false (by omega)]; exact ⟨rfl, rfl⟩)
                | (rw [xneq, decide_eq_true (by omega)]; exact ⟨rfl, rfl⟩)
                | (rw [xneq, decide_eq_false (by omega)]; exact ⟨rfl, rfl⟩)
                | (intro e3; first
                    | exact st_load ag_bool (h.step e3) 0 rfl rfl ⟨rfl, Ext.refl _⟩
                    | exact st_load ag_int (h.step e3) 0 rfl rfl ⟨rfl, Ext.refl _⟩
                    | exact st_load ag_string (h.step e3) 0 rfl rfl ⟨rfl, Ext.refl _⟩
                    | exact st_load ag_bool (hm e3) 0 rfl rfl ⟨rfl, rfl⟩
                    | exact st_load ag_int (hm e3) 0 rfl rfl ⟨rfl, rfl⟩
                    | exact st_loadW ag_api_Node sz_api_Node (hm e3) 1 rfl rfl ⟨rfl, rfl⟩
                    | exact st_loadW ag_api_Place sz_api_Place (hm e3) 1 rfl rfl ⟨rfl, rfl⟩
                    | exact xcall_of (en_joineryref4_parting _) (hpt _) fun _ _ hq => hq)
                | (rw [xmul, wi64 (by omega) (by omega)]; exact ⟨rfl, rfl⟩)
                | (rw [xsub, wu8 (by omega) (by omega)]; exact ⟨rfl, rfl⟩)
                | (rw [xconv_int und_uint8 und_int, wi64 (by omega) (by omega)]; exact ⟨rfl, rfl⟩)
                | (rw [xadd, wi64 (by omega) (by omega)]; exact ⟨rfl, rfl⟩)
                | (rw [xslice_mid und_string (by omega) (by omega)]; exact ⟨rfl, rfl⟩)
                | exact ⟨rfl, rfl⟩)
      intro w1 e1
      have h := h.step e1
      rw [xc_true]
      have e0 : xs = [] := by rw [hrest, List.drop_eq_nil_iff]; omega
      have e2 : signP c xs = (false, xs) := by rw [e0]; rfl
      refine ⟨false, p, rfl, ⟨hle, hfew, hno, fun _ => ?_⟩, fun _ => ?_, nofun, fun _ => rfl, h⟩
      · simp only [Rd.sign, e2]; exact hrest
      · simp only [Rd.sign, e2]
  · have hlt : True := trivial
    repeat
      apply Exists.intro
      apply And.intro
      · first
          | (rw [xg_ft]; try rfl)
          | (rw [xg_tf]; try rfl)
          | ((try rw [xg_same]); intro w3; first
              | (rw [xnil_ptr]; exact ⟨rfl, rfl⟩)
              | (rw [fld_joineryref4_Reader_S]; exact ⟨rfl, rfl⟩)
              | (rw [fld_joineryref4_Reader_P]; exact ⟨rfl, rfl⟩)
              | (rw [fld_joineryref4_Reader_Bad]; exact ⟨rfl, rfl⟩)
              | (rw [xpick_true]; exact ⟨rfl, rfl⟩)
              | (rw [xpick_false]; exact ⟨rfl, rfl⟩)
              | (rw [xnot, Bool.not_true]; exact ⟨rfl, rfl⟩)
              | (rw [xnot, Bool.not_false]; exact ⟨rfl, rfl⟩)
              | (rw [xnot]; exact ⟨rfl, rfl⟩)
              | (rw [xlen_string und_string]; exact ⟨rfl, rfl⟩)
              | (rw [xix_str und_string _ _ _ hlt]; exact ⟨rfl, rfl⟩)
              | (rw [xgeq, decide_eq_true (by omega)]; exact ⟨rfl, rfl⟩)
              | (rw [xgeq, decide_eq_false (by omega)]; exact ⟨rfl, rfl⟩)
              | (rw [xleq, decide_eq_true (by omega)]; exact ⟨rfl, rfl⟩)
              | (rw [xleq, decide_eq_false (by omega)]; exact ⟨rfl, rfl⟩)
              | (rw [xlss, decide_eq_true (by omega)]; exact ⟨rfl, rfl⟩)
              | (rw [xlss, decide_eq_false (by omega)]; exact ⟨rfl, rfl⟩)
              | (rw [xeql, decide_eq_true (by omega)]; exact ⟨rfl, rfl⟩)
              | (rw [xeql, decide_eq_false (by omega)]; exact ⟨rfl, rfl⟩)
              | (rw [xneq, decide_eq_true (by omega)]; exact ⟨rfl, rfl⟩)
              | (rw [xneq, decide_eq_false (by omega)]; exact ⟨rfl, rfl⟩)
              | (intro e3; first
                  | exact st_load ag_bool (h.step e3) 0 rfl rfl ⟨rfl, Ext.refl _⟩
                  | exact st_load ag_int (h.step e3) 0 rfl rfl ⟨rfl, Ext.refl _⟩
                  | exact st_load ag_string (h.step e3) 0 rfl rfl ⟨rfl, Ext.refl _⟩
                  | exact st_load ag_bool (hm e3) 0 rfl rfl ⟨rfl, rfl⟩
                  | exact st_load ag_int (hm e3) 0 rfl rfl ⟨rfl, rfl⟩
                  | exact st_loadW ag_api_Node sz_api_Node (hm e3) 1 rfl rfl ⟨rfl, rfl⟩
                  | exact st_loadW ag_api_Place sz_api_Place (hm e3) 1 rfl rfl ⟨rfl, rfl⟩
                  | exact xcall_of (en_joineryref4_parting _) (hpt _) fun _ _ hq => hq)
              | (rw [xmul, wi64 (by omega) (by omega)]; exact ⟨rfl, rfl⟩)
              | (rw [xsub, wu8 (by omega) (by omega)]; exact ⟨rfl, rfl⟩)
              | (rw [xconv_int und_uint8 und_int, wi64 (by omega) (by omega)]; exact ⟨rfl, rfl⟩)
              | (rw [xadd, wi64 (by omega) (by omega)]; exact ⟨rfl, rfl⟩)
              | (rw [xslice_mid und_string (by omega) (by omega)]; exact ⟨rfl, rfl⟩)
              | exact ⟨rfl, rfl⟩)
    intro w1 e1
    have h := h.step e1
    rw [xc_true]
    exact ⟨false, p, rfl, ⟨hle, hfew, hno, nofun⟩, nofun, nofun, fun _ => rfl, h⟩
theorem c_fMust {w : World} {b : Nat} {x : Rd} {r : RR} (c : UInt8) (hb : w.heap[b]? = some (rfO r)) (hr : Rl x r) :
    Ret Tryz.prog F_joineryref4_Reader_Must #[pt b, .int .u8 (c.toNat : Int)] w fun v w' => ∃ (p : Nat) (bad : Bool), v = .tuple #[] ∧ Rl (x.must c) ⟨r.s, p, bad⟩ ∧ St [b] w [.blk b (rfO ⟨r.s, p, bad⟩)] w' := by
  refine call_joineryref4_Reader_Must ?_
  have h := St.startR hb
  unfold S_joineryref4_Reader_Must
  refine st_callA (A := [.blk b (rfO r)]) (L := []) en_joineryref4_Reader_sign h (fun k => c_fSign c (k.at 0 rfl) hr) ?_
  rintro v w1 ⟨t, p, rfl, hl, ht, hp, _, k⟩ mg
  have h := mg _ k
  rw [xnot]
  cases t
  · rw [Bool.not_false, xc_true, xnil_ptr, fld_joineryref4_Reader_Bad]
    refine st_store sz_bool h 0 rfl rfl rfl rfl ?_
    intro w2 h
    try simp only [go_sem] at h
    refine ⟨p, true, rfl, ⟨hl.le, hl.few, ?_, nofun⟩, h⟩
    have hno := hl.no
    unfold Rd.must
    simp only [Rd.sign] at hno ht
    cases hbad : r.bad
    · rw [← ht hbad]; rfl
    · rw [hno, hbad]; simp
  · rw [Bool.not_true, xc_false]
    have hb2 := (hp rfl).2
    refine ⟨p, r.bad, rfl, ⟨hl.le, hl.few, ?_, fun hh => ?_⟩, h⟩
    · have hno := hl.no
      unfold Rd.must
      simp only [Rd.sign] at hno ht
      rw [← ht hb2, hno]
      rfl
    · exact hl.rest hh
theorem c_fParting (c : UInt8) (w : World) : RetV Tryz.prog F_joineryref4_parting #[.int .u8 (c.toNat : Int)] w (.bool (isPart c)) := by
  refine call_joineryref4_parting ?_
  unfold S_joineryref4_parting
  refine ⟨fun u w' => ∃ i : Nat, i ≤ 8 ∧ u = .int .i64 (i : Nat) ∧ w' = w ∧ ∀ j (hj : j < signs.length), j < i → signs[j] ≠ c, fun u _ => lenI 8 u, ⟨0, by omega, rfl, rfl, fun _ _ hj => by omega⟩, ?_⟩
  rintro - u w1 ⟨i, hi, rfl, rfl, hn⟩
  rw [xlss]
  refine xc_dec ?_ ?_
  · intro hlt
    have hlt : i < signs.length := by show i < 8; omega
    rw [xix_str und_string signs _ _ hlt, xeql]
    refine xc_dec ?_ ?_
    · intro e
      have e := u8_eq e
      refine ⟨?_, Ext.refl _⟩
      have : ∀ (i : Fin 8), isPart (signs[i.1]'i.2) = true := by decide
      rw [← e, this ⟨i, hlt⟩]
    · intro e
      rw [xadd, wi64 (by omega) (by omega)]
      refine ⟨⟨i + 1, hlt, rfl, rfl, fun j hj h1 => ?_⟩, lenI_succ hlt⟩
      rcases Nat.lt_succ_iff_lt_or_eq.1 h1 with h1 | rfl
      · exact hn j hj h1
      · exact u8_ne e
  · intro hge
    refine ⟨?_, Ext.refl _⟩
    have hn : ∀ j (hj : j < signs.length), signs[j] ≠ c := fun j hj => hn j hj (by have : j < 8 := hj; omega)
    have h0 := hn 0 (by decide); have h1 := hn 1 (by decide); have h2 := hn 2 (by decide); have h3 := hn 3 (by decide)
    have h4 := hn 4 (by decide); have h5 := hn 5 (by decide); have h6 := hn 6 (by decide); have h7 := hn 7 (by decide)
    have hh : isPart c = false := by
      simp only [isPart, Bool.or_eq_false_iff, beq_eq_false_iff_ne]
      exact ⟨⟨⟨⟨⟨⟨⟨Ne.symm h0, Ne.symm h1⟩, Ne.symm h2⟩, Ne.symm h3⟩, Ne.symm h4⟩, Ne.symm h5⟩, Ne.symm h6⟩, Ne.symm h7⟩
    rw [hh]
theorem xslice_mid {w : World} {t : TypeId} {s : List UInt8} {k k' : IntKind} {i j : Nat} {K : Value → World → Prop} (ht : Tryz.prog.underlying t = some .string) (h0 : i ≤ j) (h1 : j ≤ s.length) : XSlice Tryz.prog t (S s) (some (.int k (i : Nat))) (some (.int k' (j : Nat))) none w K = K (S ((s.drop i).take (j - i))) w := by
  have e : XSlice Tryz.prog t (S s) (some (.int k (i : Nat))) (some (.int k' (j : Nat))) none w K = XV Tryz.prog (Instr.sliceAt t (S s) (some (.int k (i : Nat))) (some (.int k' (j : Nat))) none) w K := propext ⟨(·.h), (⟨·⟩)⟩
  rw [e]
  refine xv_ok ?_
  have hz : (⟨s.toArray⟩ : ByteArray).size = s.length := by simp [ByteArray.size]
  have h2 : (i : Int) ≤ (j : Int) := by omega
  have h3 : (j : Int) ≤ (s.length : Int) := by omega
  simp [Instr.sliceAt, Instr.slice, run_underlying ht, Instr.sliceBounds, Instr.sliceBound, asIntOf, hz, h0, h1, h2, h3, extract_list]
  rw [List.drop_take]
/-- How far a reader is. -/
def rfP (b : Nat) (w : World) : Nat := match w.heap[b]? with
  | some (.cells cs _ _) => match nthV cs.toList 1 with
    | some (.int _ n) => n.toNat
    | _ => 0
  | _ => 0
theorem rfP_of {w : World} {b : Nat} {s : Value} {p : Nat} {u : Value} {T : TypeId} (h : w.heap[b]? = some (.cells #[s, .int .i64 (p : Nat), u] T (0, 0))) : rfP b w = p := by
  unfold rfP
  rw [h]
  exact Int.toNat_natCast p
set_option maxHeartbeats 1000000 in
theorem c_fName {w : World} {b : Nat} {x : Rd} {r : RR} (hb : w.heap[b]? = some (rfO r)) (hr : Rl x r) :
    Ret Tryz.prog F_joineryref4_Reader_Name #[pt b] w fun v w' => ∃ (t : Str) (p : Nat) (bad : Bool), v = S t ∧ t.length ≤ 1000000 ∧ Rl x.name.2 ⟨r.s, p, bad⟩ ∧ (bad = false → t = x.name.1) ∧ r.p ≤ p ∧ St [b] w [.blk b (rfO ⟨r.s, p, bad⟩)] w' := by
  refine call_joineryref4_Reader_Name ?_
  have h := St.startR hb
  unfold S_joineryref4_Reader_Name
  obtain ⟨s, p, bad⟩ := r
  obtain ⟨xs, no⟩ := x
  obtain ⟨hle, hfew, hno, hrest⟩ := hr
  simp only at hle hfew hno hrest
  have h : St [b] w [.blk b (.cells #[S s, .int .i64 (p : Nat), .bool bad] T_joineryref4_Reader (0, 0))] w := h
  rw [xnil_ptr, fld_joineryref4_Reader_P]
  refine st_load ag_int h 0 rfl rfl ?_
  refine ⟨fun w' => ∃ i, p + i ≤ s.length ∧ (∀ j (hj : j < s.length), p ≤ j → j < p + i → isPart s[j] = false) ∧ St [b] w [.blk b (.cells #[S s, .int .i64 ((p + i : Nat) : Int), .bool bad] T_joineryref4_Reader (0, 0))] w', fun w' => s.length - rfP b w', ⟨0, hle, fun _ _ _ _ => by omega, h⟩, ?_⟩
  clear h
  rintro - w1 ⟨i, hi, hn, h⟩
  have hpos := rfP_of (h.at 0 rfl)
  have h := h.step (Ext.drew _)
  refine ⟨Ext, Ext, preExt, ?_⟩
  by_cases hlt : p + i < s.length
  · cases hq : isPart s[p + i]
    · have hpt : ∀ w, RetV Tryz.prog F_joineryref4_parting #[.int .u8 (s[p + i].toNat : Int)] w (.bool false) := fun w => hq ▸ c_fParting _ w
      repeat
        apply Exists.intro
        apply And.intro
        · first
            | (rw [xg_ft]; try rfl)
            | (rw [xg_tf]; try rfl)
            | ((try rw [xg_same]); intro w3; first
                | (rw [xnil_ptr]; exact ⟨rfl, rfl⟩)
                | (rw [fld_joineryref4_Reader_S]; exact ⟨rfl, rfl⟩)
                | (rw [fld_joineryref4_Reader_P]; exact ⟨rfl, rfl⟩)
                | (rw [fld_joineryref4_Reader_Bad]; exact ⟨rfl, rfl⟩)
                | (rw [xpick_true]; exact ⟨rfl, rfl⟩)
                | (rw [xpick_false]; exact ⟨rfl, rfl⟩)
                | (rw [xnot, Bool.not_true]; exact ⟨rfl, rfl⟩)
                | (rw [xnot, Bool.not_false]; exact ⟨rfl, rfl⟩)
                | (rw [xnot]; exact ⟨rfl, rfl⟩)
                | (rw [xlen_string und_string]; exact ⟨rfl, rfl⟩)
                | (rw [xix_str und_string _ _ _ hlt]; exact ⟨rfl, rfl⟩)
                | (rw [xgeq, decide_eq_true (by omega)]; exact ⟨rfl, rfl⟩)
                | (rw [xgeq, decide_eq_false (by omega)]; exact ⟨rfl, rfl⟩)
                | (rw [xleq, decide_eq_true (by omega)]; exact ⟨rfl, rfl⟩)
                | (rw [xleq, decide_eq_false (by omega)]; exact ⟨rfl, rfl⟩)
                | (rw [xlss, decide_eq_true (by omega)]; exact ⟨rfl, rfl⟩)
                | (rw [xlss, decide_eq_false (by omega)]; exact ⟨rfl, rfl⟩)
                | (rw [xeql, decide_eq_true (by omega)]; exact ⟨rfl, rfl⟩)
                | (rw [xeql, decide_eq_false (by omega)]; exact ⟨rfl, rfl⟩)
                | (rw [xneq, decide_eq_true (by omega)]; exact ⟨rfl, rfl⟩)
                | (rw [xneq, decide_eq_false (by omega)]; exact ⟨rfl, rfl⟩)
                | (intro e3; first
                    | exact st_load ag_bool (h.step e3) 0 rfl rfl ⟨rfl, Ext.refl _⟩
                    | exact st_load ag_int (h.step e3) 0 rfl rfl ⟨rfl, Ext.refl _⟩
                    | exact st_load ag_string (h.step e3) 0 rfl rfl ⟨rfl, Ext.refl _⟩
                    | exact st_load ag_bool (hm e3) 0 rfl rfl ⟨rfl, rfl⟩
                    | exact st_load ag_int (hm e3) 0 rfl rfl ⟨rfl, rfl⟩
                    | exact st_loadW ag_api_Node sz_api_Node (hm e3) 1 rfl rfl ⟨rfl, rfl⟩
                    | exact st_loadW ag_api_Place sz_api_Place (hm e3) 1 rfl rfl ⟨rfl, rfl⟩
                    | exact xcall_of (en_joineryref4_parting _) (hpt _) fun _ _ hq => hq)
                | (rw [xmul, wi64 (by omega) (by omega)]; exact ⟨rfl, rfl⟩)
                | (rw [xsub, wu8 (by omega) (by omega)]; exact ⟨rfl, rfl⟩)
                | (rw [xconv_int und_uint8 und_int, wi64 (by omega) (by omega)]; exact ⟨rfl, rfl⟩)
                | (rw [xadd, wi64 (by omega) (by omega)]; exact ⟨rfl, rfl⟩)
                | (rw [xslice_mid und_string (by omega) (by omega)]; exact ⟨rfl, rfl⟩)
                | exact ⟨rfl, rfl⟩)
      intro w2 e2
      have h := h.step e2
      rw [xc_true, xnil_ptr, fld_joineryref4_Reader_P]
      refine st_load ag_int h 0 rfl rfl ?_
      rw [xadd, wi64 (by omega) (by omega), xnil_ptr, fld_joineryref4_Reader_P]
      refine st_store sz_int h 0 rfl rfl rfl rfl ?_
      intro w3 h
      try simp only [go_sem] at h
      have ec : ((p + i : Nat) : Int) + 1 = ((p + (i + 1) : Nat) : Int) := by omega
      rw [ec] at h
      have hpos3 := rfP_of (h.at 0 rfl)
      refine ⟨⟨i + 1, by omega, fun j hj h1 h2 => ?_, h⟩, by show s.length - rfP b w3 < s.length - rfP b w1; rw [hpos3, hpos]; omega⟩
      rcases Nat.lt_succ_iff_lt_or_eq.1 (show j < (p + i) + 1 by omega) with h3 | rfl
      · exact hn j hj h1 h3
      · exact hq
    · have hpt : ∀ w, RetV Tryz.prog F_joineryref4_parting #[.int .u8 (s[p + i].toNat : Int)] w (.bool true) := fun w => hq ▸ c_fParting _ w
      repeat
        apply Exists.intro
        apply And.intro
        · first
            | (rw [xg_ft]; try rfl)
            | (rw [xg_tf]; try rfl)
            | ((try rw [xg_same]); intro w3; first
                | (rw [xnil_ptr]; exact ⟨rfl, rfl⟩)
                | (rw [fld_joineryref4_Reader_S]; exact ⟨rfl, rfl⟩)
                | (rw [fld_joineryref4_Reader_P]; exact ⟨rfl, rfl⟩)
                | (rw [fld_joineryref4_Reader_Bad]; exact ⟨rfl, rfl⟩)
                | (rw [xpick_true]; exact ⟨rfl, rfl⟩)
                | (rw [xpick_false]; exact ⟨rfl, rfl⟩)
                | (rw [xnot, Bool.not_true]; exact ⟨rfl, rfl⟩)
                | (rw [xnot, Bool.not_false]; exact ⟨rfl, rfl⟩)
                | (rw [xnot]; exact ⟨rfl, rfl⟩)
                | (rw [xlen_string und_string]; exact ⟨rfl, rfl⟩)
                | (rw [xix_str und_string _ _ _ hlt]; exact ⟨rfl, rfl⟩)
                | (rw [xgeq, decide_eq_true (by omega)]; exact ⟨rfl, rfl⟩)
                | (rw [xgeq, decide_eq_false (by omega)]; exact ⟨rfl, rfl⟩)
                | (rw [xleq, decide_eq_true (by omega)]; exact ⟨rfl, rfl⟩)
                | (rw [xleq, decide_eq_false (by omega)]; exact ⟨rfl, rfl⟩)
                | (rw [xlss, decide_eq_true (by omega)]; exact ⟨rfl, rfl⟩)
                | (rw [xlss, decide_eq_false (by omega)]; exact ⟨rfl, rfl⟩)
                | (rw [xeql, decide_eq_true (by omega)]; exact ⟨rfl, rfl⟩)
                | (rw [xeql, decide_eq_false (by omega)]; exact ⟨rfl, rfl⟩)
                | (rw [xneq, decide_eq_true (by omega)]; exact ⟨rfl, rfl⟩)
                | (rw [xneq, decide_eq_false (by omega)]; exact ⟨rfl, rfl⟩)
                | (intro e3; first
                    | exact st_load ag_bool (h.step e3) 0 rfl rfl ⟨rfl, Ext.refl _⟩
                    | exact st_load ag_int (h.step e3) 0 rfl rfl ⟨rfl, Ext.refl _⟩
                    | exact st_load ag_string (h.step e3) 0 rfl rfl ⟨rfl, Ext.refl _⟩
                    | exact st_load ag_bool (hm e3) 0 rfl rfl ⟨rfl, rfl⟩
                    | exact st_load ag_int (hm e3) 0 rfl rfl ⟨rfl, rfl⟩
                    | exact st_loadW ag_api_Node sz_api_Node (hm e3) 1 rfl rfl ⟨rfl, rfl⟩
                    | exact st_loadW ag_api_Place sz_api_Place (hm e3) 1 rfl rfl ⟨rfl, rfl⟩
                    | exact xcall_of (en_joineryref4_parting _) (hpt _) fun _ _ hq => hq)
                | (rw [xmul, wi64 (by omega) (by omega)]; exact ⟨rfl, rfl⟩)
                | (rw [xsub, wu8 (by omega) (by omega)]; exact ⟨rfl, rfl⟩)
                | (rw [xconv_int und_uint8 und_int, wi64 (by omega) (by omega)]; exact ⟨rfl, rfl⟩)
                | (rw [xadd, wi64 (by omega) (by omega)]; exact ⟨rfl, rfl⟩)
                | (rw [xslice_mid und_string (by omega) (by omega)]; exact ⟨rfl, rfl⟩)
                | exact ⟨rfl, rfl⟩)
      intro w2 e2
      have h := h.step e2
      rw [xc_false]
      have hend : p + i = s.length ∨ ∃ hl : p + i < s.length, isPart s[p + i] = true := .inr ⟨hlt, hq⟩
      have hT : bad = false → xs.takeWhile (fun b => !isPart b) = xs.take i ∧ xs.dropWhile (fun b => !isPart b) = xs.drop i := fun hh => by
        have hrest := hrest hh
        have hxl : xs.length = s.length - p := by rw [hrest, List.length_drop]
        refine takeWhile_at (fun b => !isPart b) xs i (by omega) (fun j hj h1 => ?_) (fun hj => ?_)
        · subst hrest
          rw [List.getElem_drop, hn (p + j) (by omega) (by omega) (by omega)]
          rfl
        · subst hrest
          rcases hend with hend | ⟨hl, hend⟩
          · omega
          · rw [List.getElem_drop, hend]
            rfl
      have hB : ∀ {w' : World}, St [b] w [.blk b (.cells #[S s, .int .i64 ((p + i : Nat) : Int), .bool (bad || decide (i = 0))] T_joineryref4_Reader (0, 0))] w' → Rl (Rd.name ⟨xs, no⟩).2 ⟨s, p + i, bad || decide (i = 0)⟩ := fun _ => by
        refine ⟨hi, hfew, ?_, fun hh => ?_⟩
        · cases bad
          · have hxl : xs.length = s.length - p := by rw [hrest rfl, List.length_drop]
            simp only [Rd.name, (hT rfl).1, hno, Bool.false_or]
            cases i with
            | zero => rfl
            | succ i =>
              cases xs with
              | nil => simp at hxl; omega
              | cons a l => simp
          · simp only [Rd.name, hno, Bool.true_or]
        · have hh : bad = false ∧ i ≠ 0 := by simpa using hh
          show xs.dropWhile _ = _
          rw [(hT hh.1).2, hrest hh.1, List.drop_drop]
      refine ⟨fun w' => St [b] w [.blk b (.cells #[S s, .int .i64 ((p + i : Nat) : Int), .bool (bad || decide (i = 0))] T_joineryref4_Reader (0, 0))] w', ?_, ?_⟩
      · rintro - w3 h
        have h := h.step (Ext.drew _)
        refine ⟨Ext, Ext, preExt, ?_⟩
        repeat
          apply Exists.intro
          apply And.intro
          · first
              | (rw [xg_ft]; try rfl)
              | (rw [xg_tf]; try rfl)
              | ((try rw [xg_same]); intro w3; first
                  | (rw [xnil_ptr]; exact ⟨rfl, rfl⟩)
                  | (rw [fld_joineryref4_Reader_S]; exact ⟨rfl, rfl⟩)
                  | (rw [fld_joineryref4_Reader_P]; exact ⟨rfl, rfl⟩)
                  | (rw [fld_joineryref4_Reader_Bad]; exact ⟨rfl, rfl⟩)
                  | (rw [xpick_true]; exact ⟨rfl, rfl⟩)
                  | (rw [xpick_false]; exact ⟨rfl, rfl⟩)
                  | (rw [xnot, Bool.not_true]; exact ⟨rfl, rfl⟩)
                  | (rw [xnot, Bool.not_false]; exact ⟨rfl, rfl⟩)
                  | (rw [xnot]; exact ⟨rfl, rfl⟩)
                  | (rw [xlen_string und_string]; exact ⟨rfl, rfl⟩)
                  | (rw [xix_str und_string _ _ _ hlt]; exact ⟨rfl, rfl⟩)
                  | (rw [xgeq, decide_eq_true (by omega)]; exact ⟨rfl, rfl⟩)
                  | (rw [xgeq, decide_eq_false (by omega)]; exact ⟨rfl, rfl⟩)
                  | (rw [xleq, decide_eq_true (by omega)]; exact ⟨rfl, rfl⟩)
                  | (rw [xleq, decide_eq_false (by omega)]; exact ⟨rfl, rfl⟩)
                  | (rw [xlss, decide_eq_true (by omega)]; exact ⟨rfl, rfl⟩)
                  | (rw [xlss, decide_eq_false (by omega)]; exact ⟨rfl, rfl⟩)
                  | (rw [xeql, decide_eq_true (by omega)]; exact ⟨rfl, rfl⟩)
                  | (rw [xeql, decide_eq_false (by omega)]; exact ⟨rfl, rfl⟩)
                  | (rw [xneq, decide_eq_true (by omega)]; exact ⟨rfl, rfl⟩)
                  | (rw [xneq, decide_eq_false (by omega)]; exact ⟨rfl, rfl⟩)
                  | (intro e3; first
                      | exact st_load ag_bool (h.step e3) 0 rfl rfl ⟨rfl, Ext.refl _⟩
                      | exact st_load ag_int (h.step e3) 0 rfl rfl ⟨rfl, Ext.refl _⟩
                      | exact st_load ag_string (h.step e3) 0 rfl rfl ⟨rfl, Ext.refl _⟩
                      | exact st_load ag_bool (hm e3) 0 rfl rfl ⟨rfl, rfl⟩
                      | exact st_load ag_int (hm e3) 0 rfl rfl ⟨rfl, rfl⟩
                      | exact st_loadW ag_api_Node sz_api_Node (hm e3) 1 rfl rfl ⟨rfl, rfl⟩
                      | exact st_loadW ag_api_Place sz_api_Place (hm e3) 1 rfl rfl ⟨rfl, rfl⟩
                      | exact xcall_of (en_joineryref4_parting _) (hpt _) fun _ _ hq => hq)
                  | (rw [xmul, wi64 (by omega) (by omega)]; exact ⟨rfl, rfl⟩)
                  | (rw [xsub, wu8 (by omega) (by omega)]; exact ⟨rfl, rfl⟩)
                  | (rw [xconv_int und_uint8 und_int, wi64 (by omega) (by omega)]; exact ⟨rfl, rfl⟩)
                  | (rw [xadd, wi64 (by omega) (by omega)]; exact ⟨rfl, rfl⟩)
                  | (rw [xslice_mid und_string (by omega) (by omega)]; exact ⟨rfl, rfl⟩)
                  | exact ⟨rfl, rfl⟩)
        intro w4 e4
        have h := h.step e4
        refine ⟨(s.drop p).take (p + i - p), p + i, bad || decide (i = 0), rfl, ?_, hB h, fun hh => ?_, Nat.le_add_right p i, h⟩
        · have := List.length_take_le (p + i - p) (s.drop p)
          have := List.length_drop (i := p) (l := s)
          omega
        · have hh : bad = false ∧ i ≠ 0 := by simpa using hh
          show _ = xs.takeWhile _
          rw [(hT hh.1).1, hrest hh.1, Nat.add_sub_cancel_left]
      · rw [xnil_ptr, fld_joineryref4_Reader_P]
        refine st_load ag_int h 0 rfl rfl ?_
        rw [xeql]
        refine xc_dec ?_ ?_
        · intro h0
          have h0 : i = 0 := by omega
          rw [xnil_ptr, fld_joineryref4_Reader_Bad]
          refine st_store sz_bool h 0 rfl rfl rfl rfl ?_
          intro w3 h
          try simp only [go_sem] at h
          rw [decide_eq_true h0, Bool.or_true]
          exact h
        · intro h0
          have h0 : ¬ i = 0 := by omega
          rw [decide_eq_false h0, Bool.or_false]
          exact h
  · have hlt' := hlt
    repeat
      apply Exists.intro
      apply And.intro
      · first
          | (rw [xg_ft]; try rfl)
          | (rw [xg_tf]; try rfl)
          | ((try rw [xg_same]); intro w3; first
              | (rw [xnil_ptr]; exact ⟨rfl, rfl⟩)
              | (rw [fld_joineryref4_Reader_S]; exact ⟨rfl, rfl⟩)
              | (rw [fld_joineryref4_Reader_P]; exact ⟨rfl, rfl⟩)
              | (rw [fld_joineryref4_Reader_Bad]; exact ⟨rfl, rfl⟩)
              | (rw [xpick_true]; exact ⟨rfl, rfl⟩)
              | (rw [xpick_false]; exact ⟨rfl, rfl⟩)
              | (rw [xnot, Bool.not_true]; exact ⟨rfl, rfl⟩)
              | (rw [xnot, Bool.not_false]; exact ⟨rfl, rfl⟩)
              | (rw [xnot]; exact ⟨rfl, rfl⟩)
              | (rw [xlen_string und_string]; exact ⟨rfl, rfl⟩)
              | (rw [xix_str und_string _ _ _ hlt]; exact ⟨rfl, rfl⟩)
              | (rw [xgeq, decide_eq_true (by omega)]; exact ⟨rfl, rfl⟩)
              | (rw [xgeq, decide_eq_false (by omega)]; exact ⟨rfl, rfl⟩)
              | (rw [xleq, decide_eq_true (by omega)]; exact ⟨rfl, rfl⟩)
              | (rw [xleq, decide_eq_false (by omega)]; exact ⟨rfl, rfl⟩)
              | (rw [xlss, decide_eq_true (by omega)]; exact ⟨rfl, rfl⟩)
              | (rw [xlss, decide_eq_false (by omega)]; exact ⟨rfl, rfl⟩)
              | (rw [xeql, decide_eq_true (by omega)]; exact ⟨rfl, rfl⟩)
              | (rw [xeql, decide_eq_false (by omega)]; exact ⟨rfl, rfl⟩)
              | (rw [xneq, decide_eq_true (by omega)]; exact ⟨rfl, rfl⟩)
              | (rw [xneq, decide_eq_false (by omega)]; exact ⟨rfl, rfl⟩)
              | (intro e3; first
                  | exact st_load ag_bool (h.step e3) 0 rfl rfl ⟨rfl, Ext.refl _⟩
                  | exact st_load ag_int (h.step e3) 0 rfl rfl ⟨rfl, Ext.refl _⟩
                  | exact st_load ag_string (h.step e3) 0 rfl rfl ⟨rfl, Ext.refl _⟩
                  | exact st_load ag_bool (hm e3) 0 rfl rfl ⟨rfl, rfl⟩
                  | exact st_load ag_int (hm e3) 0 rfl rfl ⟨rfl, rfl⟩
                  | exact st_loadW ag_api_Node sz_api_Node (hm e3) 1 rfl rfl ⟨rfl, rfl⟩
                  | exact st_loadW ag_api_Place sz_api_Place (hm e3) 1 rfl rfl ⟨rfl, rfl⟩
                  | exact xcall_of (en_joineryref4_parting _) (hpt _) fun _ _ hq => hq)
              | (rw [xmul, wi64 (by omega) (by omega)]; exact ⟨rfl, rfl⟩)
              | (rw [xsub, wu8 (by omega) (by omega)]; exact ⟨rfl, rfl⟩)
              | (rw [xconv_int und_uint8 und_int, wi64 (by omega) (by omega)]; exact ⟨rfl, rfl⟩)
              | (rw [xadd, wi64 (by omega) (by omega)]; exact ⟨rfl, rfl⟩)
              | (rw [xslice_mid und_string (by omega) (by omega)]; exact ⟨rfl, rfl⟩)
              | exact ⟨rfl, rfl⟩)
    intro w2 e2
    have h := h.step e2
    rw [xc_false]
    have hend : p + i = s.length ∨ ∃ hl : p + i < s.length, isPart s[p + i] = true := .inl (by omega)
    have hT : bad = false → xs.takeWhile (fun b => !isPart b) = xs.take i ∧ xs.dropWhile (fun b => !isPart b) = xs.drop i := fun hh => by
      have hrest := hrest hh
      have hxl : xs.length = s.length - p := by rw [hrest, List.length_drop]
      refine takeWhile_at (fun b => !isPart b) xs i (by omega) (fun j hj h1 => ?_) (fun hj => ?_)
      · subst hrest
        rw [List.getElem_drop, hn (p + j) (by omega) (by omega) (by omega)]
        rfl
      · subst hrest
        rcases hend with hend | ⟨hl, hend⟩
        · omega
        · rw [List.getElem_drop, hend]
          rfl
    have hB : ∀ {w' : World}, St [b] w [.blk b (.cells #[S s, .int .i64 ((p + i : Nat) : Int), .bool (bad || decide (i = 0))] T_joineryref4_Reader (0, 0))] w' → Rl (Rd.name ⟨xs, no⟩).2 ⟨s, p + i, bad || decide (i = 0)⟩ := fun _ => by
      refine ⟨hi, hfew, ?_, fun hh => ?_⟩
      · cases bad
        · have hxl : xs.length = s.length - p := by rw [hrest rfl, List.length_drop]
          simp only [Rd.name, (hT rfl).1, hno, Bool.false_or]
          cases i with
          | zero => rfl
          | succ i =>
            cases xs with
            | nil => simp at hxl; omega
            | cons a l => simp
        · simp only [Rd.name, hno, Bool.true_or]
      · have hh : bad = false ∧ i ≠ 0 := by simpa using hh
        show xs.dropWhile _ = _
        rw [(hT hh.1).2, hrest hh.1, List.drop_drop]
    refine ⟨fun w' => St [b] w [.blk b (.cells #[S s, .int .i64 ((p + i : Nat) : Int), .bool (bad || decide (i = 0))] T_joineryref4_Reader (0, 0))] w', ?_, ?_⟩
    · rintro - w3 h
      have h := h.step (Ext.drew _)
      refine ⟨Ext, Ext, preExt, ?_⟩
      repeat
        apply Exists.intro
        apply And.intro
        · first
            | (rw [xg_ft]; try rfl)
            | (rw [xg_tf]; try rfl)
            | ((try rw [xg_same]); intro w3; first
                | (rw [xnil_ptr]; exact ⟨rfl, rfl⟩)
                | (rw [fld_joineryref4_Reader_S]; exact ⟨rfl, rfl⟩)
                | (rw [fld_joineryref4_Reader_P]; exact ⟨rfl, rfl⟩)
                | (rw [fld_joineryref4_Reader_Bad]; exact ⟨rfl, rfl⟩)
                | (rw [xpick_true]; exact ⟨rfl, rfl⟩)
                | (rw [xpick_false]; exact ⟨rfl, rfl⟩)
                | (rw [xnot, Bool.not_true]; exact ⟨rfl, rfl⟩)
                | (rw [xnot, Bool.not_false]; exact ⟨rfl, rfl⟩)
                | (rw [xnot]; exact ⟨rfl, rfl⟩)
                | (rw [xlen_string und_string]; exact ⟨rfl, rfl⟩)
                | (rw [xix_str und_string _ _ _ hlt]; exact ⟨rfl, rfl⟩)
                | (rw [xgeq, decide_eq_true (by omega)]; exact ⟨rfl, rfl⟩)
                | (rw [xgeq, decide_eq_false (by omega)]; exact ⟨rfl, rfl⟩)
                | (rw [xleq, decide_eq_true (by omega)]; exact ⟨rfl, rfl⟩)
                | (rw [xleq, decide_eq_false (by omega)]; exact ⟨rfl, rfl⟩)
                | (rw [xlss, decide_eq_true (by omega)]; exact ⟨rfl, rfl⟩)
                | (rw [xlss, decide_eq_false (by omega)]; exact ⟨rfl, rfl⟩)
                | (rw [xeql, decide_eq_true (by omega)]; exact ⟨rfl, rfl⟩)
                | (rw [xeql, decide_eq_false (by omega)]; exact ⟨rfl, rfl⟩)
                | (rw [xneq, decide_eq_true (by omega)]; exact ⟨rfl, rfl⟩)
                | (rw [xneq, decide_eq_false (by omega)]; exact ⟨rfl, rfl⟩)
                | (intro e3; first
                    | exact st_load ag_bool (h.step e3) 0 rfl rfl ⟨rfl, Ext.refl _⟩
                    | exact st_load ag_int (h.step e3) 0 rfl rfl ⟨rfl, Ext.refl _⟩
                    | exact st_load ag_string (h.step e3) 0 rfl rfl ⟨rfl, Ext.refl _⟩
                    | exact st_load ag_bool (hm e3) 0 rfl rfl ⟨rfl, rfl⟩
                    | exact st_load ag_int (hm e3) 0 rfl rfl ⟨rfl, rfl⟩
                    | exact st_loadW ag_api_Node sz_api_Node (hm e3) 1 rfl rfl ⟨rfl, rfl⟩
                    | exact st_loadW ag_api_Place sz_api_Place (hm e3) 1 rfl rfl ⟨rfl, rfl⟩
                    | exact xcall_of (en_joineryref4_parting _) (hpt _) fun _ _ hq => hq)
                | (rw [xmul, wi64 (by omega) (by omega)]; exact ⟨rfl, rfl⟩)
                | (rw [xsub, wu8 (by omega) (by omega)]; exact ⟨rfl, rfl⟩)
                | (rw [xconv_int und_uint8 und_int, wi64 (by omega) (by omega)]; exact ⟨rfl, rfl⟩)
                | (rw [xadd, wi64 (by omega) (by omega)]; exact ⟨rfl, rfl⟩)
                | (rw [xslice_mid und_string (by omega) (by omega)]; exact ⟨rfl, rfl⟩)
                | exact ⟨rfl, rfl⟩)
      intro w4 e4
      have h := h.step e4
      refine ⟨(s.drop p).take (p + i - p), p + i, bad || decide (i = 0), rfl, ?_, hB h, fun hh => ?_, Nat.le_add_right p i, h⟩
      · have := List.length_take_le (p + i - p) (s.drop p)
        have := List.length_drop (i := p) (l := s)
        omega
      · have hh : bad = false ∧ i ≠ 0 := by simpa using hh
        show _ = xs.takeWhile _
        rw [(hT hh.1).1, hrest hh.1, Nat.add_sub_cancel_left]
    · rw [xnil_ptr, fld_joineryref4_Reader_P]
      refine st_load ag_int h 0 rfl rfl ?_
      rw [xeql]
      refine xc_dec ?_ ?_
      · intro h0
        have h0 : i = 0 := by omega
        rw [xnil_ptr, fld_joineryref4_Reader_Bad]
        refine st_store sz_bool h 0 rfl rfl rfl rfl ?_
        intro w3 h
        try simp only [go_sem] at h
        rw [decide_eq_true h0, Bool.or_true]
        exact h
      · intro h0
        have h0 : ¬ i = 0 := by omega
        rw [decide_eq_false h0, Bool.or_false]
        exact h
end Go.Proofs.YthkgbajldkicfaaGreatDoor

namespace Go.Proofs.YthkgbajldkicfaaGreatDoor
set_option linter.unusedVariables false
set_option linter.unusedSimpArgs false
open Go Go.Jo
set_option maxRecDepth 100000

theorem valD_ge : ∀ (n : Nat) (l : Str), l.length = n + 1 → (∀ b ∈ l, isDig b = true) → l.head? ≠ some 48 → 10 ^ n ≤ valD l
  | 0, l, h, hd, hh => by
    obtain ⟨b, rfl⟩ : ∃ b, l = [b] := by
      match l, h with
      | [b], _ => exact ⟨b, rfl⟩
    exact valD_pos b [] (hd b (by simp)) fun e => hh (by rw [e]; rfl)
  | n + 1, l, h, hd, hh => by
    have hne : l ≠ [] := fun e => by subst e; simp at h
    obtain ⟨l', b, rfl⟩ : ∃ l' b, l = l' ++ [b] := ⟨l.dropLast, l.getLast hne, (List.dropLast_concat_getLast hne).symm⟩
    have hll : l'.length = n + 1 := by simpa using h
    have ih := valD_ge n l' hll (fun x hx => hd x (by simp [hx])) (by
      cases l' with
      | nil => simp at hll
      | cons c t => simpa using hh)
    rw [valD_snoc, Nat.pow_succ]
    omega
theorem num_none {xs : Str} {no : Bool} (h : xs.takeWhile isDig = []) : (Rd.number ⟨xs, no⟩).2.no = true := by
  unfold Rd.number
  simp only [h]
  simp
theorem num_zero {xs : Str} {no : Bool} (h : 1 < (xs.takeWhile isDig).length) (h0 : xs.head? = some 48) : (Rd.number ⟨xs, no⟩).2.no = true := by
  unfold Rd.number
  simp only
  rw [if_pos (.inr ⟨h, h0⟩)]
theorem num_long {xs : Str} {no : Bool} (h : 15 < (xs.takeWhile isDig).length) : (Rd.number ⟨xs, no⟩).2.no = true := by
  unfold Rd.number
  simp only
  rw [if_pos (.inl h)]
theorem num_bad {xs : Str} : (Rd.number ⟨xs, true⟩).2.no = true := by
  unfold Rd.number
  simp only
  split <;> simp
theorem num_fine {xs : Str} {no : Bool} {n : Nat} (ht : xs.takeWhile isDig = xs.take n) (hd : xs.dropWhile isDig = xs.drop n) (hn : n ≤ xs.length) (h0 : 1 ≤ n) (h1 : n ≤ 15) (hh : n = 1 ∨ xs.head? ≠ some 48) : Rd.number ⟨xs, no⟩ = (valD (xs.take n), ⟨xs.drop n, no⟩) := by
  unfold Rd.number
  have hl : (xs.take n).length = n := by rw [List.length_take]; omega
  simp only [ht, hd, hl]
  rw [if_neg (by
    rintro (h | ⟨h, h2⟩)
    · omega
    · rcases hh with hh | hh
      · omega
      · exact hh h2)]
  have : (xs.take n).isEmpty = false := by
    cases he : xs.take n with
    | nil => rw [he] at hl; simp at hl; omega
    | cons a l => rfl
  rw [this, Bool.or_false]
/-- Behind a number's digits. -/
theorem numEnd {w w2 : World} {b p i n : Nat} {s xs : Str} {no bad bd : Bool} (hle : p ≤ s.length) (hfew : s.length ≤ 1000000) (hno : no = bad) (hrest : bad = false → xs = s.drop p) (hi : p + i ≤ s.length) (hn : ∀ j (hj : j < s.length), p ≤ j → j < p + i → isDig s[j] = true) (hv : n = valD ((s.drop p).take i)) (hbi : bad = true → i = 0) (hbd : bd = (bad || decide (999999999999999 < n))) (hn9 : n ≤ 9999999999999999)
    (hend : bd = true ∨ p + i = s.length ∨ ∃ hl : p + i < s.length, isDig s[p + i] = false) (h : St [b] w [.blk b (.cells #[S s, .int .i64 ((p + i : Nat) : Int), .bool bd] T_joineryref4_Reader (0, 0))] w2) {R : Value → World → Prop}
    (hR : ∀ (m : Nat) (bb : Bool) (w' : World), m ≤ 9999999999999999 → Rl (Rd.number ⟨xs, no⟩).2 ⟨s, p + i, bb⟩ → (bb = false → m = (Rd.number ⟨xs, no⟩).1) → St [b] w [.blk b (.cells #[S s, .int .i64 ((p + i : Nat) : Int), .bool bb] T_joineryref4_Reader (0, 0))] w' → R (.int .i64 (m : Nat)) w') :
    XNil (pt b) fun q17 => XFld Tryz.prog 166 q17 1 w2 fun v81 w140 => XLoad Tryz.prog 3 v81 w140 fun v82 w141 => XBin Tryz.prog .eql 3 false false v82 (.int .i64 (p : Nat)) w141 fun v84 w142 =>
      ∃ J1 : Value → World → Prop, (∀ (_ : Env) (u93 : Value) (w143 : World), J1 u93 w143 → ∃ J2 : Value → World → Prop, (∀ (_ : Env) (u100 : Value) (w144 : World), J2 u100 w144 →
        ∃ J3 : Value → World → Prop, (∀ (_ : Env) (u101 : Value) (w145 : World), J3 u101 w145 → XPick v84 (Value.bool true) u101 fun q18 => XC q18 (XNil (pt b) fun q19 => XFld Tryz.prog 166 q19 2 w145 fun v105 w146 => XStore Tryz.prog 4 v105 (Value.bool true) w146 fun w147 => R (Value.int .i64 0) w147) (R (.int .i64 (n : Nat)) w145)) ∧
          XG v84 false (XPick u93 u100 (Value.bool false) fun q20 => J3 q20 w144) (J3 undef w144)) ∧
        XG u93 true (XNil (pt b) fun q21 => XFld Tryz.prog 166 q21 1 w143 fun v96 w148 => XLoad Tryz.prog 3 v96 w148 fun v97 w149 => XBin Tryz.prog .add 3 false true (.int .i64 (p : Nat)) (Value.int .i64 1) w149 fun v99 w150 => XBin Tryz.prog .gtr 3 false false v97 v99 w150 fun v100 w151 => J2 v100 w151) (J2 undef w143)) ∧
      XG v84 false (XNil (pt b) fun q22 => XFld Tryz.prog 166 q22 0 w142 fun v88 w152 => XLoad Tryz.prog 9 v88 w152 fun v89 w153 => XIx Tryz.prog 9 v89 (.int .i64 (p : Nat)) w153 fun v91 w154 => XBin Tryz.prog .eql 5 false true v91 (Value.int .u8 48) w154 fun v92 w155 => J1 v92 w155) (J1 undef w142) := by
  have hx : bad = false → xs.length = s.length - p := fun hh => by rw [hrest hh, List.length_drop]
  have hge : bad = false → i ≤ (xs.takeWhile isDig).length := fun hh => by
    have := hx hh
    refine takeWhile_ge isDig xs i (by omega) fun j hj h1 => ?_
    have hr := hrest hh
    subst hr
    rw [List.getElem_drop]
    exact hn (p + j) (by omega) (by omega) (by omega)
  have hat : bad = false → bd = false → xs.takeWhile isDig = xs.take i ∧ xs.dropWhile isDig = xs.drop i := fun hh hd => by
    have := hx hh
    have hr := hrest hh
    refine takeWhile_at isDig xs i (by omega) (fun j hj h1 => ?_) (fun hj => ?_)
    · subst hr
      rw [List.getElem_drop]
      exact hn (p + j) (by omega) (by omega) (by omega)
    · subst hr
      rw [List.getElem_drop]
      rcases hend with e | e | ⟨_, e⟩
      · rw [hd] at e; cases e
      · omega
      · exact e
  have bads : ∀ {w' : World} (m : Nat), m ≤ 9999999999999999 → (Rd.number ⟨xs, no⟩).2.no = true → St [b] w [.blk b (.cells #[S s, .int .i64 ((p + i : Nat) : Int), .bool true] T_joineryref4_Reader (0, 0))] w' → R (.int .i64 (m : Nat)) w' := fun m hm hh h => hR m true _ hm ⟨hi, hfew, hh, nofun⟩ nofun h
  rw [xnil_ptr, fld_joineryref4_Reader_P]
  refine st_load ag_int h 0 rfl rfl ?_
  rw [xeql]
  by_cases h0 : i = 0
  · rw [decide_eq_true (by omega)]
    refine ⟨fun u w' => u = undef ∧ St [b] w [.blk b (.cells #[S s, .int .i64 ((p + i : Nat) : Int), .bool bd] T_joineryref4_Reader (0, 0))] w', ?_, by rw [xg_tf]; exact ⟨rfl, h⟩⟩
    rintro - u w3 ⟨rfl, h⟩
    refine ⟨fun u w' => St [b] w [.blk b (.cells #[S s, .int .i64 ((p + i : Nat) : Int), .bool bd] T_joineryref4_Reader (0, 0))] w', ?_, ⟨nofun, fun _ => h⟩⟩
    rintro - u w4 h
    refine ⟨fun u w' => St [b] w [.blk b (.cells #[S s, .int .i64 ((p + i : Nat) : Int), .bool bd] T_joineryref4_Reader (0, 0))] w', ?_, by rw [xg_tf]; exact h⟩
    rintro - u w5 h
    rw [xpick_true, xc_true, xnil_ptr, fld_joineryref4_Reader_Bad]
    refine st_store sz_bool h 0 rfl rfl rfl rfl ?_
    intro w6 h
    try simp only [go_sem] at h
    refine bads 0 (by omega) ?_ h
    cases hbad : bad
    · have hbd0 : bd = false := by
        rw [hbd, hbad, hv, h0]
        rfl
      have := hat hbad hbd0
      rw [h0] at this
      exact num_none (by rw [this.1]; rfl)
    · rw [hno, hbad]; exact num_bad
  · have hb0 : bad = false := by
      cases hh : bad
      · rfl
      · exact absurd (hbi hh) h0
    have hlt : p < s.length := by omega
    have hdp := hn p hlt (by omega) (by omega)
    have hd9 := (isDig_iff _).1 hdp
    have hhd : xs.head? = some s[p] := by rw [hrest hb0, drop_at hlt]; rfl
    rw [decide_eq_false (by omega)]
    refine ⟨fun u w' => u = .bool (decide ((s[p].toNat : Int) = 48)) ∧ St [b] w [.blk b (.cells #[S s, .int .i64 ((p + i : Nat) : Int), .bool bd] T_joineryref4_Reader (0, 0))] w', ?_, ?_⟩
    · rintro - u w3 ⟨rfl, h⟩
      refine ⟨fun u w' => ((s[p].toNat : Int) = 48 → u = .bool (decide (1 < i))) ∧ St [b] w [.blk b (.cells #[S s, .int .i64 ((p + i : Nat) : Int), .bool bd] T_joineryref4_Reader (0, 0))] w', ?_, ?_⟩
      · rintro - u w4 ⟨hu, h⟩
        refine ⟨fun u w' => u = .bool (decide ((s[p].toNat : Int) = 48) && decide (1 < i)) ∧ St [b] w [.blk b (.cells #[S s, .int .i64 ((p + i : Nat) : Int), .bool bd] T_joineryref4_Reader (0, 0))] w', ?_, ?_⟩
        · rintro - u w5 ⟨rfl, h⟩
          rw [xpick_false]
          refine xc_of ?_ ?_
          · intro hc
            rw [Bool.and_eq_true, decide_eq_true_eq, decide_eq_true_eq] at hc
            rw [xnil_ptr, fld_joineryref4_Reader_Bad]
            refine st_store sz_bool h 0 rfl rfl rfl rfl ?_
            intro w6 h
            try simp only [go_sem] at h
            refine bads 0 (by omega) ?_ h
            have := hge hb0
            refine num_zero (by omega) ?_
            rw [hhd, u8_eq (b := 48) hc.1]
          · intro hc
            rw [Bool.and_eq_false_iff, decide_eq_false_iff_not, decide_eq_false_iff_not] at hc
            have hlen : ((s.drop p).take i).length = i := by rw [List.length_take, List.length_drop]; omega
            have hdg : ∀ c ∈ (s.drop p).take i, isDig c = true := fun c hc => by
              obtain ⟨j, hj, rfl⟩ := List.mem_iff_getElem.1 hc
              rw [List.getElem_take, List.getElem_drop]
              exact hn (p + j) (by omega) (by omega) (by omega)
            have hvlt := valD_lt i _ hlen hdg
            rw [← hv] at hvlt
            cases hbb : bd
            · have ha := hat hb0 hbb
              have hnm : n ≤ 999999999999999 := by
                rcases Nat.lt_or_ge 999999999999999 n with hh | hh
                · rw [hbb, hb0, decide_eq_true hh] at hbd; cases hbd
                · exact hh
              have hne : i = 1 ∨ xs.head? ≠ some 48 := by
                rcases hc with hc | hc
                · right
                  rw [hhd]
                  intro e
                  injection e with e
                  rw [e] at hc
                  exact hc rfl
                · left; omega
              have h15 : i ≤ 15 := by
                rcases Nat.lt_or_ge 15 i with hh | hh
                · have hne : xs.head? ≠ some 48 := hne.resolve_left (by omega)
                  have h1 := valD_ge (i - 1) ((s.drop p).take i) (by rw [hlen]; omega) hdg (by
                    rw [← hrest hb0, List.head?_take, if_neg h0]
                    exact hne)
                  rw [← hv] at h1
                  have h2 : 10 ^ 15 ≤ 10 ^ (i - 1) := Nat.pow_le_pow_right (by omega) (by omega)
                  omega
                · exact hh
              have hxl := hx hb0
              have hf := num_fine (no := no) ha.1 ha.2 (by omega) (by omega) h15 hne
              rw [hbb] at h
              refine hR n false _ hn9 ⟨hi, hfew, ?_, fun _ => ?_⟩ (fun _ => ?_) h
              · rw [hf]; exact hno.trans hb0
              · rw [hf, hrest hb0]
                show (s.drop p).drop i = s.drop (p + i)
                rw [List.drop_drop]
              · rw [hf, hrest hb0]; exact hv
            · rw [hbb] at h
              refine bads n hn9 ?_ h
              have hnm : 999999999999999 < n := by
                rw [hbb, hb0, Bool.false_or] at hbd
                exact of_decide_eq_true hbd.symm
              have := hge hb0
              refine num_long ?_
              rcases Nat.lt_or_ge 15 i with hh | hh
              · omega
              · have h2 : 10 ^ i ≤ 10 ^ 15 := Nat.pow_le_pow_right (by omega) hh
                omega
        · rw [xg_same]
          by_cases hc : (s[p].toNat : Int) = 48
          · rw [decide_eq_true hc, xpick_true, hu hc]
            exact ⟨rfl, h⟩
          · rw [decide_eq_false hc, xpick_false]
            exact ⟨rfl, h⟩
      · by_cases hc : (s[p].toNat : Int) = 48
        · rw [decide_eq_true hc, xg_same, xnil_ptr, fld_joineryref4_Reader_P]
          refine st_load ag_int h 0 rfl rfl ?_
          rw [xadd, wi64 (by omega) (by omega), xgtr]
          refine ⟨fun _ => ?_, h⟩
          have : decide ((p : Int) + 1 < ((p + i : Nat) : Int)) = decide (1 < i) := decide_eq_decide.2 (by omega)
          rw [this]
        · rw [decide_eq_false hc, xg_ft]
          exact ⟨fun hh => absurd hh hc, h⟩
    · rw [xg_same, xnil_ptr, fld_joineryref4_Reader_S]
      refine st_load ag_string h 0 rfl rfl ?_
      rw [xix_str und_string _ _ _ hlt, xeql]
      exact ⟨rfl, h⟩
set_option maxHeartbeats 4000000 in
theorem c_fNumber {w : World} {b : Nat} {x : Rd} {r : RR} (hb : w.heap[b]? = some (rfO r)) (hr : Rl x r) :
    Ret Tryz.prog F_joineryref4_Reader_Number #[pt b, .int .i64 999999999999999] w fun v w' => ∃ (n : Nat) (p : Nat) (bad : Bool), v = .int .i64 (n : Nat) ∧ n ≤ 9999999999999999 ∧ Rl x.number.2 ⟨r.s, p, bad⟩ ∧ (bad = false → n = x.number.1) ∧ r.p ≤ p ∧ St [b] w [.blk b (rfO ⟨r.s, p, bad⟩)] w' := by
  refine call_joineryref4_Reader_Number ?_
  have h := St.startR hb
  obtain ⟨s, p, bad⟩ := r
  obtain ⟨xs, no⟩ := x
  suffices hS : ∀ R : Value → World → Prop, (∀ (m p' : Nat) (bb : Bool) (w' : World), m ≤ 9999999999999999 → Rl (Rd.number ⟨xs, no⟩).2 ⟨s, p', bb⟩ → (bb = false → m = (Rd.number ⟨xs, no⟩).1) → p ≤ p' → St [b] w [.blk b (.cells #[S s, .int .i64 (p' : Nat), .bool bb] T_joineryref4_Reader (0, 0))] w' → R (.int .i64 (m : Nat)) w') → S_joineryref4_Reader_Number Tryz.prog (pt b) (.int .i64 999999999999999) w R from hS _ fun m p' bb w' h1 h2 h3 h4 h5 => ⟨m, p', bb, rfl, h1, h2, h3, h4, h5⟩
  intro R hR
  unfold S_joineryref4_Reader_Number
  obtain ⟨hle, hfew, hno, hrest⟩ := hr
  simp only at hle hfew hno hrest
  have h : St [b] w [.blk b (.cells #[S s, .int .i64 (p : Nat), .bool bad] T_joineryref4_Reader (0, 0))] w := h
  rw [xnil_ptr, fld_joineryref4_Reader_P]
  refine st_load ag_int h 0 rfl rfl ?_
  refine ⟨fun u w' => ∃ (i : Nat) (n : Nat) (bd : Bool), p + i ≤ s.length ∧ (∀ j (hj : j < s.length), p ≤ j → j < p + i → isDig s[j] = true) ∧ n = valD ((s.drop p).take i) ∧ u = .int .i64 (n : Nat) ∧ (bad = true → i = 0) ∧ bd = (bad || decide (999999999999999 < n)) ∧ n ≤ 9999999999999999 ∧ St [b] w [.blk b (.cells #[S s, .int .i64 ((p + i : Nat) : Int), .bool bd] T_joineryref4_Reader (0, 0))] w', fun _ w' => s.length - rfP b w', ⟨0, 0, bad, hle, fun _ _ _ _ => by omega, rfl, rfl, fun _ => rfl, by simp, by omega, h⟩, ?_⟩
  clear h
  rintro - u w1 ⟨i, n, bd, hi, hn, hv, rfl, hbi, hbd, hn9, h⟩
  have hpos := rfP_of (h.at 0 rfl)
  have h := h.step (Ext.drew _)
  refine ⟨Ext, Ext, preExt, ?_⟩
  cases bd
  · by_cases hlt : p + i < s.length
    · by_cases h1 : 48 ≤ s[p + i].toNat
      · by_cases h2 : s[p + i].toNat ≤ 57
        · repeat
            apply Exists.intro
            apply And.intro
            · first
                | (rw [xg_ft]; try rfl)
                | (rw [xg_tf]; try rfl)
                | ((try rw [xg_same]); intro w3; first
                    | (rw [xnil_ptr]; exact ⟨rfl, rfl⟩)
                    | (rw [fld_joineryref4_Reader_S]; exact ⟨rfl, rfl⟩)
                    | (rw [fld_joineryref4_Reader_P]; exact ⟨rfl, rfl⟩)
                    | (rw [fld_joineryref4_Reader_Bad]; exact ⟨rfl, rfl⟩)
                    | (rw [xpick_true]; exact ⟨rfl, rfl⟩)
                    | (rw [xpick_false]; exact ⟨rfl, rfl⟩)
                    | (rw [xnot, Bool.not_true]; exact ⟨rfl, rfl⟩)
                    | (rw [xnot, Bool.not_false]; exact ⟨rfl, rfl⟩)
                    | (rw [xnot]; exact ⟨rfl, rfl⟩)
                    | (rw [xlen_string und_string]; exact ⟨rfl, rfl⟩)
                    | (rw [xix_str und_string _ _ _ hlt]; exact ⟨rfl, rfl⟩)
                    | (rw [xgeq, decide_eq_true (by omega)]; exact ⟨rfl, rfl⟩)
                    | (rw [xgeq, decide_eq_false (by omega)]; exact ⟨rfl, rfl⟩)
                    | (rw [xleq, decide_eq_true (by omega)]; exact ⟨rfl, rfl⟩)
                    | (rw [xleq, decide_eq_false (by omega)]; exact ⟨rfl, rfl⟩)
                    | (rw [xlss, decide_eq_true (by omega)]; exact ⟨rfl, rfl⟩)
                    | (rw [xlss, decide_eq_false (by omega)]; exact ⟨rfl, rfl⟩)
                    | (rw [xeql, decide_eq_true (by omega)]; exact ⟨rfl, rfl⟩)
                    | (rw [xeql, decide_eq_false (by omega)]; exact ⟨rfl, rfl⟩)
                    | (rw [xneq, decide_eq_true (by omega)]; exact ⟨rfl, rfl⟩)
                    | (rw [xneq, decide_eq_false (by omega)]; exact ⟨rfl, rfl⟩)
                    | (intro e3; first
                        | exact st_load ag_bool (h.step e3) 0 rfl rfl ⟨rfl, Ext.refl _⟩
                        | exact st_load ag_int (h.step e3) 0 rfl rfl ⟨rfl, Ext.refl _⟩
                        | exact st_load ag_string (h.step e3) 0 rfl rfl ⟨rfl, Ext.refl _⟩
                        | exact st_load ag_bool (hm e3) 0 rfl rfl ⟨rfl, rfl⟩
                        | exact st_load ag_int (hm e3) 0 rfl rfl ⟨rfl, rfl⟩
                        | exact st_loadW ag_api_Node sz_api_Node (hm e3) 1 rfl rfl ⟨rfl, rfl⟩
                        | exact st_loadW ag_api_Place sz_api_Place (hm e3) 1 rfl rfl ⟨rfl, rfl⟩
                        | exact xcall_of (en_joineryref4_parting _) (hpt _) fun _ _ hq => hq)
                    | (rw [xmul, wi64 (by omega) (by omega)]; exact ⟨rfl, rfl⟩)
                    | (rw [xsub, wu8 (by omega) (by omega)]; exact ⟨rfl, rfl⟩)
                    | (rw [xconv_int und_uint8 und_int, wi64 (by omega) (by omega)]; exact ⟨rfl, rfl⟩)
                    | (rw [xadd, wi64 (by omega) (by omega)]; exact ⟨rfl, rfl⟩)
                    | (rw [xslice_mid und_string (by omega) (by omega)]; exact ⟨rfl, rfl⟩)
                    | exact ⟨rfl, rfl⟩)
          intro w2 e2
          have h := h.step e2
          rw [xc_true]
          have h := h.step (Ext.drew _)
          have hmn : n ≤ 999999999999999 := by
            rcases Nat.lt_or_ge 999999999999999 n with hh | hh
            · rw [decide_eq_true hh, Bool.or_true] at hbd; cases hbd
            · exact hh
          have hb0 : bad = false := by
            cases bad
            · rfl
            · rw [Bool.true_or] at hbd; cases hbd
          refine ⟨Ext, Ext, preExt, ?_⟩
          repeat
            apply Exists.intro
            apply And.intro
            · first
                | (rw [xg_ft]; try rfl)
                | (rw [xg_tf]; try rfl)
                | ((try rw [xg_same]); intro w3; first
                    | (rw [xnil_ptr]; exact ⟨rfl, rfl⟩)
                    | (rw [fld_joineryref4_Reader_S]; exact ⟨rfl, rfl⟩)
                    | (rw [fld_joineryref4_Reader_P]; exact ⟨rfl, rfl⟩)
                    | (rw [fld_joineryref4_Reader_Bad]; exact ⟨rfl, rfl⟩)
                    | (rw [xpick_true]; exact ⟨rfl, rfl⟩)
                    | (rw [xpick_false]; exact ⟨rfl, rfl⟩)
                    | (rw [xnot, Bool.not_true]; exact ⟨rfl, rfl⟩)
                    | (rw [xnot, Bool.not_false]; exact ⟨rfl, rfl⟩)
                    | (rw [xnot]; exact ⟨rfl, rfl⟩)
                    | (rw [xlen_string und_string]; exact ⟨rfl, rfl⟩)
                    | (rw [xix_str und_string _ _ _ hlt]; exact ⟨rfl, rfl⟩)
                    | (rw [xgeq, decide_eq_true (by omega)]; exact ⟨rfl, rfl⟩)
                    | (rw [xgeq, decide_eq_false (by omega)]; exact ⟨rfl, rfl⟩)
                    | (rw [xleq, decide_eq_true (by omega)]; exact ⟨rfl, rfl⟩)
                    | (rw [xleq, decide_eq_false (by omega)]; exact ⟨rfl, rfl⟩)
                    | (rw [xlss, decide_eq_true (by omega)]; exact ⟨rfl, rfl⟩)
                    | (rw [xlss, decide_eq_false (by omega)]; exact ⟨rfl, rfl⟩)
                    | (rw [xeql, decide_eq_true (by omega)]; exact ⟨rfl, rfl⟩)
                    | (rw [xeql, decide_eq_false (by omega)]; exact ⟨rfl, rfl⟩)
                    | (rw [xneq, decide_eq_true (by omega)]; exact ⟨rfl, rfl⟩)
                    | (rw [xneq, decide_eq_false (by omega)]; exact ⟨rfl, rfl⟩)
                    | (intro e3; first
                        | exact st_load ag_bool (h.step e3) 0 rfl rfl ⟨rfl, Ext.refl _⟩
                        | exact st_load ag_int (h.step e3) 0 rfl rfl ⟨rfl, Ext.refl _⟩
                        | exact st_load ag_string (h.step e3) 0 rfl rfl ⟨rfl, Ext.refl _⟩
                        | exact st_load ag_bool (hm e3) 0 rfl rfl ⟨rfl, rfl⟩
                        | exact st_load ag_int (hm e3) 0 rfl rfl ⟨rfl, rfl⟩
                        | exact st_loadW ag_api_Node sz_api_Node (hm e3) 1 rfl rfl ⟨rfl, rfl⟩
                        | exact st_loadW ag_api_Place sz_api_Place (hm e3) 1 rfl rfl ⟨rfl, rfl⟩
                        | exact xcall_of (en_joineryref4_parting _) (hpt _) fun _ _ hq => hq)
                    | (rw [xmul, wi64 (by omega) (by omega)]; exact ⟨rfl, rfl⟩)
                    | (rw [xsub, wu8 (by omega) (by omega)]; exact ⟨rfl, rfl⟩)
                    | (rw [xconv_int und_uint8 und_int, wi64 (by omega) (by omega)]; exact ⟨rfl, rfl⟩)
                    | (rw [xadd, wi64 (by omega) (by omega)]; exact ⟨rfl, rfl⟩)
                    | (rw [xslice_mid und_string (by omega) (by omega)]; exact ⟨rfl, rfl⟩)
                    | exact ⟨rfl, rfl⟩)
          intro w3 e3
          have h := h.step e3
          rw [xnil_ptr, fld_joineryref4_Reader_P]
          refine st_load ag_int h 0 rfl rfl ?_
          rw [xadd, wi64 (by omega) (by omega), xnil_ptr, fld_joineryref4_Reader_P]
          refine st_store sz_int h 0 rfl rfl rfl rfl ?_
          intro w4 h
          try simp only [go_sem] at h
          have ec : ((p + i : Nat) : Int) + 1 = ((p + (i + 1) : Nat) : Int) := by omega
          rw [ec] at h
          have en : (10 : Int) * (n : Int) + ((s[p + i].toNat : Int) - 48) = ((n * 10 + (s[p + i].toNat - 48) : Nat) : Int) := by omega
          have hv2 : n * 10 + (s[p + i].toNat - 48) = valD ((s.drop p).take (i + 1)) := by
            rw [List.take_succ_eq_append_getElem (by rw [List.length_drop]; omega), valD_snoc, ← hv, List.getElem_drop]
          have hdig : ∀ j (hj : j < s.length), p ≤ j → j < p + (i + 1) → isDig s[j] = true := fun j hj h3 h4 => by
            rcases Nat.lt_succ_iff_lt_or_eq.1 (show j < (p + i) + 1 by omega) with h5 | rfl
            · exact hn j hj h3 h5
            · exact (isDig_iff _).2 ⟨h1, h2⟩
          rw [en, xgtr]
          refine xc_dec ?_ ?_
          · intro hm
            rw [xnil_ptr, fld_joineryref4_Reader_Bad]
            refine st_store sz_bool h 0 rfl rfl rfl rfl ?_
            intro w5 h
            try simp only [go_sem] at h
            have hpos5 := rfP_of (h.at 0 rfl)
            refine ⟨⟨i + 1, _, true, by omega, hdig, hv2, rfl, (fun hh => Bool.noConfusion (hb0.symm.trans hh)), ?_, by omega, h⟩, by show s.length - rfP b w5 < s.length - rfP b w1; rw [hpos5, hpos]; omega⟩
            rw [decide_eq_true (by omega), Bool.or_true]
          · intro hm
            have hpos5 := rfP_of (h.at 0 rfl)
            refine ⟨⟨i + 1, _, false, by omega, hdig, hv2, rfl, (fun hh => Bool.noConfusion (hb0.symm.trans hh)), ?_, by omega, h⟩, by show s.length - rfP b w4 < s.length - rfP b w1; rw [hpos5, hpos]; omega⟩
            rw [decide_eq_false (by omega), hb0]
            rfl
        · repeat
            apply Exists.intro
            apply And.intro
            · first
                | (rw [xg_ft]; try rfl)
                | (rw [xg_tf]; try rfl)
                | ((try rw [xg_same]); intro w3; first
                    | (rw [xnil_ptr]; exact ⟨rfl, rfl⟩)
                    | (rw [fld_joineryref4_Reader_S]; exact ⟨rfl, rfl⟩)
                    | (rw [fld_joineryref4_Reader_P]; exact ⟨rfl, rfl⟩)
                    | (rw [fld_joineryref4_Reader_Bad]; exact ⟨rfl, rfl⟩)
                    | (rw [xpick_true]; exact ⟨rfl, rfl⟩)
                    | (rw [xpick_false]; exact ⟨rfl, rfl⟩)
                    | (rw [xnot, Bool.not_true]; exact ⟨rfl, rfl⟩)
                    | (rw [xnot, Bool.not_false]; exact ⟨rfl, rfl⟩)
                    | (rw [xnot]; exact ⟨rfl, rfl⟩)
                    | (rw [xlen_string und_string]; exact ⟨rfl, rfl⟩)
                    | (rw [xix_str und_string _ _ _ hlt]; exact ⟨rfl, rfl⟩)
                    | (rw [xgeq, decide_eq_true (by omega)]; exact ⟨rfl, rfl⟩)
                    | (rw [xgeq, decide_eq_false (by omega)]; exact ⟨rfl, rfl⟩)
                    | (rw [xleq, decide_eq_true (by omega)]; exact ⟨rfl, rfl⟩)
                    | (rw [xleq, decide_eq_false (by omega)]; exact ⟨rfl, rfl⟩)
                    | (rw [xlss, decide_eq_true (by omega)]; exact ⟨rfl, rfl⟩)
                    | (rw [xlss, decide_eq_false (by omega)]; exact ⟨rfl, rfl⟩)
                    | (rw [xeql, decide_eq_true (by omega)]; exact ⟨rfl, rfl⟩)
                    | (rw [xeql, decide_eq_false (by omega)]; exact ⟨rfl, rfl⟩)
                    | (rw [xneq, decide_eq_true (by omega)]; exact ⟨rfl, rfl⟩)
                    | (rw [xneq, decide_eq_false (by omega)]; exact ⟨rfl, rfl⟩)
                    | (intro e3; first
                        | exact st_load ag_bool (h.step e3) 0 rfl rfl ⟨rfl, Ext.refl _⟩
                        | exact st_load ag_int (h.step e3) 0 rfl rfl ⟨rfl, Ext.refl _⟩
                        | exact st_load ag_string (h.step e3) 0 rfl rfl ⟨rfl, Ext.refl _⟩
                        | exact st_load ag_bool (hm e3) 0 rfl rfl ⟨rfl, rfl⟩
                        | exact st_load ag_int (hm e3) 0 rfl rfl ⟨rfl, rfl⟩
                        | exact st_loadW ag_api_Node sz_api_Node (hm e3) 1 rfl rfl ⟨rfl, rfl⟩
                        | exact st_loadW ag_api_Place sz_api_Place (hm e3) 1 rfl rfl ⟨rfl, rfl⟩
                        | exact xcall_of (en_joineryref4_parting _) (hpt _) fun _ _ hq => hq)
                    | (rw [xmul, wi64 (by omega) (by omega)]; exact ⟨rfl, rfl⟩)
                    | (rw [xsub, wu8 (by omega) (by omega)]; exact ⟨rfl, rfl⟩)
                    | (rw [xconv_int und_uint8 und_int, wi64 (by omega) (by omega)]; exact ⟨rfl, rfl⟩)
                    | (rw [xadd, wi64 (by omega) (by omega)]; exact ⟨rfl, rfl⟩)
                    | (rw [xslice_mid und_string (by omega) (by omega)]; exact ⟨rfl, rfl⟩)
                    | exact ⟨rfl, rfl⟩)
          intro w2 e2
          have h := h.step e2
          rw [xc_false]
          have hend : false = true ∨ p + i = s.length ∨ ∃ hl : p + i < s.length, isDig s[p + i] = false := .inr (.inr ⟨hlt, by simp [isDig, h2]⟩)
          exact numEnd hle hfew hno hrest hi hn hv hbi hbd hn9 hend h fun m bb w' h1 h2 h3 h4 => hR m (p + i) bb w' h1 h2 h3 (Nat.le_add_right p i) h4
      · repeat
          apply Exists.intro
          apply And.intro
          · first
              | (rw [xg_ft]; try rfl)
              | (rw [xg_tf]; try rfl)
              | ((try rw [xg_same]); intro w3; first
                  | (rw [xnil_ptr]; exact ⟨rfl, rfl⟩)
                  | (rw [fld_joineryref4_Reader_S]; exact ⟨rfl, rfl⟩)
                  | (rw [fld_joineryref4_Reader_P]; exact ⟨rfl, rfl⟩)
                  | (rw [fld_joineryref4_Reader_Bad]; exact ⟨rfl, rfl⟩)
                  | (rw [xpick_true]; exact ⟨rfl, rfl⟩)
                  | (rw [xpick_false]; exact ⟨rfl, rfl⟩)
                  | (rw [xnot, Bool.not_true]; exact ⟨rfl, rfl⟩)
                  | (rw [xnot, Bool.not_false]; exact ⟨rfl, rfl⟩)
                  | (rw [xnot]; exact ⟨rfl, rfl⟩)
                  | (rw [xlen_string und_string]; exact ⟨rfl, rfl⟩)
                  | (rw [xix_str und_string _ _ _ hlt]; exact ⟨rfl, rfl⟩)
                  | (rw [xgeq, decide_eq_true (by omega)]; exact ⟨rfl, rfl⟩)
                  | (rw [xgeq, decide_eq_false (by omega)]; exact ⟨rfl, rfl⟩)
                  | (rw [xleq, decide_eq_true (by omega)]; exact ⟨rfl, rfl⟩)
                  | (rw [xleq, decide_eq_false (by omega)]; exact ⟨rfl, rfl⟩)
                  | (rw [xlss, decide_eq_true (by omega)]; exact ⟨rfl, rfl⟩)
                  | (rw [xlss, decide_eq_false (by omega)]; exact ⟨rfl, rfl⟩)
                  | (rw [xeql, decide_eq_true (by omega)]; exact ⟨rfl, rfl⟩)
                  | (rw [xeql, decide_eq_false (by omega)]; exact ⟨rfl, rfl⟩)
                  | (rw [xneq, decide_eq_true (by omega)]; exact ⟨rfl, rfl⟩)
                  | (rw [xneq, decide_eq_false (by omega)]; exact ⟨rfl, rfl⟩)
                  | (intro e3; first
                      | exact st_load ag_bool (h.step e3) 0 rfl rfl ⟨rfl, Ext.refl _⟩
                      | exact st_load ag_int (h.step e3) 0 rfl rfl ⟨rfl, Ext.refl _⟩
                      | exact st_load ag_string (h.step e3) 0 rfl rfl ⟨rfl, Ext.refl _⟩
                      | exact st_load ag_bool (hm e3) 0 rfl rfl ⟨rfl, rfl⟩
                      | exact st_load ag_int (hm e3) 0 rfl rfl ⟨rfl, rfl⟩
                      | exact st_loadW ag_api_Node sz_api_Node (hm e3) 1 rfl rfl ⟨rfl, rfl⟩
                      | exact st_loadW ag_api_Place sz_api_Place (hm e3) 1 rfl rfl ⟨rfl, rfl⟩
                      | exact xcall_of (en_joineryref4_parting _) (hpt _) fun _ _ hq => hq)
                  | (rw [xmul, wi64 (by omega) (by omega)]; exact ⟨rfl, rfl⟩)
                  | (rw [xsub, wu8 (by omega) (by omega)]; exact ⟨rfl, rfl⟩)
                  | (rw [xconv_int und_uint8 und_int, wi64 (by omega) (by omega)]; exact ⟨rfl, rfl⟩)
                  | (rw [xadd, wi64 (by omega) (by omega)]; exact ⟨rfl, rfl⟩)
                  | (rw [xslice_mid und_string (by omega) (by omega)]; exact ⟨rfl, rfl⟩)
                  | exact ⟨rfl, rfl⟩)
        intro w2 e2
        have h := h.step e2
        rw [xc_false]
        have hend : false = true ∨ p + i = s.length ∨ ∃ hl : p + i < s.length, isDig s[p + i] = false := .inr (.inr ⟨hlt, by simp [isDig, h1]⟩)
        exact numEnd hle hfew hno hrest hi hn hv hbi hbd hn9 hend h fun m bb w' h1 h2 h3 h4 => hR m (p + i) bb w' h1 h2 h3 (Nat.le_add_right p i) h4
    · have hlt' := hlt
      repeat
        apply Exists.intro
        apply And.intro
        · first
            | (rw [xg_ft]; try rfl)
            | (rw [xg_tf]; try rfl)
            | ((try rw [xg_same]); intro w3; first
                | (rw [xnil_ptr]; exact ⟨rfl, rfl⟩)
                | (rw [fld_joineryref4_Reader_S]; exact ⟨rfl, rfl⟩)
                | (rw [fld_joineryref4_Reader_P]; exact ⟨rfl, rfl⟩)
                | (rw [fld_joineryref4_Reader_Bad]; exact ⟨rfl, rfl⟩)
                | (rw [xpick_true]; exact ⟨rfl, rfl⟩)
                | (rw [xpick_false]; exact ⟨rfl, rfl⟩)
                | (rw [xnot, Bool.not_true]; exact ⟨rfl, rfl⟩)
                | (rw [xnot, Bool.not_false]; exact ⟨rfl, rfl⟩)
                | (rw [xnot]; exact ⟨rfl, rfl⟩)
                | (rw [xlen_string und_string]; exact ⟨rfl, rfl⟩)
                | (rw [xix_str und_string _ _ _ hlt]; exact ⟨rfl, rfl⟩)
                | (rw [xgeq, decide_eq_true (by omega)]; exact ⟨rfl, rfl⟩)
                | (rw [xgeq, decide_eq_false (by omega)]; exact ⟨rfl, rfl⟩)
                | (rw [xleq, decide_eq_true (by omega)]; exact ⟨rfl, rfl⟩)
                | (rw [xleq, decide_eq_false (by omega)]; exact ⟨rfl, rfl⟩)
                | (rw [xlss, decide_eq_true (by omega)]; exact ⟨rfl, rfl⟩)
                | (rw [xlss, decide_eq_false (by omega)]; exact ⟨rfl, rfl⟩)
                | (rw [xeql, decide_eq_true (by omega)]; exact ⟨rfl, rfl⟩)
                | (rw [xeql, decide_eq_false (by omega)]; exact ⟨rfl, rfl⟩)
                | (rw [xneq, decide_eq_true (by omega)]; exact ⟨rfl, rfl⟩)
                | (rw [xneq, decide_eq_false (by omega)]; exact ⟨rfl, rfl⟩)
                | (intro e3; first
                    | exact st_load ag_bool (h.step e3) 0 rfl rfl ⟨rfl, Ext.refl _⟩
                    | exact st_load ag_int (h.step e3) 0 rfl rfl ⟨rfl, Ext.refl _⟩
                    | exact st_load ag_string (h.step e3) 0 rfl rfl ⟨rfl, Ext.refl _⟩
                    | exact st_load ag_bool (hm e3) 0 rfl rfl ⟨rfl, rfl⟩
                    | exact st_load ag_int (hm e3) 0 rfl rfl ⟨rfl, rfl⟩
                    | exact st_loadW ag_api_Node sz_api_Node (hm e3) 1 rfl rfl ⟨rfl, rfl⟩
                    | exact st_loadW ag_api_Place sz_api_Place (hm e3) 1 rfl rfl ⟨rfl, rfl⟩
                    | exact xcall_of (en_joineryref4_parting _) (hpt _) fun _ _ hq => hq)
                | (rw [xmul, wi64 (by omega) (by omega)]; exact ⟨rfl, rfl⟩)
                | (rw [xsub, wu8 (by omega) (by omega)]; exact ⟨rfl, rfl⟩)
                | (rw [xconv_int und_uint8 und_int, wi64 (by omega) (by omega)]; exact ⟨rfl, rfl⟩)
                | (rw [xadd, wi64 (by omega) (by omega)]; exact ⟨rfl, rfl⟩)
                | (rw [xslice_mid und_string (by omega) (by omega)]; exact ⟨rfl, rfl⟩)
                | exact ⟨rfl, rfl⟩)
      intro w2 e2
      have h := h.step e2
      rw [xc_false]
      have hend : false = true ∨ p + i = s.length ∨ ∃ hl : p + i < s.length, isDig s[p + i] = false := .inr (.inl (by omega))
      exact numEnd hle hfew hno hrest hi hn hv hbi hbd hn9 hend h fun m bb w' h1 h2 h3 h4 => hR m (p + i) bb w' h1 h2 h3 (Nat.le_add_right p i) h4
  · have hlt := trivial
    repeat
      apply Exists.intro
      apply And.intro
      · first
          | (rw [xg_ft]; try rfl)
          | (rw [xg_tf]; try rfl)
          | ((try rw [xg_same]); intro w3; first
              | (rw [xnil_ptr]; exact ⟨rfl, rfl⟩)
              | (rw [fld_joineryref4_Reader_S]; exact ⟨rfl, rfl⟩)
              | (rw [fld_joineryref4_Reader_P]; exact ⟨rfl, rfl⟩)
              | (rw [fld_joineryref4_Reader_Bad]; exact ⟨rfl, rfl⟩)
              | (rw [xpick_true]; exact ⟨rfl, rfl⟩)
              | (rw [xpick_false]; exact ⟨rfl, rfl⟩)
              | (rw [xnot, Bool.not_true]; exact ⟨rfl, rfl⟩)
              | (rw [xnot, Bool.not_false]; exact ⟨rfl, rfl⟩)
              | (rw [xnot]; exact ⟨rfl, rfl⟩)
              | (rw [xlen_string und_string]; exact ⟨rfl, rfl⟩)
              | (rw [xix_str und_string _ _ _ hlt]; exact ⟨rfl, rfl⟩)
              | (rw [xgeq, decide_eq_true (by omega)]; exact ⟨rfl, rfl⟩)
              | (rw [xgeq, decide_eq_false (by omega)]; exact ⟨rfl, rfl⟩)
              | (rw [xleq, decide_eq_true (by omega)]; exact ⟨rfl, rfl⟩)
              | (rw [xleq, decide_eq_false (by omega)]; exact ⟨rfl, rfl⟩)
              | (rw [xlss, decide_eq_true (by omega)]; exact ⟨rfl, rfl⟩)
              | (rw [xlss, decide_eq_false (by omega)]; exact ⟨rfl, rfl⟩)
              | (rw [xeql, decide_eq_true (by omega)]; exact ⟨rfl, rfl⟩)
              | (rw [xeql, decide_eq_false (by omega)]; exact ⟨rfl, rfl⟩)
              | (rw [xneq, decide_eq_true (by omega)]; exact ⟨rfl, rfl⟩)
              | (rw [xneq, decide_eq_false (by omega)]; exact ⟨rfl, rfl⟩)
              | (intro e3; first
                  | exact st_load ag_bool (h.step e3) 0 rfl rfl ⟨rfl, Ext.refl _⟩
                  | exact st_load ag_int (h.step e3) 0 rfl rfl ⟨rfl, Ext.refl _⟩
                  | exact st_load ag_string (h.step e3) 0 rfl rfl ⟨rfl, Ext.refl _⟩
                  | exact st_load ag_bool (hm e3) 0 rfl rfl ⟨rfl, rfl⟩
                  | exact st_load ag_int (hm e3) 0 rfl rfl ⟨rfl, rfl⟩
                  | exact st_loadW ag_api_Node sz_api_Node (hm e3) 1 rfl rfl ⟨rfl, rfl⟩
                  | exact st_loadW ag_api_Place sz_api_Place (hm e3) 1 rfl rfl ⟨rfl, rfl⟩
                  | exact xcall_of (en_joineryref4_parting _) (hpt _) fun _ _ hq => hq)
              | (rw [xmul, wi64 (by omega) (by omega)]; exact ⟨rfl, rfl⟩)
              | (rw [xsub, wu8 (by omega) (by omega)]; exact ⟨rfl, rfl⟩)
              | (rw [xconv_int und_uint8 und_int, wi64 (by omega) (by omega)]; exact ⟨rfl, rfl⟩)
              | (rw [xadd, wi64 (by omega) (by omega)]; exact ⟨rfl, rfl⟩)
              | (rw [xslice_mid und_string (by omega) (by omega)]; exact ⟨rfl, rfl⟩)
              | exact ⟨rfl, rfl⟩)
    intro w2 e2
    have h := h.step e2
    rw [xc_false]
    have hend : true = true ∨ p + i = s.length ∨ ∃ hl : p + i < s.length, isDig s[p + i] = false := .inl rfl
    exact numEnd hle hfew hno hrest hi hn hv hbi hbd hn9 hend h fun m bb w' h1 h2 h3 h4 => hR m (p + i) bb w' h1 h2 h3 (Nat.le_add_right p i) h4
end Go.Proofs.YthkgbajldkicfaaGreatDoor

namespace Go.Proofs.YthkgbajldkicfaaGreatDoor
set_option linter.unusedVariables false
set_option linter.unusedSimpArgs false
open Go Go.Jo
set_option maxRecDepth 100000

theorem St.mod {x : List Nat} {w0 w w' : World} {q : Nat} {o : Obj} {L : List Res} (h : St x w0 (.blk q o :: L) w) (hc : Chg [q] w w') : St (ownsL L) w' L w' := by
  refine ⟨Chg.refl _ _, fun p hp k hk => .inl (mem_ownsL.2 ⟨p, hp, hk⟩), (List.pairwise_cons.1 h.nd).2, fun p hp => Res.holds_keep (h.has p (List.mem_cons_of_mem _ hp)) fun k hk => hc.keep k (Res.holds_lt (h.has p (List.mem_cons_of_mem _ hp)) hk) fun hm => ?_⟩
  have hm : k = q := by simpa using hm
  subst hm
  rcases (List.pairwise_cons.1 h.nd).1 p hp with e | e
  · cases e
  · exact e hk.symm
theorem Rl.back {x y : Rd} {r r' : RR} (h : Rl x r) (h' : Rl y r') (m : x.no = true → y.no = true) : r'.bad = false → r.bad = false := fun e => by
  cases hb : r.bad
  · rfl
  · have := m (h.no.trans hb)
    rw [h'.no, e] at this
    cases this
theorem Rl.fin {y : Rd} {r : RR} (h : Rl y r) : y.fin = (!r.bad && decide (r.p = r.s.length)) := by
  unfold Rd.fin
  have hle := h.le
  rw [h.no]
  cases hb : r.bad
  · rw [h.rest hb]
    have : (r.s.drop r.p).isEmpty = decide (r.p = r.s.length) := by
      rw [Bool.eq_iff_iff, List.isEmpty_iff, List.drop_eq_nil_iff, decide_eq_true_eq]
      omega
    rw [this]
  · rfl
theorem Rl.start {s : Str} (hs : s.length ≤ 1000000) : Rl ⟨s, false⟩ ⟨s, 0, false⟩ := ⟨Nat.zero_le _, hs, rfl, fun _ => rfl⟩
theorem number_no (x : Rd) (h : x.no = true) : x.number.2.no = true := by
  obtain ⟨s, no⟩ := x
  have h : no = true := h
  subst h
  exact num_bad
theorem nameNo (x : Rd) (h : x.no = true) : x.name.2.no = true := by simp [Rd.name, h]
theorem must_no (c : UInt8) (x : Rd) (h : x.no = true) : (x.must c).no = true := by simp [Rd.must, h]
theorem signedN_no (c : UInt8) : ∀ (f : Nat) (x : Rd), x.no = true → (Rd.signedN c f x).2.no = true
  | 0, x, h => h
  | f + 1, x, h => by
    unfold Rd.signedN
    split
    · exact signedN_no c f _ (nameNo _ h)
    · exact h
theorem signed_no (c : UInt8) (x : Rd) (h : x.no = true) : (x.signed c).2.no = true := signedN_no c _ x h
theorem signed_step {c : UInt8} {x : Rd} (h : (x.sign c).1 = true) : x.signed c = ((x.sign c).2.name.1 :: ((x.sign c).2.name.2.signed c).1, ((x.sign c).2.name.2.signed c).2) := by
  have hlen := signP_len c x.s
  have h' : (signP c x.s).1 = true := h
  rw [h', if_pos rfl] at hlen
  have hlen : (x.sign c).2.s.length + 1 = x.s.length := hlen
  have hn := name_len (x.sign c).2
  unfold Rd.signed
  rw [show x.s.length = (x.sign c).2.s.length + 1 by omega]
  conv => lhs; unfold Rd.signedN
  rw [if_pos h]
  simp only
  rw [signedN_more c (x.sign c).2.s.length (x.sign c).2.name.2.s.length _ (by omega) (Nat.le_refl _)]
theorem signed_stop {c : UInt8} {x : Rd} (h : (x.sign c).1 = false) : x.signed c = ([], x) := by
  unfold Rd.signed
  cases hl : x.s.length with
  | zero => rfl
  | succ n =>
    unfold Rd.signedN
    rw [if_neg (by rw [h]; simp)]
set_option maxHeartbeats 1000000 in
theorem c_fRow {w : World} {b : Nat} {x : Rd} {r : RR} (c : UInt8) (hb : w.heap[b]? = some (rfO r)) (hr : Rl x r) :
    Ret Tryz.prog F_joineryref4_Reader_row #[pt b, .int .u8 (c.toNat : Int)] w fun v w' => ∃ (l : List Str) (p : Nat) (bad : Bool), Rl (x.signed c).2 ⟨r.s, p, bad⟩ ∧ (bad = false → l = (x.signed c).1) ∧ l.length ≤ p ∧ St [b] w [.row T_string 1 v l.length (strsL l), .blk b (rfO ⟨r.s, p, bad⟩)] w' := by
  refine call_joineryref4_Reader_row ?_
  have h := (St.startR hb).row0 T_string 1
  unfold S_joineryref4_Reader_row
  refine ⟨fun u w2 => ∃ (y : Rd) (acc : List Str) (p : Nat) (bad : Bool), acc.length ≤ p ∧ Rl y ⟨r.s, p, bad⟩ ∧ (bad = false → (x.signed c).1 = acc ++ (y.signed c).1) ∧ (x.signed c).2 = (y.signed c).2 ∧ St [b] w [.row T_string 1 u acc.length (strsL acc), .blk b (rfO ⟨r.s, p, bad⟩)] w2, fun _ w2 => r.s.length - rfP b w2, ⟨x, [], r.p, r.bad, Nat.zero_le _, hr, fun _ => rfl, rfl, h⟩, ?_⟩
  clear h
  rintro - u w2 ⟨y, acc, p, bad, hl, hy, h1, h2, h⟩
  have hpos : rfP b w2 = p := rfP_of (h.at 1 rfl)
  have hle := hy.le
  have hfew := hy.few
  have h := h.pick [1, 0] (by decide) rfl
  refine st_callA (A := [.blk b (rfO ⟨r.s, p, bad⟩)]) (L := [.row T_string 1 u acc.length (strsL acc)]) en_joineryref4_Reader_sign h (fun k => c_fSign c (k.at 0 rfl) hy) ?_
  rintro v w3 ⟨t, p2, rfl, hl2, ht, hp, hp0, k⟩ mg
  have h := mg _ k
  refine xc_of ?_ ?_
  · intro e
    subst e
    obtain ⟨hp, hbad⟩ := hp rfl
    have hbad : bad = false := hbad
    subst hbad
    have hst := (ht rfl).symm
    refine st_callA (A := [.blk b (rfO ⟨r.s, p2, false⟩)]) (L := [.row T_string 1 u acc.length (strsL acc)]) en_joineryref4_Reader_Name h (fun k => c_fName (k.at 0 rfl) hl2) ?_
    rintro v w4 ⟨t2, p3, bad3, rfl, ht2, hl3, he3, hp3, k⟩ mg
    have h := mg _ k
    refine st_buildS (cs := #[S t2]) (e := T_string) (fun w => by kernel_rfl) h ?_
    intro bx w5 hbx h
    have hp3 : p2 ≤ p3 := hp3
    have hp : p2 = p + 1 := hp
    have hl3' : p3 ≤ r.s.length := hl3.le
    refine app_sl_string h 2 rfl [S t2] rfl (news_blk (h.at 0 rfl)) (by simp [Value.oneCell']) (by simp only at hfew hle; omega) ?_
    intro v' w6 h
    have h := h.pick [2, 1] (by decide) rfl
    have hpos6 : rfP b w6 = p3 := rfP_of (h.at 1 rfl)
    have hsg := signed_step hst
    refine ⟨⟨(y.sign c).2.name.2, acc ++ [t2], p3, bad3, by simp; omega, hl3, fun hh => ?_, ?_, ?_⟩, by show r.s.length - rfP b w6 < r.s.length - rfP b w2; rw [hpos6, hpos]; omega⟩
    · rw [h1 rfl, hsg, he3 hh]; simp
    · rw [h2, hsg]
    · have : strsL (acc ++ [t2]) = strsL acc ++ [S t2] := by simp
      rw [this, List.length_append]
      exact h
  · intro e
    subst e
    have hp0 : p2 = p := hp0 rfl
    subst hp0
    have h := h.pick [1, 0] (by decide) rfl
    cases bad
    · have hst := (ht rfl).symm
      have hsg := signed_stop hst
      rw [sign_no hst] at hl2
      rw [hsg] at h1 h2
      refine ⟨acc, p2, false, by rw [h2]; exact hl2, fun _ => by rw [h1 rfl, List.append_nil], hl, h⟩
    · refine ⟨acc, p2, true, ⟨hle, hfew, ?_, nofun⟩, nofun, hl, h⟩
      rw [h2]
      exact signed_no c y hy.no
theorem c_fVec {w : World} {b : Nat} {x : Rd} {r : RR} (hb : w.heap[b]? = some (rfO r)) (hr : Rl x r) :
    Ret Tryz.prog F_joineryref4_Reader_Vec #[pt b, .int .i64 999999999999999] w fun v w' => ∃ (u : VecM) (p : Nat) (bad : Bool), v = vecV u ∧ Rl x.vec.2 ⟨r.s, p, bad⟩ ∧ (bad = false → u = x.vec.1) ∧ St [b] w [.blk b (rfO ⟨r.s, p, bad⟩)] w' := by
  refine call_joineryref4_Reader_Vec ?_
  have h := St.startR hb
  unfold S_joineryref4_Reader_Vec
  refine st_alloc zv_api_Vec h ?_
  intro q4 w1 _ h
  have h := h.pick [1, 0] (by decide) rfl
  refine st_callA (A := [.blk b (rfO r)]) en_joineryref4_Reader_Number h (fun k => c_fNumber (k.at 0 rfl) hr) ?_
  rintro v w2 ⟨n1, p1, b1, rfl, hn1, hl1, he1, _, k⟩ mg
  have h := mg _ k
  rw [xbuild (v := vecV ⟨n1, 0⟩) (fun w => by kernel_rfl)]
  refine st_alloc zv_api_Vec h ?_
  intro q5 w3 _ h
  refine st_store sz_api_Vec h 0 rfl rfl rfl rfl ?_
  intro w4 h
  try simp only [go_sem] at h
  have h := h.pick [1, 0, 2] (by decide) rfl
  refine st_callA (A := [.blk b (rfO ⟨r.s, p1, b1⟩)]) en_joineryref4_Reader_Must h (fun k => c_fMust 44 (k.at 0 rfl) hl1) ?_
  rintro v w5 ⟨p2, b2, rfl, hl2, k⟩ mg
  have h := mg _ k
  refine st_callA (A := [.blk b (rfO ⟨r.s, p2, b2⟩)]) en_joineryref4_Reader_Number h (fun k => c_fNumber (k.at 0 rfl) hl2) ?_
  rintro v w6 ⟨n2, p3, b3, rfl, hn2, hl3, he3, _, k⟩ mg
  have h := mg _ k
  rw [fld_api_Vec_Mem]
  refine st_store sz_int h 1 rfl rfl rfl rfl ?_
  intro w7 h
  try simp only [go_sem] at h
  refine st_loadW ag_api_Vec sz_api_Vec h 1 rfl rfl ?_
  refine st_store sz_api_Vec h 2 rfl rfl rfl rfl ?_
  intro w8 h
  try simp only [go_sem] at h
  refine st_loadW ag_api_Vec sz_api_Vec h 2 rfl rfl ⟨rfl, ?_⟩
  refine ⟨⟨n1, n2⟩, p3, b3, rfl, hl3, fun hh => ?_, h.pick [0] (by decide) rfl⟩
  have hb2 : b2 = false := hl2.back hl3 (number_no _) hh
  have hb1 : b1 = false := hl1.back hl2 (must_no 44 _) hb2
  rw [he1 hb1, he3 hh]
  rfl
end Go.Proofs.YthkgbajldkicfaaGreatDoor

namespace Go.Proofs.YthkgbajldkicfaaGreatDoor
set_option linter.unusedVariables false
set_option linter.unusedSimpArgs false
open Go Go.Jo
set_option maxRecDepth 100000

theorem c_fReadName {w : World} {s : Str} (hs : s.length ≤ 1000000) : Ret Tryz.prog F_joineryref4_ReadName #[S s] w fun v w' => ∃ t : Str, v = .tuple #[S t, .bool (Rd.name ⟨s, false⟩).2.fin] ∧ ((Rd.name ⟨s, false⟩).2.fin = true → t = (Rd.name ⟨s, false⟩).1) ∧ Ext w w' := by
  refine call_joineryref4_ReadName ?_
  have h := St.start w
  unfold S_joineryref4_ReadName
  rw [xbuild (v := .agg #[S s, .int .i64 0, .bool false]) (fun w => by kernel_rfl)]
  refine st_box h ?_
  intro b w1 hb h
  refine st_callA (A := [.blk b (rfO ⟨s, 0, false⟩)]) en_joineryref4_Reader_Name h (fun k => c_fName (k.at 0 rfl) (Rl.start hs)) ?_
  rintro v w2 ⟨t, p9, b9, rfl, _, hl9, he9, _, k⟩ mg
  have h := mg _ k
  have hfin := hl9.fin
  have h : St [] w [.blk b (.cells #[S s, .int .i64 (p9 : Nat), .bool b9] T_joineryref4_Reader (0, 0))] w2.drew := h.step (Ext.drew _)
  refine ⟨Ext, Ext, preExt, ?_⟩
  have hend : b9 = false → (Rd.name ⟨s, false⟩).2.fin = true → t = (Rd.name ⟨s, false⟩).1 := fun h1 _ => he9 h1
  have hlt := trivial
  cases b9
  · by_cases hpe : p9 = s.length
    · repeat
        apply Exists.intro
        apply And.intro
        · first
            | (rw [xg_ft]; try rfl)
            | (rw [xg_tf]; try rfl)
            | ((try rw [xg_same]); intro w3; first
                | (rw [xnil_ptr]; exact ⟨rfl, rfl⟩)
                | (rw [fld_joineryref4_Reader_S]; exact ⟨rfl, rfl⟩)
                | (rw [fld_joineryref4_Reader_P]; exact ⟨rfl, rfl⟩)
                | (rw [fld_joineryref4_Reader_Bad]; exact ⟨rfl, rfl⟩)
                | (rw [xpick_true]; exact ⟨rfl, rfl⟩)
                | (rw [xpick_false]; exact ⟨rfl, rfl⟩)
                | (rw [xnot, Bool.not_true]; exact ⟨rfl, rfl⟩)
                | (rw [xnot, Bool.not_false]; exact ⟨rfl, rfl⟩)
                | (rw [xnot]; exact ⟨rfl, rfl⟩)
                | (rw [xlen_string und_string]; exact ⟨rfl, rfl⟩)
                | (rw [xix_str und_string _ _ _ hlt]; exact ⟨rfl, rfl⟩)
                | (rw [xgeq, decide_eq_true (by omega)]; exact ⟨rfl, rfl⟩)
                | (rw [xgeq, decide_eq_false (by omega)]; exact ⟨rfl, rfl⟩)
                | (rw [xleq, decide_eq_true (by omega)]; exact ⟨rfl, rfl⟩)
                | (rw [xleq, decide_eq_false (by omega)]; exact ⟨rfl, rfl⟩)
                | (rw [xlss, decide_eq_true (by omega)]; exact ⟨rfl, rfl⟩)
                | (rw [xlss, decide_eq_false (by omega)]; exact ⟨rfl, rfl⟩)
                | (rw [xeql, decide_eq_true (by omega)]; exact ⟨rfl, rfl⟩)
                | (rw [xeql, decide_eq_false (by omega)]; exact ⟨rfl, rfl⟩)
                | (rw [xneq, decide_eq_true (by omega)]; exact ⟨rfl, rfl⟩)
                | (rw [xneq, decide_eq_false (by omega)]; exact ⟨rfl, rfl⟩)
                | (intro e3; first
                    | exact st_load ag_bool (h.step e3) 0 rfl rfl ⟨rfl, Ext.refl _⟩
                    | exact st_load ag_int (h.step e3) 0 rfl rfl ⟨rfl, Ext.refl _⟩
                    | exact st_load ag_string (h.step e3) 0 rfl rfl ⟨rfl, Ext.refl _⟩
                    | exact st_load ag_bool (hm e3) 0 rfl rfl ⟨rfl, rfl⟩
                    | exact st_load ag_int (hm e3) 0 rfl rfl ⟨rfl, rfl⟩
                    | exact st_loadW ag_api_Node sz_api_Node (hm e3) 1 rfl rfl ⟨rfl, rfl⟩
                    | exact st_loadW ag_api_Place sz_api_Place (hm e3) 1 rfl rfl ⟨rfl, rfl⟩
                    | exact xcall_of (en_joineryref4_parting _) (hpt _) fun _ _ hq => hq)
                | (rw [xmul, wi64 (by omega) (by omega)]; exact ⟨rfl, rfl⟩)
                | (rw [xsub, wu8 (by omega) (by omega)]; exact ⟨rfl, rfl⟩)
                | (rw [xconv_int und_uint8 und_int, wi64 (by omega) (by omega)]; exact ⟨rfl, rfl⟩)
                | (rw [xadd, wi64 (by omega) (by omega)]; exact ⟨rfl, rfl⟩)
                | (rw [xslice_mid und_string (by omega) (by omega)]; exact ⟨rfl, rfl⟩)
                | exact ⟨rfl, rfl⟩)
      intro w3 e3
      have h := h.step e3
      have e : (Rd.name ⟨s, false⟩).2.fin = true := by rw [hfin]; simp [hpe]
      exact ⟨Ext.refl _, fun w4 e4 => ⟨t, by rw [e], hend rfl, (h.step e4).ext⟩⟩
    · repeat
        apply Exists.intro
        apply And.intro
        · first
            | (rw [xg_ft]; try rfl)
            | (rw [xg_tf]; try rfl)
            | ((try rw [xg_same]); intro w3; first
                | (rw [xnil_ptr]; exact ⟨rfl, rfl⟩)
                | (rw [fld_joineryref4_Reader_S]; exact ⟨rfl, rfl⟩)
                | (rw [fld_joineryref4_Reader_P]; exact ⟨rfl, rfl⟩)
                | (rw [fld_joineryref4_Reader_Bad]; exact ⟨rfl, rfl⟩)
                | (rw [xpick_true]; exact ⟨rfl, rfl⟩)
                | (rw [xpick_false]; exact ⟨rfl, rfl⟩)
                | (rw [xnot, Bool.not_true]; exact ⟨rfl, rfl⟩)
                | (rw [xnot, Bool.not_false]; exact ⟨rfl, rfl⟩)
                | (rw [xnot]; exact ⟨rfl, rfl⟩)
                | (rw [xlen_string und_string]; exact ⟨rfl, rfl⟩)
                | (rw [xix_str und_string _ _ _ hlt]; exact ⟨rfl, rfl⟩)
                | (rw [xgeq, decide_eq_true (by omega)]; exact ⟨rfl, rfl⟩)
                | (rw [xgeq, decide_eq_false (by omega)]; exact ⟨rfl, rfl⟩)
                | (rw [xleq, decide_eq_true (by omega)]; exact ⟨rfl, rfl⟩)
                | (rw [xleq, decide_eq_false (by omega)]; exact ⟨rfl, rfl⟩)
                | (rw [xlss, decide_eq_true (by omega)]; exact ⟨rfl, rfl⟩)
                | (rw [xlss, decide_eq_false (by omega)]; exact ⟨rfl, rfl⟩)
                | (rw [xeql, decide_eq_true (by omega)]; exact ⟨rfl, rfl⟩)
                | (rw [xeql, decide_eq_false (by omega)]; exact ⟨rfl, rfl⟩)
                | (rw [xneq, decide_eq_true (by omega)]; exact ⟨rfl, rfl⟩)
                | (rw [xneq, decide_eq_false (by omega)]; exact ⟨rfl, rfl⟩)
                | (intro e3; first
                    | exact st_load ag_bool (h.step e3) 0 rfl rfl ⟨rfl, Ext.refl _⟩
                    | exact st_load ag_int (h.step e3) 0 rfl rfl ⟨rfl, Ext.refl _⟩
                    | exact st_load ag_string (h.step e3) 0 rfl rfl ⟨rfl, Ext.refl _⟩
                    | exact st_load ag_bool (hm e3) 0 rfl rfl ⟨rfl, rfl⟩
                    | exact st_load ag_int (hm e3) 0 rfl rfl ⟨rfl, rfl⟩
                    | exact st_loadW ag_api_Node sz_api_Node (hm e3) 1 rfl rfl ⟨rfl, rfl⟩
                    | exact st_loadW ag_api_Place sz_api_Place (hm e3) 1 rfl rfl ⟨rfl, rfl⟩
                    | exact xcall_of (en_joineryref4_parting _) (hpt _) fun _ _ hq => hq)
                | (rw [xmul, wi64 (by omega) (by omega)]; exact ⟨rfl, rfl⟩)
                | (rw [xsub, wu8 (by omega) (by omega)]; exact ⟨rfl, rfl⟩)
                | (rw [xconv_int und_uint8 und_int, wi64 (by omega) (by omega)]; exact ⟨rfl, rfl⟩)
                | (rw [xadd, wi64 (by omega) (by omega)]; exact ⟨rfl, rfl⟩)
                | (rw [xslice_mid und_string (by omega) (by omega)]; exact ⟨rfl, rfl⟩)
                | exact ⟨rfl, rfl⟩)
      intro w3 e3
      have h := h.step e3
      have e : (Rd.name ⟨s, false⟩).2.fin = false := by rw [hfin]; simp [hpe]
      exact ⟨Ext.refl _, fun w4 e4 => ⟨t, by rw [e], hend rfl, (h.step e4).ext⟩⟩
  · repeat
      apply Exists.intro
      apply And.intro
      · first
          | (rw [xg_ft]; try rfl)
          | (rw [xg_tf]; try rfl)
          | ((try rw [xg_same]); intro w3; first
              | (rw [xnil_ptr]; exact ⟨rfl, rfl⟩)
              | (rw [fld_joineryref4_Reader_S]; exact ⟨rfl, rfl⟩)
              | (rw [fld_joineryref4_Reader_P]; exact ⟨rfl, rfl⟩)
              | (rw [fld_joineryref4_Reader_Bad]; exact ⟨rfl, rfl⟩)
              | (rw [xpick_true]; exact ⟨rfl, rfl⟩)
              | (rw [xpick_false]; exact ⟨rfl, rfl⟩)
              | (rw [xnot, Bool.not_true]; exact ⟨rfl, rfl⟩)
              | (rw [xnot, Bool.not_false]; exact ⟨rfl, rfl⟩)
              | (rw [xnot]; exact ⟨rfl, rfl⟩)
              | (rw [xlen_string und_string]; exact ⟨rfl, rfl⟩)
              | (rw [xix_str und_string _ _ _ hlt]; exact ⟨rfl, rfl⟩)
              | (rw [xgeq, decide_eq_true (by omega)]; exact ⟨rfl, rfl⟩)
              | (rw [xgeq, decide_eq_false (by omega)]; exact ⟨rfl, rfl⟩)
              | (rw [xleq, decide_eq_true (by omega)]; exact ⟨rfl, rfl⟩)
              | (rw [xleq, decide_eq_false (by omega)]; exact ⟨rfl, rfl⟩)
              | (rw [xlss, decide_eq_true (by omega)]; exact ⟨rfl, rfl⟩)
              | (rw [xlss, decide_eq_false (by omega)]; exact ⟨rfl, rfl⟩)
              | (rw [xeql, decide_eq_true (by omega)]; exact ⟨rfl, rfl⟩)
              | (rw [xeql, decide_eq_false (by omega)]; exact ⟨rfl, rfl⟩)
              | (rw [xneq, decide_eq_true (by omega)]; exact ⟨rfl, rfl⟩)
              | (rw [xneq, decide_eq_false (by omega)]; exact ⟨rfl, rfl⟩)
              | (intro e3; first
                  | exact st_load ag_bool (h.step e3) 0 rfl rfl ⟨rfl, Ext.refl _⟩
                  | exact st_load ag_int (h.step e3) 0 rfl rfl ⟨rfl, Ext.refl _⟩
                  | exact st_load ag_string (h.step e3) 0 rfl rfl ⟨rfl, Ext.refl _⟩
                  | exact st_load ag_bool (hm e3) 0 rfl rfl ⟨rfl, rfl⟩
                  | exact st_load ag_int (hm e3) 0 rfl rfl ⟨rfl, rfl⟩
                  | exact st_loadW ag_api_Node sz_api_Node (hm e3) 1 rfl rfl ⟨rfl, rfl⟩
                  | exact st_loadW ag_api_Place sz_api_Place (hm e3) 1 rfl rfl ⟨rfl, rfl⟩
                  | exact xcall_of (en_joineryref4_parting _) (hpt _) fun _ _ hq => hq)
              | (rw [xmul, wi64 (by omega) (by omega)]; exact ⟨rfl, rfl⟩)
              | (rw [xsub, wu8 (by omega) (by omega)]; exact ⟨rfl, rfl⟩)
              | (rw [xconv_int und_uint8 und_int, wi64 (by omega) (by omega)]; exact ⟨rfl, rfl⟩)
              | (rw [xadd, wi64 (by omega) (by omega)]; exact ⟨rfl, rfl⟩)
              | (rw [xslice_mid und_string (by omega) (by omega)]; exact ⟨rfl, rfl⟩)
              | exact ⟨rfl, rfl⟩)
    intro w3 e3
    have h := h.step e3
    have e : (Rd.name ⟨s, false⟩).2.fin = false := by rw [hfin]; rfl
    exact ⟨Ext.refl _, fun w4 e4 => ⟨t, by rw [e], (fun hh => Bool.noConfusion (e.symm.trans hh)), (h.step e4).ext⟩⟩
theorem c_fReadNumber {w : World} {s : Str} (hs : s.length ≤ 1000000) : Ret Tryz.prog F_joineryref4_ReadNumber #[S s, .int .i64 999999999999999] w fun v w' => ∃ t : Nat, v = .tuple #[.int .i64 (t : Nat), .bool (Rd.number ⟨s, false⟩).2.fin] ∧ ((Rd.number ⟨s, false⟩).2.fin = true → t = (Rd.number ⟨s, false⟩).1) ∧ Ext w w' := by
  refine call_joineryref4_ReadNumber ?_
  have h := St.start w
  unfold S_joineryref4_ReadNumber
  rw [xbuild (v := .agg #[S s, .int .i64 0, .bool false]) (fun w => by kernel_rfl)]
  refine st_box h ?_
  intro b w1 hb h
  refine st_callA (A := [.blk b (rfO ⟨s, 0, false⟩)]) en_joineryref4_Reader_Number h (fun k => c_fNumber (k.at 0 rfl) (Rl.start hs)) ?_
  rintro v w2 ⟨t, p9, b9, rfl, _, hl9, he9, _, k⟩ mg
  have h := mg _ k
  have hfin := hl9.fin
  have h : St [] w [.blk b (.cells #[S s, .int .i64 (p9 : Nat), .bool b9] T_joineryref4_Reader (0, 0))] w2.drew := h.step (Ext.drew _)
  refine ⟨Ext, Ext, preExt, ?_⟩
  have hlt := trivial
  cases b9
  · by_cases hpe : p9 = s.length
    · repeat
        apply Exists.intro
        apply And.intro
        · first
            | (rw [xg_ft]; try rfl)
            | (rw [xg_tf]; try rfl)
            | ((try rw [xg_same]); intro w3; first
                | (rw [xnil_ptr]; exact ⟨rfl, rfl⟩)
                | (rw [fld_joineryref4_Reader_S]; exact ⟨rfl, rfl⟩)
                | (rw [fld_joineryref4_Reader_P]; exact ⟨rfl, rfl⟩)
                | (rw [fld_joineryref4_Reader_Bad]; exact ⟨rfl, rfl⟩)
                | (rw [xpick_true]; exact ⟨rfl, rfl⟩)
                | (rw [xpick_false]; exact ⟨rfl, rfl⟩)
                | (rw [xnot, Bool.not_true]; exact ⟨rfl, rfl⟩)
                | (rw [xnot, Bool.not_false]; exact ⟨rfl, rfl⟩)
                | (rw [xnot]; exact ⟨rfl, rfl⟩)
                | (rw [xlen_string und_string]; exact ⟨rfl, rfl⟩)
                | (rw [xix_str und_string _ _ _ hlt]; exact ⟨rfl, rfl⟩)
                | (rw [xgeq, decide_eq_true (by omega)]; exact ⟨rfl, rfl⟩)
                | (rw [xgeq, decide_eq_false (by omega)]; exact ⟨rfl, rfl⟩)
                | (rw [xleq, decide_eq_true (by omega)]; exact ⟨rfl, rfl⟩)
                | (rw [xleq, decide_eq_false (by omega)]; exact ⟨rfl, rfl⟩)
                | (rw [xlss, decide_eq_true (by omega)]; exact ⟨rfl, rfl⟩)
                | (rw [xlss, decide_eq_false (by omega)]; exact ⟨rfl, rfl⟩)
                | (rw [xeql, decide_eq_true (by omega)]; exact ⟨rfl, rfl⟩)
                | (rw [xeql, decide_eq_false (by omega)]; exact ⟨rfl, rfl⟩)
                | (rw [xneq, decide_eq_true (by omega)]; exact ⟨rfl, rfl⟩)
                | (rw [xneq, decide_eq_false (by omega)]; exact ⟨rfl, rfl⟩)
                | (intro e3; first
                    | exact st_load ag_bool (h.step e3) 0 rfl rfl ⟨rfl, Ext.refl _⟩
                    | exact st_load ag_int (h.step e3) 0 rfl rfl ⟨rfl, Ext.refl _⟩
                    | exact st_load ag_string (h.step e3) 0 rfl rfl ⟨rfl, Ext.refl _⟩
                    | exact st_load ag_bool (hm e3) 0 rfl rfl ⟨rfl, rfl⟩
                    | exact st_load ag_int (hm e3) 0 rfl rfl ⟨rfl, rfl⟩
                    | exact st_loadW ag_api_Node sz_api_Node (hm e3) 1 rfl rfl ⟨rfl, rfl⟩
                    | exact st_loadW ag_api_Place sz_api_Place (hm e3) 1 rfl rfl ⟨rfl, rfl⟩
                    | exact xcall_of (en_joineryref4_parting _) (hpt _) fun _ _ hq => hq)
                | (rw [xmul, wi64 (by omega) (by omega)]; exact ⟨rfl, rfl⟩)
                | (rw [xsub, wu8 (by omega) (by omega)]; exact ⟨rfl, rfl⟩)
                | (rw [xconv_int und_uint8 und_int, wi64 (by omega) (by omega)]; exact ⟨rfl, rfl⟩)
                | (rw [xadd, wi64 (by omega) (by omega)]; exact ⟨rfl, rfl⟩)
                | (rw [xslice_mid und_string (by omega) (by omega)]; exact ⟨rfl, rfl⟩)
                | exact ⟨rfl, rfl⟩)
      intro w3 e3
      have h := h.step e3
      have e : (Rd.number ⟨s, false⟩).2.fin = true := by rw [hfin]; simp [hpe]
      exact ⟨Ext.refl _, fun w4 e4 => ⟨t, by rw [e], fun _ => he9 rfl, (h.step e4).ext⟩⟩
    · repeat
        apply Exists.intro
        apply And.intro
        · first
            | (rw [xg_ft]; try rfl)
            | (rw [xg_tf]; try rfl)
            | ((try rw [xg_same]); intro w3; first
                | (rw [xnil_ptr]; exact ⟨rfl, rfl⟩)
                | (rw [fld_joineryref4_Reader_S]; exact ⟨rfl, rfl⟩)
                | (rw [fld_joineryref4_Reader_P]; exact ⟨rfl, rfl⟩)
                | (rw [fld_joineryref4_Reader_Bad]; exact ⟨rfl, rfl⟩)
                | (rw [xpick_true]; exact ⟨rfl, rfl⟩)
                | (rw [xpick_false]; exact ⟨rfl, rfl⟩)
                | (rw [xnot, Bool.not_true]; exact ⟨rfl, rfl⟩)
                | (rw [xnot, Bool.not_false]; exact ⟨rfl, rfl⟩)
                | (rw [xnot]; exact ⟨rfl, rfl⟩)
                | (rw [xlen_string und_string]; exact ⟨rfl, rfl⟩)
                | (rw [xix_str und_string _ _ _ hlt]; exact ⟨rfl, rfl⟩)
                | (rw [xgeq, decide_eq_true (by omega)]; exact ⟨rfl, rfl⟩)
                | (rw [xgeq, decide_eq_false (by omega)]; exact ⟨rfl, rfl⟩)
                | (rw [xleq, decide_eq_true (by omega)]; exact ⟨rfl, rfl⟩)
                | (rw [xleq, decide_eq_false (by omega)]; exact ⟨rfl, rfl⟩)
                | (rw [xlss, decide_eq_true (by omega)]; exact ⟨rfl, rfl⟩)
                | (rw [xlss, decide_eq_false (by omega)]; exact ⟨rfl, rfl⟩)
                | (rw [xeql, decide_eq_true (by omega)]; exact ⟨rfl, rfl⟩)
                | (rw [xeql, decide_eq_false (by omega)]; exact ⟨rfl, rfl⟩)
                | (rw [xneq, decide_eq_true (by omega)]; exact ⟨rfl, rfl⟩)
                | (rw [xneq, decide_eq_false (by omega)]; exact ⟨rfl, rfl⟩)
                | (intro e3; first
                    | exact st_load ag_bool (h.step e3) 0 rfl rfl ⟨rfl, Ext.refl _⟩
                    | exact st_load ag_int (h.step e3) 0 rfl rfl ⟨rfl, Ext.refl _⟩
                    | exact st_load ag_string (h.step e3) 0 rfl rfl ⟨rfl, Ext.refl _⟩
                    | exact st_load ag_bool (hm e3) 0 rfl rfl ⟨rfl, rfl⟩
                    | exact st_load ag_int (hm e3) 0 rfl rfl ⟨rfl, rfl⟩
                    | exact st_loadW ag_api_Node sz_api_Node (hm e3) 1 rfl rfl ⟨rfl, rfl⟩
                    | exact st_loadW ag_api_Place sz_api_Place (hm e3) 1 rfl rfl ⟨rfl, rfl⟩
                    | exact xcall_of (en_joineryref4_parting _) (hpt _) fun _ _ hq => hq)
                | (rw [xmul, wi64 (by omega) (by omega)]; exact ⟨rfl, rfl⟩)
                | (rw [xsub, wu8 (by omega) (by omega)]; exact ⟨rfl, rfl⟩)
                | (rw [xconv_int und_uint8 und_int, wi64 (by omega) (by omega)]; exact ⟨rfl, rfl⟩)
                | (rw [xadd, wi64 (by omega) (by omega)]; exact ⟨rfl, rfl⟩)
                | (rw [xslice_mid und_string (by omega) (by omega)]; exact ⟨rfl, rfl⟩)
                | exact ⟨rfl, rfl⟩)
      intro w3 e3
      have h := h.step e3
      have e : (Rd.number ⟨s, false⟩).2.fin = false := by rw [hfin]; simp [hpe]
      exact ⟨Ext.refl _, fun w4 e4 => ⟨t, by rw [e], fun _ => he9 rfl, (h.step e4).ext⟩⟩
  · repeat
      apply Exists.intro
      apply And.intro
      · first
          | (rw [xg_ft]; try rfl)
          | (rw [xg_tf]; try rfl)
          | ((try rw [xg_same]); intro w3; first
              | (rw [xnil_ptr]; exact ⟨rfl, rfl⟩)
              | (rw [fld_joineryref4_Reader_S]; exact ⟨rfl, rfl⟩)
              | (rw [fld_joineryref4_Reader_P]; exact ⟨rfl, rfl⟩)
              | (rw [fld_joineryref4_Reader_Bad]; exact ⟨rfl, rfl⟩)
              | (rw [xpick_true]; exact ⟨rfl, rfl⟩)
              | (rw [xpick_false]; exact ⟨rfl, rfl⟩)
              | (rw [xnot, Bool.not_true]; exact ⟨rfl, rfl⟩)
              | (rw [xnot, Bool.not_false]; exact ⟨rfl, rfl⟩)
              | (rw [xnot]; exact ⟨rfl, rfl⟩)
              | (rw [xlen_string und_string]; exact ⟨rfl, rfl⟩)
              | (rw [xix_str und_string _ _ _ hlt]; exact ⟨rfl, rfl⟩)
              | (rw [xgeq, decide_eq_true (by omega)]; exact ⟨rfl, rfl⟩)
              | (rw [xgeq, decide_eq_false (by omega)]; exact ⟨rfl, rfl⟩)
              | (rw [xleq, decide_eq_true (by omega)]; exact ⟨rfl, rfl⟩)
              | (rw [xleq, decide_eq_false (by omega)]; exact ⟨rfl, rfl⟩)
              | (rw [xlss, decide_eq_true (by omega)]; exact ⟨rfl, rfl⟩)
              | (rw [xlss, decide_eq_false (by omega)]; exact ⟨rfl, rfl⟩)
              | (rw [xeql, decide_eq_true (by omega)]; exact ⟨rfl, rfl⟩)
              | (rw [xeql, decide_eq_false (by omega)]; exact ⟨rfl, rfl⟩)
              | (rw [xneq, decide_eq_true (by omega)]; exact ⟨rfl, rfl⟩)
              | (rw [xneq, decide_eq_false (by omega)]; exact ⟨rfl, rfl⟩)
              | (intro e3; first
                  | exact st_load ag_bool (h.step e3) 0 rfl rfl ⟨rfl, Ext.refl _⟩
                  | exact st_load ag_int (h.step e3) 0 rfl rfl ⟨rfl, Ext.refl _⟩
                  | exact st_load ag_string (h.step e3) 0 rfl rfl ⟨rfl, Ext.refl _⟩
                  | exact st_load ag_bool (hm e3) 0 rfl rfl ⟨rfl, rfl⟩
                  | exact st_load ag_int (hm e3) 0 rfl rfl ⟨rfl, rfl⟩
                  | exact st_loadW ag_api_Node sz_api_Node (hm e3) 1 rfl rfl ⟨rfl, rfl⟩
                  | exact st_loadW ag_api_Place sz_api_Place (hm e3) 1 rfl rfl ⟨rfl, rfl⟩
                  | exact xcall_of (en_joineryref4_parting _) (hpt _) fun _ _ hq => hq)
              | (rw [xmul, wi64 (by omega) (by omega)]; exact ⟨rfl, rfl⟩)
              | (rw [xsub, wu8 (by omega) (by omega)]; exact ⟨rfl, rfl⟩)
              | (rw [xconv_int und_uint8 und_int, wi64 (by omega) (by omega)]; exact ⟨rfl, rfl⟩)
              | (rw [xadd, wi64 (by omega) (by omega)]; exact ⟨rfl, rfl⟩)
              | (rw [xslice_mid und_string (by omega) (by omega)]; exact ⟨rfl, rfl⟩)
              | exact ⟨rfl, rfl⟩)
    intro w3 e3
    have h := h.step e3
    have e : (Rd.number ⟨s, false⟩).2.fin = false := by rw [hfin]; rfl
    exact ⟨Ext.refl _, fun w4 e4 => ⟨t, by rw [e], (fun hh => Bool.noConfusion (e.symm.trans hh)), (h.step e4).ext⟩⟩
theorem st_storeG {x : List Nat} {w0 w : World} {L : List Res} {t : TypeId} {m : Nat} {b o : Nat} {cs : Array Value} {T : TypeId} {v : Value} {K : World → Prop} (hs : ∀ w, (sizeOf t).run Tryz.prog w = .ok m w) (h : St x w0 L w) (n : Nat) (hn : L[n]? = some (.blk b (.cells cs T (0, 0)))) (hm : v.cells.size = m) (ho : Nat.ble (o + m) cs.size = true) (hf : v.cells.toList.all flat = true)
    (hk : ∀ w', Chg [b] w w' → St x w0 (L.set n (.blk b (.cells (setRow cs o v.cells.toList) T (0, 0)))) w' → K w') : XStore Tryz.prog t (.pointer (some ⟨b, o, none⟩)) v w K := by
  refine ⟨?_⟩
  obtain ⟨w', h2, h3, h4⟩ := run_storeCells_put (P := Tryz.prog) o v.cells.toList 0 cs w (h.at n hn) (by have := Nat.le_of_ble_eq_true ho; simp [hm]; omega) hf
  unfold XU
  have : (Instr.storeAt t (.pointer (some ⟨b, o, none⟩)) v).run Tryz.prog w = .ok () w' := by
    simp only [Instr.storeAt, Instr.sureAddr, storeVar, Sem.run_bind, Sem.run_pure, Result.andThen_ok, hs, hm]
    simpa using h2
  rw [this]
  exact hk _ h4 (h.turnB hn h4 (by simpa using h3))
theorem vec_no (x : Rd) (h : x.no = true) : x.vec.2.no = true := number_no _ (must_no _ _ (number_no _ h))
set_option maxHeartbeats 4000000 in
theorem c_fReadNode {w : World} {s : Str} (hs : s.length ≤ 1000000) : Ret Tryz.prog F_joineryref4_ReadNode #[S s] w fun v w' => ∃ (n : NodeM) (mv tv : Value), v = .tuple #[nodeAt n mv tv, .bool (Rd.node ⟨s, false⟩).2.fin] ∧ ((Rd.node ⟨s, false⟩).2.fin = true → n = (Rd.node ⟨s, false⟩).1) ∧ St [] w [.row T_string 1 mv n.marks.length (strsL n.marks), .row T_string 1 tv n.taints.length (strsL n.taints)] w' := by
  refine call_joineryref4_ReadNode ?_
  have h := St.start w
  unfold S_joineryref4_ReadNode
  refine st_alloc zv_api_Node h ?_
  intro q2 w0 _ h
  rw [xbuild (v := .agg #[S s, .int .i64 0, .bool false]) (fun w => by kernel_rfl)]
  refine st_box h ?_
  intro b w1 hb h
  refine st_callA (A := [.blk b (rfO ⟨s, 0, false⟩)]) en_joineryref4_Reader_Name h (fun k => c_fName (k.at 0 rfl) (Rl.start hs)) ?_
  rintro v w2 ⟨t, p1, b1, rfl, _, hl1, he1, _, k⟩ mg
  have h := mg _ k
  rw [xbuild (v := nodeV t zVec nilV nilV false) (fun w => by kernel_rfl)]
  refine st_alloc zv_api_Node h ?_
  intro q5 w3 _ h
  refine st_store sz_api_Node h 0 rfl rfl rfl rfl ?_
  intro w4 h
  try simp only [go_sem] at h
  have h := h.pick [1, 0, 2] (by decide) rfl
  refine st_callA (A := [.blk b (rfO ⟨s, p1, b1⟩)]) en_joineryref4_Reader_Must h (fun k => c_fMust 58 (k.at 0 rfl) hl1) ?_
  rintro v w5 ⟨p2, b2, rfl, hl2, k⟩ mg
  have h := mg _ k
  refine st_callA (A := [.blk b (rfO ⟨s, p2, b2⟩)]) en_joineryref4_Reader_Vec h (fun k => c_fVec (k.at 0 rfl) hl2) ?_
  rintro v w6 ⟨u, p3, b3, rfl, hl3, he3, k⟩ mg
  have h := mg _ k
  rw [fld_api_Node_Cap]
  refine st_store sz_api_Vec h 1 rfl rfl rfl rfl ?_
  intro w7 h
  try simp only [go_sem] at h
  refine st_callA (A := [.blk b (rfO ⟨s, p3, b3⟩)]) en_joineryref4_Reader_row h (fun k => c_fRow 43 (k.at 0 rfl) hl3) ?_
  rintro mv w8 ⟨l1, p4, b4, hl4, he4, _, k⟩ mg
  have h := mg _ k
  have hmv := h.atR 0 rfl
  rw [fld_api_Node_Marks]
  refine st_storeC sz_sl_string h 2 rfl (cells_own hmv) rfl (flat_own hmv) ?_
  intro w9 h
  try simp only [go_sem] at h
  have h := h.pick [1, 0, 2, 3] (by decide) rfl
  refine st_callA (A := [.blk b (rfO ⟨s, p4, b4⟩)]) en_joineryref4_Reader_row h (fun k => c_fRow 126 (k.at 0 rfl) hl4) ?_
  rintro tv w10 ⟨l2, p5, b5, hl5, he5, _, k⟩ mg
  have h := mg _ k
  have htv := h.atR 0 rfl
  rw [fld_api_Node_Taints]
  refine st_storeC sz_sl_string h 3 rfl (cells_own htv) rfl (flat_own htv) ?_
  intro w11 h
  try simp only [go_sem] at h
  have h := h.pick [1, 0, 2, 3, 4] (by decide) rfl
  refine st_callA (A := [.blk b (rfO ⟨s, p5, b5⟩)]) en_joineryref4_Reader_sign h (fun k => c_fSign 33 (k.at 0 rfl) hl5) ?_
  rintro v w12 ⟨cl, p9, rfl, hl9, he9, _, _, k⟩ mg
  have h := mg _ k
  rw [fld_api_Node_Closed]
  refine st_storeC sz_bool h 3 rfl rfl rfl rfl ?_
  intro w13 h
  try simp only [go_sem] at h
  have hfin : (Rd.node ⟨s, false⟩).2.fin = _ := hl9.fin
  have hvals : b5 = false → (⟨t, u, l1, l2, cl⟩ : NodeM) = (Rd.node ⟨s, false⟩).1 := fun h5 => by
    have h4 := hl4.back hl5 (signed_no 126 _) h5
    have h3 := hl3.back hl4 (signed_no 43 _) h4
    have h2 := hl2.back hl3 (vec_no _) h3
    have h1 := hl1.back hl2 (must_no 58 _) h2
    rw [he1 h1, he3 h3, he4 h4, he5 h5, he9 h5]
    rfl
  have hfl1 := flat_own (h.atR 2 rfl)
  have hfl2 := flat_own (h.atR 1 rfl)
  have hflat : (nodeC t u mv tv cl).all flat = true := by
    simp only [nodeC, List.all_cons, List.all_nil, hfl1, hfl2]
    rfl
  have h := (h.pick [4, 0, 3, 2, 1] (by decide) rfl).step (Ext.drew _)
  have h : St [] w [.blk q2 (.cells #[.string ⟨#[]⟩, .int .i64 0, .int .i64 0, .slice none 0 0, .slice none 0 0, .bool false] T_api_Node (0, 0)), .blk b (.cells #[S s, .int .i64 (p9 : Nat), .bool b5] T_joineryref4_Reader (0, 0)), .blk q5 (.cells (nodeC t u mv tv cl).toArray T_api_Node (0, 0)), .row T_string 1 mv l1.length (strsL l1), .row T_string 1 tv l2.length (strsL l2)] w13.drew := h
  have hm := fun {w' : World} (hc : Chg [q2] w13.drew w') => St.mod h hc
  refine ⟨Chg [q2], Eq, preChg _, ?_⟩
  have hlt := trivial
  have tail : ∀ {f : Bool}, (f = (Rd.node ⟨s, false⟩).2.fin) → ((Rd.node ⟨s, false⟩).2.fin = true → (⟨t, u, l1, l2, cl⟩ : NodeM) = (Rd.node ⟨s, false⟩).1) →
      XStore Tryz.prog T_api_Node (pt q2) (.agg (nodeC t u mv tv cl).toArray) w13.drew fun w56 => Chg [q2] w13.drew w56 ∧ ∀ w57 : World, w56 = w57 → XLoad Tryz.prog T_api_Node (pt q2) w57 fun r1 w58 => w58 = w57 ∧ (∃ (n : NodeM) (mv tv : Value), (.tuple #[r1, .bool f] : Value) = .tuple #[nodeAt n mv tv, .bool (Rd.node ⟨s, false⟩).2.fin] ∧ ((Rd.node ⟨s, false⟩).2.fin = true → n = (Rd.node ⟨s, false⟩).1) ∧ St [] w [.row T_string 1 mv n.marks.length (strsL n.marks), .row T_string 1 tv n.taints.length (strsL n.taints)] w57) := fun hf hn => by
    refine st_storeG sz_api_Node h 0 rfl rfl rfl hflat ?_
    intro w56 hc h
    try simp only [go_sem] at h
    refine ⟨hc, ?_⟩
    rintro w57 rfl
    refine st_loadW ag_api_Node sz_api_Node h 0 rfl rfl ⟨rfl, ⟨t, u, l1, l2, cl⟩, mv, tv, ?_, hn, h.pick [3, 4] (by decide) rfl⟩
    rw [hf]
  cases b5
  · by_cases hpe : p9 = s.length
    · repeat
        apply Exists.intro
        apply And.intro
        · first
            | (rw [xg_ft]; try rfl)
            | (rw [xg_tf]; try rfl)
            | ((try rw [xg_same]); intro w3; first
                | (rw [xnil_ptr]; exact ⟨rfl, rfl⟩)
                | (rw [fld_joineryref4_Reader_S]; exact ⟨rfl, rfl⟩)
                | (rw [fld_joineryref4_Reader_P]; exact ⟨rfl, rfl⟩)
                | (rw [fld_joineryref4_Reader_Bad]; exact ⟨rfl, rfl⟩)
                | (rw [xpick_true]; exact ⟨rfl, rfl⟩)
                | (rw [xpick_false]; exact ⟨rfl, rfl⟩)
                | (rw [xnot, Bool.not_true]; exact ⟨rfl, rfl⟩)
                | (rw [xnot, Bool.not_false]; exact ⟨rfl, rfl⟩)
                | (rw [xnot]; exact ⟨rfl, rfl⟩)
                | (rw [xlen_string und_string]; exact ⟨rfl, rfl⟩)
                | (rw [xix_str und_string _ _ _ hlt]; exact ⟨rfl, rfl⟩)
                | (rw [xgeq, decide_eq_true (by omega)]; exact ⟨rfl, rfl⟩)
                | (rw [xgeq, decide_eq_false (by omega)]; exact ⟨rfl, rfl⟩)
                | (rw [xleq, decide_eq_true (by omega)]; exact ⟨rfl, rfl⟩)
                | (rw [xleq, decide_eq_false (by omega)]; exact ⟨rfl, rfl⟩)
                | (rw [xlss, decide_eq_true (by omega)]; exact ⟨rfl, rfl⟩)
                | (rw [xlss, decide_eq_false (by omega)]; exact ⟨rfl, rfl⟩)
                | (rw [xeql, decide_eq_true (by omega)]; exact ⟨rfl, rfl⟩)
                | (rw [xeql, decide_eq_false (by omega)]; exact ⟨rfl, rfl⟩)
                | (rw [xneq, decide_eq_true (by omega)]; exact ⟨rfl, rfl⟩)
                | (rw [xneq, decide_eq_false (by omega)]; exact ⟨rfl, rfl⟩)
                | (intro e3; first
                    | exact st_load ag_bool (h.step e3) 0 rfl rfl ⟨rfl, Ext.refl _⟩
                    | exact st_load ag_int (h.step e3) 0 rfl rfl ⟨rfl, Ext.refl _⟩
                    | exact st_load ag_string (h.step e3) 0 rfl rfl ⟨rfl, Ext.refl _⟩
                    | exact st_load ag_bool (hm e3) 0 rfl rfl ⟨rfl, rfl⟩
                    | exact st_load ag_int (hm e3) 0 rfl rfl ⟨rfl, rfl⟩
                    | exact st_loadW ag_api_Node sz_api_Node (hm e3) 1 rfl rfl ⟨rfl, rfl⟩
                    | exact st_loadW ag_api_Place sz_api_Place (hm e3) 1 rfl rfl ⟨rfl, rfl⟩
                    | exact xcall_of (en_joineryref4_parting _) (hpt _) fun _ _ hq => hq)
                | (rw [xmul, wi64 (by omega) (by omega)]; exact ⟨rfl, rfl⟩)
                | (rw [xsub, wu8 (by omega) (by omega)]; exact ⟨rfl, rfl⟩)
                | (rw [xconv_int und_uint8 und_int, wi64 (by omega) (by omega)]; exact ⟨rfl, rfl⟩)
                | (rw [xadd, wi64 (by omega) (by omega)]; exact ⟨rfl, rfl⟩)
                | (rw [xslice_mid und_string (by omega) (by omega)]; exact ⟨rfl, rfl⟩)
                | exact ⟨rfl, rfl⟩)
      rintro w3 rfl
      exact tail (by rw [hfin]; simp [hpe]) fun _ => hvals rfl
    · repeat
        apply Exists.intro
        apply And.intro
        · first
            | (rw [xg_ft]; try rfl)
            | (rw [xg_tf]; try rfl)
            | ((try rw [xg_same]); intro w3; first
                | (rw [xnil_ptr]; exact ⟨rfl, rfl⟩)
                | (rw [fld_joineryref4_Reader_S]; exact ⟨rfl, rfl⟩)
                | (rw [fld_joineryref4_Reader_P]; exact ⟨rfl, rfl⟩)
                | (rw [fld_joineryref4_Reader_Bad]; exact ⟨rfl, rfl⟩)
                | (rw [xpick_true]; exact ⟨rfl, rfl⟩)
                | (rw [xpick_false]; exact ⟨rfl, rfl⟩)
                | (rw [xnot, Bool.not_true]; exact ⟨rfl, rfl⟩)
                | (rw [xnot, Bool.not_false]; exact ⟨rfl, rfl⟩)
                | (rw [xnot]; exact ⟨rfl, rfl⟩)
                | (rw [xlen_string und_string]; exact ⟨rfl, rfl⟩)
                | (rw [xix_str und_string _ _ _ hlt]; exact ⟨rfl, rfl⟩)
                | (rw [xgeq, decide_eq_true (by omega)]; exact ⟨rfl, rfl⟩)
                | (rw [xgeq, decide_eq_false (by omega)]; exact ⟨rfl, rfl⟩)
                | (rw [xleq, decide_eq_true (by omega)]; exact ⟨rfl, rfl⟩)
                | (rw [xleq, decide_eq_false (by omega)]; exact ⟨rfl, rfl⟩)
                | (rw [xlss, decide_eq_true (by omega)]; exact ⟨rfl, rfl⟩)
                | (rw [xlss, decide_eq_false (by omega)]; exact ⟨rfl, rfl⟩)
                | (rw [xeql, decide_eq_true (by omega)]; exact ⟨rfl, rfl⟩)
                | (rw [xeql, decide_eq_false (by omega)]; exact ⟨rfl, rfl⟩)
                | (rw [xneq, decide_eq_true (by omega)]; exact ⟨rfl, rfl⟩)
                | (rw [xneq, decide_eq_false (by omega)]; exact ⟨rfl, rfl⟩)
                | (intro e3; first
                    | exact st_load ag_bool (h.step e3) 0 rfl rfl ⟨rfl, Ext.refl _⟩
                    | exact st_load ag_int (h.step e3) 0 rfl rfl ⟨rfl, Ext.refl _⟩
                    | exact st_load ag_string (h.step e3) 0 rfl rfl ⟨rfl, Ext.refl _⟩
                    | exact st_load ag_bool (hm e3) 0 rfl rfl ⟨rfl, rfl⟩
                    | exact st_load ag_int (hm e3) 0 rfl rfl ⟨rfl, rfl⟩
                    | exact st_loadW ag_api_Node sz_api_Node (hm e3) 1 rfl rfl ⟨rfl, rfl⟩
                    | exact st_loadW ag_api_Place sz_api_Place (hm e3) 1 rfl rfl ⟨rfl, rfl⟩
                    | exact xcall_of (en_joineryref4_parting _) (hpt _) fun _ _ hq => hq)
                | (rw [xmul, wi64 (by omega) (by omega)]; exact ⟨rfl, rfl⟩)
                | (rw [xsub, wu8 (by omega) (by omega)]; exact ⟨rfl, rfl⟩)
                | (rw [xconv_int und_uint8 und_int, wi64 (by omega) (by omega)]; exact ⟨rfl, rfl⟩)
                | (rw [xadd, wi64 (by omega) (by omega)]; exact ⟨rfl, rfl⟩)
                | (rw [xslice_mid und_string (by omega) (by omega)]; exact ⟨rfl, rfl⟩)
                | exact ⟨rfl, rfl⟩)
      rintro w3 rfl
      exact tail (by rw [hfin]; simp [hpe]) fun _ => hvals rfl
  · repeat
      apply Exists.intro
      apply And.intro
      · first
          | (rw [xg_ft]; try rfl)
          | (rw [xg_tf]; try rfl)
          | ((try rw [xg_same]); intro w3; first
              | (rw [xnil_ptr]; exact ⟨rfl, rfl⟩)
              | (rw [fld_joineryref4_Reader_S]; exact ⟨rfl, rfl⟩)
              | (rw [fld_joineryref4_Reader_P]; exact ⟨rfl, rfl⟩)
              | (rw [fld_joineryref4_Reader_Bad]; exact ⟨rfl, rfl⟩)
              | (rw [xpick_true]; exact ⟨rfl, rfl⟩)
              | (rw [xpick_false]; exact ⟨rfl, rfl⟩)
              | (rw [xnot, Bool.not_true]; exact ⟨rfl, rfl⟩)
              | (rw [xnot, Bool.not_false]; exact ⟨rfl, rfl⟩)
              | (rw [xnot]; exact ⟨rfl, rfl⟩)
              | (rw [xlen_string und_string]; exact ⟨rfl, rfl⟩)
              | (rw [xix_str und_string _ _ _ hlt]; exact ⟨rfl, rfl⟩)
              | (rw [xgeq, decide_eq_true (by omega)]; exact ⟨rfl, rfl⟩)
              | (rw [xgeq, decide_eq_false (by omega)]; exact ⟨rfl, rfl⟩)
              | (rw [xleq, decide_eq_true (by omega)]; exact ⟨rfl, rfl⟩)
              | (rw [xleq, decide_eq_false (by omega)]; exact ⟨rfl, rfl⟩)
              | (rw [xlss, decide_eq_true (by omega)]; exact ⟨rfl, rfl⟩)
              | (rw [xlss, decide_eq_false (by omega)]; exact ⟨rfl, rfl⟩)
              | (rw [xeql, decide_eq_true (by omega)]; exact ⟨rfl, rfl⟩)
              | (rw [xeql, decide_eq_false (by omega)]; exact ⟨rfl, rfl⟩)
              | (rw [xneq, decide_eq_true (by omega)]; exact ⟨rfl, rfl⟩)
              | (rw [xneq, decide_eq_false (by omega)]; exact ⟨rfl, rfl⟩)
              | (intro e3; first
                  | exact st_load ag_bool (h.step e3) 0 rfl rfl ⟨rfl, Ext.refl _⟩
                  | exact st_load ag_int (h.step e3) 0 rfl rfl ⟨rfl, Ext.refl _⟩
                  | exact st_load ag_string (h.step e3) 0 rfl rfl ⟨rfl, Ext.refl _⟩
                  | exact st_load ag_bool (hm e3) 0 rfl rfl ⟨rfl, rfl⟩
                  | exact st_load ag_int (hm e3) 0 rfl rfl ⟨rfl, rfl⟩
                  | exact st_loadW ag_api_Node sz_api_Node (hm e3) 1 rfl rfl ⟨rfl, rfl⟩
                  | exact st_loadW ag_api_Place sz_api_Place (hm e3) 1 rfl rfl ⟨rfl, rfl⟩
                  | exact xcall_of (en_joineryref4_parting _) (hpt _) fun _ _ hq => hq)
              | (rw [xmul, wi64 (by omega) (by omega)]; exact ⟨rfl, rfl⟩)
              | (rw [xsub, wu8 (by omega) (by omega)]; exact ⟨rfl, rfl⟩)
              | (rw [xconv_int und_uint8 und_int, wi64 (by omega) (by omega)]; exact ⟨rfl, rfl⟩)
              | (rw [xadd, wi64 (by omega) (by omega)]; exact ⟨rfl, rfl⟩)
              | (rw [xslice_mid und_string (by omega) (by omega)]; exact ⟨rfl, rfl⟩)
              | exact ⟨rfl, rfl⟩)
    rintro w3 rfl
    exact tail (by rw [hfin]; rfl) fun hh => by rw [hfin] at hh; cases hh
end Go.Proofs.YthkgbajldkicfaaGreatDoor

namespace Go.Proofs.YthkgbajldkicfaaGreatDoor
set_option linter.unusedVariables false
set_option linter.unusedSimpArgs false
open Go Go.Jo
set_option maxRecDepth 100000

set_option maxHeartbeats 4000000 in
theorem c_fPlace {w : World} {s : Str} (hs : s.length ≤ 1000000) : Ret Tryz.prog F_joineryref4_place #[S s] w fun v w' => ∃ (n : PlaceM), v = .tuple #[placeV n, .bool (Rd.place ⟨s, false⟩).2.fin] ∧ ((Rd.place ⟨s, false⟩).2.fin = true → n = (Rd.place ⟨s, false⟩).1) ∧ Ext w w' := by
  refine call_joineryref4_place ?_
  have h := St.start w
  unfold S_joineryref4_place
  refine st_alloc zv_api_Place h ?_
  intro q2 w0 _ h
  rw [xbuild (v := .agg #[S s, .int .i64 0, .bool false]) (fun w => by kernel_rfl)]
  refine st_box h ?_
  intro b w1 hb h
  refine st_callA (A := [.blk b (rfO ⟨s, 0, false⟩)]) en_joineryref4_Reader_Name h (fun k => c_fName (k.at 0 rfl) (Rl.start hs)) ?_
  rintro v w2 ⟨t, p1, b1, rfl, _, hl1, he1, _, k⟩ mg
  have h := mg _ k
  rw [xbuild (v := placeV ⟨t, [], zVec, false⟩) (fun w => by kernel_rfl)]
  refine st_alloc zv_api_Place h ?_
  intro q5 w3 _ h
  refine st_store sz_api_Place h 0 rfl rfl rfl rfl ?_
  intro w4 h
  try simp only [go_sem] at h
  have h := h.pick [1, 0, 2] (by decide) rfl
  refine st_callA (A := [.blk b (rfO ⟨s, p1, b1⟩)]) en_joineryref4_Reader_Must h (fun k => c_fMust 62 (k.at 0 rfl) hl1) ?_
  rintro v w5 ⟨p2, b2, rfl, hl2, k⟩ mg
  have h := mg _ k
  refine st_callA (A := [.blk b (rfO ⟨s, p2, b2⟩)]) en_joineryref4_Reader_Name h (fun k => c_fName (k.at 0 rfl) hl2) ?_
  rintro v w6 ⟨t2, p3, b3, rfl, _, hl3, he3, _, k⟩ mg
  have h := mg _ k
  rw [fld_api_Place_Node]
  refine st_store sz_string h 1 rfl rfl rfl rfl ?_
  intro w7 h
  try simp only [go_sem] at h
  refine st_callA (A := [.blk b (rfO ⟨s, p3, b3⟩)]) en_joineryref4_Reader_Must h (fun k => c_fMust 58 (k.at 0 rfl) hl3) ?_
  rintro v w8 ⟨p4, b4, rfl, hl4, k⟩ mg
  have h := mg _ k
  refine st_callA (A := [.blk b (rfO ⟨s, p4, b4⟩)]) en_joineryref4_Reader_Vec h (fun k => c_fVec (k.at 0 rfl) hl4) ?_
  rintro v w9 ⟨u, p5, b5, rfl, hl5, he5, k⟩ mg
  have h := mg _ k
  rw [fld_api_Place_Need]
  refine st_store sz_api_Vec h 1 rfl rfl rfl rfl ?_
  intro w10 h
  try simp only [go_sem] at h
  refine st_callA (A := [.blk b (rfO ⟨s, p5, b5⟩)]) en_joineryref4_Reader_sign h (fun k => c_fSign 33 (k.at 0 rfl) hl5) ?_
  rintro v w12 ⟨cl, p9, rfl, hl9, he9, _, _, k⟩ mg
  have h := mg _ k
  rw [fld_api_Place_Alone]
  refine st_storeC sz_bool h 1 rfl rfl rfl rfl ?_
  intro w13 h
  try simp only [go_sem] at h
  have hfin : (Rd.place ⟨s, false⟩).2.fin = _ := hl9.fin
  have hvals : b5 = false → (⟨t, t2, u, cl⟩ : PlaceM) = (Rd.place ⟨s, false⟩).1 := fun h5 => by
    have h4 := hl4.back hl5 (vec_no _) h5
    have h3 := hl3.back hl4 (must_no 58 _) h4
    have h2 := hl2.back hl3 (nameNo _) h3
    have h1 := hl1.back hl2 (must_no 62 _) h2
    rw [he1 h1, he3 h3, he5 h5, he9 h5]
    rfl
  have h := (h.pick [2, 0, 1] (by decide) rfl).step (Ext.drew _)
  have h : St [] w [.blk q2 (.cells #[.string ⟨#[]⟩, .string ⟨#[]⟩, .int .i64 0, .int .i64 0, .bool false] T_api_Place (0, 0)), .blk b (.cells #[S s, .int .i64 (p9 : Nat), .bool b5] T_joineryref4_Reader (0, 0)), .blk q5 (.cells (placeC ⟨t, t2, u, cl⟩).toArray T_api_Place (0, 0))] w13.drew := h
  have hm := fun {w' : World} (hc : Chg [q2] w13.drew w') => St.mod h hc
  refine ⟨Chg [q2], Eq, preChg _, ?_⟩
  have hlt := trivial
  have tail : ∀ {f : Bool}, (f = (Rd.place ⟨s, false⟩).2.fin) → ((Rd.place ⟨s, false⟩).2.fin = true → (⟨t, t2, u, cl⟩ : PlaceM) = (Rd.place ⟨s, false⟩).1) →
      XStore Tryz.prog T_api_Place (pt q2) (placeV ⟨t, t2, u, cl⟩) w13.drew fun w56 => Chg [q2] w13.drew w56 ∧ ∀ w57 : World, w56 = w57 → XLoad Tryz.prog T_api_Place (pt q2) w57 fun r1 w58 => w58 = w57 ∧ (∃ (n : PlaceM), (.tuple #[r1, .bool f] : Value) = .tuple #[placeV n, .bool (Rd.place ⟨s, false⟩).2.fin] ∧ ((Rd.place ⟨s, false⟩).2.fin = true → n = (Rd.place ⟨s, false⟩).1) ∧ Ext w w57) := fun hf hn => by
    refine st_storeG sz_api_Place h 0 rfl rfl rfl rfl ?_
    intro w56 hc h
    try simp only [go_sem] at h
    refine ⟨hc, ?_⟩
    rintro w57 rfl
    refine st_loadW ag_api_Place sz_api_Place h 0 rfl rfl ⟨rfl, ⟨t, t2, u, cl⟩, ?_, hn, h.ext⟩
    rw [hf]
  cases b5
  · by_cases hpe : p9 = s.length
    · repeat
        apply Exists.intro
        apply And.intro
        · first
            | (rw [xg_ft]; try rfl)
            | (rw [xg_tf]; try rfl)
            | ((try rw [xg_same]); intro w3; first
                | (rw [xnil_ptr]; exact ⟨rfl, rfl⟩)
                | (rw [fld_joineryref4_Reader_S]; exact ⟨rfl, rfl⟩)
                | (rw [fld_joineryref4_Reader_P]; exact ⟨rfl, rfl⟩)
                | (rw [fld_joineryref4_Reader_Bad]; exact ⟨rfl, rfl⟩)
                | (rw [xpick_true]; exact ⟨rfl, rfl⟩)
                | (rw [xpick_false]; exact ⟨rfl, rfl⟩)
                | (rw [xnot, Bool.not_true]; exact ⟨rfl, rfl⟩)
                | (rw [xnot, Bool.not_false]; exact ⟨rfl, rfl⟩)
                | (rw [xnot]; exact ⟨rfl, rfl⟩)
                | (rw [xlen_string und_string]; exact ⟨rfl, rfl⟩)
                | (rw [xix_str und_string _ _ _ hlt]; exact ⟨rfl, rfl⟩)
                | (rw [xgeq, decide_eq_true (by omega)]; exact ⟨rfl, rfl⟩)
                | (rw [xgeq, decide_eq_false (by omega)]; exact ⟨rfl, rfl⟩)
                | (rw [xleq, decide_eq_true (by omega)]; exact ⟨rfl, rfl⟩)
                | (rw [xleq, decide_eq_false (by omega)]; exact ⟨rfl, rfl⟩)
                | (rw [xlss, decide_eq_true (by omega)]; exact ⟨rfl, rfl⟩)
                | (rw [xlss, decide_eq_false (by omega)]; exact ⟨rfl, rfl⟩)
                | (rw [xeql, decide_eq_true (by omega)]; exact ⟨rfl, rfl⟩)
                | (rw [xeql, decide_eq_false (by omega)]; exact ⟨rfl, rfl⟩)
                | (rw [xneq, decide_eq_true (by omega)]; exact ⟨rfl, rfl⟩)
                | (rw [xneq, decide_eq_false (by omega)]; exact ⟨rfl, rfl⟩)
                | (intro e3; first
                    | exact st_load ag_bool (h.step e3) 0 rfl rfl ⟨rfl, Ext.refl _⟩
                    | exact st_load ag_int (h.step e3) 0 rfl rfl ⟨rfl, Ext.refl _⟩
                    | exact st_load ag_string (h.step e3) 0 rfl rfl ⟨rfl, Ext.refl _⟩
                    | exact st_load ag_bool (hm e3) 0 rfl rfl ⟨rfl, rfl⟩
                    | exact st_load ag_int (hm e3) 0 rfl rfl ⟨rfl, rfl⟩
                    | exact st_loadW ag_api_Node sz_api_Node (hm e3) 1 rfl rfl ⟨rfl, rfl⟩
                    | exact st_loadW ag_api_Place sz_api_Place (hm e3) 1 rfl rfl ⟨rfl, rfl⟩
                    | exact xcall_of (en_joineryref4_parting _) (hpt _) fun _ _ hq => hq)
                | (rw [xmul, wi64 (by omega) (by omega)]; exact ⟨rfl, rfl⟩)
                | (rw [xsub, wu8 (by omega) (by omega)]; exact ⟨rfl, rfl⟩)
                | (rw [xconv_int und_uint8 und_int, wi64 (by omega) (by omega)]; exact ⟨rfl, rfl⟩)
                | (rw [xadd, wi64 (by omega) (by omega)]; exact ⟨rfl, rfl⟩)
                | (rw [xslice_mid und_string (by omega) (by omega)]; exact ⟨rfl, rfl⟩)
                | exact ⟨rfl, rfl⟩)
      rintro w3 rfl
      exact tail (by rw [hfin]; simp [hpe]) fun _ => hvals rfl
    · repeat
        apply Exists.intro
        apply And.intro
        · first
            | (rw [xg_ft]; try rfl)
            | (rw [xg_tf]; try rfl)
            | ((try rw [xg_same]); intro w3; first
                | (rw [xnil_ptr]; exact ⟨rfl, rfl⟩)
                | (rw [fld_joineryref4_Reader_S]; exact ⟨rfl, rfl⟩)
                | (rw [fld_joineryref4_Reader_P]; exact ⟨rfl, rfl⟩)
                | (rw [fld_joineryref4_Reader_Bad]; exact ⟨rfl, rfl⟩)
                | (rw [xpick_true]; exact ⟨rfl, rfl⟩)
                | (rw [xpick_false]; exact ⟨rfl, rfl⟩)
                | (rw [xnot, Bool.not_true]; exact ⟨rfl, rfl⟩)
                | (rw [xnot, Bool.not_false]; exact ⟨rfl, rfl⟩)
                | (rw [xnot]; exact ⟨rfl, rfl⟩)
                | (rw [xlen_string und_string]; exact ⟨rfl, rfl⟩)
                | (rw [xix_str und_string _ _ _ hlt]; exact ⟨rfl, rfl⟩)
                | (rw [xgeq, decide_eq_true (by omega)]; exact ⟨rfl, rfl⟩)
                | (rw [xgeq, decide_eq_false (by omega)]; exact ⟨rfl, rfl⟩)
                | (rw [xleq, decide_eq_true (by omega)]; exact ⟨rfl, rfl⟩)
                | (rw [xleq, decide_eq_false (by omega)]; exact ⟨rfl, rfl⟩)
                | (rw [xlss, decide_eq_true (by omega)]; exact ⟨rfl, rfl⟩)
                | (rw [xlss, decide_eq_false (by omega)]; exact ⟨rfl, rfl⟩)
                | (rw [xeql, decide_eq_true (by omega)]; exact ⟨rfl, rfl⟩)
                | (rw [xeql, decide_eq_false (by omega)]; exact ⟨rfl, rfl⟩)
                | (rw [xneq, decide_eq_true (by omega)]; exact ⟨rfl, rfl⟩)
                | (rw [xneq, decide_eq_false (by omega)]; exact ⟨rfl, rfl⟩)
                | (intro e3; first
                    | exact st_load ag_bool (h.step e3) 0 rfl rfl ⟨rfl, Ext.refl _⟩
                    | exact st_load ag_int (h.step e3) 0 rfl rfl ⟨rfl, Ext.refl _⟩
                    | exact st_load ag_string (h.step e3) 0 rfl rfl ⟨rfl, Ext.refl _⟩
                    | exact st_load ag_bool (hm e3) 0 rfl rfl ⟨rfl, rfl⟩
                    | exact st_load ag_int (hm e3) 0 rfl rfl ⟨rfl, rfl⟩
                    | exact st_loadW ag_api_Node sz_api_Node (hm e3) 1 rfl rfl ⟨rfl, rfl⟩
                    | exact st_loadW ag_api_Place sz_api_Place (hm e3) 1 rfl rfl ⟨rfl, rfl⟩
                    | exact xcall_of (en_joineryref4_parting _) (hpt _) fun _ _ hq => hq)
                | (rw [xmul, wi64 (by omega) (by omega)]; exact ⟨rfl, rfl⟩)
                | (rw [xsub, wu8 (by omega) (by omega)]; exact ⟨rfl, rfl⟩)
                | (rw [xconv_int und_uint8 und_int, wi64 (by omega) (by omega)]; exact ⟨rfl, rfl⟩)
                | (rw [xadd, wi64 (by omega) (by omega)]; exact ⟨rfl, rfl⟩)
                | (rw [xslice_mid und_string (by omega) (by omega)]; exact ⟨rfl, rfl⟩)
                | exact ⟨rfl, rfl⟩)
      rintro w3 rfl
      exact tail (by rw [hfin]; simp [hpe]) fun _ => hvals rfl
  · repeat
      apply Exists.intro
      apply And.intro
      · first
          | (rw [xg_ft]; try rfl)
          | (rw [xg_tf]; try rfl)
          | ((try rw [xg_same]); intro w3; first
              | (rw [xnil_ptr]; exact ⟨rfl, rfl⟩)
              | (rw [fld_joineryref4_Reader_S]; exact ⟨rfl, rfl⟩)
              | (rw [fld_joineryref4_Reader_P]; exact ⟨rfl, rfl⟩)
              | (rw [fld_joineryref4_Reader_Bad]; exact ⟨rfl, rfl⟩)
              | (rw [xpick_true]; exact ⟨rfl, rfl⟩)
              | (rw [xpick_false]; exact ⟨rfl, rfl⟩)
              | (rw [xnot, Bool.not_true]; exact ⟨rfl, rfl⟩)
              | (rw [xnot, Bool.not_false]; exact ⟨rfl, rfl⟩)
              | (rw [xnot]; exact ⟨rfl, rfl⟩)
              | (rw [xlen_string und_string]; exact ⟨rfl, rfl⟩)
              | (rw [xix_str und_string _ _ _ hlt]; exact ⟨rfl, rfl⟩)
              | (rw [xgeq, decide_eq_true (by omega)]; exact ⟨rfl, rfl⟩)
              | (rw [xgeq, decide_eq_false (by omega)]; exact ⟨rfl, rfl⟩)
              | (rw [xleq, decide_eq_true (by omega)]; exact ⟨rfl, rfl⟩)
              | (rw [xleq, decide_eq_false (by omega)]; exact ⟨rfl, rfl⟩)
              | (rw [xlss, decide_eq_true (by omega)]; exact ⟨rfl, rfl⟩)
              | (rw [xlss, decide_eq_false (by omega)]; exact ⟨rfl, rfl⟩)
              | (rw [xeql, decide_eq_true (by omega)]; exact ⟨rfl, rfl⟩)
              | (rw [xeql, decide_eq_false (by omega)]; exact ⟨rfl, rfl⟩)
              | (rw [xneq, decide_eq_true (by omega)]; exact ⟨rfl, rfl⟩)
              | (rw [xneq, decide_eq_false (by omega)]; exact ⟨rfl, rfl⟩)
              | (intro e3; first
                  | exact st_load ag_bool (h.step e3) 0 rfl rfl ⟨rfl, Ext.refl _⟩
                  | exact st_load ag_int (h.step e3) 0 rfl rfl ⟨rfl, Ext.refl _⟩
                  | exact st_load ag_string (h.step e3) 0 rfl rfl ⟨rfl, Ext.refl _⟩
                  | exact st_load ag_bool (hm e3) 0 rfl rfl ⟨rfl, rfl⟩
                  | exact st_load ag_int (hm e3) 0 rfl rfl ⟨rfl, rfl⟩
                  | exact st_loadW ag_api_Node sz_api_Node (hm e3) 1 rfl rfl ⟨rfl, rfl⟩
                  | exact st_loadW ag_api_Place sz_api_Place (hm e3) 1 rfl rfl ⟨rfl, rfl⟩
                  | exact xcall_of (en_joineryref4_parting _) (hpt _) fun _ _ hq => hq)
              | (rw [xmul, wi64 (by omega) (by omega)]; exact ⟨rfl, rfl⟩)
              | (rw [xsub, wu8 (by omega) (by omega)]; exact ⟨rfl, rfl⟩)
              | (rw [xconv_int und_uint8 und_int, wi64 (by omega) (by omega)]; exact ⟨rfl, rfl⟩)
              | (rw [xadd, wi64 (by omega) (by omega)]; exact ⟨rfl, rfl⟩)
              | (rw [xslice_mid und_string (by omega) (by omega)]; exact ⟨rfl, rfl⟩)
              | exact ⟨rfl, rfl⟩)
    rintro w3 rfl
    exact tail (by rw [hfin]; rfl) fun hh => by rw [hfin] at hh; cases hh
theorem peersN_no : ∀ (f : Nat) (x : Rd), x.no = true → (Rd.peersN f x).2.no = true
  | 0, x, h => h
  | f + 1, x, h => by
    unfold Rd.peersN
    split
    · exact peersN_no f _ (number_no _ h)
    · exact h
theorem more_no (x : Rd) (h : x.no = true) : (Rd.more x).2.no = true := peersN_no _ x h
theorem more_step {x : Rd} (h : (x.sign 44).1 = true) : Rd.more x = (((x.sign 44).2.number.1 : Int) :: (Rd.more (x.sign 44).2.number.2).1, (Rd.more (x.sign 44).2.number.2).2) := by
  have hlen := signP_len 44 x.s
  have h' : (signP 44 x.s).1 = true := h
  rw [h', if_pos rfl] at hlen
  have hlen : (x.sign 44).2.s.length + 1 = x.s.length := hlen
  have hn := number_len (x.sign 44).2
  unfold Rd.more
  rw [show x.s.length = (x.sign 44).2.s.length + 1 by omega]
  conv => lhs; unfold Rd.peersN
  rw [if_pos h]
  simp only
  rw [peersN_more (x.sign 44).2.s.length (x.sign 44).2.number.2.s.length _ (by omega) (Nat.le_refl _)]
theorem more_stop {x : Rd} (h : (x.sign 44).1 = false) : Rd.more x = ([], x) := by
  unfold Rd.more
  cases hl : x.s.length with
  | zero => rfl
  | succ n =>
    unfold Rd.peersN
    rw [if_neg (by rw [h]; simp)]
set_option maxHeartbeats 4000000 in
theorem c_fInts {w : World} {s : Str} (hs : s.length ≤ 1000000) : Ret Tryz.prog F_joineryref4_ints #[S s] w fun v w' => ∃ (l : List Int) (u : Value), v = .tuple #[u, .bool (Rd.peers ⟨s, false⟩).2.fin] ∧ ((Rd.peers ⟨s, false⟩).2.fin = true → l = (Rd.peers ⟨s, false⟩).1) ∧ l.length ≤ 1000001 ∧ St [] w [.row T_int 1 u l.length (intsL l)] w' := by
  refine call_joineryref4_ints ?_
  have h := St.start w
  unfold S_joineryref4_ints
  rw [xbuild (v := .agg #[S s, .int .i64 0, .bool false]) (fun w => by kernel_rfl)]
  refine st_box h ?_
  intro b w1 hb h
  refine st_callA (A := [.blk b (rfO ⟨s, 0, false⟩)]) en_joineryref4_Reader_Number h (fun k => c_fNumber (k.at 0 rfl) (Rl.start hs)) ?_
  rintro v w2 ⟨n0, p1, b1, rfl, _, hl1, he1, _, k⟩ mg
  have h := mg _ k
  refine st_buildS (cs := #[.int .i64 (n0 : Nat)]) (e := T_int) (fun w => by kernel_rfl) h ?_
  intro bl w3 hbl h
  have h := h.asRow 0 (k := 1) (sz := 1) (e := T_int) rfl (by decide) (by rfl)
  refine ⟨fun u w2 => ∃ (y : Rd) (acc : List Int) (p : Nat) (bad : Bool), acc.length ≤ p + 1 ∧ Rl y ⟨s, p, bad⟩ ∧ (bad = false → (Rd.peers ⟨s, false⟩).1 = acc ++ (Rd.more y).1) ∧ (Rd.peers ⟨s, false⟩).2 = (Rd.more y).2 ∧ St [] w [.row T_int 1 u acc.length (intsL acc), .blk b (rfO ⟨s, p, bad⟩)] w2, fun _ w2 => s.length - rfP b w2, ⟨(Rd.number ⟨s, false⟩).2, [(n0 : Int)], p1, b1, by simp, hl1, fun hh => by rw [he1 hh]; rfl, rfl, h⟩, ?_⟩
  clear h
  rintro - u w4 ⟨y, acc, p, bad, hl, hy, h1, h2, h⟩
  have hpos : rfP b w4 = p := rfP_of (h.at 1 rfl)
  have hle : p ≤ s.length := hy.le
  have h := h.pick [1, 0] (by decide) rfl
  refine st_callA (A := [.blk b (rfO ⟨s, p, bad⟩)]) (L := [.row T_int 1 u acc.length (intsL acc)]) en_joineryref4_Reader_sign h (fun k => c_fSign 44 (k.at 0 rfl) hy) ?_
  rintro v w5 ⟨t, p2, rfl, hl2, ht, hp, hp0, k⟩ mg
  have h := mg _ k
  refine xc_of ?_ ?_
  · intro e
    subst e
    obtain ⟨hp, hbad⟩ := hp rfl
    have hbad : bad = false := hbad
    subst hbad
    have hst := (ht rfl).symm
    refine st_callA (A := [.blk b (rfO ⟨s, p2, false⟩)]) (L := [.row T_int 1 u acc.length (intsL acc)]) en_joineryref4_Reader_Number h (fun k => c_fNumber (k.at 0 rfl) hl2) ?_
    rintro v w6 ⟨t2, p3, bad3, rfl, ht2, hl3, he3, hp3, k⟩ mg
    have h := mg _ k
    refine st_buildS (cs := #[.int .i64 (t2 : Nat)]) (e := T_int) (fun w => by kernel_rfl) h ?_
    intro bx w7 hbx h
    have hp3 : p2 ≤ p3 := hp3
    have hp : p2 = p + 1 := hp
    have hl3' : p3 ≤ s.length := hl3.le
    refine app_sl_int h 2 rfl [.int .i64 (t2 : Nat)] rfl (news_blk (h.at 0 rfl)) (by simp [Value.oneCell']) (by omega) ?_
    intro v' w8 h
    have h := h.pick [2, 1] (by decide) rfl
    have hpos6 : rfP b w8 = p3 := rfP_of (h.at 1 rfl)
    have hsg := more_step hst
    refine ⟨⟨(y.sign 44).2.number.2, acc ++ [(t2 : Int)], p3, bad3, by simp; omega, hl3, fun hh => ?_, ?_, ?_⟩, by show s.length - rfP b w8 < s.length - rfP b w4; rw [hpos6, hpos]; omega⟩
    · rw [h1 rfl, hsg, he3 hh]; simp
    · rw [h2, hsg]
    · have : intsL (acc ++ [(t2 : Int)]) = intsL acc ++ [.int .i64 (t2 : Nat)] := by simp
      rw [this, List.length_append]
      exact h
  · intro e
    subst e
    have hp0 : p2 = p := hp0 rfl
    subst hp0
    have hrow := h.pick [1] (by decide) rfl
    have hY : Rl (Rd.peers ⟨s, false⟩).2 ⟨s, p2, bad⟩ ∧ (bad = false → acc = (Rd.peers ⟨s, false⟩).1) := by
      cases bad
      · have hst := (ht rfl).symm
        have hsg := more_stop hst
        rw [sign_no hst] at hl2
        rw [hsg] at h1 h2
        exact ⟨by rw [h2]; exact hl2, fun _ => by rw [h1 rfl, List.append_nil]⟩
      · refine ⟨⟨hle, hs, ?_, nofun⟩, nofun⟩
        rw [h2]
        exact more_no y hy.no
    have hfin := hY.1.fin
    have h : St [] w [.blk b (.cells #[S s, .int .i64 (p2 : Nat), .bool bad] T_joineryref4_Reader (0, 0)), .row T_int 1 u acc.length (intsL acc)] w5.drew := h.step (Ext.drew _)
    refine ⟨Ext, Ext, preExt, ?_⟩
    have hlt := trivial
    cases bad
    · by_cases hpe : p2 = s.length
      · repeat
          apply Exists.intro
          apply And.intro
          · first
              | (rw [xg_ft]; try rfl)
              | (rw [xg_tf]; try rfl)
              | ((try rw [xg_same]); intro w3; first
                  | (rw [xnil_ptr]; exact ⟨rfl, rfl⟩)
                  | (rw [fld_joineryref4_Reader_S]; exact ⟨rfl, rfl⟩)
                  | (rw [fld_joineryref4_Reader_P]; exact ⟨rfl, rfl⟩)
                  | (rw [fld_joineryref4_Reader_Bad]; exact ⟨rfl, rfl⟩)
                  | (rw [xpick_true]; exact ⟨rfl, rfl⟩)
                  | (rw [xpick_false]; exact ⟨rfl, rfl⟩)
                  | (rw [xnot, Bool.not_true]; exact ⟨rfl, rfl⟩)
                  | (rw [xnot, Bool.not_false]; exact ⟨rfl, rfl⟩)
                  | (rw [xnot]; exact ⟨rfl, rfl⟩)
                  | (rw [xlen_string und_string]; exact ⟨rfl, rfl⟩)
                  | (rw [xix_str und_string _ _ _ hlt]; exact ⟨rfl, rfl⟩)
                  | (rw [xgeq, decide_eq_true (by omega)]; exact ⟨rfl, rfl⟩)
                  | (rw [xgeq, decide_eq_false (by omega)]; exact ⟨rfl, rfl⟩)
                  | (rw [xleq, decide_eq_true (by omega)]; exact ⟨rfl, rfl⟩)
                  | (rw [xleq, decide_eq_false (by omega)]; exact ⟨rfl, rfl⟩)
                  | (rw [xlss, decide_eq_true (by omega)]; exact ⟨rfl, rfl⟩)
                  | (rw [xlss, decide_eq_false (by omega)]; exact ⟨rfl, rfl⟩)
                  | (rw [xeql, decide_eq_true (by omega)]; exact ⟨rfl, rfl⟩)
                  | (rw [xeql, decide_eq_false (by omega)]; exact ⟨rfl, rfl⟩)
                  | (rw [xneq, decide_eq_true (by omega)]; exact ⟨rfl, rfl⟩)
                  | (rw [xneq, decide_eq_false (by omega)]; exact ⟨rfl, rfl⟩)
                  | (intro e3; first
                      | exact st_load ag_bool (h.step e3) 0 rfl rfl ⟨rfl, Ext.refl _⟩
                      | exact st_load ag_int (h.step e3) 0 rfl rfl ⟨rfl, Ext.refl _⟩
                      | exact st_load ag_string (h.step e3) 0 rfl rfl ⟨rfl, Ext.refl _⟩
                      | exact st_load ag_bool (hm e3) 0 rfl rfl ⟨rfl, rfl⟩
                      | exact st_load ag_int (hm e3) 0 rfl rfl ⟨rfl, rfl⟩
                      | exact st_loadW ag_api_Node sz_api_Node (hm e3) 1 rfl rfl ⟨rfl, rfl⟩
                      | exact st_loadW ag_api_Place sz_api_Place (hm e3) 1 rfl rfl ⟨rfl, rfl⟩
                      | exact xcall_of (en_joineryref4_parting _) (hpt _) fun _ _ hq => hq)
                  | (rw [xmul, wi64 (by omega) (by omega)]; exact ⟨rfl, rfl⟩)
                  | (rw [xsub, wu8 (by omega) (by omega)]; exact ⟨rfl, rfl⟩)
                  | (rw [xconv_int und_uint8 und_int, wi64 (by omega) (by omega)]; exact ⟨rfl, rfl⟩)
                  | (rw [xadd, wi64 (by omega) (by omega)]; exact ⟨rfl, rfl⟩)
                  | (rw [xslice_mid und_string (by omega) (by omega)]; exact ⟨rfl, rfl⟩)
                  | exact ⟨rfl, rfl⟩)
        intro w3 e3
        have h := h.step e3
        have e : (Rd.peers ⟨s, false⟩).2.fin = true := by rw [hfin]; simp [hpe]
        exact ⟨Ext.refl _, fun w4 e4 => ⟨acc, u, by rw [e], fun _ => hY.2 rfl, by omega, (h.step e4).pick [1] (by decide) rfl⟩⟩
      · repeat
          apply Exists.intro
          apply And.intro
          · first
              | (rw [xg_ft]; try rfl)
              | (rw [xg_tf]; try rfl)
              | ((try rw [xg_same]); intro w3; first
                  | (rw [xnil_ptr]; exact ⟨rfl, rfl⟩)
                  | (rw [fld_joineryref4_Reader_S]; exact ⟨rfl, rfl⟩)
                  | (rw [fld_joineryref4_Reader_P]; exact ⟨rfl, rfl⟩)
                  | (rw [fld_joineryref4_Reader_Bad]; exact ⟨rfl, rfl⟩)
                  | (rw [xpick_true]; exact ⟨rfl, rfl⟩)
                  | (rw [xpick_false]; exact ⟨rfl, rfl⟩)
                  | (rw [xnot, Bool.not_true]; exact ⟨rfl, rfl⟩)
                  | (rw [xnot, Bool.not_false]; exact ⟨rfl, rfl⟩)
                  | (rw [xnot]; exact ⟨rfl, rfl⟩)
                  | (rw [xlen_string und_string]; exact ⟨rfl, rfl⟩)
                  | (rw [xix_str und_string _ _ _ hlt]; exact ⟨rfl, rfl⟩)
                  | (rw [xgeq, decide_eq_true (by omega)]; exact ⟨rfl, rfl⟩)
                  | (rw [xgeq, decide_eq_false (by omega)]; exact ⟨rfl, rfl⟩)
                  | (rw [xleq, decide_eq_true (by omega)]; exact ⟨rfl, rfl⟩)
                  | (rw [xleq, decide_eq_false (by omega)]; exact ⟨rfl, rfl⟩)
                  | (rw [xlss, decide_eq_true (by omega)]; exact ⟨rfl, rfl⟩)
                  | (rw [xlss, decide_eq_false (by omega)]; exact ⟨rfl, rfl⟩)
                  | (rw [xeql, decide_eq_true (by omega)]; exact ⟨rfl, rfl⟩)
                  | (rw [xeql, decide_eq_false (by omega)]; exact ⟨rfl, rfl⟩)
                  | (rw [xneq, decide_eq_true (by omega)]; exact ⟨rfl, rfl⟩)
                  | (rw [xneq, decide_eq_false (by omega)]; exact ⟨rfl, rfl⟩)
                  | (intro e3; first
                      | exact st_load ag_bool (h.step e3) 0 rfl rfl ⟨rfl, Ext.refl _⟩
                      | exact st_load ag_int (h.step e3) 0 rfl rfl ⟨rfl, Ext.refl _⟩
                      | exact st_load ag_string (h.step e3) 0 rfl rfl ⟨rfl, Ext.refl _⟩
                      | exact st_load ag_bool (hm e3) 0 rfl rfl ⟨rfl, rfl⟩
                      | exact st_load ag_int (hm e3) 0 rfl rfl ⟨rfl, rfl⟩
                      | exact st_loadW ag_api_Node sz_api_Node (hm e3) 1 rfl rfl ⟨rfl, rfl⟩
                      | exact st_loadW ag_api_Place sz_api_Place (hm e3) 1 rfl rfl ⟨rfl, rfl⟩
                      | exact xcall_of (en_joineryref4_parting _) (hpt _) fun _ _ hq => hq)
                  | (rw [xmul, wi64 (by omega) (by omega)]; exact ⟨rfl, rfl⟩)
                  | (rw [xsub, wu8 (by omega) (by omega)]; exact ⟨rfl, rfl⟩)
                  | (rw [xconv_int und_uint8 und_int, wi64 (by omega) (by omega)]; exact ⟨rfl, rfl⟩)
                  | (rw [xadd, wi64 (by omega) (by omega)]; exact ⟨rfl, rfl⟩)
                  | (rw [xslice_mid und_string (by omega) (by omega)]; exact ⟨rfl, rfl⟩)
                  | exact ⟨rfl, rfl⟩)
        intro w3 e3
        have h := h.step e3
        have e : (Rd.peers ⟨s, false⟩).2.fin = false := by rw [hfin]; simp [hpe]
        exact ⟨Ext.refl _, fun w4 e4 => ⟨acc, u, by rw [e], fun _ => hY.2 rfl, by omega, (h.step e4).pick [1] (by decide) rfl⟩⟩
    · repeat
        apply Exists.intro
        apply And.intro
        · first
            | (rw [xg_ft]; try rfl)
            | (rw [xg_tf]; try rfl)
            | ((try rw [xg_same]); intro w3; first
                | (rw [xnil_ptr]; exact ⟨rfl, rfl⟩)
                | (rw [fld_joineryref4_Reader_S]; exact ⟨rfl, rfl⟩)
                | (rw [fld_joineryref4_Reader_P]; exact ⟨rfl, rfl⟩)
                | (rw [fld_joineryref4_Reader_Bad]; exact ⟨rfl, rfl⟩)
                | (rw [xpick_true]; exact ⟨rfl, rfl⟩)
                | (rw [xpick_false]; exact ⟨rfl, rfl⟩)
                | (rw [xnot, Bool.not_true]; exact ⟨rfl, rfl⟩)
                | (rw [xnot, Bool.not_false]; exact ⟨rfl, rfl⟩)
                | (rw [xnot]; exact ⟨rfl, rfl⟩)
                | (rw [xlen_string und_string]; exact ⟨rfl, rfl⟩)
                | (rw [xix_str und_string _ _ _ hlt]; exact ⟨rfl, rfl⟩)
                | (rw [xgeq, decide_eq_true (by omega)]; exact ⟨rfl, rfl⟩)
                | (rw [xgeq, decide_eq_false (by omega)]; exact ⟨rfl, rfl⟩)
                | (rw [xleq, decide_eq_true (by omega)]; exact ⟨rfl, rfl⟩)
                | (rw [xleq, decide_eq_false (by omega)]; exact ⟨rfl, rfl⟩)
                | (rw [xlss, decide_eq_true (by omega)]; exact ⟨rfl, rfl⟩)
                | (rw [xlss, decide_eq_false (by omega)]; exact ⟨rfl, rfl⟩)
                | (rw [xeql, decide_eq_true (by omega)]; exact ⟨rfl, rfl⟩)
                | (rw [xeql, decide_eq_false (by omega)]; exact ⟨rfl, rfl⟩)
                | (rw [xneq, decide_eq_true (by omega)]; exact ⟨rfl, rfl⟩)
                | (rw [xneq, decide_eq_false (by omega)]; exact ⟨rfl, rfl⟩)
                | (intro e3; first
                    | exact st_load ag_bool (h.step e3) 0 rfl rfl ⟨rfl, Ext.refl _⟩
                    | exact st_load ag_int (h.step e3) 0 rfl rfl ⟨rfl, Ext.refl _⟩
                    | exact st_load ag_string (h.step e3) 0 rfl rfl ⟨rfl, Ext.refl _⟩
                    | exact st_load ag_bool (hm e3) 0 rfl rfl ⟨rfl, rfl⟩
                    | exact st_load ag_int (hm e3) 0 rfl rfl ⟨rfl, rfl⟩
                    | exact st_loadW ag_api_Node sz_api_Node (hm e3) 1 rfl rfl ⟨rfl, rfl⟩
                    | exact st_loadW ag_api_Place sz_api_Place (hm e3) 1 rfl rfl ⟨rfl, rfl⟩
                    | exact xcall_of (en_joineryref4_parting _) (hpt _) fun _ _ hq => hq)
                | (rw [xmul, wi64 (by omega) (by omega)]; exact ⟨rfl, rfl⟩)
                | (rw [xsub, wu8 (by omega) (by omega)]; exact ⟨rfl, rfl⟩)
                | (rw [xconv_int und_uint8 und_int, wi64 (by omega) (by omega)]; exact ⟨rfl, rfl⟩)
                | (rw [xadd, wi64 (by omega) (by omega)]; exact ⟨rfl, rfl⟩)
                | (rw [xslice_mid und_string (by omega) (by omega)]; exact ⟨rfl, rfl⟩)
                | exact ⟨rfl, rfl⟩)
      intro w3 e3
      have h := h.step e3
      have e : (Rd.peers ⟨s, false⟩).2.fin = false := by rw [hfin]; rfl
      exact ⟨Ext.refl _, fun w4 e4 => ⟨acc, u, by rw [e], (fun hh => Bool.noConfusion (e.symm.trans hh)), by omega, (h.step e4).pick [1] (by decide) rfl⟩⟩
end Go.Proofs.YthkgbajldkicfaaGreatDoor

namespace Go.Proofs.YthkgbajldkicfaaGreatDoor
set_option linter.unusedVariables false
set_option linter.unusedSimpArgs false
open Go Go.Jo
set_option maxRecDepth 100000

theorem part_no {s : Str} {a i : Nat} (hi : i ≤ s.length) (hn : ∀ j (hj : j < s.length), a ≤ j → j < i → s[j] ≠ 32) : (32 : UInt8) ∉ (s.drop a).take (i - a) := fun hm => by
  obtain ⟨j, hj, e⟩ := List.mem_iff_getElem.1 hm
  rw [List.getElem_take, List.getElem_drop] at e
  rw [List.length_take, List.length_drop] at hj
  exact hn (a + j) (by omega) (by omega) (by omega) e
theorem part_len {s : Str} {a i : Nat} (h : a ≤ i) (hi : i ≤ s.length) : ((s.drop a).take (i - a)).length = i - a := by rw [List.length_take, List.length_drop]; omega
theorem part_spl {s : Str} {a i : Nat} (h : a ≤ i) (hi : i < s.length) (hn : ∀ j (hj : j < s.length), a ≤ j → j < i → s[j] ≠ 32) (h32 : s[i] = 32) : spl (s.drop a) = (s.drop a).take (i - a) :: spl (s.drop (i + 1)) := by
  have e1 : s.drop a = (s.drop a).take (i - a) ++ 32 :: s.drop (i + 1) := by
    conv => lhs; rw [← List.take_append_drop (i - a) (s.drop a)]
    rw [List.drop_drop, show a + (i - a) = i by omega, drop_at hi, h32]
  conv => lhs; rw [e1]
  rw [spl_word _ _ (part_no (by omega) hn)]
theorem part_last {s : Str} {a : Nat} (h : a ≤ s.length) (hn : ∀ j (hj : j < s.length), a ≤ j → j < s.length → s[j] ≠ 32) : spl (s.drop a) = [(s.drop a).take (s.length - a)] := by
  have e1 : (s.drop a).take (s.length - a) = s.drop a := List.take_of_length_le (by rw [List.length_drop]; omega)
  have := part_no (Nat.le_refl _) hn
  rw [e1] at this ⊢
  exact spl_last _ this
set_option maxHeartbeats 2000000 in
theorem c_fWords {w : World} {s : Str} (hs : s.length ≤ 1000000) : Ret Tryz.prog F_joineryref4_Words #[S s] w fun v w' => St [] w [.row T_string 1 v (wordsM s).length (strsL (wordsM s))] w' := by
  refine call_joineryref4_Words ?_
  have h := (St.start w).row0 T_string 1
  unfold S_joineryref4_Words
  refine ⟨fun u1 u2 u3 w' => ∃ (i a : Nat) (out : List Str), u2 = .int .i64 (a : Nat) ∧ u3 = .int .i64 (i : Nat) ∧ out.length ≤ a ∧ [] ∉ out ∧ (i ≤ s.length → a ≤ i ∧ spl s = out ++ spl (s.drop a) ∧ ∀ j (hj : j < s.length), a ≤ j → j < i → s[j] ≠ 32) ∧ (s.length < i → i = s.length + 1 ∧ spl s = out) ∧ St [] w [.row T_string 1 u1 out.length (strsL out)] w', fun _ _ u _ => lenI (s.length + 2) u, ⟨0, 0, [], rfl, rfl, Nat.le_refl _, by simp, fun _ => ⟨Nat.le_refl _, rfl, fun _ _ _ _ => by omega⟩, fun hh => by omega, h⟩, ?_⟩
  clear h
  rintro - u1 u2 u3 w1 ⟨i, a, out, rfl, rfl, hol, hne, hle, hgt, h⟩
  rw [xlen_string und_string, xleq]
  refine xc_dec ?_ ?_
  · intro hi
    have hi : i ≤ s.length := by omega
    obtain ⟨hai, hsp, hn⟩ := hle hi
    rw [xlen_string und_string, xeql]
    refine or_st h (decide (s[i]? = some 32)) ?_ ?_
    · intro hlt J hJ
      have hlt : i < s.length := by have := of_decide_eq_false hlt; omega
      rw [xix_str und_string _ _ _ hlt, xeql]
      have e : decide ((s[i].toNat : Int) = 32) = decide (s[i]? = some 32) := by
        rw [List.getElem?_eq_getElem hlt]
        refine decide_eq_decide.2 ⟨fun e => ?_, fun e => ?_⟩
        · rw [u8_eq (b := 32) e]
        · injection e with e
          rw [e]
          rfl
      rw [e]
      exact hJ _ h
    intro w2 h
    refine xc_of ?_ ?_
    · intro hc
      rw [xeql]
      refine xc_dec ?_ ?_
      · intro e0
        have e0 : i = a := by omega
        subst e0
        have hw : wordsM s = [] := by
          unfold wordsM
          refine if_pos ?_
          rw [hsp]
          refine List.mem_append_right _ ?_
          by_cases hlt : i < s.length
          · have h32 : s[i] = 32 := by
              rw [Bool.or_eq_true, decide_eq_true_eq, decide_eq_true_eq, List.getElem?_eq_getElem hlt] at hc
              rcases hc with hc | hc
              · omega
              · exact Option.some.inj hc
            rw [part_spl (Nat.le_refl _) hlt hn h32, Nat.sub_self]
            simp
          · rw [List.drop_eq_nil_iff.2 (by omega)]
            simp [spl]
        rw [hw]
        exact (h.row0 T_string 1).pick [0] (by decide) rfl
      · intro e0
        have e0 : a < i := by omega
        rw [xslice_mid und_string hai hi]
        refine st_buildS (cs := #[S ((s.drop a).take (i - a))]) (e := T_string) (fun w => by kernel_rfl) h ?_
        intro bx w3 hbx h
        refine app_sl_string h 1 rfl [S ((s.drop a).take (i - a))] rfl (news_blk (h.at 0 rfl)) (by simp [Value.oneCell']) (by omega) ?_
        intro v' w4 h
        have h := h.drop
        have hpl := part_len hai hi
        rw [xadd, wi64 (by omega) (by omega), xadd, wi64 (by omega) (by omega)]
        have e5 : strsL (out ++ [(s.drop a).take (i - a)]) = strsL out ++ [S ((s.drop a).take (i - a))] := by simp
        refine ⟨⟨i + 1, i + 1, out ++ [(s.drop a).take (i - a)], rfl, rfl, by simp; omega, ?_, fun hh => ⟨Nat.le_refl _, ?_, fun _ _ _ _ => by omega⟩, fun hh => ⟨by omega, ?_⟩, by rw [e5, List.length_append]; exact h⟩, lenI_succ (by omega)⟩
        · intro hm
          rcases List.mem_append.1 hm with hm | hm
          · exact hne hm
          · rw [List.mem_singleton] at hm
            rw [← hm] at hpl
            simp at hpl
            omega
        · have hlt : i < s.length := by omega
          have h32 : s[i] = 32 := by
            rw [Bool.or_eq_true, decide_eq_true_eq, decide_eq_true_eq, List.getElem?_eq_getElem hlt] at hc
            rcases hc with hc | hc
            · omega
            · exact Option.some.inj hc
          rw [hsp, part_spl hai hlt hn h32]
          simp
        · have hi : i = s.length := by omega
          subst hi
          rw [hsp, part_last hai hn]
    · intro hc
      rw [Bool.or_eq_false_iff, decide_eq_false_iff_not, decide_eq_false_iff_not] at hc
      have hlt : i < s.length := by omega
      rw [xadd, wi64 (by omega) (by omega)]
      refine ⟨⟨i + 1, a, out, rfl, rfl, hol, hne, fun hh => ⟨by omega, hsp, fun j hj h1 h2 => ?_⟩, fun hh => by omega, h⟩, lenI_succ (by omega)⟩
      rcases Nat.lt_succ_iff_lt_or_eq.1 h2 with h3 | rfl
      · exact hn j hj h1 h3
      · intro e
        refine hc.2 ?_
        rw [List.getElem?_eq_getElem hj, e]
  · intro hi
    obtain ⟨_, e⟩ := hgt (by omega)
    have hw : wordsM s = out := by
      unfold wordsM
      rw [e]
      exact if_neg hne
    rw [hw]
    exact h
theorem c_fKind {w : World} {s : Str} : RetV Tryz.prog F_joineryref4_kind #[S s] w (.int .i64 (kindM s : Nat)) := by
  refine call_joineryref4_kind ?_
  have h := St.start w
  unfold S_joineryref4_kind
  refine st_buildS (cs := (strsL ([] :: verbsM)).toArray) (e := T_string) (fun w => by kernel_rfl) h ?_
  intro bs w1 hbs h
  have h := h.asRow 0 (k := 8) (sz := 1) rfl (by decide) (by kernel_rfl)
  refine ⟨fun u w' => ∃ i : Nat, 1 ≤ i ∧ i ≤ 8 ∧ u = .int .i64 (i : Nat) ∧ (∀ j (hj : j < verbsM.length), j < i - 1 → verbsM[j] ≠ s) ∧ St [] w [.row T_string 1 (.slice (some ⟨bs, 0, none⟩) 8 8) 8 (strsL ([] :: verbsM))] w', fun u _ => lenI 9 u, ⟨1, Nat.le_refl _, by omega, rfl, fun _ _ _ => by omega, h⟩, ?_⟩
  clear h
  rintro - u w2 ⟨i, h1, h8, rfl, hn, h⟩
  have hrow : Row w2 1 (.slice (some ⟨bs, 0, none⟩) 8 8) ([] :: verbsM : List Str).length (strsL ([] :: verbsM)) := Row.of_own (h.atR 0 rfl)
  rw [xlen_slice und_sl_string, xlss]
  refine xc_dec ?_ ?_
  · intro hlt
    have hlt : i < 8 := by omega
    have hv : i - 1 < verbsM.length := by show i - 1 < 7; omega
    have hx : ([] :: verbsM : List Str)[i]? = some verbsM[i - 1] := by
      obtain ⟨j, rfl⟩ : ∃ j, i = j + 1 := ⟨i - 1, by omega⟩
      rw [List.getElem?_cons_succ]
      exact List.getElem?_eq_getElem hv
    refine str_at hrow (show i < 8 from hlt) hx ?_
    intro b0 o0 hc0
    refine ld_of ag_string hc0 ?_
    rw [xseql]
    refine xc_dec ?_ ?_
    · intro e
      have hf : verbsM.findIdx? (· = s) = some (i - 1) := by
        refine List.findIdx?_eq_some_iff_getElem.2 ⟨hv, by simpa using e, fun j hj => by simpa using hn j (by omega) hj⟩
      have hk : kindM s = i := by
        unfold kindM
        rw [hf]
        show i - 1 + 1 = i
        omega
      rw [hk]
      exact ⟨rfl, h.ext⟩
    · intro e
      rw [xadd, wi64 (by omega) (by omega)]
      refine ⟨⟨i + 1, by omega, by omega, rfl, fun j hj h2 => ?_, h⟩, lenI_succ (by omega)⟩
      by_cases ej : j = i - 1
      · subst ej; exact e
      · exact hn j hj (by omega)
  · intro hge
    have hi : i = 8 := by omega
    subst hi
    have hf : verbsM.findIdx? (· = s) = none := by
      rw [List.findIdx?_eq_none_iff]
      intro x hx
      obtain ⟨j, hj, rfl⟩ := List.mem_iff_getElem.1 hx
      have : j < 7 := hj
      simpa using hn j hj (by omega)
    have hk : kindM s = 0 := by
      unfold kindM
      rw [hf]
    rw [hk]
    exact ⟨rfl, h.ext⟩
end Go.Proofs.YthkgbajldkicfaaGreatDoor

namespace Go.Proofs.YthkgbajldkicfaaGreatDoor
set_option linter.unusedVariables false
set_option linter.unusedSimpArgs false
open Go Go.Jo
set_option maxRecDepth 100000

abbrev rdRes (v : Value) (l : List Str) (w w' : World) : Prop := ∃ (r : RecM) (pv lv mv tv : Value), v = .tuple #[recV r pv lv mv tv, .bool (readM l).2] ∧ ((readM l).2 = true → r = (readM l).1) ∧ St [] w (recR r pv lv mv tv) w'
abbrev rdL (q4 q2 : Nat) (r : RecM) (pv lv mv tv : Value) : List Res := .blk q4 (recO r pv lv mv tv) :: .blk q2 (recO zRec nilV nilV nilV nilV) :: recR r pv lv mv tv
/-- What was read, handed back. -/
theorem rd_ret {w w' : World} {l : List Str} {q4 q2 : Nat} {r : RecM} {pv lv mv tv : Value} {f : Bool} (h : St [] w (rdL q4 q2 r pv lv mv tv) w') (hf : f = (readM l).2) (hr : (readM l).2 = true → r = (readM l).1) :
    XStore Tryz.prog T_api_Record (pt q2) (recV r pv lv mv tv) w' fun w5 => XLoad Tryz.prog T_api_Record (pt q2) w5 fun r1 w6 => w6 = w5 ∧ rdRes (.tuple #[r1, .bool f]) l w w5 := by
  have hfl := st_flats (r := r) (pv := pv) (lv := lv) (mv := mv) (tv := tv) h (by simp)
  refine st_store sz_api_Record h 1 rfl rfl rfl (hfl.all r) ?_
  intro w5 h
  try simp only [go_sem] at h
  refine st_loadW ag_api_Record sz_api_Record h 1 rfl rfl ⟨rfl, r, pv, lv, mv, tv, ?_, hr, h.pick [2, 3, 4, 5] (by decide) rfl⟩
  rw [hf]
theorem readM_k0 {a b : Str} {rest : List Str} (hk : kindM a = 0) : readM (a :: b :: rest) = (zRec, false) := by simp [readM, hk]
theorem tailM_not3 {k : Nat} {r : RecM} {is : Bool} {rest : List Str} (hk : k ≠ 3) : tailM k r is rest = (r, is && rest.isEmpty) := by simp [tailM, hk]
theorem len2 (rest : List Str) : decide (((rest.length + 1 + 1 : Nat) : Int) = 2) = rest.isEmpty := by
  cases rest with
  | nil => rfl
  | cons a t =>
    rw [decide_eq_false (by simp; omega)]
    rfl
set_option maxHeartbeats 4000000 in
theorem c_fRead {w : World} {p0 : Value} {l : List Str} (hp : Row w 1 p0 l.length (strsL l)) (hl : l.length ≤ 1000000) (hs : ∀ x ∈ l, x.length ≤ 1000000) : Ret Tryz.prog F_joineryref4_read #[p0] w fun v w' => rdRes v l w w' := by
  refine call_joineryref4_read ?_
  have h := ((((St.start w).row0 T_string 1).row0 T_string 1).row0 T_api_Place 5).row0 T_int 1
  unfold S_joineryref4_read
  refine st_alloc zv_api_Record h ?_
  intro q2 w1 _ h
  refine hp.len und_sl_string ?_
  rw [xlss]
  refine xc_dec ?_ ?_
  · intro hlt
    have hr2 : (readM l).2 = false := by
      match l, hlt with
      | [], _ => rfl
      | [a], _ => rfl
      | a :: b :: t, hlt => simp at hlt; omega
    rw [xbuild (v := recV zRec nilV nilV nilV nilV) (fun w => by kernel_rfl)]
    refine st_store sz_api_Record h 0 rfl rfl rfl rfl ?_
    intro w2 h
    try simp only [go_sem] at h
    refine st_loadW ag_api_Record sz_api_Record h 0 rfl rfl ⟨rfl, zRec, nilV, nilV, nilV, nilV, ?_, (fun hh => Bool.noConfusion (hr2.symm.trans hh)), h.pick [1, 2, 3, 4] (by decide) rfl⟩
    rw [hr2]
  intro hge
  obtain ⟨a, b, rest, rfl⟩ : ∃ a b rest, l = a :: b :: rest := by
    match l, hge with
    | [], hge => simp at hge
    | [a], hge => simp at hge
    | a :: b :: t, _ => exact ⟨a, b, t, rfl⟩
  have hsa := hs a (by simp)
  have hsb := hs b (by simp)
  refine str_at (hp.mono h.ext) (i := 0) (by simp) rfl ?_
  intro b0 o0 hc0
  refine ld_of ag_string hc0 ?_
  refine st_callV en_joineryref4_kind c_fKind h ?_
  intro w2 h
  have hk7 := kindM_le a
  generalize hk : kindM a = k at *
  rw [xbuild (v := recV { zRec with kind := (k : Int) } nilV nilV nilV nilV) (fun w => by kernel_rfl)]
  refine st_alloc zv_api_Record h ?_
  intro q4 w3 _ h
  refine st_store sz_api_Record h 0 rfl rfl rfl rfl ?_
  intro w4 h
  try simp only [go_sem] at h
  have h : St [] w (rdL q4 q2 { zRec with kind := (k : Int) } nilV nilV nilV nilV) w4 := h
  rw [fld_api_Record_Kind]
  refine st_load ag_int (v := .int .i64 (k : Int)) h 0 rfl rfl ?_
  rw [xeql]
  refine xc_dec ?_ ?_
  · intro k0
    have k0 : k = 0 := by omega
    have e := readM_k0 (b := b) (rest := rest) (hk.trans k0)
    refine st_loadW ag_api_Record sz_api_Record h 0 rfl rfl ?_
    refine rd_ret h (by rw [e]) (fun hh => by rw [e] at hh; cases hh)
  intro k0
  have k0 : k ≠ 0 := by omega
  have hk0 : kindM a ≠ 0 := by rw [hk]; exact k0
  rw [xeql]
  refine xc_dec ?_ ?_
  · intro k1
    have k1 : k = 1 := by omega
    subst k1
    have e := readM_bare (b := b) (rest := rest) hk0 (by rw [hk]; rfl)
    rw [hk, tailM_not3 (by omega)] at e
    refine str_at (hp.mono h.ext) (i := 1) (by simp) rfl ?_
    intro b0 o0 hc0
    refine ld_of ag_string hc0 ?_
    refine st_callE en_joineryref4_ReadNode (c_fReadNode hsb) h ?_
    rintro v w5 ⟨n, mv, tv, rfl, hn, kk⟩ mg
    have h := mg _ kk
    rw [xe20, xe21, fld_api_Record_Node]
    have f1 := flat_own (h.atR 0 rfl)
    have f2 := flat_own (h.atR 1 rfl)
    have hflat : (nodeC n.name n.cap mv tv n.closed).all flat = true := by
      simp only [nodeC, List.all_cons, List.all_nil, f1, f2]
      rfl
    refine st_store sz_api_Node h 2 rfl rfl rfl hflat ?_
    intro w6 h
    try simp only [go_sem] at h
    have h : St [] w (rdL q4 q2 { zRec with kind := 1, node := n } nilV nilV mv tv) w6 := h.pick [2, 3, 4, 5, 0, 1] (by decide) rfl
    refine st_loadW ag_api_Record sz_api_Record h 0 rfl rfl ?_
    refine and_st h rest.isEmpty ?_ ?_
    · intro _ J hJ
      refine hp.len und_sl_string ?_
      rw [xeql, List.length_cons, List.length_cons, len2]
      exact hJ _ h
    intro w7 h
    have e2 : (readM (a :: b :: rest)).2 = ((Rd.node ⟨b, false⟩).2.fin && rest.isEmpty) := by rw [e]; rfl
    refine rd_ret h e2.symm fun hh => ?_
    rw [e2, Bool.and_eq_true] at hh
    rw [e, hn hh.1]
    rfl
  intro k1
  rw [xeql]
  refine xc_dec ?_ ?_
  · intro k2
    have k2 : k = 2 := by omega
    subst k2
    have e := readM_bare (b := b) (rest := rest) hk0 (by rw [hk]; rfl)
    rw [hk, tailM_not3 (by omega)] at e
    refine str_at (hp.mono h.ext) (i := 1) (by simp) rfl ?_
    intro b0 o0 hc0
    refine ld_of ag_string hc0 ?_
    refine st_callE en_joineryref4_ReadName (c_fReadName hsb) h ?_
    rintro v w5 ⟨t, rfl, hn, e5⟩ _
    have h := h.step e5
    rw [xe20, xe21, fld_api_Record_Node, fld_api_Node_Name]
    refine st_storeC sz_string h 0 rfl rfl rfl rfl ?_
    intro w6 h
    try simp only [go_sem] at h
    have h : St [] w (rdL q4 q2 { zRec with kind := 2, node := { zNode with name := t } } nilV nilV nilV nilV) w6 := h
    refine st_loadW ag_api_Record sz_api_Record h 0 rfl rfl ?_
    refine and_st h rest.isEmpty ?_ ?_
    · intro _ J hJ
      refine hp.len und_sl_string ?_
      rw [xeql, List.length_cons, List.length_cons, len2]
      exact hJ _ h
    intro w7 h
    have e2 : (readM (a :: b :: rest)).2 = ((Rd.name ⟨b, false⟩).2.fin && rest.isEmpty) := by rw [e]; rfl
    refine rd_ret h e2.symm fun hh => ?_
    rw [e2, Bool.and_eq_true] at hh
    rw [e, hn hh.1]
    rfl
  intro k2
  have hhead : headM k b = ({ zRec with kind := (k : Int), gang := (Rd.number ⟨b, false⟩).1 }, (Rd.number ⟨b, false⟩).2.fin) := by
    unfold headM
    rw [if_neg (by omega), if_neg (by omega)]
  refine str_at (hp.mono h.ext) (i := 1) (by simp) rfl ?_
  intro b0 o0 hc0
  refine ld_of ag_string hc0 ?_
  refine st_callE en_joineryref4_ReadNumber (c_fReadNumber hsb) h ?_
  rintro v w5 ⟨g, rfl, hn, e5⟩ _
  have h := h.step e5
  rw [xe20, xe21, fld_api_Record_Gang]
  refine st_storeC sz_int h 0 rfl rfl rfl rfl ?_
  intro w6 h
  try simp only [go_sem] at h
  have h : St [] w (rdL q4 q2 { zRec with kind := (k : Int), gang := (g : Int) } nilV nilV nilV nilV) w6 := h
  rw [fld_api_Record_Kind]
  refine st_load ag_int (v := .int .i64 (k : Int)) h 0 rfl rfl ?_
  rw [xneq]
  refine and_st h (decide ((k : Int) ≠ 7)) ?_ ?_
  · intro _ J hJ
    rw [fld_api_Record_Kind]
    refine st_load ag_int (v := .int .i64 (k : Int)) h 0 rfl rfl ?_
    rw [xneq]
    exact hJ _ h
  intro w7 h
  generalize hfn : (Rd.number ⟨b, false⟩).2.fin = fn at *
  refine xc_of ?_ ?_
  · intro hc
    rw [Bool.and_eq_true, decide_eq_true_eq, decide_eq_true_eq] at hc
    have hpe : peeredM (kindM a) = false := by
      rw [hk]
      unfold peeredM
      rw [decide_eq_false (by omega), decide_eq_false (by omega)]
      rfl
    have e := readM_bare (b := b) (rest := rest) hk0 hpe
    rw [hk, tailM_not3 (by omega), hhead] at e
    refine st_loadW ag_api_Record sz_api_Record h 0 rfl rfl ?_
    refine and_st h rest.isEmpty ?_ ?_
    · intro _ J hJ
      refine hp.len und_sl_string ?_
      rw [xeql, List.length_cons, List.length_cons, len2]
      exact hJ _ h
    intro w8 h
    have e2 : (readM (a :: b :: rest)).2 = (fn && rest.isEmpty) := by rw [e]
    refine rd_ret h e2.symm fun hh => ?_
    rw [e2, Bool.and_eq_true] at hh
    rw [e, hn hh.1]
  intro hc
  rw [Bool.and_eq_false_iff, decide_eq_false_iff_not, decide_eq_false_iff_not] at hc
  have hpe : peeredM (kindM a) = true := by
    rw [hk]
    unfold peeredM
    rw [Bool.or_eq_true, decide_eq_true_eq, decide_eq_true_eq]
    omega
  refine hp.len und_sl_string ?_
  rw [xlss]
  refine xc_dec ?_ ?_
  · intro h3
    obtain rfl : rest = [] := by
      cases rest with
      | nil => rfl
      | cons x t => simp at h3; omega
    have e := readM_nil (b := b) hk0 hpe
    refine st_loadW ag_api_Record sz_api_Record h 0 rfl rfl ?_
    refine rd_ret h (by rw [e]) (fun hh => by rw [e] at hh; cases hh)
  intro h3
  obtain ⟨c, rest, rfl⟩ : ∃ c t, rest = c :: t := by
    cases rest with
    | nil => simp at h3
    | cons x t => exact ⟨x, t, rfl⟩
  have e := readM_peer (b := b) (p := c) (rest := rest) hk0 hpe
  rw [hk, hhead] at e
  refine str_at (hp.mono h.ext) (i := 2) (by simp) rfl ?_
  intro b0 o0 hc0
  refine ld_of ag_string hc0 ?_
  refine st_callE en_joineryref4_ints (c_fInts (hs c (by simp))) h ?_
  rintro v w8 ⟨ps, pv, rfl, hps, hpl, kk⟩ mg
  have h := mg _ kk
  rw [xe20, xe21, fld_api_Record_Peers]
  have hpv := h.atR 0 rfl
  refine st_storeC sz_sl_int h 1 rfl (cells_own hpv) rfl (flat_own hpv) ?_
  intro w9 h
  try simp only [go_sem] at h
  generalize hfp : (Rd.peers ⟨c, false⟩).2.fin = fp at *
  have h : St [] w (rdL q4 q2 { zRec with kind := (k : Int), gang := (g : Int), peers := ps } pv nilV nilV nilV) w9 := h.pick [1, 2, 0, 4, 5, 6] (by decide) rfl
  refine ⟨fun u v w' => ∃ (i : Nat) (lv : Value) (pl : List PlaceM), i ≤ rest.length ∧ pl.length = i ∧ u = .bool (fp && finsM (rest.take i)) ∧ v = .int .i64 ((3 + i : Nat) : Int) ∧ (finsM (rest.take i) = true → pl = placesM (rest.take i)) ∧ St [] w (rdL q4 q2 { zRec with kind := (k : Int), gang := (g : Int), peers := ps, places := pl } pv lv nilV nilV) w', fun _ v _ => lenI (rest.length + 4) v, ⟨0, nilV, [], Nat.zero_le _, rfl, by simp [finsM], rfl, fun _ => rfl, h⟩, ?_⟩
  clear h
  rintro - u v w10 ⟨i, lv, pl, hi, hpli, rfl, rfl, hpl2, h⟩
  refine hp.len und_sl_string ?_
  rw [xlss]
  have hrl : rest.length ≤ 1000000 := by simp at hl; omega
  refine xc_dec ?_ ?_
  · intro hlt
    have hlt : i < rest.length := by simp at hlt; omega
    obtain ⟨x, hx⟩ : ∃ x, rest[i]? = some x := ⟨_, List.getElem?_eq_getElem hlt⟩
    have hxe : rest[i] = x := (List.getElem?_eq_some_iff.1 hx).2
    have hx3 : (a :: b :: c :: rest)[3 + i]? = some x := by
      rw [Nat.add_comm]
      exact hx
    refine str_at (hp.mono h.ext) (i := 3 + i) (by simp; omega) hx3 ?_
    intro b0 o0 hc0
    refine ld_of ag_string hc0 ?_
    refine st_callE en_joineryref4_place (c_fPlace (hs x (by simp [List.mem_of_getElem? hx]))) h ?_
    rintro v w11 ⟨n, rfl, hn2, e11⟩ _
    have h := h.step e11
    rw [xe20, xe21]
    refine st_alloc zv_api_Place h ?_
    intro q8 w12 _ h
    refine st_store sz_api_Place h 0 rfl rfl rfl rfl ?_
    intro w13 h
    try simp only [go_sem] at h
    have h : St [] w (.blk q8 (.cells (placeC n).toArray T_api_Place (0, 0)) :: rdL q4 q2 { zRec with kind := (k : Int), gang := (g : Int), peers := ps, places := pl } pv lv nilV nilV) w13 := h
    generalize hfx : (Rd.place ⟨x, false⟩).2.fin = fx at *
    refine and_st h fx ?_ ?_
    · intro _ J hJ
      exact hJ _ h
    intro w14 h
    rw [fld_api_Record_Places]
    refine st_load ag_sl_api_Place h 1 rfl rfl ?_
    refine st_loadW ag_api_Place sz_api_Place h 0 rfl rfl ?_
    refine st_buildS (cs := (placeC n).toArray) (e := T_api_Place) (fun w => by kernel_rfl) h ?_
    intro bx w15 hbx h
    refine app_sl_api_Place h 5 rfl (placeC n) rfl (news_blk (h.at 0 rfl)) (by simp [Value.oneCell']) (by simp; omega) ?_
    intro lv2 w16 h
    try simp only [go_sem] at h
    rw [fld_api_Record_Places]
    have hlv2 := h.atR 5 rfl
    refine st_storeC sz_sl_api_Place h 2 rfl (cells_own hlv2) rfl (flat_own hlv2) ?_
    intro w17 h
    try simp only [go_sem] at h
    rw [xadd, wi64 (by omega) (by omega)]
    have hft : finsM (rest.take (i + 1)) = (finsM (rest.take i) && fx) := by
      rw [List.take_succ_eq_append_getElem hlt, finsM, List.all_append, hxe]
      simp [finsM, hfx]
    refine ⟨⟨i + 1, lv2, pl ++ [n], hlt, by simp; omega, ?_, by congr 1, fun hh => ?_, ?_⟩, ?_⟩
    · rw [hft, Bool.and_assoc]
    · rw [hft, Bool.and_eq_true] at hh
      rw [hpl2 hh.1, hn2 hh.2, List.take_succ_eq_append_getElem hlt, placesM, placesM, List.map_append, hxe]
      rfl
    · have h := h.pick [2, 3, 4, 5, 6, 7] (by decide) rfl
      have ep : placesL (pl ++ [n]) = placesL pl ++ placeC n := by simp [placesL]
      unfold rdL recR
      rw [ep, List.length_append]
      exact h
    · show lenI _ _ < lenI _ _
      have e1 : ((3 + i : Nat) : Int) + 1 = ((3 + i + 1 : Nat) : Int) := by omega
      rw [e1]
      exact lenI_succ (by omega)
  · intro hge
    have hi : i = rest.length := by simp at hge; omega
    subst hi
    rw [List.take_length] at hpl2 ⊢
    refine st_loadW ag_api_Record sz_api_Record h 0 rfl rfl ?_
    refine and_st h (fp && finsM rest) ?_ ?_
    · intro _ J hJ
      exact hJ _ h
    intro w11 h
    have hk37 : k = 3 ∨ k = 7 := by omega
    have e2 : (readM (a :: b :: c :: rest)).2 = (fn && (fp && finsM rest) && (decide (k = 3) || rest.isEmpty)) := by
      rw [e]
      unfold tailM
      rcases hk37 with rfl | rfl
      · simp only [if_neg (show ¬ (3 ≠ 3) by omega)]
        cases fn <;> cases fp <;> cases finsM rest <;> rfl
      · simp only [if_pos (show 7 ≠ 3 by omega)]
        cases rest with
        | nil => cases fn <;> cases fp <;> rfl
        | cons x t => cases fn <;> cases fp <;> cases finsM (x :: t) <;> rfl
    have hrec : (readM (a :: b :: c :: rest)).2 = true → ({ zRec with kind := (k : Int), gang := (g : Int), peers := ps, places := pl } : RecM) = (readM (a :: b :: c :: rest)).1 := fun hh => by
      rw [e2, Bool.and_eq_true, Bool.and_eq_true, Bool.and_eq_true] at hh
      obtain ⟨⟨h1, h2, h3⟩, h4⟩ := hh
      rw [e, hn h1, hps h2, hpl2 h3]
      unfold tailM
      rcases hk37 with rfl | rfl
      · simp only [if_neg (show ¬ (3 ≠ 3) by omega)]
      · simp only [if_pos (show 7 ≠ 3 by omega)]
        have h4 : rest = [] := by simpa using h4
        subst h4
        rfl
    cases hQ : fn && (fp && finsM rest)
    · rw [hQ, Bool.false_and] at e2
      refine ⟨fun u w' => u = undef ∧ St [] w (rdL q4 q2 { zRec with kind := (k : Int), gang := (g : Int), peers := ps, places := pl } pv lv nilV nilV) w', ?_, by rw [xg_ft]; exact ⟨rfl, h⟩⟩
      rintro - u w12 ⟨rfl, h⟩
      refine ⟨fun u w' => St [] w (rdL q4 q2 { zRec with kind := (k : Int), gang := (g : Int), peers := ps, places := pl } pv lv nilV nilV) w', ?_, ⟨nofun, fun _ => h⟩⟩
      rintro - u w13 h
      refine ⟨fun u w' => St [] w (rdL q4 q2 { zRec with kind := (k : Int), gang := (g : Int), peers := ps, places := pl } pv lv nilV nilV) w', ?_, by rw [xg_ft]; exact h⟩
      rintro - u w14 h
      rw [xpick_false]
      exact rd_ret h e2.symm hrec
    · rw [hQ, Bool.true_and] at e2
      refine ⟨fun u w' => u = .bool (decide (k = 3)) ∧ St [] w (rdL q4 q2 { zRec with kind := (k : Int), gang := (g : Int), peers := ps, places := pl } pv lv nilV nilV) w', ?_, ?_⟩
      · rintro - u w12 ⟨rfl, h⟩
        refine ⟨fun u w' => (k ≠ 3 → u = .bool rest.isEmpty) ∧ St [] w (rdL q4 q2 { zRec with kind := (k : Int), gang := (g : Int), peers := ps, places := pl } pv lv nilV nilV) w', ?_, ?_⟩
        · rintro - u w13 ⟨hu, h⟩
          refine ⟨fun u w' => u = .bool (decide (k = 3) || rest.isEmpty) ∧ St [] w (rdL q4 q2 { zRec with kind := (k : Int), gang := (g : Int), peers := ps, places := pl } pv lv nilV nilV) w', ?_, ?_⟩
          · rintro - u w14 ⟨rfl, h⟩
            rw [xpick_true]
            exact rd_ret h e2.symm hrec
          · rw [xg_same]
            rcases hk37 with rfl | rfl
            · rw [show decide (3 = 3) = true from rfl, xpick_true]
              exact ⟨rfl, h⟩
            · rw [show decide (7 = 3) = false from rfl, xpick_false, hu (by omega)]
              exact ⟨rfl, h⟩
        · rcases hk37 with rfl | rfl
          · rw [show decide (3 = 3) = true from rfl, xg_tf]
            exact ⟨fun hh => absurd rfl hh, h⟩
          · rw [show decide (7 = 3) = false from rfl, xg_same]
            refine hp.len und_sl_string ?_
            rw [xeql]
            refine ⟨fun _ => ?_, h⟩
            have : decide (((a :: b :: c :: rest).length : Int) = 3) = rest.isEmpty := by
              cases rest with
              | nil => rfl
              | cons x t =>
                rw [decide_eq_false (by simp; omega)]
                rfl
            rw [this]
      · rw [xg_same, fld_api_Record_Kind]
        refine st_load ag_int (v := .int .i64 (k : Int)) h 0 rfl rfl ?_
        rw [xeql]
        have : decide ((k : Int) = 3) = decide (k = 3) := decide_eq_decide.2 (by omega)
        rw [this]
        exact ⟨rfl, h⟩
end Go.Proofs.YthkgbajldkicfaaGreatDoor

namespace Go.Proofs.YthkgbajldkicfaaGreatDoor
set_option linter.unusedVariables false
set_option linter.unusedSimpArgs false
open Go Go.Jo
set_option maxRecDepth 100000

theorem xg_undef (b : Bool) (p q : Prop) : XG undef b p q = q := propext ⟨fun h => h.no nofun, fun h => ⟨nofun, fun _ => h⟩⟩
theorem runes_pos (s : Str) : (0 < (runesM s).length) ↔ s ≠ [] := by
  cases s with
  | nil => simp [runesM, runesFrom]
  | cons a t =>
    unfold runesM
    rw [List.length_cons, runesFrom_step _ _ _ (by rw [size_list]; simp)]
    simp
set_option maxHeartbeats 4000000 in
theorem c_fMarkName (s : Str) (w : World) (hs : s.length ≤ 1000000) : RetV Tryz.prog F_joineryref2_Name #[S s] w (.bool (nameM s)) := by
  refine call_joineryref2_Name ?_
  have h := St.start w
  unfold S_joineryref2_Name
  refine st_range und_string h ?_
  intro q w1 hq h
  have hlen : (runesM s).length ≤ s.length := runesFrom_len _ _ _
  refine ⟨fun u w2 => ∃ f pos acc, u = .int .i64 (acc : Nat) ∧ acc + (runesFrom ⟨s.toArray⟩ f pos).length = (runesM s).length ∧ (runesM s).all (fun p => letterC p.2 || digitC p.2 && decide (p.1 ≠ 0)) = (runesFrom ⟨s.toArray⟩ f pos).all (fun p => letterC p.2 || digitC p.2 && decide (p.1 ≠ 0)) ∧ s.length ≤ pos + f ∧ St [] w [.blk q (.stringIter ⟨s.toArray⟩ pos)] w2, fun _ w2 => s.length - posOf q w2, ⟨s.length, 0, 0, rfl, by rw [Nat.zero_add]; rfl, rfl, by omega, h⟩, ?_⟩
  clear h
  rintro - u w2 ⟨f, pos, acc, rfl, hacc, hall, hf, h⟩
  have hpos := h.pos 0 rfl
  refine st_next h 0 rfl ?_ ?_
  · intro hlt w3 h3
    have hpos3 := h3.pos 0 rfl
    have hlt' : pos < s.length := by rw [size_list] at hlt; exact hlt
    have hw := decode_wide s pos hlt'
    cases f with
    | zero => omega
    | succ f =>
      rw [runesFrom_step _ _ _ hlt, List.length_cons] at hacc
      rw [runesFrom_step _ _ _ hlt, List.all_cons] at hall
      simp only at hall
      rw [xe30, xc_true, xe31, xe32]
      generalize hc : (Utf8.decode ⟨s.toArray⟩ pos).1 = c at *
      have good : (letterC c || digitC c && decide (pos ≠ 0)) = true → (∃ f pos2 acc2, (.int .i64 ((acc : Int) + 1) : Value) = .int .i64 (acc2 : Nat) ∧ acc2 + (runesFrom ⟨s.toArray⟩ f pos2).length = (runesM s).length ∧ (runesM s).all (fun p => letterC p.2 || digitC p.2 && decide (p.1 ≠ 0)) = (runesFrom ⟨s.toArray⟩ f pos2).all (fun p => letterC p.2 || digitC p.2 && decide (p.1 ≠ 0)) ∧ s.length ≤ pos2 + f ∧ St [] w [.blk q (.stringIter ⟨s.toArray⟩ pos2)] w3) ∧ s.length - posOf q w3 < s.length - posOf q w2 := fun hg => by
        rw [hg, Bool.true_and] at hall
        exact ⟨⟨f, _, acc + 1, by congr 1, by omega, hall, by omega, h3⟩, by rw [hpos, hpos3]; omega⟩
      have bad : (letterC c || digitC c && decide (pos ≠ 0)) = false → nameM s = false := fun hb => by
        rw [hb, Bool.false_and] at hall
        rw [nameM, hall]
        rfl
      by_cases hd : 48 ≤ c ∧ c ≤ 57
      · have hD : digitC c = true := decide_eq_true hd
        have hL : letterC c = false := decide_eq_false (by omega)
        by_cases h0 : pos = 0
        · repeat first
            | refine Exists.intro _ (And.intro (fun _ _ _ hh => hh) ?_)
            | rw [xnot, Bool.not_true]
            | rw [xnot, Bool.not_false]
            | rw [xgeq, decide_eq_true (by omega)]
            | rw [xgeq, decide_eq_false (by omega)]
            | rw [xleq, decide_eq_true (by omega)]
            | rw [xleq, decide_eq_false (by omega)]
            | rw [xlss, decide_eq_true (by omega)]
            | rw [xlss, decide_eq_false (by omega)]
            | rw [xgtr, decide_eq_true (by omega)]
            | rw [xgtr, decide_eq_false (by omega)]
            | rw [xeql, decide_eq_true (by omega)]
            | rw [xeql, decide_eq_false (by omega)]
            | rw [xpick_true]
            | rw [xpick_false]
            | rw [xg_same]
            | rw [xg_tf]
            | rw [xg_ft]
            | rw [xg_undef]
            | rw [xc_true]
            | rw [xc_false]
          rw [bad (by rw [hL, hD, h0]; rfl)]
          exact ⟨rfl, h3.ext⟩
        · repeat first
            | refine Exists.intro _ (And.intro (fun _ _ _ hh => hh) ?_)
            | rw [xnot, Bool.not_true]
            | rw [xnot, Bool.not_false]
            | rw [xgeq, decide_eq_true (by omega)]
            | rw [xgeq, decide_eq_false (by omega)]
            | rw [xleq, decide_eq_true (by omega)]
            | rw [xleq, decide_eq_false (by omega)]
            | rw [xlss, decide_eq_true (by omega)]
            | rw [xlss, decide_eq_false (by omega)]
            | rw [xgtr, decide_eq_true (by omega)]
            | rw [xgtr, decide_eq_false (by omega)]
            | rw [xeql, decide_eq_true (by omega)]
            | rw [xeql, decide_eq_false (by omega)]
            | rw [xpick_true]
            | rw [xpick_false]
            | rw [xg_same]
            | rw [xg_tf]
            | rw [xg_ft]
            | rw [xg_undef]
            | rw [xc_true]
            | rw [xc_false]
          rw [xadd, wi64 (by omega) (by omega)]
          exact good (by rw [hL, hD]; simpa using h0)
      · have hD : digitC c = false := decide_eq_false hd
        by_cases hl : 97 ≤ c ∧ c ≤ 122
        · have hL : letterC c = true := decide_eq_true (.inl hl)
          repeat first
            | refine Exists.intro _ (And.intro (fun _ _ _ hh => hh) ?_)
            | rw [xnot, Bool.not_true]
            | rw [xnot, Bool.not_false]
            | rw [xgeq, decide_eq_true (by omega)]
            | rw [xgeq, decide_eq_false (by omega)]
            | rw [xleq, decide_eq_true (by omega)]
            | rw [xleq, decide_eq_false (by omega)]
            | rw [xlss, decide_eq_true (by omega)]
            | rw [xlss, decide_eq_false (by omega)]
            | rw [xgtr, decide_eq_true (by omega)]
            | rw [xgtr, decide_eq_false (by omega)]
            | rw [xeql, decide_eq_true (by omega)]
            | rw [xeql, decide_eq_false (by omega)]
            | rw [xpick_true]
            | rw [xpick_false]
            | rw [xg_same]
            | rw [xg_tf]
            | rw [xg_ft]
            | rw [xg_undef]
            | rw [xc_true]
            | rw [xc_false]
          rw [xadd, wi64 (by omega) (by omega)]
          exact good (by rw [hL]; rfl)
        · by_cases hg : 945 ≤ c ∧ c ≤ 969
          · have hL : letterC c = true := decide_eq_true (.inr hg)
            repeat first
              | refine Exists.intro _ (And.intro (fun _ _ _ hh => hh) ?_)
              | rw [xnot, Bool.not_true]
              | rw [xnot, Bool.not_false]
              | rw [xgeq, decide_eq_true (by omega)]
              | rw [xgeq, decide_eq_false (by omega)]
              | rw [xleq, decide_eq_true (by omega)]
              | rw [xleq, decide_eq_false (by omega)]
              | rw [xlss, decide_eq_true (by omega)]
              | rw [xlss, decide_eq_false (by omega)]
              | rw [xgtr, decide_eq_true (by omega)]
              | rw [xgtr, decide_eq_false (by omega)]
              | rw [xeql, decide_eq_true (by omega)]
              | rw [xeql, decide_eq_false (by omega)]
              | rw [xpick_true]
              | rw [xpick_false]
              | rw [xg_same]
              | rw [xg_tf]
              | rw [xg_ft]
              | rw [xg_undef]
              | rw [xc_true]
              | rw [xc_false]
            rw [xadd, wi64 (by omega) (by omega)]
            exact good (by rw [hL]; rfl)
          · have hL : letterC c = false := decide_eq_false (by omega)
            rw [bad (by rw [hL, hD]; rfl)]
            by_cases h1 : c < 48
            · repeat first
                | refine Exists.intro _ (And.intro (fun _ _ _ hh => hh) ?_)
                | rw [xnot, Bool.not_true]
                | rw [xnot, Bool.not_false]
                | rw [xgeq, decide_eq_true (by omega)]
                | rw [xgeq, decide_eq_false (by omega)]
                | rw [xleq, decide_eq_true (by omega)]
                | rw [xleq, decide_eq_false (by omega)]
                | rw [xlss, decide_eq_true (by omega)]
                | rw [xlss, decide_eq_false (by omega)]
                | rw [xgtr, decide_eq_true (by omega)]
                | rw [xgtr, decide_eq_false (by omega)]
                | rw [xeql, decide_eq_true (by omega)]
                | rw [xeql, decide_eq_false (by omega)]
                | rw [xpick_true]
                | rw [xpick_false]
                | rw [xg_same]
                | rw [xg_tf]
                | rw [xg_ft]
                | rw [xg_undef]
                | rw [xc_true]
                | rw [xc_false]
              exact ⟨rfl, h3.ext⟩
            · by_cases h2 : c < 97
              · repeat first
                  | refine Exists.intro _ (And.intro (fun _ _ _ hh => hh) ?_)
                  | rw [xnot, Bool.not_true]
                  | rw [xnot, Bool.not_false]
                  | rw [xgeq, decide_eq_true (by omega)]
                  | rw [xgeq, decide_eq_false (by omega)]
                  | rw [xleq, decide_eq_true (by omega)]
                  | rw [xleq, decide_eq_false (by omega)]
                  | rw [xlss, decide_eq_true (by omega)]
                  | rw [xlss, decide_eq_false (by omega)]
                  | rw [xgtr, decide_eq_true (by omega)]
                  | rw [xgtr, decide_eq_false (by omega)]
                  | rw [xeql, decide_eq_true (by omega)]
                  | rw [xeql, decide_eq_false (by omega)]
                  | rw [xpick_true]
                  | rw [xpick_false]
                  | rw [xg_same]
                  | rw [xg_tf]
                  | rw [xg_ft]
                  | rw [xg_undef]
                  | rw [xc_true]
                  | rw [xc_false]
                exact ⟨rfl, h3.ext⟩
              · by_cases h4 : c < 945
                · repeat first
                    | refine Exists.intro _ (And.intro (fun _ _ _ hh => hh) ?_)
                    | rw [xnot, Bool.not_true]
                    | rw [xnot, Bool.not_false]
                    | rw [xgeq, decide_eq_true (by omega)]
                    | rw [xgeq, decide_eq_false (by omega)]
                    | rw [xleq, decide_eq_true (by omega)]
                    | rw [xleq, decide_eq_false (by omega)]
                    | rw [xlss, decide_eq_true (by omega)]
                    | rw [xlss, decide_eq_false (by omega)]
                    | rw [xgtr, decide_eq_true (by omega)]
                    | rw [xgtr, decide_eq_false (by omega)]
                    | rw [xeql, decide_eq_true (by omega)]
                    | rw [xeql, decide_eq_false (by omega)]
                    | rw [xpick_true]
                    | rw [xpick_false]
                    | rw [xg_same]
                    | rw [xg_tf]
                    | rw [xg_ft]
                    | rw [xg_undef]
                    | rw [xc_true]
                    | rw [xc_false]
                  exact ⟨rfl, h3.ext⟩
                · repeat first
                    | refine Exists.intro _ (And.intro (fun _ _ _ hh => hh) ?_)
                    | rw [xnot, Bool.not_true]
                    | rw [xnot, Bool.not_false]
                    | rw [xgeq, decide_eq_true (by omega)]
                    | rw [xgeq, decide_eq_false (by omega)]
                    | rw [xleq, decide_eq_true (by omega)]
                    | rw [xleq, decide_eq_false (by omega)]
                    | rw [xlss, decide_eq_true (by omega)]
                    | rw [xlss, decide_eq_false (by omega)]
                    | rw [xgtr, decide_eq_true (by omega)]
                    | rw [xgtr, decide_eq_false (by omega)]
                    | rw [xeql, decide_eq_true (by omega)]
                    | rw [xeql, decide_eq_false (by omega)]
                    | rw [xpick_true]
                    | rw [xpick_false]
                    | rw [xg_same]
                    | rw [xg_tf]
                    | rw [xg_ft]
                    | rw [xg_undef]
                    | rw [xc_true]
                    | rw [xc_false]
                  exact ⟨rfl, h3.ext⟩
  · intro hge
    rw [runesFrom_end _ _ _ hge] at hall hacc
    have hacc : acc = (runesM s).length := by simpa using hacc
    rw [xe10, xc_false, xgeq]
    refine and_st h (decide ((runesM s).length ≤ 8)) ?_ ?_
    · intro _ J hJ
      rw [xleq]
      have : decide ((acc : Int) ≤ 8) = decide ((runesM s).length ≤ 8) := decide_eq_decide.2 (by omega)
      rw [this]
      exact hJ _ h
    intro w3 h
    have e1 : decide ((1 : Int) ≤ (acc : Int)) = decide (s ≠ []) := decide_eq_decide.2 (by
      rw [← runes_pos]
      omega)
    rw [e1, nameM, hall]
    exact ⟨rfl, h.ext⟩
theorem c_fSize {v : VecM} (w : World) : RetV Tryz.prog F_joineryref3_Size #[vecV v] w (.bool (roomM v)) := by
  refine call_joineryref3_Size ?_
  have h := St.start w
  unfold S_joineryref3_Size
  refine st_box h ?_
  intro b w1 hb h
  try simp only [go_sem] at h
  rw [fld_api_Vec_Cpu]
  refine st_load ag_int h 0 rfl rfl ?_
  rw [xgeq]
  refine and_st h (decide (0 ≤ v.mem)) ?_ ?_
  · intro _ J hJ
    rw [fld_api_Vec_Mem]
    refine st_load ag_int h 0 rfl rfl ?_
    rw [xgeq]
    exact hJ _ h
  intro w2 h
  refine and_st h (decide (v.cpu ≤ 1099511627776)) ?_ ?_
  · intro _ J hJ
    rw [fld_api_Vec_Cpu]
    refine st_load ag_int h 0 rfl rfl ?_
    rw [xleq]
    exact hJ _ h
  intro w3 h
  refine and_st h (decide (v.mem ≤ 1099511627776)) ?_ ?_
  · intro _ J hJ
    rw [fld_api_Vec_Mem]
    refine st_load ag_int h 0 rfl rfl ?_
    rw [xleq]
    exact hJ _ h
  intro w4 h
  refine ⟨congrArg Value.bool ?_, h.ext⟩
  unfold roomM partM
  cases decide (0 ≤ v.cpu) <;> cases decide (0 ≤ v.mem) <;> cases decide (v.cpu ≤ 1099511627776) <;> cases decide (v.mem ≤ 1099511627776) <;> rfl
end Go.Proofs.YthkgbajldkicfaaGreatDoor

namespace Go.Proofs.YthkgbajldkicfaaGreatDoor
set_option linter.unusedVariables false
set_option linter.unusedSimpArgs false
open Go Go.Jo
set_option maxRecDepth 100000

/-- A text of a row of texts, wherever it is read. -/
theorem str_of {w : World} {p : Value} {l : List Str} {i : Nat} {y : Str} (hp : Row w 1 p l.length (strsL l)) (hy : l[i]? = some y) :
    ∃ a, (∀ (w' : World) (K : Value → World → Prop), K (.pointer (some a)) w' → XIdx Tryz.prog T_sl_string p (.int .i64 (i : Nat)) w' K) ∧ ∀ w', Ext w w' → ∀ K : Value → World → Prop, K (S y) w' → XLoad Tryz.prog T_string (.pointer (some a)) w' K := by
  obtain ⟨b1, o1, i1, c1⟩ := hp.at (k := .i64) und_sl_string sz_string (i := i) (List.getElem?_eq_some_iff.1 hy).1
  refine ⟨⟨b1, o1, none⟩, i1, fun w' e K hk => ?_⟩
  have hc := c1 _ e 0 (by omega)
  simp only [Nat.add_zero, Nat.mul_one] at hc
  exact ld_of ag_string (v := S y) (by rw [hc, List.getElem?_map, hy]; rfl) hk
set_option maxHeartbeats 4000000 in
theorem c_fSet {w : World} {p : Value} {l : List Str} (hp : Row w 1 p l.length (strsL l)) (hs : ∀ x ∈ l, x.length ≤ 1000000) : RetV Tryz.prog F_joineryref2_Set #[p] w (.bool (setM l)) := by
  refine call_joineryref2_Set ?_
  have h := St.start w
  unfold S_joineryref2_Set
  refine hp.len und_sl_string ?_
  rw [xgtr]
  refine xc_dec ?_ ?_
  · intro h4
    refine ⟨?_, h.ext⟩
    rw [setM, decide_eq_false (show ¬ l.length ≤ 4 by omega), Bool.and_false]
  intro h4
  have h4 : l.length ≤ 4 := by omega
  refine ⟨fun u w' => ∃ i : Nat, i ≤ l.length ∧ u = .int .i64 (i : Nat) ∧ upTo (setP l) i = true ∧ St [] w [] w', fun u _ => lenI l.length u, ⟨0, Nat.zero_le _, rfl, rfl, h⟩, ?_⟩
  clear h
  rintro - u w1 ⟨i, hi, rfl, hu, h⟩
  refine hp.len und_sl_string ?_
  rw [xlss]
  refine xc_dec ?_ ?_
  · intro hlt
    have hlt : i < l.length := by omega
    obtain ⟨x, hx⟩ : ∃ x, l[i]? = some x := ⟨_, List.getElem?_eq_getElem hlt⟩
    have hxs := hs x (List.mem_of_getElem? hx)
    obtain ⟨a1, i1, l1⟩ := str_of hp hx
    have hgx : l.getD i [] = x := by rw [List.getD_eq_getElem?_getD, hx]; rfl
    have hE : ∀ {w' : World}, Ext w1.drew w' → Ext w w' := fun e => (h.step (Ext.drew _)).ext.trans e
    have h := h.step (Ext.drew _)
    have bad : setP l i = false → setM l = false := fun hb => by
      rw [setM, upTo_false hlt hb, Bool.false_and]
    have good : setP l i = true → upTo (setP l) (i + 1) = true := fun hg => by
      rw [upTo_succ, hu, hg]
      rfl
    refine ⟨Ext, Ext, preExt, ?_⟩
    cases hn : nameM x
    · have hnm : ∀ w, RetV Tryz.prog F_joineryref2_Name #[S x] w (.bool false) := fun w => hn ▸ c_fMarkName x w hxs
      have i2 := trivial
      repeat
        apply Exists.intro
        apply And.intro
        · first
            | (rw [xg_ft]; try rfl)
            | (rw [xg_tf]; try rfl)
            | (rw [xg_undef]; try rfl)
            | ((try rw [xg_same]); intro w3; first
                | exact i1 _ _ ⟨rfl, rfl⟩
                | exact i2 _ _ ⟨rfl, rfl⟩
                | (rw [xpick_true]; exact ⟨rfl, rfl⟩)
                | (rw [xpick_false]; exact ⟨rfl, rfl⟩)
                | (rw [xnot, Bool.not_true]; exact ⟨rfl, rfl⟩)
                | (rw [xnot, Bool.not_false]; exact ⟨rfl, rfl⟩)
                | (rw [xgtr, decide_eq_true (by omega)]; exact ⟨rfl, rfl⟩)
                | (rw [xgtr, decide_eq_false (by omega)]; exact ⟨rfl, rfl⟩)
                | (rw [xlss, decide_eq_true (by omega)]; exact ⟨rfl, rfl⟩)
                | (rw [xlss, decide_eq_false (by omega)]; exact ⟨rfl, rfl⟩)
                | (rw [xgeq, decide_eq_true (by omega)]; exact ⟨rfl, rfl⟩)
                | (rw [xgeq, decide_eq_false (by omega)]; exact ⟨rfl, rfl⟩)
                | (rw [xsub, wi64 (by omega) (by omega), ei1]; exact ⟨rfl, rfl⟩)
                | (rw [xsgeq, hbl, Bool.not_true]; exact ⟨rfl, rfl⟩)
                | (rw [xsgeq, hbl, Bool.not_false]; exact ⟨rfl, rfl⟩)
                | (intro e3; first
                    | exact l1 _ (hE e3) _ ⟨rfl, Ext.refl _⟩
                    | exact l2 _ (hE e3) _ ⟨rfl, Ext.refl _⟩
                    | exact xcall_of (en_joineryref2_Name _) (hnm _) fun _ _ hq => hq)
                | exact ⟨rfl, rfl⟩)
      intro w2 e2
      rw [xc_true, bad (by rw [setP, hgx, hn, Bool.false_and])]
      exact ⟨rfl, (h.step e2).ext⟩
    · have hnm : ∀ w, RetV Tryz.prog F_joineryref2_Name #[S x] w (.bool true) := fun w => hn ▸ c_fMarkName x w hxs
      by_cases h0 : i = 0
      · have i2 := trivial
        repeat
          apply Exists.intro
          apply And.intro
          · first
              | (rw [xg_ft]; try rfl)
              | (rw [xg_tf]; try rfl)
              | (rw [xg_undef]; try rfl)
              | ((try rw [xg_same]); intro w3; first
                  | exact i1 _ _ ⟨rfl, rfl⟩
                  | exact i2 _ _ ⟨rfl, rfl⟩
                  | (rw [xpick_true]; exact ⟨rfl, rfl⟩)
                  | (rw [xpick_false]; exact ⟨rfl, rfl⟩)
                  | (rw [xnot, Bool.not_true]; exact ⟨rfl, rfl⟩)
                  | (rw [xnot, Bool.not_false]; exact ⟨rfl, rfl⟩)
                  | (rw [xgtr, decide_eq_true (by omega)]; exact ⟨rfl, rfl⟩)
                  | (rw [xgtr, decide_eq_false (by omega)]; exact ⟨rfl, rfl⟩)
                  | (rw [xlss, decide_eq_true (by omega)]; exact ⟨rfl, rfl⟩)
                  | (rw [xlss, decide_eq_false (by omega)]; exact ⟨rfl, rfl⟩)
                  | (rw [xgeq, decide_eq_true (by omega)]; exact ⟨rfl, rfl⟩)
                  | (rw [xgeq, decide_eq_false (by omega)]; exact ⟨rfl, rfl⟩)
                  | (rw [xsub, wi64 (by omega) (by omega), ei1]; exact ⟨rfl, rfl⟩)
                  | (rw [xsgeq, hbl, Bool.not_true]; exact ⟨rfl, rfl⟩)
                  | (rw [xsgeq, hbl, Bool.not_false]; exact ⟨rfl, rfl⟩)
                  | (intro e3; first
                      | exact l1 _ (hE e3) _ ⟨rfl, Ext.refl _⟩
                      | exact l2 _ (hE e3) _ ⟨rfl, Ext.refl _⟩
                      | exact xcall_of (en_joineryref2_Name _) (hnm _) fun _ _ hq => hq)
                  | exact ⟨rfl, rfl⟩)
        intro w2 e2
        rw [xc_false, xadd, wi64 (by omega) (by omega)]
        exact ⟨⟨i + 1, hlt, rfl, good (by rw [setP, hgx, hn, decide_eq_true h0]; rfl), h.step e2⟩, lenI_succ hlt⟩
      · have hlt2 : i - 1 < l.length := by omega
        obtain ⟨y, hy⟩ : ∃ y, l[i - 1]? = some y := ⟨_, List.getElem?_eq_getElem hlt2⟩
        obtain ⟨a2, i2, l2⟩ := str_of hp hy
        have hgy : l.getD (i - 1) [] = y := by rw [List.getD_eq_getElem?_getD, hy]; rfl
        have ei1 : (i : Int) - 1 = ((i - 1 : Nat) : Int) := by omega
        cases hbl : Op.bytesLess y x
        · repeat
            apply Exists.intro
            apply And.intro
            · first
                | (rw [xg_ft]; try rfl)
                | (rw [xg_tf]; try rfl)
                | (rw [xg_undef]; try rfl)
                | ((try rw [xg_same]); intro w3; first
                    | exact i1 _ _ ⟨rfl, rfl⟩
                    | exact i2 _ _ ⟨rfl, rfl⟩
                    | (rw [xpick_true]; exact ⟨rfl, rfl⟩)
                    | (rw [xpick_false]; exact ⟨rfl, rfl⟩)
                    | (rw [xnot, Bool.not_true]; exact ⟨rfl, rfl⟩)
                    | (rw [xnot, Bool.not_false]; exact ⟨rfl, rfl⟩)
                    | (rw [xgtr, decide_eq_true (by omega)]; exact ⟨rfl, rfl⟩)
                    | (rw [xgtr, decide_eq_false (by omega)]; exact ⟨rfl, rfl⟩)
                    | (rw [xlss, decide_eq_true (by omega)]; exact ⟨rfl, rfl⟩)
                    | (rw [xlss, decide_eq_false (by omega)]; exact ⟨rfl, rfl⟩)
                    | (rw [xgeq, decide_eq_true (by omega)]; exact ⟨rfl, rfl⟩)
                    | (rw [xgeq, decide_eq_false (by omega)]; exact ⟨rfl, rfl⟩)
                    | (rw [xsub, wi64 (by omega) (by omega), ei1]; exact ⟨rfl, rfl⟩)
                    | (rw [xsgeq, hbl, Bool.not_true]; exact ⟨rfl, rfl⟩)
                    | (rw [xsgeq, hbl, Bool.not_false]; exact ⟨rfl, rfl⟩)
                    | (intro e3; first
                        | exact l1 _ (hE e3) _ ⟨rfl, Ext.refl _⟩
                        | exact l2 _ (hE e3) _ ⟨rfl, Ext.refl _⟩
                        | exact xcall_of (en_joineryref2_Name _) (hnm _) fun _ _ hq => hq)
                    | exact ⟨rfl, rfl⟩)
          intro w2 e2
          rw [xc_true, bad (by rw [setP, hgx, hgy, hn, hbl, decide_eq_false h0]; rfl)]
          exact ⟨rfl, (h.step e2).ext⟩
        · repeat
            apply Exists.intro
            apply And.intro
            · first
                | (rw [xg_ft]; try rfl)
                | (rw [xg_tf]; try rfl)
                | (rw [xg_undef]; try rfl)
                | ((try rw [xg_same]); intro w3; first
                    | exact i1 _ _ ⟨rfl, rfl⟩
                    | exact i2 _ _ ⟨rfl, rfl⟩
                    | (rw [xpick_true]; exact ⟨rfl, rfl⟩)
                    | (rw [xpick_false]; exact ⟨rfl, rfl⟩)
                    | (rw [xnot, Bool.not_true]; exact ⟨rfl, rfl⟩)
                    | (rw [xnot, Bool.not_false]; exact ⟨rfl, rfl⟩)
                    | (rw [xgtr, decide_eq_true (by omega)]; exact ⟨rfl, rfl⟩)
                    | (rw [xgtr, decide_eq_false (by omega)]; exact ⟨rfl, rfl⟩)
                    | (rw [xlss, decide_eq_true (by omega)]; exact ⟨rfl, rfl⟩)
                    | (rw [xlss, decide_eq_false (by omega)]; exact ⟨rfl, rfl⟩)
                    | (rw [xgeq, decide_eq_true (by omega)]; exact ⟨rfl, rfl⟩)
                    | (rw [xgeq, decide_eq_false (by omega)]; exact ⟨rfl, rfl⟩)
                    | (rw [xsub, wi64 (by omega) (by omega), ei1]; exact ⟨rfl, rfl⟩)
                    | (rw [xsgeq, hbl, Bool.not_true]; exact ⟨rfl, rfl⟩)
                    | (rw [xsgeq, hbl, Bool.not_false]; exact ⟨rfl, rfl⟩)
                    | (intro e3; first
                        | exact l1 _ (hE e3) _ ⟨rfl, Ext.refl _⟩
                        | exact l2 _ (hE e3) _ ⟨rfl, Ext.refl _⟩
                        | exact xcall_of (en_joineryref2_Name _) (hnm _) fun _ _ hq => hq)
                    | exact ⟨rfl, rfl⟩)
          intro w2 e2
          rw [xc_false, xadd, wi64 (by omega) (by omega)]
          exact ⟨⟨i + 1, hlt, rfl, good (by rw [setP, hgx, hgy, hn, hbl, decide_eq_false h0]; rfl), h.step e2⟩, lenI_succ hlt⟩
  · intro hge
    have hi : i = l.length := by omega
    subst hi
    refine ⟨?_, h.ext⟩
    rw [setM, hu, decide_eq_true h4]
    rfl
theorem c_fNode {w : World} {n : NodeM} {mv tv : Value} (h1 : Row w 1 mv n.marks.length (strsL n.marks)) (h2 : Row w 1 tv n.taints.length (strsL n.taints)) (hz : NodeSmall n) : RetV Tryz.prog F_joineryref3_Node #[nodeAt n mv tv] w (.int .i64 (nodeE n)) := by
  refine call_joineryref3_Node ?_
  have h := St.start w
  unfold S_joineryref3_Node
  refine st_box h ?_
  intro b w1 hb h
  try simp only [go_sem] at h
  rw [fld_api_Node_Name]
  refine st_load ag_string h 0 rfl rfl ?_
  refine st_callV en_joineryref2_Name (c_fMarkName _ _ hz.name) h ?_
  intro w2 h
  rw [xnot]
  refine xc_of ?_ ?_
  · intro e
    refine ⟨?_, h.ext⟩
    unfold nodeE
    rw [e]
    rfl
  intro e1
  rw [fld_api_Node_Cap]
  refine st_loadN ag_api_Vec sz_api_Vec h 0 rfl rfl (vs := vecC n.cap) rfl ?_
  refine st_callV en_joineryref3_Size (c_fSize _) h ?_
  intro w3 h
  rw [xnot]
  refine xc_of ?_ ?_
  · intro e
    refine ⟨?_, h.ext⟩
    unfold nodeE
    rw [e1, e]
    rfl
  intro e2
  rw [fld_api_Node_Marks]
  refine st_load ag_sl_string h 0 rfl rfl ?_
  refine st_callV en_joineryref2_Set (c_fSet (h1.mono h.ext) hz.mark) h ?_
  intro w4 h
  rw [xnot]
  refine or_st h (!setM n.taints) ?_ ?_
  · intro _ J hJ
    rw [fld_api_Node_Taints]
    refine st_load ag_sl_string h 0 rfl rfl ?_
    refine st_callV en_joineryref2_Set (c_fSet (h2.mono h.ext) hz.taint) h ?_
    intro w5 h
    rw [xnot]
    exact hJ _ h
  intro w5 h
  refine xc_of ?_ ?_
  · intro e
    refine ⟨?_, h.ext⟩
    unfold nodeE
    rw [e1, e2, e]
    rfl
  · intro e
    refine ⟨?_, h.ext⟩
    unfold nodeE
    rw [e1, e2, e]
    rfl
theorem int_at' {w : World} {p : Value} {ns : List Int} {i : Nat} {y : Int} (hp : Row w 1 p ns.length (intsL ns)) (hy : ns[i]? = some y) :
    ∃ a, (∀ (w' : World) (K : Value → World → Prop), K (.pointer (some a)) w' → XIdx Tryz.prog T_sl_int p (.int .i64 (i : Nat)) w' K) ∧ ∀ w', Ext w w' → ∀ K : Value → World → Prop, K (.int .i64 y) w' → XLoad Tryz.prog T_int (.pointer (some a)) w' K := by
  obtain ⟨b1, o1, i1, c1⟩ := hp.at (k := .i64) und_sl_int sz_int (i := i) (List.getElem?_eq_some_iff.1 hy).1
  refine ⟨⟨b1, o1, none⟩, i1, fun w' e K hk => ?_⟩
  have hc := c1 _ e 0 (by omega)
  simp only [Nat.add_zero, Nat.mul_one] at hc
  exact ld_of ag_int (v := .int .i64 y) (by rw [hc, List.getElem?_map, hy]; rfl) hk
set_option maxHeartbeats 4000000 in
theorem c_fPeers {w : World} {p : Value} {l : List Int} (hp : Row w 1 p l.length (intsL l)) (hl : l.length ≤ 1000000000) : RetV Tryz.prog F_joineryref4_peers #[p] w (.bool (risingM l)) := by
  refine call_joineryref4_peers ?_
  have h := St.start w
  unfold S_joineryref4_peers
  refine ⟨fun u w' => ∃ i : Nat, i ≤ l.length ∧ u = .int .i64 (i : Nat) ∧ upTo (risingP l) i = true ∧ St [] w [] w', fun u _ => lenI l.length u, ⟨0, Nat.zero_le _, rfl, rfl, h⟩, ?_⟩
  clear h
  rintro - u w1 ⟨i, hi, rfl, hu, h⟩
  refine hp.len und_sl_int ?_
  rw [xlss]
  refine xc_dec ?_ ?_
  · intro hlt
    have hlt : i < l.length := by omega
    obtain ⟨x, hx⟩ : ∃ x, l[i]? = some x := ⟨_, List.getElem?_eq_getElem hlt⟩
    obtain ⟨a1, i1, l1⟩ := int_at' hp hx
    have hgx : l.getD i 0 = x := by rw [List.getD_eq_getElem?_getD, hx]; rfl
    have hE : ∀ {w' : World}, Ext w1.drew w' → Ext w w' := fun e => (h.step (Ext.drew _)).ext.trans e
    have h := h.step (Ext.drew _)
    have bad : risingP l i = false → risingM l = false := fun hb => by
      rw [risingM, upTo_false hlt hb, Bool.false_and]
    have good : risingP l i = true → upTo (risingP l) (i + 1) = true := fun hg => by
      rw [upTo_succ, hu, hg]
      rfl
    refine ⟨Ext, Ext, preExt, ?_⟩
    by_cases hA : x < 1
    · have i2 := trivial
      repeat
        apply Exists.intro
        apply And.intro
        · first
            | (rw [xg_ft]; try rfl)
            | (rw [xg_tf]; try rfl)
            | (rw [xg_undef]; try rfl)
            | ((try rw [xg_same]); intro w3; first
                | exact i1 _ _ ⟨rfl, rfl⟩
                | exact i2 _ _ ⟨rfl, rfl⟩
                | (rw [xpick_true]; exact ⟨rfl, rfl⟩)
                | (rw [xpick_false]; exact ⟨rfl, rfl⟩)
                | (rw [xnot, Bool.not_true]; exact ⟨rfl, rfl⟩)
                | (rw [xnot, Bool.not_false]; exact ⟨rfl, rfl⟩)
                | (rw [xgtr, decide_eq_true (by omega)]; exact ⟨rfl, rfl⟩)
                | (rw [xgtr, decide_eq_false (by omega)]; exact ⟨rfl, rfl⟩)
                | (rw [xlss, decide_eq_true (by omega)]; exact ⟨rfl, rfl⟩)
                | (rw [xlss, decide_eq_false (by omega)]; exact ⟨rfl, rfl⟩)
                | (rw [xgeq, decide_eq_true (by omega)]; exact ⟨rfl, rfl⟩)
                | (rw [xgeq, decide_eq_false (by omega)]; exact ⟨rfl, rfl⟩)
                | (rw [xsub, wi64 (by omega) (by omega), ei1]; exact ⟨rfl, rfl⟩)
                | (rw [xsgeq, hbl, Bool.not_true]; exact ⟨rfl, rfl⟩)
                | (rw [xsgeq, hbl, Bool.not_false]; exact ⟨rfl, rfl⟩)
                | (intro e3; first
                    | exact l1 _ (hE e3) _ ⟨rfl, Ext.refl _⟩
                    | exact l2 _ (hE e3) _ ⟨rfl, Ext.refl _⟩
                    | exact xcall_of (en_joineryref2_Name _) (hnm _) fun _ _ hq => hq)
                | exact ⟨rfl, rfl⟩)
      intro w2 e2
      rw [xc_true, bad (by rw [risingP, hgx, decide_eq_false (show ¬ 1 ≤ x by omega)]; rfl)]
      exact ⟨rfl, (h.step e2).ext⟩
    by_cases hB : 4 < x
    · have i2 := trivial
      repeat
        apply Exists.intro
        apply And.intro
        · first
            | (rw [xg_ft]; try rfl)
            | (rw [xg_tf]; try rfl)
            | (rw [xg_undef]; try rfl)
            | ((try rw [xg_same]); intro w3; first
                | exact i1 _ _ ⟨rfl, rfl⟩
                | exact i2 _ _ ⟨rfl, rfl⟩
                | (rw [xpick_true]; exact ⟨rfl, rfl⟩)
                | (rw [xpick_false]; exact ⟨rfl, rfl⟩)
                | (rw [xnot, Bool.not_true]; exact ⟨rfl, rfl⟩)
                | (rw [xnot, Bool.not_false]; exact ⟨rfl, rfl⟩)
                | (rw [xgtr, decide_eq_true (by omega)]; exact ⟨rfl, rfl⟩)
                | (rw [xgtr, decide_eq_false (by omega)]; exact ⟨rfl, rfl⟩)
                | (rw [xlss, decide_eq_true (by omega)]; exact ⟨rfl, rfl⟩)
                | (rw [xlss, decide_eq_false (by omega)]; exact ⟨rfl, rfl⟩)
                | (rw [xgeq, decide_eq_true (by omega)]; exact ⟨rfl, rfl⟩)
                | (rw [xgeq, decide_eq_false (by omega)]; exact ⟨rfl, rfl⟩)
                | (rw [xsub, wi64 (by omega) (by omega), ei1]; exact ⟨rfl, rfl⟩)
                | (rw [xsgeq, hbl, Bool.not_true]; exact ⟨rfl, rfl⟩)
                | (rw [xsgeq, hbl, Bool.not_false]; exact ⟨rfl, rfl⟩)
                | (intro e3; first
                    | exact l1 _ (hE e3) _ ⟨rfl, Ext.refl _⟩
                    | exact l2 _ (hE e3) _ ⟨rfl, Ext.refl _⟩
                    | exact xcall_of (en_joineryref2_Name _) (hnm _) fun _ _ hq => hq)
                | exact ⟨rfl, rfl⟩)
      intro w2 e2
      rw [xc_true, bad (by rw [risingP, hgx, decide_eq_false (show ¬ x ≤ 4 by omega), Bool.and_false]; rfl)]
      exact ⟨rfl, (h.step e2).ext⟩
    have hpx : decide (1 ≤ x) = true ∧ decide (x ≤ 4) = true := ⟨decide_eq_true (by omega), decide_eq_true (by omega)⟩
    by_cases h0 : i = 0
    · have i2 := trivial
      repeat
        apply Exists.intro
        apply And.intro
        · first
            | (rw [xg_ft]; try rfl)
            | (rw [xg_tf]; try rfl)
            | (rw [xg_undef]; try rfl)
            | ((try rw [xg_same]); intro w3; first
                | exact i1 _ _ ⟨rfl, rfl⟩
                | exact i2 _ _ ⟨rfl, rfl⟩
                | (rw [xpick_true]; exact ⟨rfl, rfl⟩)
                | (rw [xpick_false]; exact ⟨rfl, rfl⟩)
                | (rw [xnot, Bool.not_true]; exact ⟨rfl, rfl⟩)
                | (rw [xnot, Bool.not_false]; exact ⟨rfl, rfl⟩)
                | (rw [xgtr, decide_eq_true (by omega)]; exact ⟨rfl, rfl⟩)
                | (rw [xgtr, decide_eq_false (by omega)]; exact ⟨rfl, rfl⟩)
                | (rw [xlss, decide_eq_true (by omega)]; exact ⟨rfl, rfl⟩)
                | (rw [xlss, decide_eq_false (by omega)]; exact ⟨rfl, rfl⟩)
                | (rw [xgeq, decide_eq_true (by omega)]; exact ⟨rfl, rfl⟩)
                | (rw [xgeq, decide_eq_false (by omega)]; exact ⟨rfl, rfl⟩)
                | (rw [xsub, wi64 (by omega) (by omega), ei1]; exact ⟨rfl, rfl⟩)
                | (rw [xsgeq, hbl, Bool.not_true]; exact ⟨rfl, rfl⟩)
                | (rw [xsgeq, hbl, Bool.not_false]; exact ⟨rfl, rfl⟩)
                | (intro e3; first
                    | exact l1 _ (hE e3) _ ⟨rfl, Ext.refl _⟩
                    | exact l2 _ (hE e3) _ ⟨rfl, Ext.refl _⟩
                    | exact xcall_of (en_joineryref2_Name _) (hnm _) fun _ _ hq => hq)
                | exact ⟨rfl, rfl⟩)
      intro w2 e2
      rw [xc_false, xadd, wi64 (by omega) (by omega)]
      exact ⟨⟨i + 1, hlt, rfl, good (by rw [risingP, hgx, hpx.1, hpx.2, decide_eq_true h0]; rfl), h.step e2⟩, lenI_succ hlt⟩
    · have hlt2 : i - 1 < l.length := by omega
      obtain ⟨y, hy⟩ : ∃ y, l[i - 1]? = some y := ⟨_, List.getElem?_eq_getElem hlt2⟩
      obtain ⟨a2, i2, l2⟩ := int_at' hp hy
      have hgy : l.getD (i - 1) 0 = y := by rw [List.getD_eq_getElem?_getD, hy]; rfl
      have ei1 : (i : Int) - 1 = ((i - 1 : Nat) : Int) := by omega
      by_cases hbl : x ≤ y
      · repeat
          apply Exists.intro
          apply And.intro
          · first
              | (rw [xg_ft]; try rfl)
              | (rw [xg_tf]; try rfl)
              | (rw [xg_undef]; try rfl)
              | ((try rw [xg_same]); intro w3; first
                  | exact i1 _ _ ⟨rfl, rfl⟩
                  | exact i2 _ _ ⟨rfl, rfl⟩
                  | (rw [xpick_true]; exact ⟨rfl, rfl⟩)
                  | (rw [xpick_false]; exact ⟨rfl, rfl⟩)
                  | (rw [xnot, Bool.not_true]; exact ⟨rfl, rfl⟩)
                  | (rw [xnot, Bool.not_false]; exact ⟨rfl, rfl⟩)
                  | (rw [xgtr, decide_eq_true (by omega)]; exact ⟨rfl, rfl⟩)
                  | (rw [xgtr, decide_eq_false (by omega)]; exact ⟨rfl, rfl⟩)
                  | (rw [xlss, decide_eq_true (by omega)]; exact ⟨rfl, rfl⟩)
                  | (rw [xlss, decide_eq_false (by omega)]; exact ⟨rfl, rfl⟩)
                  | (rw [xgeq, decide_eq_true (by omega)]; exact ⟨rfl, rfl⟩)
                  | (rw [xgeq, decide_eq_false (by omega)]; exact ⟨rfl, rfl⟩)
                  | (rw [xsub, wi64 (by omega) (by omega), ei1]; exact ⟨rfl, rfl⟩)
                  | (rw [xsgeq, hbl, Bool.not_true]; exact ⟨rfl, rfl⟩)
                  | (rw [xsgeq, hbl, Bool.not_false]; exact ⟨rfl, rfl⟩)
                  | (intro e3; first
                      | exact l1 _ (hE e3) _ ⟨rfl, Ext.refl _⟩
                      | exact l2 _ (hE e3) _ ⟨rfl, Ext.refl _⟩
                      | exact xcall_of (en_joineryref2_Name _) (hnm _) fun _ _ hq => hq)
                  | exact ⟨rfl, rfl⟩)
        intro w2 e2
        rw [xc_true, bad (by rw [risingP, hgx, hgy, decide_eq_false h0, decide_eq_false (show ¬ y < x by omega)]; simp)]
        exact ⟨rfl, (h.step e2).ext⟩
      · repeat
          apply Exists.intro
          apply And.intro
          · first
              | (rw [xg_ft]; try rfl)
              | (rw [xg_tf]; try rfl)
              | (rw [xg_undef]; try rfl)
              | ((try rw [xg_same]); intro w3; first
                  | exact i1 _ _ ⟨rfl, rfl⟩
                  | exact i2 _ _ ⟨rfl, rfl⟩
                  | (rw [xpick_true]; exact ⟨rfl, rfl⟩)
                  | (rw [xpick_false]; exact ⟨rfl, rfl⟩)
                  | (rw [xnot, Bool.not_true]; exact ⟨rfl, rfl⟩)
                  | (rw [xnot, Bool.not_false]; exact ⟨rfl, rfl⟩)
                  | (rw [xgtr, decide_eq_true (by omega)]; exact ⟨rfl, rfl⟩)
                  | (rw [xgtr, decide_eq_false (by omega)]; exact ⟨rfl, rfl⟩)
                  | (rw [xlss, decide_eq_true (by omega)]; exact ⟨rfl, rfl⟩)
                  | (rw [xlss, decide_eq_false (by omega)]; exact ⟨rfl, rfl⟩)
                  | (rw [xgeq, decide_eq_true (by omega)]; exact ⟨rfl, rfl⟩)
                  | (rw [xgeq, decide_eq_false (by omega)]; exact ⟨rfl, rfl⟩)
                  | (rw [xsub, wi64 (by omega) (by omega), ei1]; exact ⟨rfl, rfl⟩)
                  | (rw [xsgeq, hbl, Bool.not_true]; exact ⟨rfl, rfl⟩)
                  | (rw [xsgeq, hbl, Bool.not_false]; exact ⟨rfl, rfl⟩)
                  | (intro e3; first
                      | exact l1 _ (hE e3) _ ⟨rfl, Ext.refl _⟩
                      | exact l2 _ (hE e3) _ ⟨rfl, Ext.refl _⟩
                      | exact xcall_of (en_joineryref2_Name _) (hnm _) fun _ _ hq => hq)
                  | exact ⟨rfl, rfl⟩)
        intro w2 e2
        rw [xc_false, xadd, wi64 (by omega) (by omega)]
        exact ⟨⟨i + 1, hlt, rfl, good (by rw [risingP, hgx, hgy, hpx.1, hpx.2, decide_eq_true (show y < x by omega), Bool.or_true]; rfl), h.step e2⟩, lenI_succ hlt⟩
  · intro hge
    have hi : i = l.length := by omega
    subst hi
    refine hp.len und_sl_int ?_
    rw [xgtr]
    refine ⟨congrArg Value.bool ?_, h.ext⟩
    rw [risingM, hu, Bool.true_and]
    exact decide_eq_decide.2 (by omega)
end Go.Proofs.YthkgbajldkicfaaGreatDoor

namespace Go.Proofs.YthkgbajldkicfaaGreatDoor
set_option linter.unusedVariables false
set_option linter.unusedSimpArgs false
open Go Go.Jo
set_option maxRecDepth 100000

/-- A place of a row of places, wherever it is read. -/
theorem placeAt_of {w : World} {p : Value} {l : List PlaceM} {i : Nat} {y : PlaceM} (hp : Row w 5 p l.length (placesL l)) (hy : l[i]? = some y) :
    ∃ b o, (∀ (w' : World) (K : Value → World → Prop), K (.pointer (some ⟨b, o, none⟩)) w' → XIdx Tryz.prog T_sl_api_Place p (.int .i64 (i : Nat)) w' K) ∧
      (∀ w', Ext w w' → ∀ K : Value → World → Prop, K (S y.pod) w' → XLoad Tryz.prog T_string (.pointer (some ⟨b, o + 0, none⟩)) w' K) ∧
      (∀ w', Ext w w' → ∀ K : Value → World → Prop, K (S y.node) w' → XLoad Tryz.prog T_string (.pointer (some ⟨b, o + 1, none⟩)) w' K) ∧
      (∀ w', Ext w w' → ∀ K : Value → World → Prop, K (vecV y.need) w' → XLoad Tryz.prog T_api_Vec (.pointer (some ⟨b, o + 2, none⟩)) w' K) := by
  obtain ⟨b1, o1, i1, c1⟩ := hp.at (k := .i64) und_sl_api_Place sz_api_Place (i := i) (List.getElem?_eq_some_iff.1 hy).1
  refine ⟨b1, o1, i1, fun w' e K hk => ?_, fun w' e K hk => ?_, fun w' e K hk => ?_⟩
  · exact ld_of ag_string (v := S y.pod) ((c1 _ e 0 (by omega)).trans (placesL_at hy 0 (by omega))) hk
  · exact ld_of ag_string (v := S y.node) ((c1 _ e 1 (by omega)).trans (placesL_at hy 1 (by omega))) hk
  · refine ldN_of ag_api_Vec sz_api_Vec (vs := vecC y.need) rfl (fun j hj => ?_) hk
    have := (c1 _ e (2 + j) (by omega)).trans (placesL_at hy (2 + j) (by omega))
    rw [Nat.add_assoc, this]
    match j, hj with
    | 0, _ => rfl
    | 1, _ => rfl
set_option maxHeartbeats 4000000 in
theorem c_fPlaces {w : World} {p : Value} {l : List PlaceM} (hp : Row w 5 p l.length (placesL l)) (hs : ∀ x ∈ l, x.pod.length ≤ 1000000 ∧ x.node.length ≤ 1000000) : RetV Tryz.prog F_joineryref4_places #[p] w (.int .i64 (placesE l)) := by
  refine call_joineryref4_places ?_
  have h := St.start w
  unfold S_joineryref4_places
  refine hp.len und_sl_api_Place ?_
  rw [xlss]
  refine or_st h (decide (8 < l.length)) ?_ ?_
  · intro _ J hJ
    refine hp.len und_sl_api_Place ?_
    rw [xgtr]
    have : decide ((8 : Int) < (l.length : Int)) = decide (8 < l.length) := decide_eq_decide.2 (by omega)
    rw [this]
    exact hJ _ h
  intro w1 h
  refine xc_of ?_ ?_
  · intro hb
    rw [Bool.or_eq_true, decide_eq_true_eq, decide_eq_true_eq] at hb
    rw [placesE, if_pos (by omega)]
    exact ⟨rfl, h.ext⟩
  intro hb
  rw [Bool.or_eq_false_iff, decide_eq_false_iff_not, decide_eq_false_iff_not] at hb
  have hE : placesE l = firstE l (l.find? (fun p => placeE p ≠ 0)) := by
    rw [placesE, if_neg (by omega)]
  refine ⟨fun v w2 => ∃ i : Nat, i ≤ l.length ∧ v = .int .i64 (i : Nat) ∧ l.find? (fun p => placeE p ≠ 0) = (l.drop i).find? (fun p => placeE p ≠ 0) ∧ St [] w [] w2, fun v _ => lenI l.length v, ⟨0, Nat.zero_le _, rfl, rfl, h⟩, ?_⟩
  clear h
  rintro - v w2 ⟨i, hi, rfl, hfind, h⟩
  refine hp.len und_sl_api_Place ?_
  rw [xlss]
  refine xc_dec ?_ ?_
  · intro hlt
    have hlt : i < l.length := by omega
    obtain ⟨y, hy⟩ : ∃ y, l[i]? = some y := ⟨_, List.getElem?_eq_getElem hlt⟩
    have hge : l[i] = y := (List.getElem?_eq_some_iff.1 hy).2
    have hsm := hs y (List.mem_of_getElem? hy)
    rw [List.drop_eq_getElem_cons hlt, hge, List.find?_cons] at hfind
    have bad : ∀ e, placeE y = e → e ≠ 0 → placesE l = e := fun e he h0 => by
      rw [hE, hfind]
      have : decide (placeE y ≠ 0) = true := decide_eq_true (by rw [he]; exact h0)
      rw [this]
      exact he
    obtain ⟨b0, o0, i0, lp, ln, lv⟩ := placeAt_of hp hy
    refine i0 _ _ ?_
    rw [fld_api_Place_Pod]
    refine lp _ h.ext _ ?_
    refine st_callV en_joineryref2_Name (c_fMarkName _ _ hsm.1) h ?_
    intro w3 h
    rw [xnot]
    refine or_st h (!nameM y.node) ?_ ?_
    · intro _ J hJ
      refine i0 _ _ ?_
      rw [fld_api_Place_Node]
      refine ln _ h.ext _ ?_
      refine st_callV en_joineryref2_Name (c_fMarkName _ _ hsm.2) h ?_
      intro w4 h
      rw [xnot]
      exact hJ _ h
    intro w4 h
    refine xc_of ?_ ?_
    · intro hn
      rw [bad 1 (by rw [placeE, if_pos hn]) (by decide)]
      exact ⟨rfl, h.ext⟩
    intro hn
    refine i0 _ _ ?_
    rw [fld_api_Place_Need]
    refine lv _ h.ext _ ?_
    refine st_callV en_joineryref3_Size (c_fSize _) h ?_
    intro w5 h
    rw [xnot]
    refine xc_of ?_ ?_
    · intro hr
      rw [bad 2 (by rw [placeE, hn, if_neg (by simp), if_pos hr]) (by decide)]
      exact ⟨rfl, h.ext⟩
    · intro hr
      have h0 : placeE y = 0 := by rw [placeE, hn, if_neg (by simp), hr, if_neg (by simp)]
      rw [xadd, wi64 (by omega) (by omega)]
      refine ⟨⟨i + 1, hlt, rfl, ?_, h⟩, lenI_succ hlt⟩
      rw [hfind]
      have : decide (placeE y ≠ 0) = false := decide_eq_false (by rw [h0]; simp)
      rw [this]
  intro hge
  have hi : i = l.length := by omega
  subst hi
  rw [List.drop_length] at hfind
  have hE : placesE l = if (l.map (·.pod)).Nodup then 0 else 4 := by rw [hE, hfind]; rfl
  refine ⟨fun v w2 => ∃ i : Nat, i ≤ l.length ∧ v = .int .i64 (i : Nat) ∧ ((l.take i).map (·.pod)).Nodup ∧ St [] w [] w2, fun v _ => lenI l.length v, ⟨0, Nat.zero_le _, rfl, by simp, h⟩, ?_⟩
  clear h
  rintro - v w3 ⟨i, hi, rfl, hnd, h⟩
  refine hp.len und_sl_api_Place ?_
  rw [xlss]
  refine xc_dec ?_ ?_
  · intro hlt
    have hlt : i < l.length := by omega
    obtain ⟨y, hy⟩ : ∃ y, l[i]? = some y := ⟨_, List.getElem?_eq_getElem hlt⟩
    have hgy : l[i] = y := (List.getElem?_eq_some_iff.1 hy).2
    obtain ⟨b0, o0, i0, lp, _, _⟩ := placeAt_of hp hy
    refine ⟨fun v w2 => ∃ k : Nat, k ≤ i ∧ v = .int .i64 (k : Nat) ∧ (∀ z ∈ l.take k, z.pod ≠ y.pod) ∧ St [] w [] w2, fun v _ => lenI i v, ⟨0, Nat.zero_le _, rfl, by simp, h⟩, ?_⟩
    clear h
    rintro - v w4 ⟨k, hk, rfl, hno, h⟩
    rw [xlss]
    refine xc_dec ?_ ?_
    · intro hki
      have hki : k < i := by omega
      obtain ⟨z, hz⟩ : ∃ z, l[k]? = some z := ⟨_, List.getElem?_eq_getElem (by omega)⟩
      have hgz : l[k] = z := (List.getElem?_eq_some_iff.1 hz).2
      obtain ⟨b1, o1, i1, lp1, _, _⟩ := placeAt_of hp hz
      have h := h.step (Ext.drew _)
      have e5 := h.ext
      refine ⟨Ext, Ext, preExt, .pointer (some ⟨b0, o0, none⟩), fun w5 => i0 _ _ ⟨rfl, rfl⟩, .pointer (some ⟨b0, o0 + 0, none⟩), fun w5 => by rw [fld_api_Place_Pod]; exact ⟨rfl, rfl⟩, S y.pod, fun w5 e => lp _ (e5.trans e) _ ⟨rfl, Ext.refl _⟩, .pointer (some ⟨b1, o1, none⟩), fun w5 => i1 _ _ ⟨rfl, rfl⟩, .pointer (some ⟨b1, o1 + 0, none⟩), fun w5 => by rw [fld_api_Place_Pod]; exact ⟨rfl, rfl⟩, S z.pod, fun w5 e => lp1 _ (e5.trans e) _ ⟨rfl, Ext.refl _⟩, .bool (decide (y.pod = z.pod)), fun w5 => by rw [xseql]; exact ⟨rfl, rfl⟩, fun w5 e => ?_⟩
      have h := h.step e
      refine xc_dec ?_ ?_
      · intro he
        rw [hE, if_neg]
        · exact ⟨rfl, h.ext⟩
        · intro hn
          have := List.pairwise_iff_getElem.1 hn k i (by simp; omega) (by simp; omega) hki
          rw [List.getElem_map, List.getElem_map, hgz, hgy] at this
          exact this he.symm
      · intro he
        rw [xadd, wi64 (by omega) (by omega)]
        refine ⟨⟨k + 1, by omega, rfl, fun u hu => ?_, h⟩, lenI_succ hki⟩
        rw [List.take_succ_eq_append_getElem (by omega), hgz] at hu
        rcases List.mem_append.1 hu with hu | hu
        · exact hno u hu
        · rw [List.mem_singleton] at hu
          subst hu
          exact fun e => he e.symm
    · intro hki
      have hki : k = i := by omega
      subst hki
      rw [xadd, wi64 (by omega) (by omega)]
      refine ⟨⟨k + 1, hlt, rfl, ?_, h⟩, lenI_succ hlt⟩
      rw [List.take_succ_eq_append_getElem hlt, List.map_append, hgy]
      refine List.pairwise_append.2 ⟨hnd, by simp, fun a ha b hb => ?_⟩
      obtain ⟨z, hz, rfl⟩ := List.mem_map.1 ha
      have hb : b = y.pod := by simpa using hb
      rw [hb]
      exact hno z hz
  · intro hge
    have hi : i = l.length := by omega
    subst hi
    rw [List.take_length] at hnd
    rw [hE, if_pos hnd]
    exact ⟨rfl, h.ext⟩
end Go.Proofs.YthkgbajldkicfaaGreatDoor

namespace Go.Proofs.YthkgbajldkicfaaGreatDoor
set_option linter.unusedVariables false
set_option linter.unusedSimpArgs false
open Go Go.Jo
set_option maxRecDepth 100000

/-- What its kind has alone. -/
def keptM (r : RecM) : RecM :=
  if r.kind = 1 then { zRec with kind := r.kind, node := r.node }
  else if r.kind = 2 then { zRec with kind := r.kind, node := { zNode with name := r.node.name } }
  else if r.kind = 3 then { zRec with kind := r.kind, gang := r.gang, peers := r.peers, places := r.places }
  else if r.kind = 7 then { zRec with kind := r.kind, gang := r.gang, peers := r.peers }
  else { zRec with kind := r.kind, gang := r.gang }
theorem st_storeCG {x : List Nat} {w0 w : World} {L : List Res} {t : TypeId} {b o : Nat} {cs : Array Value} {T : TypeId} {v : Value} {K : World → Prop} (hs : ∀ w, (sizeOf t).run Tryz.prog w = .ok 1 w) (h : St x w0 L w) (n : Nat) (hn : L[n]? = some (.blk b (.cells cs T (0, 0)))) (hc : v.cells = #[v]) (ho : Nat.ble (o + 1) cs.size = true) (hf : flat v = true)
    (hk : ∀ w', Chg [b] w w' → St x w0 (L.set n (.blk b (.cells (cs.setIfInBounds o v) T (0, 0)))) w' → K w') : XStore Tryz.prog t (.pointer (some ⟨b, o, none⟩)) v w K := by
  refine st_storeG hs h n hn (by rw [hc]; rfl) ho (by rw [hc]; simp [hf]) fun w' hg h' => hk w' hg ?_
  rw [hc] at h'
  exact h'
set_option maxHeartbeats 4000000 in
theorem c_fKept {w : World} {r : RecM} {v : Value} (hr : RecAt w r v) : Ret Tryz.prog F_joineryref4_kept #[v] w fun v' w' => RecAt w' (keptM r) v' ∧ Ext w w' := by
  refine call_joineryref4_kept ?_
  have h := St.start w
  unfold S_joineryref4_kept
  obtain ⟨pv, lv, mv, tv, rfl, hp, hl, hm, ht⟩ := hr
  have fm := hm.flat
  have ft := ht.flat
  have fp := hp.flat
  have fl := hl.flat
  refine st_box h ?_
  intro q1 w1 _ h
  refine st_alloc zv_api_Record h ?_
  intro q2 w2 _ h
  rw [fld_api_Record_Kind]
  refine st_load ag_int (v := .int .i64 r.kind) h 1 rfl rfl ?_
  rw [xbuild (v := recV { zRec with kind := r.kind } nilV nilV nilV nilV) (fun w => by kernel_rfl)]
  refine st_alloc zv_api_Record h ?_
  intro q3 w3 _ h
  refine st_store sz_api_Record h 0 rfl rfl rfl rfl ?_
  intro w4 h
  try simp only [go_sem] at h
  have h : St [] w [.blk q3 (recO { zRec with kind := r.kind } nilV nilV nilV nilV), .blk q2 (recO zRec nilV nilV nilV nilV), .blk q1 (recO r pv lv mv tv)] w4 := h
  rw [fld_api_Record_Kind]
  refine st_load ag_int (v := .int .i64 r.kind) h 2 rfl rfl ?_
  have fin : ∀ {w' : World} {k : RecM} {p2 l2 m2 t2 : Value}, keptM r = k → Flats p2 l2 m2 t2 → Row w 1 p2 k.peers.length (intsL k.peers) → Row w 5 l2 k.places.length (placesL k.places) → Row w 1 m2 k.node.marks.length (strsL k.node.marks) → Row w 1 t2 k.node.taints.length (strsL k.node.taints) →
      St [] w [.blk q3 (recO k p2 l2 m2 t2), .blk q2 (recO zRec nilV nilV nilV nilV), .blk q1 (recO r pv lv mv tv)] w' →
      XLoad Tryz.prog T_api_Record (pt q3) w' fun v w5 => XStore Tryz.prog T_api_Record (pt q2) v w5 fun w6 => XLoad Tryz.prog T_api_Record (pt q2) w6 fun r1 w7 => w7 = w6 ∧ (RecAt w6 (keptM r) r1 ∧ Ext w w6) := fun hk hf h1 h2 h3 h4 h => by
    refine st_loadW ag_api_Record sz_api_Record h 0 rfl rfl ?_
    refine st_store sz_api_Record h 1 rfl rfl rfl (hf.all _) ?_
    intro w6 h
    try simp only [go_sem] at h
    refine st_loadW ag_api_Record sz_api_Record h 1 rfl rfl ⟨rfl, ?_, h.ext⟩
    rw [hk]
    exact ⟨_, _, _, _, rfl, h1.mono h.ext, h2.mono h.ext, h3.mono h.ext, h4.mono h.ext⟩
  rw [xeql]
  refine xc_dec ?_ ?_
  · intro k1
    rw [fld_api_Record_Node]
    refine st_loadN ag_api_Node sz_api_Node h 2 rfl rfl (vs := nodeC r.node.name r.node.cap mv tv r.node.closed) rfl ?_
    rw [fld_api_Record_Node]
    have hflat : (nodeC r.node.name r.node.cap mv tv r.node.closed).all flat = true := by
      simp only [nodeC, List.all_cons, List.all_nil, fm.1, ft.1]
      rfl
    refine st_store sz_api_Node h 0 rfl rfl rfl hflat ?_
    intro w5 h
    try simp only [go_sem] at h
    have h : St [] w [.blk q3 (recO { zRec with kind := r.kind, node := r.node } nilV nilV mv tv), .blk q2 (recO zRec nilV nilV nilV nilV), .blk q1 (recO r pv lv mv tv)] w5 := h
    exact fin (k := { zRec with kind := r.kind, node := r.node }) (by unfold keptM; rw [if_pos k1]) ⟨rfl, rfl, fm.1, ft.1⟩ (Row.nil _ _) (Row.nil _ _) hm ht h
  intro k1
  rw [xeql]
  refine xc_dec ?_ ?_
  · intro k2
    rw [fld_api_Record_Node, fld_api_Node_Name]
    refine st_load ag_string (v := S r.node.name) h 2 rfl rfl ?_
    rw [fld_api_Record_Node, fld_api_Node_Name]
    refine st_storeC sz_string h 0 rfl rfl rfl rfl ?_
    intro w5 h
    try simp only [go_sem] at h
    have h : St [] w [.blk q3 (recO { zRec with kind := r.kind, node := { zNode with name := r.node.name } } nilV nilV nilV nilV), .blk q2 (recO zRec nilV nilV nilV nilV), .blk q1 (recO r pv lv mv tv)] w5 := h
    exact fin (k := { zRec with kind := r.kind, node := { zNode with name := r.node.name } }) (by unfold keptM; rw [if_neg k1, if_pos k2]) ⟨rfl, rfl, rfl, rfl⟩ (Row.nil _ _) (Row.nil _ _) (Row.nil _ _) (Row.nil _ _) h
  intro k2
  rw [xeql]
  refine xc_dec ?_ ?_
  · intro k3
    have h := h.step (Ext.drew _)
    refine ⟨Chg [q3], Eq, preChg _, .pointer (some ⟨q1, 0 + 1, none⟩), fun w3 => by rw [fld_api_Record_Gang]; exact ⟨rfl, rfl⟩, .int .i64 r.gang, fun w3 e3 => st_load ag_int (St.mod h e3) 1 rfl rfl ⟨rfl, rfl⟩, .pointer (some ⟨q1, 0 + 2, none⟩), fun w3 => by rw [fld_api_Record_Peers]; exact ⟨rfl, rfl⟩, pv, fun w3 e3 => st_load ag_sl_int (St.mod h e3) 1 rfl rfl ⟨rfl, rfl⟩, .pointer (some ⟨q1, 0 + 3, none⟩), fun w3 => by rw [fld_api_Record_Places]; exact ⟨rfl, rfl⟩, lv, fun w3 e3 => st_load ag_sl_api_Place (St.mod h e3) 1 rfl rfl ⟨rfl, rfl⟩, .pointer (some ⟨q3, 0 + 1, none⟩), fun w3 => by rw [fld_api_Record_Gang]; exact ⟨rfl, rfl⟩, ?_⟩
    rintro w5 rfl
    refine st_storeCG sz_int h 0 rfl rfl rfl rfl ?_
    intro w6 hc h
    try simp only [go_sem] at h
    refine ⟨hc, .pointer (some ⟨q3, 0 + 2, none⟩), fun w3 => by rw [fld_api_Record_Peers]; exact ⟨rfl, rfl⟩, ?_⟩
    rintro w7 rfl
    refine st_storeCG sz_sl_int h 0 rfl fp.2 rfl fp.1 ?_
    intro w8 hc h
    try simp only [go_sem] at h
    refine ⟨hc, .pointer (some ⟨q3, 0 + 3, none⟩), fun w3 => by rw [fld_api_Record_Places]; exact ⟨rfl, rfl⟩, ?_⟩
    rintro w9 rfl
    refine st_storeC sz_sl_api_Place h 0 rfl fl.2 rfl fl.1 ?_
    intro w10 h
    try simp only [go_sem] at h
    have h : St [] w [.blk q3 (recO { zRec with kind := r.kind, gang := r.gang, peers := r.peers, places := r.places } pv lv nilV nilV), .blk q2 (recO zRec nilV nilV nilV nilV), .blk q1 (recO r pv lv mv tv)] w10 := h
    exact fin (k := { zRec with kind := r.kind, gang := r.gang, peers := r.peers, places := r.places }) (by unfold keptM; rw [if_neg k1, if_neg k2, if_pos k3]) ⟨fp.1, fl.1, rfl, rfl⟩ hp hl (Row.nil _ _) (Row.nil _ _) h
  intro k3
  rw [xeql]
  refine xc_dec ?_ ?_
  · intro k7
    have h := h.step (Ext.drew _)
    refine ⟨Chg [q3], Eq, preChg _, .pointer (some ⟨q1, 0 + 1, none⟩), fun w3 => by rw [fld_api_Record_Gang]; exact ⟨rfl, rfl⟩, .int .i64 r.gang, fun w3 e3 => st_load ag_int (St.mod h e3) 1 rfl rfl ⟨rfl, rfl⟩, .pointer (some ⟨q1, 0 + 2, none⟩), fun w3 => by rw [fld_api_Record_Peers]; exact ⟨rfl, rfl⟩, pv, fun w3 e3 => st_load ag_sl_int (St.mod h e3) 1 rfl rfl ⟨rfl, rfl⟩, .pointer (some ⟨q3, 0 + 1, none⟩), fun w3 => by rw [fld_api_Record_Gang]; exact ⟨rfl, rfl⟩, ?_⟩
    rintro w5 rfl
    refine st_storeCG sz_int h 0 rfl rfl rfl rfl ?_
    intro w6 hc h
    try simp only [go_sem] at h
    refine ⟨hc, .pointer (some ⟨q3, 0 + 2, none⟩), fun w3 => by rw [fld_api_Record_Peers]; exact ⟨rfl, rfl⟩, ?_⟩
    rintro w7 rfl
    refine st_storeC sz_sl_int h 0 rfl fp.2 rfl fp.1 ?_
    intro w8 h
    try simp only [go_sem] at h
    have h : St [] w [.blk q3 (recO { zRec with kind := r.kind, gang := r.gang, peers := r.peers } pv nilV nilV nilV), .blk q2 (recO zRec nilV nilV nilV nilV), .blk q1 (recO r pv lv mv tv)] w8 := h
    exact fin (k := { zRec with kind := r.kind, gang := r.gang, peers := r.peers }) (by unfold keptM; rw [if_neg k1, if_neg k2, if_neg k3, if_pos k7]) ⟨fp.1, rfl, rfl, rfl⟩ hp (Row.nil _ _) (Row.nil _ _) (Row.nil _ _) h
  intro k7
  rw [fld_api_Record_Gang]
  refine st_load ag_int (v := .int .i64 r.gang) h 2 rfl rfl ?_
  rw [fld_api_Record_Gang]
  refine st_storeC sz_int h 0 rfl rfl rfl rfl ?_
  intro w5 h
  try simp only [go_sem] at h
  have h : St [] w [.blk q3 (recO { zRec with kind := r.kind, gang := r.gang } nilV nilV nilV nilV), .blk q2 (recO zRec nilV nilV nilV nilV), .blk q1 (recO r pv lv mv tv)] w5 := h
  exact fin (k := { zRec with kind := r.kind, gang := r.gang }) (by unfold keptM; rw [if_neg k1, if_neg k2, if_neg k3, if_neg k7]) ⟨rfl, rfl, rfl, rfl⟩ (Row.nil _ _) (Row.nil _ _) (Row.nil _ _) (Row.nil _ _) h
theorem bare_iff (n : NodeM) : bareM n = true ↔ n = { zNode with name := n.name } := by
  obtain ⟨a, b, c, d, e⟩ := n
  unfold bareM
  simp only [Bool.and_eq_true, decide_eq_true_eq, Bool.not_eq_true', zNode, NodeM.mk.injEq, true_and]
  constructor
  · rintro ⟨⟨h1, h2⟩, h3⟩
    exact ⟨h1, List.eq_nil_of_length_eq_zero (by omega), List.eq_nil_of_length_eq_zero (by omega), h3⟩
  · rintro ⟨h1, rfl, rfl, h3⟩
    exact ⟨⟨h1, rfl⟩, h3⟩
theorem kept_iff {r : RecM} (h1 : 1 ≤ r.kind) (h7 : r.kind ≤ 7) : (!decide (r = keptM r)) = moreM r := by
  have key : (r = keptM r) ↔ moreM r = false := by
    obtain ⟨k, g, ps, pl, n⟩ := r
    simp only at h1 h7
    have hk : k = 1 ∨ k = 2 ∨ k = 3 ∨ k = 4 ∨ k = 5 ∨ k = 6 ∨ k = 7 := by omega
    have hb := bare_iff n
    have hn : n = zNode ↔ bareM n = true ∧ n.name = [] := by
      rw [hb]
      constructor
      · rintro rfl
        exact ⟨rfl, rfl⟩
      · rintro ⟨h, h2⟩
        rw [h, h2]
        rfl
    rcases hk with rfl | rfl | rfl | rfl | rfl | rfl | rfl
    · simp [keptM, moreM, zRec, gangsM, peeredI, and_assoc]
    · rw [show keptM ⟨2, g, ps, pl, n⟩ = ⟨2, 0, [], [], { zNode with name := n.name }⟩ from rfl, show moreM ⟨2, g, ps, pl, n⟩ = (if (decide (g ≠ 0) || !ps.isEmpty || !pl.isEmpty) = true then true else (!bareM n || false)) by simp [moreM, gangsM, peeredI]]
      rw [RecM.mk.injEq, ← hb]
      clear hb hn
      cases bareM n <;> by_cases hg : g = 0 <;> cases ps <;> cases pl <;> simp [hg]
    · rw [show keptM ⟨3, g, ps, pl, n⟩ = ⟨3, g, ps, pl, zNode⟩ from rfl, show moreM ⟨3, g, ps, pl, n⟩ = (!bareM n || decide (n.name ≠ [])) by simp [moreM, gangsM, peeredI]]
      rw [RecM.mk.injEq, hn]
      clear hb hn
      cases bareM n <;> simp
    · rw [show keptM ⟨4, g, ps, pl, n⟩ = ⟨4, g, [], [], zNode⟩ from rfl, show moreM ⟨4, g, ps, pl, n⟩ = (if (!ps.isEmpty || !pl.isEmpty) = true then true else (!bareM n || decide (n.name ≠ []))) by simp [moreM, gangsM, peeredI]]
      rw [RecM.mk.injEq, hn]
      clear hb hn
      cases bareM n <;> cases ps <;> cases pl <;> simp
    · rw [show keptM ⟨5, g, ps, pl, n⟩ = ⟨5, g, [], [], zNode⟩ from rfl, show moreM ⟨5, g, ps, pl, n⟩ = (if (!ps.isEmpty || !pl.isEmpty) = true then true else (!bareM n || decide (n.name ≠ []))) by simp [moreM, gangsM, peeredI]]
      rw [RecM.mk.injEq, hn]
      clear hb hn
      cases bareM n <;> cases ps <;> cases pl <;> simp
    · rw [show keptM ⟨6, g, ps, pl, n⟩ = ⟨6, g, [], [], zNode⟩ from rfl, show moreM ⟨6, g, ps, pl, n⟩ = (if (!ps.isEmpty || !pl.isEmpty) = true then true else (!bareM n || decide (n.name ≠ []))) by simp [moreM, gangsM, peeredI]]
      rw [RecM.mk.injEq, hn]
      clear hb hn
      cases bareM n <;> cases ps <;> cases pl <;> simp
    · rw [show keptM ⟨7, g, ps, pl, n⟩ = ⟨7, g, ps, [], zNode⟩ from rfl, show moreM ⟨7, g, ps, pl, n⟩ = (if (!pl.isEmpty) = true then true else (!bareM n || decide (n.name ≠ []))) by simp [moreM, gangsM, peeredI]]
      rw [RecM.mk.injEq, hn]
      clear hb hn
      cases bareM n <;> cases pl <;> simp
  cases hm : moreM r
  · rw [decide_eq_true (key.2 hm)]; rfl
  · rw [decide_eq_false fun h => by rw [key.1 h] at hm; cases hm]; rfl
end Go.Proofs.YthkgbajldkicfaaGreatDoor

namespace Go.Proofs.YthkgbajldkicfaaGreatDoor
set_option linter.unusedVariables false
set_option linter.unusedSimpArgs false
open Go Go.Jo
set_option maxRecDepth 100000

theorem xgS' {b : Bool} {p q : Prop} (h : p) : XG (.bool b) b p q := by rw [xg_same]; exact h
set_option maxHeartbeats 4000000 in
theorem c_fCheck {w : World} {r : RecM} {v : Value} (hr : RecAt w r v) (hz : RecSmall r) (h1 : 1 ≤ r.kind) (h7 : r.kind ≤ 7) : RetV Tryz.prog F_joineryref4_Check #[v] w (.int .i64 (checkM r)) := by
  refine call_joineryref4_Check ?_
  have hr0 := hr
  have h := St.start w
  unfold S_joineryref4_Check
  obtain ⟨pv, lv, mv, tv, rfl, hp, hl, hm, ht⟩ := hr
  refine st_box h ?_
  intro b w1 hb h
  try simp only [go_sem] at h
  have h : St [] w [.blk b (recO r pv lv mv tv)] w1 := h
  have h := h.step (Ext.drew _)
  have e1 := h.ext
  refine ⟨Ext, Ext, preExt, .pointer (some ⟨b, 0 + 0, none⟩), fun w3 => by rw [fld_api_Record_Kind]; exact ⟨rfl, rfl⟩, .int .i64 r.kind, fun w3 e3 => st_load ag_int (h.step e3) 0 rfl rfl ⟨rfl, Ext.refl _⟩, .bool false, fun w3 => by rw [xlss, decide_eq_false (by omega)]; exact ⟨rfl, rfl⟩, .pointer (some ⟨b, 0 + 0, none⟩), xgS' fun w3 => by rw [fld_api_Record_Kind]; exact ⟨rfl, rfl⟩, .int .i64 r.kind, xgS' fun w3 e3 => st_load ag_int (h.step e3) 0 rfl rfl ⟨rfl, Ext.refl _⟩, .bool false, xgS' fun w3 => by rw [xgtr, decide_eq_false (by omega)]; exact ⟨rfl, rfl⟩, .bool false, fun w3 => by rw [xpick_false]; exact ⟨rfl, rfl⟩, recV r pv lv mv tv, xgS' fun w3 e3 => st_loadW ag_api_Record sz_api_Record (h.step e3) 0 rfl rfl ⟨rfl, Ext.refl _⟩, recV r pv lv mv tv, xgS' fun w3 e3 => st_loadW ag_api_Record sz_api_Record (h.step e3) 0 rfl rfl ⟨rfl, Ext.refl _⟩, fun w2 e2 => ?_⟩
  have h := h.step e2
  rw [xg_same]
  refine xcall_of (en_joineryref4_kept _) (c_fKept (hr0.mono h.ext)) ?_
  rintro v3 w3 ⟨hk, e3⟩
  have h := h.step e3
  refine ⟨e3, fun w4 e4 => ?_⟩
  have h := h.step e4
  rw [xg_same]
  refine st_callV en_joineryref4_Same (c_rSame (hr0.mono h.ext) (hk.mono e4) hz) h ?_
  intro w5 h
  have hmm := kept_iff h1 h7
  refine ⟨.bool (moreM r), xgS' fun w3 => by rw [xnot, hmm]; exact ⟨rfl, rfl⟩, .bool (moreM r), fun w3 => by rw [xpick_false]; exact ⟨rfl, rfl⟩, ?_⟩
  refine xc_of ?_ ?_
  · intro hmt
    refine ⟨?_, h.ext⟩
    rw [checkM, if_pos (.inr (.inr hmt))]
  intro hmf
  have hc0 : ¬ (r.kind < 1 ∨ 7 < r.kind ∨ moreM r = true) := by
    rintro (hh | hh | hh)
    · omega
    · omega
    · rw [hmf] at hh; cases hh
  rw [fld_api_Record_Kind]
  refine st_load ag_int (v := .int .i64 r.kind) h 0 rfl rfl ?_
  rw [xeql]
  refine xc_dec ?_ ?_
  · intro k1
    rw [fld_api_Record_Node]
    refine st_loadN ag_api_Node sz_api_Node h 0 rfl rfl (vs := nodeC r.node.name r.node.cap mv tv r.node.closed) rfl ?_
    refine st_callV en_joineryref3_Node (c_fNode (hm.mono h.ext) (ht.mono h.ext) hz.node) h ?_
    intro w6 h
    refine ⟨?_, h.ext⟩
    rw [checkM, if_neg hc0, if_pos k1]
  intro k1
  rw [xeql]
  refine xc_dec ?_ ?_
  · intro k2
    rw [fld_api_Record_Node, fld_api_Node_Name]
    refine st_load ag_string (v := S r.node.name) h 0 rfl rfl ?_
    refine st_callV en_joineryref2_Name (c_fMarkName _ _ hz.node.name) h ?_
    intro w6 h
    rw [xnot]
    refine xc_of ?_ ?_
    · intro hn
      refine ⟨?_, h.ext⟩
      rw [checkM, if_neg hc0, if_neg k1, if_pos ⟨k2, by simpa using hn⟩]
    · intro hn
      refine ⟨?_, h.ext⟩
      rw [checkM, if_neg hc0, if_neg k1, if_neg (by rw [show nameM r.node.name = true by simpa using hn]; simp), if_pos k2]
  intro k2
  have hc : checkM r = if r.gang < 1 ∨ 999999 < r.gang ∨ peeredI r.kind = true ∧ risingM r.peers = false then 2 else if r.kind = 3 then placesE r.places else 0 := by
    rw [checkM, if_neg hc0, if_neg k1, if_neg (fun hh => k2 hh.1), if_neg k2]
  rw [fld_api_Record_Gang]
  refine st_load ag_int (v := .int .i64 r.gang) h 0 rfl rfl ?_
  rw [xlss]
  refine or_st h (decide (999999 < r.gang)) ?_ ?_
  · intro _ J hJ
    rw [fld_api_Record_Gang]
    refine st_load ag_int (v := .int .i64 r.gang) h 0 rfl rfl ?_
    rw [xgtr]
    exact hJ _ h
  intro w6 h
  cases hq : decide (r.gang < 1) || decide (999999 < r.gang)
  · rw [Bool.or_eq_false_iff, decide_eq_false_iff_not, decide_eq_false_iff_not] at hq
    have tail : ∀ {w' : World} (hnp : ¬ (peeredI r.kind = true ∧ risingM r.peers = false)), St [] w [.blk b (recO r pv lv mv tv)] w' →
        XFld Tryz.prog T_api_Record (pt b) 0 w' fun v56 w58 => XLoad Tryz.prog T_int v56 w58 fun v57 w59 => XBin Tryz.prog .eql 3 false true v57 (Value.int .i64 3) w59 fun v58 w60 => XC v58 (XFld Tryz.prog T_api_Record (pt b) 3 w60 fun v59 w61 => XLoad Tryz.prog T_sl_api_Place v59 w61 fun v60 w62 => XCall Tryz.prog F_joineryref4_places #[v60] w62 fun v61 w63 => v61 = .int .i64 (checkM r) ∧ Ext w w63) ((.int .i64 0 : Value) = .int .i64 (checkM r) ∧ Ext w w60) := fun hnp h => by
      have hc2 : checkM r = if r.kind = 3 then placesE r.places else 0 := by
        rw [hc, if_neg]
        rintro (hh | hh | hh)
        · exact hq.1 hh
        · exact hq.2 hh
        · exact hnp hh
      rw [fld_api_Record_Kind]
      refine st_load ag_int (v := .int .i64 r.kind) h 0 rfl rfl ?_
      rw [xeql]
      refine xc_dec ?_ ?_
      · intro k3
        rw [fld_api_Record_Places]
        refine st_load ag_sl_api_Place h 0 rfl rfl ?_
        refine st_callV en_joineryref4_places (c_fPlaces (hl.mono h.ext) hz.pod) h ?_
        intro w7 h
        rw [hc2, if_pos k3]
        exact ⟨rfl, h.ext⟩
      · intro k3
        rw [hc2, if_neg k3]
        exact ⟨rfl, h.ext⟩
    have peer : ∀ {w' : World} {K : Value → World → Prop}, St [] w [.blk b (recO r pv lv mv tv)] w' → (∀ w'', St [] w [.blk b (recO r pv lv mv tv)] w'' → K (.bool (!risingM r.peers)) w'') → XFld Tryz.prog T_api_Record (pt b) 2 w' fun v50 w64 => XLoad Tryz.prog T_sl_int v50 w64 fun v51 w65 => XCall Tryz.prog F_joineryref4_peers #[v51] w65 fun v52 w66 => XUn Tryz.prog .not v52 w66 K := fun h hK => by
      rw [fld_api_Record_Peers]
      refine st_load ag_sl_int h 0 rfl rfl ?_
      refine st_callV en_joineryref4_peers (c_fPeers (hp.mono h.ext) (by have := hz.peers; omega)) h ?_
      intro w7 h
      rw [xnot]
      exact hK _ h
    have kin : ∀ {w' : World} {K : Value → World → Prop}, St [] w [.blk b (recO r pv lv mv tv)] w' → K (.int .i64 r.kind) w' → XFld Tryz.prog T_api_Record (pt b) 0 w' fun v41 w71 => XLoad Tryz.prog T_int v41 w71 K := fun h hK => by
      rw [fld_api_Record_Kind]
      exact st_load ag_int (v := .int .i64 r.kind) h 0 rfl rfl hK
    repeat first
      | refine Exists.intro _ (And.intro (fun _ _ _ hh => hh) ?_)
      | rw [xnot, Bool.not_true]
      | rw [xnot, Bool.not_false]
      | rw [xgeq, decide_eq_true (by omega)]
      | rw [xgeq, decide_eq_false (by omega)]
      | rw [xleq, decide_eq_true (by omega)]
      | rw [xleq, decide_eq_false (by omega)]
      | rw [xlss, decide_eq_true (by omega)]
      | rw [xlss, decide_eq_false (by omega)]
      | rw [xgtr, decide_eq_true (by omega)]
      | rw [xgtr, decide_eq_false (by omega)]
      | rw [xeql, decide_eq_true (by omega)]
      | rw [xeql, decide_eq_false (by omega)]
      | rw [xpick_true]
      | rw [xpick_false]
      | rw [xg_same]
      | rw [xg_tf]
      | rw [xg_ft]
      | rw [xg_undef]
      | rw [xc_true]
      | rw [xc_false]
    refine kin h ?_
    by_cases k3 : r.kind = 3
    · have hpk : peeredI r.kind = true := by rw [k3]; rfl
      repeat first
        | refine Exists.intro _ (And.intro (fun _ _ _ hh => hh) ?_)
        | rw [xnot, Bool.not_true]
        | rw [xnot, Bool.not_false]
        | rw [xgeq, decide_eq_true (by omega)]
        | rw [xgeq, decide_eq_false (by omega)]
        | rw [xleq, decide_eq_true (by omega)]
        | rw [xleq, decide_eq_false (by omega)]
        | rw [xlss, decide_eq_true (by omega)]
        | rw [xlss, decide_eq_false (by omega)]
        | rw [xgtr, decide_eq_true (by omega)]
        | rw [xgtr, decide_eq_false (by omega)]
        | rw [xeql, decide_eq_true (by omega)]
        | rw [xeql, decide_eq_false (by omega)]
        | rw [xpick_true]
        | rw [xpick_false]
        | rw [xg_same]
        | rw [xg_tf]
        | rw [xg_ft]
        | rw [xg_undef]
        | rw [xc_true]
        | rw [xc_false]
      refine peer h fun w7 h => ?_
      cases hrs : risingM r.peers
      · repeat first
          | refine Exists.intro _ (And.intro (fun _ _ _ hh => hh) ?_)
          | rw [xnot, Bool.not_true]
          | rw [xnot, Bool.not_false]
          | rw [xgeq, decide_eq_true (by omega)]
          | rw [xgeq, decide_eq_false (by omega)]
          | rw [xleq, decide_eq_true (by omega)]
          | rw [xleq, decide_eq_false (by omega)]
          | rw [xlss, decide_eq_true (by omega)]
          | rw [xlss, decide_eq_false (by omega)]
          | rw [xgtr, decide_eq_true (by omega)]
          | rw [xgtr, decide_eq_false (by omega)]
          | rw [xeql, decide_eq_true (by omega)]
          | rw [xeql, decide_eq_false (by omega)]
          | rw [xpick_true]
          | rw [xpick_false]
          | rw [xg_same]
          | rw [xg_tf]
          | rw [xg_ft]
          | rw [xg_undef]
          | rw [xc_true]
          | rw [xc_false]
        refine ⟨?_, h.ext⟩
        rw [hc, if_pos (.inr (.inr ⟨hpk, hrs⟩))]
      · rw [Bool.not_true]
        repeat first
          | refine Exists.intro _ (And.intro (fun _ _ _ hh => hh) ?_)
          | rw [xnot, Bool.not_true]
          | rw [xnot, Bool.not_false]
          | rw [xgeq, decide_eq_true (by omega)]
          | rw [xgeq, decide_eq_false (by omega)]
          | rw [xleq, decide_eq_true (by omega)]
          | rw [xleq, decide_eq_false (by omega)]
          | rw [xlss, decide_eq_true (by omega)]
          | rw [xlss, decide_eq_false (by omega)]
          | rw [xgtr, decide_eq_true (by omega)]
          | rw [xgtr, decide_eq_false (by omega)]
          | rw [xeql, decide_eq_true (by omega)]
          | rw [xeql, decide_eq_false (by omega)]
          | rw [xpick_true]
          | rw [xpick_false]
          | rw [xg_same]
          | rw [xg_tf]
          | rw [xg_ft]
          | rw [xg_undef]
          | rw [xc_true]
          | rw [xc_false]
        exact tail (by rw [hrs]; simp) h
    · repeat first
        | refine Exists.intro _ (And.intro (fun _ _ _ hh => hh) ?_)
        | rw [xnot, Bool.not_true]
        | rw [xnot, Bool.not_false]
        | rw [xgeq, decide_eq_true (by omega)]
        | rw [xgeq, decide_eq_false (by omega)]
        | rw [xleq, decide_eq_true (by omega)]
        | rw [xleq, decide_eq_false (by omega)]
        | rw [xlss, decide_eq_true (by omega)]
        | rw [xlss, decide_eq_false (by omega)]
        | rw [xgtr, decide_eq_true (by omega)]
        | rw [xgtr, decide_eq_false (by omega)]
        | rw [xeql, decide_eq_true (by omega)]
        | rw [xeql, decide_eq_false (by omega)]
        | rw [xpick_true]
        | rw [xpick_false]
        | rw [xg_same]
        | rw [xg_tf]
        | rw [xg_ft]
        | rw [xg_undef]
        | rw [xc_true]
        | rw [xc_false]
      refine kin h ?_
      by_cases k7 : r.kind = 7
      · have hpk : peeredI r.kind = true := by rw [k7]; rfl
        repeat first
          | refine Exists.intro _ (And.intro (fun _ _ _ hh => hh) ?_)
          | rw [xnot, Bool.not_true]
          | rw [xnot, Bool.not_false]
          | rw [xgeq, decide_eq_true (by omega)]
          | rw [xgeq, decide_eq_false (by omega)]
          | rw [xleq, decide_eq_true (by omega)]
          | rw [xleq, decide_eq_false (by omega)]
          | rw [xlss, decide_eq_true (by omega)]
          | rw [xlss, decide_eq_false (by omega)]
          | rw [xgtr, decide_eq_true (by omega)]
          | rw [xgtr, decide_eq_false (by omega)]
          | rw [xeql, decide_eq_true (by omega)]
          | rw [xeql, decide_eq_false (by omega)]
          | rw [xpick_true]
          | rw [xpick_false]
          | rw [xg_same]
          | rw [xg_tf]
          | rw [xg_ft]
          | rw [xg_undef]
          | rw [xc_true]
          | rw [xc_false]
        refine peer h fun w7 h => ?_
        cases hrs : risingM r.peers
        · repeat first
            | refine Exists.intro _ (And.intro (fun _ _ _ hh => hh) ?_)
            | rw [xnot, Bool.not_true]
            | rw [xnot, Bool.not_false]
            | rw [xgeq, decide_eq_true (by omega)]
            | rw [xgeq, decide_eq_false (by omega)]
            | rw [xleq, decide_eq_true (by omega)]
            | rw [xleq, decide_eq_false (by omega)]
            | rw [xlss, decide_eq_true (by omega)]
            | rw [xlss, decide_eq_false (by omega)]
            | rw [xgtr, decide_eq_true (by omega)]
            | rw [xgtr, decide_eq_false (by omega)]
            | rw [xeql, decide_eq_true (by omega)]
            | rw [xeql, decide_eq_false (by omega)]
            | rw [xpick_true]
            | rw [xpick_false]
            | rw [xg_same]
            | rw [xg_tf]
            | rw [xg_ft]
            | rw [xg_undef]
            | rw [xc_true]
            | rw [xc_false]
          refine ⟨?_, h.ext⟩
          rw [hc, if_pos (.inr (.inr ⟨hpk, hrs⟩))]
        · rw [Bool.not_true]
          repeat first
            | refine Exists.intro _ (And.intro (fun _ _ _ hh => hh) ?_)
            | rw [xnot, Bool.not_true]
            | rw [xnot, Bool.not_false]
            | rw [xgeq, decide_eq_true (by omega)]
            | rw [xgeq, decide_eq_false (by omega)]
            | rw [xleq, decide_eq_true (by omega)]
            | rw [xleq, decide_eq_false (by omega)]
            | rw [xlss, decide_eq_true (by omega)]
            | rw [xlss, decide_eq_false (by omega)]
            | rw [xgtr, decide_eq_true (by omega)]
            | rw [xgtr, decide_eq_false (by omega)]
            | rw [xeql, decide_eq_true (by omega)]
            | rw [xeql, decide_eq_false (by omega)]
            | rw [xpick_true]
            | rw [xpick_false]
            | rw [xg_same]
            | rw [xg_tf]
            | rw [xg_ft]
            | rw [xg_undef]
            | rw [xc_true]
            | rw [xc_false]
          exact tail (by rw [hrs]; simp) h
      · have hpk : peeredI r.kind = false := by
          unfold peeredI
          rw [decide_eq_false k3, decide_eq_false k7]
          rfl
        repeat first
          | refine Exists.intro _ (And.intro (fun _ _ _ hh => hh) ?_)
          | rw [xnot, Bool.not_true]
          | rw [xnot, Bool.not_false]
          | rw [xgeq, decide_eq_true (by omega)]
          | rw [xgeq, decide_eq_false (by omega)]
          | rw [xleq, decide_eq_true (by omega)]
          | rw [xleq, decide_eq_false (by omega)]
          | rw [xlss, decide_eq_true (by omega)]
          | rw [xlss, decide_eq_false (by omega)]
          | rw [xgtr, decide_eq_true (by omega)]
          | rw [xgtr, decide_eq_false (by omega)]
          | rw [xeql, decide_eq_true (by omega)]
          | rw [xeql, decide_eq_false (by omega)]
          | rw [xpick_true]
          | rw [xpick_false]
          | rw [xg_same]
          | rw [xg_tf]
          | rw [xg_ft]
          | rw [xg_undef]
          | rw [xc_true]
          | rw [xc_false]
        exact tail (by rw [hpk]; simp) h
  · rw [Bool.or_eq_true, decide_eq_true_eq, decide_eq_true_eq] at hq
    repeat first
      | refine Exists.intro _ (And.intro (fun _ _ _ hh => hh) ?_)
      | rw [xnot, Bool.not_true]
      | rw [xnot, Bool.not_false]
      | rw [xgeq, decide_eq_true (by omega)]
      | rw [xgeq, decide_eq_false (by omega)]
      | rw [xleq, decide_eq_true (by omega)]
      | rw [xleq, decide_eq_false (by omega)]
      | rw [xlss, decide_eq_true (by omega)]
      | rw [xlss, decide_eq_false (by omega)]
      | rw [xgtr, decide_eq_true (by omega)]
      | rw [xgtr, decide_eq_false (by omega)]
      | rw [xeql, decide_eq_true (by omega)]
      | rw [xeql, decide_eq_false (by omega)]
      | rw [xpick_true]
      | rw [xpick_false]
      | rw [xg_same]
      | rw [xg_tf]
      | rw [xg_ft]
      | rw [xg_undef]
      | rw [xc_true]
      | rw [xc_false]
    refine ⟨?_, h.ext⟩
    rw [hc, if_pos]
    rcases hq with hq | hq
    · exact .inl hq
    · exact .inr (.inl hq)
theorem tailM_kind (k : Nat) (r : RecM) (is : Bool) (rest : List Str) : (tailM k r is rest).1.kind = r.kind := by
  unfold tailM
  split <;> rfl
theorem readM_kind {l : List Str} (h : (readM l).2 = true) : 1 ≤ (readM l).1.kind ∧ (readM l).1.kind ≤ 7 := by
  match l, h with
  | [], h => cases h
  | [a], h => cases h
  | a :: b :: rest, h =>
    by_cases k0 : kindM a = 0
    · rw [readM_k0 k0] at h; cases h
    · have h7 := kindM_le a
      have hk := head_kind (kindM a) b
      cases hp : peeredM (kindM a)
      · rw [readM_bare k0 hp, tailM_kind, hk]
        omega
      · cases rest with
        | nil => rw [readM_nil k0 hp] at h; cases h
        | cons c t =>
          rw [readM_peer k0 hp, tailM_kind]
          show 1 ≤ (headM (kindM a) b).1.kind ∧ _
          rw [hk]
          omega
set_option maxHeartbeats 2000000 in
/-- The document's own reading of a line is the program's. -/
theorem c_fParse {w : World} (s : Str) (hs : s.length ≤ 900000) : Ret Tryz.prog F_joineryref4_Parse #[S s] w fun v w' => ∃ pv lv mv tv, v = .tuple #[recV (parseM s).1 pv lv mv tv, .int .i64 (parseM s).2] ∧ St [] w (recR (parseM s).1 pv lv mv tv) w' := by
  refine call_joineryref4_Parse ?_
  have h := St.start w
  unfold S_joineryref4_Parse
  have hw := words_small s
  refine st_alloc zv_api_Record h ?_
  intro b1 w1 hb1 h
  refine st_callE en_joineryref4_Words (c_fWords (by omega)) h ?_
  rintro v0 w2 k mg
  have h := mg _ k
  have hsm := read_small (wordsM s) (by omega) fun x hx => Nat.le_trans (hw.2 x hx) hs
  refine st_callE en_joineryref4_read (c_fRead (Row.of_own (h.atR 0 rfl)) (by omega) fun x hx => Nat.le_trans (hw.2 x hx) (by omega)) h ?_
  rintro v w3 ⟨r, pv, lv, mv, tv, rfl, hre, k⟩ mg
  have h := mg _ k
  have fl : Flats pv lv mv tv := st_flats (r := r) h fun q hq => List.mem_append_left _ hq
  have hz : ∀ {L : List Res} {w' : World}, St [] w L w' → St [] w (recR zRec nilV nilV nilV nilV) w' := fun h => (((h.nil.row0 T_string 1).row0 T_string 1).row0 T_api_Place 5).row0 T_int 1
  rw [xe20, xe21]
  refine st_alloc zv_api_Record h ?_
  intro b4 w4 hb4 h
  refine st_store sz_api_Record h 0 rfl rfl rfl (fl.all _) ?_
  intro w5 h
  try simp only [go_sem] at h
  have h : St [] w (.blk b4 (recO r pv lv mv tv) :: (recR r pv lv mv tv ++ [.row T_string 1 v0 (wordsM s).length (strsL (wordsM s)), .blk b1 (recO zRec nilV nilV nilV nilV)])) w5 := h
  rw [xnot]
  refine xc_of ?_ ?_
  · intro hn
    have hn : (readM (wordsM s)).2 = false := by simpa using hn
    rw [xbuild (v := recV zRec nilV nilV nilV nilV) (fun w => by kernel_rfl)]
    refine put_rec h 6 rfl ⟨rfl, rfl, rfl, rfl⟩ fun w6 h => ?_
    have hp : parseM s = (zRec, 8) := by rw [parseM, if_pos hn]
    rw [hp]
    exact ⟨_, _, _, _, rfl, hz h⟩
  · intro hn
    have hn : (readM (wordsM s)).2 = true := by simpa using hn
    obtain rfl := hre hn
    have hk := readM_kind hn
    refine st_loadW ag_api_Record sz_api_Record h 0 rfl rfl ?_
    refine st_callV en_joineryref4_Check (c_fCheck (recR_at h.drop) hsm hk.1 hk.2) h ?_
    intro w6 h
    rw [xneq]
    refine xc_dec ?_ ?_
    · intro hc
      rw [xbuild (v := recV zRec nilV nilV nilV nilV) (fun w => by kernel_rfl)]
      refine put_rec h 6 rfl ⟨rfl, rfl, rfl, rfl⟩ fun w7 h => ?_
      have hp : parseM s = (zRec, checkM (readM (wordsM s)).1) := by rw [parseM, if_neg (by rw [hn]; simp), if_pos hc]
      rw [hp]
      exact ⟨_, _, _, _, rfl, hz h⟩
    · intro hc
      have hp : parseM s = ((readM (wordsM s)).1, 0) := by rw [parseM, if_neg (by rw [hn]; simp), if_neg hc]
      refine st_loadW ag_api_Record sz_api_Record h 0 rfl rfl ?_
      refine st_store sz_api_Record h 6 rfl rfl rfl (fl.all _) ?_
      intro w7 h
      try simp only [go_sem] at h
      refine st_loadW ag_api_Record sz_api_Record h 6 rfl rfl ?_
      rw [hp]
      exact ⟨rfl, _, _, _, _, rfl, h.pick [1, 2, 3, 4] (by decide) rfl⟩
end Go.Proofs.YthkgbajldkicfaaGreatDoor
