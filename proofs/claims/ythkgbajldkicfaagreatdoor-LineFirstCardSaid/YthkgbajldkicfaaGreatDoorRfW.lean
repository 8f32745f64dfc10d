/-
  The document's own reader: words that are a name, a number, a node, a place, peers.
-/
import Derived.Test.YthkgbajldkicfaaGreatDoorRfV
namespace Go.Proofs.YthkgbajldkicfaaGreatDoor
set_option linter.unusedVariables false
set_option linter.unusedSimpArgs false
open Go Go.Jo
set_option maxRecDepth 100000

theorem c_fReadName {w : World} {s : Str} (hs : s.length ≤ 1000000) : Ret Tryz.prog F_joineryref4_ReadName #[S s] w fun v w' => ∃ t : Str, v = .tuple #[S t, .bool (Rd.name ⟨s, false⟩).2.fin] ∧ ((Rd.name ⟨s, false⟩).2.fin = true → t = (Rd.name ⟨s, false⟩).1) ∧ Ext w w' := by
  refine call_joineryref4_ReadName ?_
  have h := St.start w
  unfold S_joineryref4_ReadName
  rw [xbuild (v := .agg #[S s, .int .i64 0, .bool false]) (fun w => by kernel_rfl)]
  refine st_box h ?_
  intro b w1 hb h
  refine st_callA (A := [.blk b (rfO ⟨s, 0, false⟩)]) en_joineryref4_Reader_Name h (fun k => c_fName (k.at 0 rfl) (Rl.start hs)) ?_
  rintro v w2 ⟨t, p9, b9, rfl, _, hl9, he9, _, k⟩ mg
  have h := mg _ k
  have hfin := hl9.fin
  have h : St [] w [.blk b (.cells #[S s, .int .i64 (p9 : Nat), .bool b9] T_joineryref4_Reader (0, 0))] w2.drew := h.step (Ext.drew _)
  refine ⟨Ext, Ext, preExt, ?_⟩
  have hend : b9 = false → (Rd.name ⟨s, false⟩).2.fin = true → t = (Rd.name ⟨s, false⟩).1 := fun h1 _ => he9 h1
  have hlt := trivial
  cases b9
  · by_cases hpe : p9 = s.length
    · repeat
        apply Exists.intro
        apply And.intro
        · first
            | (rw [xg_ft]; try rfl)
            | (rw [xg_tf]; try rfl)
            | ((try rw [xg_same]); intro w3; first
                | (rw [xnil_ptr]; exact ⟨rfl, rfl⟩)
                | (rw [fld_joineryref4_Reader_S]; exact ⟨rfl, rfl⟩)
                | (rw [fld_joineryref4_Reader_P]; exact ⟨rfl, rfl⟩)
                | (rw [fld_joineryref4_Reader_Bad]; exact ⟨rfl, rfl⟩)
                | (rw [xpick_true]; exact ⟨rfl, rfl⟩)
                | (rw [xpick_false]; exact ⟨rfl, rfl⟩)
                | (rw [xnot, Bool.not_true]; exact ⟨rfl, rfl⟩)
                | (rw [xnot, Bool.not_false]; exact ⟨rfl, rfl⟩)
                | (rw [xnot]; exact ⟨rfl, rfl⟩)
                | (rw [xlen_string und_string]; exact ⟨rfl, rfl⟩)
                | (rw [xix_str und_string _ _ _ hlt]; exact ⟨rfl, rfl⟩)
                | (rw [xgeq, decide_eq_true (by omega)]; exact ⟨rfl, rfl⟩)
                | (rw [xgeq, decide_eq_false (by omega)]; exact ⟨rfl, rfl⟩)
                | (rw [xleq, decide_eq_true (by omega)]; exact ⟨rfl, rfl⟩)
                | (rw [xleq, decide_eq_false (by omega)]; exact ⟨rfl, rfl⟩)
                | (rw [xlss, decide_eq_true (by omega)]; exact ⟨rfl, rfl⟩)
                | (rw [xlss, decide_eq_false (by omega)]; exact ⟨rfl, rfl⟩)
                | (rw [xeql, decide_eq_true (by omega)]; exact ⟨rfl, rfl⟩)
                | (rw [xeql, decide_eq_false (by omega)]; exact ⟨rfl, rfl⟩)
                | (rw [xneq, decide_eq_true (by omega)]; exact ⟨rfl, rfl⟩)
                | (rw [xneq, decide_eq_false (by omega)]; exact ⟨rfl, rfl⟩)
                | (intro e3; first
                    | exact st_load ag_bool (h.step e3) 0 rfl rfl ⟨rfl, Ext.refl _⟩
                    | exact st_load ag_int (h.step e3) 0 rfl rfl ⟨rfl, Ext.refl _⟩
                    | exact st_load ag_string (h.step e3) 0 rfl rfl ⟨rfl, Ext.refl _⟩
                    | exact st_load ag_bool (hm e3) 0 rfl rfl ⟨rfl, rfl⟩
                    | exact st_load ag_int (hm e3) 0 rfl rfl ⟨rfl, rfl⟩
                    | exact st_loadW ag_api_Node sz_api_Node (hm e3) 1 rfl rfl ⟨rfl, rfl⟩
                    | exact st_loadW ag_api_Place sz_api_Place (hm e3) 1 rfl rfl ⟨rfl, rfl⟩
                    | exact xcall_of (en_joineryref4_parting _) (hpt _) fun _ _ hq => hq)
                | (rw [xmul, wi64 (by omega) (by omega)]; exact ⟨rfl, rfl⟩)
                | (rw [xsub, wu8 (by omega) (by omega)]; exact ⟨rfl, rfl⟩)
                | (rw [xconv_int und_uint8 und_int, wi64 (by omega) (by omega)]; exact ⟨rfl, rfl⟩)
                | (rw [xadd, wi64 (by omega) (by omega)]; exact ⟨rfl, rfl⟩)
                | (rw [xslice_mid und_string (by omega) (by omega)]; exact ⟨rfl, rfl⟩)
                | exact ⟨rfl, rfl⟩)
      intro w3 e3
      have h := h.step e3
      have e : (Rd.name ⟨s, false⟩).2.fin = true := by rw [hfin]; simp [hpe]
      exact ⟨Ext.refl _, fun w4 e4 => ⟨t, by rw [e], hend rfl, (h.step e4).ext⟩⟩
    · repeat
        apply Exists.intro
        apply And.intro
        · first
            | (rw [xg_ft]; try rfl)
            | (rw [xg_tf]; try rfl)
            | ((try rw [xg_same]); intro w3; first
                | (rw [xnil_ptr]; exact ⟨rfl, rfl⟩)
                | (rw [fld_joineryref4_Reader_S]; exact ⟨rfl, rfl⟩)
                | (rw [fld_joineryref4_Reader_P]; exact ⟨rfl, rfl⟩)
                | (rw [fld_joineryref4_Reader_Bad]; exact ⟨rfl, rfl⟩)
                | (rw [xpick_true]; exact ⟨rfl, rfl⟩)
                | (rw [xpick_false]; exact ⟨rfl, rfl⟩)
                | (rw [xnot, Bool.not_true]; exact ⟨rfl, rfl⟩)
                | (rw [xnot, Bool.not_false]; exact ⟨rfl, rfl⟩)
                | (rw [xnot]; exact ⟨rfl, rfl⟩)
                | (rw [xlen_string und_string]; exact ⟨rfl, rfl⟩)
                | (rw [xix_str und_string _ _ _ hlt]; exact ⟨rfl, rfl⟩)
                | (rw [xgeq, decide_eq_true (by omega)]; exact ⟨rfl, rfl⟩)
                | (rw [xgeq, decide_eq_false (by omega)]; exact ⟨rfl, rfl⟩)
                | (rw [xleq, decide_eq_true (by omega)]; exact ⟨rfl, rfl⟩)
                | (rw [xleq, decide_eq_false (by omega)]; exact ⟨rfl, rfl⟩)
                | (rw [xlss, decide_eq_true (by omega)]; exact ⟨rfl, rfl⟩)
                | (rw [xlss, decide_eq_false (by omega)]; exact ⟨rfl, rfl⟩)
                | (rw [xeql, decide_eq_true (by omega)]; exact ⟨rfl, rfl⟩)
                | (rw [xeql, decide_eq_false (by omega)]; exact ⟨rfl, rfl⟩)
                | (rw [xneq, decide_eq_true (by omega)]; exact ⟨rfl, rfl⟩)
                | (rw [xneq, decide_eq_false (by omega)]; exact ⟨rfl, rfl⟩)
                | (intro e3; first
                    | exact st_load ag_bool (h.step e3) 0 rfl rfl ⟨rfl, Ext.refl _⟩
                    | exact st_load ag_int (h.step e3) 0 rfl rfl ⟨rfl, Ext.refl _⟩
                    | exact st_load ag_string (h.step e3) 0 rfl rfl ⟨rfl, Ext.refl _⟩
                    | exact st_load ag_bool (hm e3) 0 rfl rfl ⟨rfl, rfl⟩
                    | exact st_load ag_int (hm e3) 0 rfl rfl ⟨rfl, rfl⟩
                    | exact st_loadW ag_api_Node sz_api_Node (hm e3) 1 rfl rfl ⟨rfl, rfl⟩
                    | exact st_loadW ag_api_Place sz_api_Place (hm e3) 1 rfl rfl ⟨rfl, rfl⟩
                    | exact xcall_of (en_joineryref4_parting _) (hpt _) fun _ _ hq => hq)
                | (rw [xmul, wi64 (by omega) (by omega)]; exact ⟨rfl, rfl⟩)
                | (rw [xsub, wu8 (by omega) (by omega)]; exact ⟨rfl, rfl⟩)
                | (rw [xconv_int und_uint8 und_int, wi64 (by omega) (by omega)]; exact ⟨rfl, rfl⟩)
                | (rw [xadd, wi64 (by omega) (by omega)]; exact ⟨rfl, rfl⟩)
                | (rw [xslice_mid und_string (by omega) (by omega)]; exact ⟨rfl, rfl⟩)
                | exact ⟨rfl, rfl⟩)
      intro w3 e3
      have h := h.step e3
      have e : (Rd.name ⟨s, false⟩).2.fin = false := by rw [hfin]; simp [hpe]
      exact ⟨Ext.refl _, fun w4 e4 => ⟨t, by rw [e], hend rfl, (h.step e4).ext⟩⟩
  · repeat
      apply Exists.intro
      apply And.intro
      · first
          | (rw [xg_ft]; try rfl)
          | (rw [xg_tf]; try rfl)
          | ((try rw [xg_same]); intro w3; first
              | (rw [xnil_ptr]; exact ⟨rfl, rfl⟩)
              | (rw [fld_joineryref4_Reader_S]; exact ⟨rfl, rfl⟩)
              | (rw [fld_joineryref4_Reader_P]; exact ⟨rfl, rfl⟩)
              | (rw [fld_joineryref4_Reader_Bad]; exact ⟨rfl, rfl⟩)
              | (rw [xpick_true]; exact ⟨rfl, rfl⟩)
              | (rw [xpick_false]; exact ⟨rfl, rfl⟩)
              | (rw [xnot, Bool.not_true]; exact ⟨rfl, rfl⟩)
              | (rw [xnot, Bool.not_false]; exact ⟨rfl, rfl⟩)
              | (rw [xnot]; exact ⟨rfl, rfl⟩)
              | (rw [xlen_string und_string]; exact ⟨rfl, rfl⟩)
              | (rw [xix_str und_string _ _ _ hlt]; exact ⟨rfl, rfl⟩)
              | (rw [xgeq, decide_eq_true (by omega)]; exact ⟨rfl, rfl⟩)
              | (rw [xgeq, decide_eq_false (by omega)]; exact ⟨rfl, rfl⟩)
              | (rw [xleq, decide_eq_true (by omega)]; exact ⟨rfl, rfl⟩)
              | (rw [xleq, decide_eq_false (by omega)]; exact ⟨rfl, rfl⟩)
              | (rw [xlss, decide_eq_true (by omega)]; exact ⟨rfl, rfl⟩)
              | (rw [xlss, decide_eq_false (by omega)]; exact ⟨rfl, rfl⟩)
              | (rw [xeql, decide_eq_true (by omega)]; exact ⟨rfl, rfl⟩)
              | (rw [xeql, decide_eq_false (by omega)]; exact ⟨rfl, rfl⟩)
              | (rw [xneq, decide_eq_true (by omega)]; exact ⟨rfl, rfl⟩)
              | (rw [xneq, decide_eq_false (by omega)]; exact ⟨rfl, rfl⟩)
              | (intro e3; first
                  | exact st_load ag_bool (h.step e3) 0 rfl rfl ⟨rfl, Ext.refl _⟩
                  | exact st_load ag_int (h.step e3) 0 rfl rfl ⟨rfl, Ext.refl _⟩
                  | exact st_load ag_string (h.step e3) 0 rfl rfl ⟨rfl, Ext.refl _⟩
                  | exact st_load ag_bool (hm e3) 0 rfl rfl ⟨rfl, rfl⟩
                  | exact st_load ag_int (hm e3) 0 rfl rfl ⟨rfl, rfl⟩
                  | exact st_loadW ag_api_Node sz_api_Node (hm e3) 1 rfl rfl ⟨rfl, rfl⟩
                  | exact st_loadW ag_api_Place sz_api_Place (hm e3) 1 rfl rfl ⟨rfl, rfl⟩
                  | exact xcall_of (en_joineryref4_parting _) (hpt _) fun _ _ hq => hq)
              | (rw [xmul, wi64 (by omega) (by omega)]; exact ⟨rfl, rfl⟩)
              | (rw [xsub, wu8 (by omega) (by omega)]; exact ⟨rfl, rfl⟩)
              | (rw [xconv_int und_uint8 und_int, wi64 (by omega) (by omega)]; exact ⟨rfl, rfl⟩)
              | (rw [xadd, wi64 (by omega) (by omega)]; exact ⟨rfl, rfl⟩)
              | (rw [xslice_mid und_string (by omega) (by omega)]; exact ⟨rfl, rfl⟩)
              | exact ⟨rfl, rfl⟩)
    intro w3 e3
    have h := h.step e3
    have e : (Rd.name ⟨s, false⟩).2.fin = false := by rw [hfin]; rfl
    exact ⟨Ext.refl _, fun w4 e4 => ⟨t, by rw [e], (fun hh => Bool.noConfusion (e.symm.trans hh)), (h.step e4).ext⟩⟩
theorem c_fReadNumber {w : World} {s : Str} (hs : s.length ≤ 1000000) : Ret Tryz.prog F_joineryref4_ReadNumber #[S s, .int .i64 999999999999999] w fun v w' => ∃ t : Nat, v = .tuple #[.int .i64 (t : Nat), .bool (Rd.number ⟨s, false⟩).2.fin] ∧ ((Rd.number ⟨s, false⟩).2.fin = true → t = (Rd.number ⟨s, false⟩).1) ∧ Ext w w' := by
  refine call_joineryref4_ReadNumber ?_
  have h := St.start w
  unfold S_joineryref4_ReadNumber
  rw [xbuild (v := .agg #[S s, .int .i64 0, .bool false]) (fun w => by kernel_rfl)]
  refine st_box h ?_
  intro b w1 hb h
  refine st_callA (A := [.blk b (rfO ⟨s, 0, false⟩)]) en_joineryref4_Reader_Number h (fun k => c_fNumber (k.at 0 rfl) (Rl.start hs)) ?_
  rintro v w2 ⟨t, p9, b9, rfl, _, hl9, he9, _, k⟩ mg
  have h := mg _ k
  have hfin := hl9.fin
  have h : St [] w [.blk b (.cells #[S s, .int .i64 (p9 : Nat), .bool b9] T_joineryref4_Reader (0, 0))] w2.drew := h.step (Ext.drew _)
  refine ⟨Ext, Ext, preExt, ?_⟩
  have hlt := trivial
  cases b9
  · by_cases hpe : p9 = s.length
    · repeat
        apply Exists.intro
        apply And.intro
        · first
            | (rw [xg_ft]; try rfl)
            | (rw [xg_tf]; try rfl)
            | ((try rw [xg_same]); intro w3; first
                | (rw [xnil_ptr]; exact ⟨rfl, rfl⟩)
                | (rw [fld_joineryref4_Reader_S]; exact ⟨rfl, rfl⟩)
                | (rw [fld_joineryref4_Reader_P]; exact ⟨rfl, rfl⟩)
                | (rw [fld_joineryref4_Reader_Bad]; exact ⟨rfl, rfl⟩)
                | (rw [xpick_true]; exact ⟨rfl, rfl⟩)
                | (rw [xpick_false]; exact ⟨rfl, rfl⟩)
                | (rw [xnot, Bool.not_true]; exact ⟨rfl, rfl⟩)
                | (rw [xnot, Bool.not_false]; exact ⟨rfl, rfl⟩)
                | (rw [xnot]; exact ⟨rfl, rfl⟩)
                | (rw [xlen_string und_string]; exact ⟨rfl, rfl⟩)
                | (rw [xix_str und_string _ _ _ hlt]; exact ⟨rfl, rfl⟩)
                | (rw [xgeq, decide_eq_true (by omega)]; exact ⟨rfl, rfl⟩)
                | (rw [xgeq, decide_eq_false (by omega)]; exact ⟨rfl, rfl⟩)
                | (rw [xleq, decide_eq_true (by omega)]; exact ⟨rfl, rfl⟩)
                | (rw [xleq, decide_eq_false (by omega)]; exact ⟨rfl, rfl⟩)
                | (rw [xlss, decide_eq_true (by omega)]; exact ⟨rfl, rfl⟩)
                | (rw [xlss, decide_eq_false (by omega)]; exact ⟨rfl, rfl⟩)
                | (rw [xeql, decide_eq_true (by omega)]; exact ⟨rfl, rfl⟩)
                | (rw [xeql, decide_eq_false (by omega)]; exact ⟨rfl, rfl⟩)
                | (rw [xneq, decide_eq_true (by omega)]; exact ⟨rfl, rfl⟩)
                | (rw [xneq, decide_eq_false (by omega)]; exact ⟨rfl, rfl⟩)
                | (intro e3; first
                    | exact st_load ag_bool (h.step e3) 0 rfl rfl ⟨rfl, Ext.refl _⟩
                    | exact st_load ag_int (h.step e3) 0 rfl rfl ⟨rfl, Ext.refl _⟩
                    | exact st_load ag_string (h.step e3) 0 rfl rfl ⟨rfl, Ext.refl _⟩
                    | exact st_load ag_bool (hm e3) 0 rfl rfl ⟨rfl, rfl⟩
                    | exact st_load ag_int (hm e3) 0 rfl rfl ⟨rfl, rfl⟩
                    | exact st_loadW ag_api_Node sz_api_Node (hm e3) 1 rfl rfl ⟨rfl, rfl⟩
                    | exact st_loadW ag_api_Place sz_api_Place (hm e3) 1 rfl rfl ⟨rfl, rfl⟩
                    | exact xcall_of (en_joineryref4_parting _) (hpt _) fun _ _ hq => hq)
                | (rw [xmul, wi64 (by omega) (by omega)]; exact ⟨rfl, rfl⟩)
                | (rw [xsub, wu8 (by omega) (by omega)]; exact ⟨rfl, rfl⟩)
                | (rw [xconv_int und_uint8 und_int, wi64 (by omega) (by omega)]; exact ⟨rfl, rfl⟩)
                | (rw [xadd, wi64 (by omega) (by omega)]; exact ⟨rfl, rfl⟩)
                | (rw [xslice_mid und_string (by omega) (by omega)]; exact ⟨rfl, rfl⟩)
                | exact ⟨rfl, rfl⟩)
      intro w3 e3
      have h := h.step e3
      have e : (Rd.number ⟨s, false⟩).2.fin = true := by rw [hfin]; simp [hpe]
      exact ⟨Ext.refl _, fun w4 e4 => ⟨t, by rw [e], fun _ => he9 rfl, (h.step e4).ext⟩⟩
    · repeat
        apply Exists.intro
        apply And.intro
        · first
            | (rw [xg_ft]; try rfl)
            | (rw [xg_tf]; try rfl)
            | ((try rw [xg_same]); intro w3; first
                | (rw [xnil_ptr]; exact ⟨rfl, rfl⟩)
                | (rw [fld_joineryref4_Reader_S]; exact ⟨rfl, rfl⟩)
                | (rw [fld_joineryref4_Reader_P]; exact ⟨rfl, rfl⟩)
                | (rw [fld_joineryref4_Reader_Bad]; exact ⟨rfl, rfl⟩)
                | (rw [xpick_true]; exact ⟨rfl, rfl⟩)
                | (rw [xpick_false]; exact ⟨rfl, rfl⟩)
                | (rw [xnot, Bool.not_true]; exact ⟨rfl, rfl⟩)
                | (rw [xnot, Bool.not_false]; exact ⟨rfl, rfl⟩)
                | (rw [xnot]; exact ⟨rfl, rfl⟩)
                | (rw [xlen_string und_string]; exact ⟨rfl, rfl⟩)
                | (rw [xix_str und_string _ _ _ hlt]; exact ⟨rfl, rfl⟩)
                | (rw [xgeq, decide_eq_true (by omega)]; exact ⟨rfl, rfl⟩)
                | (rw [xgeq, decide_eq_false (by omega)]; exact ⟨rfl, rfl⟩)
                | (rw [xleq, decide_eq_true (by omega)]; exact ⟨rfl, rfl⟩)
                | (rw [xleq, decide_eq_false (by omega)]; exact ⟨rfl, rfl⟩)
                | (rw [xlss, decide_eq_true (by omega)]; exact ⟨rfl, rfl⟩)
                | (rw [xlss, decide_eq_false (by omega)]; exact ⟨rfl, rfl⟩)
                | (rw [xeql, decide_eq_true (by omega)]; exact ⟨rfl, rfl⟩)
                | (rw [xeql, decide_eq_false (by omega)]; exact ⟨rfl, rfl⟩)
                | (rw [xneq, decide_eq_true (by omega)]; exact ⟨rfl, rfl⟩)
                | (rw [xneq, decide_eq_false (by omega)]; exact ⟨rfl, rfl⟩)
                | (intro e3; first
                    | exact st_load ag_bool (h.step e3) 0 rfl rfl ⟨rfl, Ext.refl _⟩
                    | exact st_load ag_int (h.step e3) 0 rfl rfl ⟨rfl, Ext.refl _⟩
                    | exact st_load ag_string (h.step e3) 0 rfl rfl ⟨rfl, Ext.refl _⟩
                    | exact st_load ag_bool (hm e3) 0 rfl rfl ⟨rfl, rfl⟩
                    | exact st_load ag_int (hm e3) 0 rfl rfl ⟨rfl, rfl⟩
                    | exact st_loadW ag_api_Node sz_api_Node (hm e3) 1 rfl rfl ⟨rfl, rfl⟩
                    | exact st_loadW ag_api_Place sz_api_Place (hm e3) 1 rfl rfl ⟨rfl, rfl⟩
                    | exact xcall_of (en_joineryref4_parting _) (hpt _) fun _ _ hq => hq)
                | (rw [xmul, wi64 (by omega) (by omega)]; exact ⟨rfl, rfl⟩)
                | (rw [xsub, wu8 (by omega) (by omega)]; exact ⟨rfl, rfl⟩)
                | (rw [xconv_int und_uint8 und_int, wi64 (by omega) (by omega)]; exact ⟨rfl, rfl⟩)
                | (rw [xadd, wi64 (by omega) (by omega)]; exact ⟨rfl, rfl⟩)
                | (rw [xslice_mid und_string (by omega) (by omega)]; exact ⟨rfl, rfl⟩)
                | exact ⟨rfl, rfl⟩)
      intro w3 e3
      have h := h.step e3
      have e : (Rd.number ⟨s, false⟩).2.fin = false := by rw [hfin]; simp [hpe]
      exact ⟨Ext.refl _, fun w4 e4 => ⟨t, by rw [e], fun _ => he9 rfl, (h.step e4).ext⟩⟩
  · repeat
      apply Exists.intro
      apply And.intro
      · first
          | (rw [xg_ft]; try rfl)
          | (rw [xg_tf]; try rfl)
          | ((try rw [xg_same]); intro w3; first
              | (rw [xnil_ptr]; exact ⟨rfl, rfl⟩)
              | (rw [fld_joineryref4_Reader_S]; exact ⟨rfl, rfl⟩)
              | (rw [fld_joineryref4_Reader_P]; exact ⟨rfl, rfl⟩)
              | (rw [fld_joineryref4_Reader_Bad]; exact ⟨rfl, rfl⟩)
              | (rw [xpick_true]; exact ⟨rfl, rfl⟩)
              | (rw [xpick_false]; exact ⟨rfl, rfl⟩)
              | (rw [xnot, Bool.not_true]; exact ⟨rfl, rfl⟩)
              | (rw [xnot, Bool.not_false]; exact ⟨rfl, rfl⟩)
              | (rw [xnot]; exact ⟨rfl, rfl⟩)
              | (rw [xlen_string und_string]; exact ⟨rfl, rfl⟩)
              | (rw [xix_str und_string _ _ _ hlt]; exact ⟨rfl, rfl⟩)
              | (rw [xgeq, decide_eq_true (by omega)]; exact ⟨rfl, rfl⟩)
              | (rw [xgeq, decide_eq_false (by omega)]; exact ⟨rfl, rfl⟩)
              | (rw [xleq, decide_eq_true (by omega)]; exact ⟨rfl, rfl⟩)
              | (rw [xleq, decide_eq_false (by omega)]; exact ⟨rfl, rfl⟩)
              | (rw [xlss, decide_eq_true (by omega)]; exact ⟨rfl, rfl⟩)
              | (rw [xlss, decide_eq_false (by omega)]; exact ⟨rfl, rfl⟩)
              | (rw [xeql, decide_eq_true (by omega)]; exact ⟨rfl, rfl⟩)
              | (rw [xeql, decide_eq_false (by omega)]; exact ⟨rfl, rfl⟩)
              | (rw [xneq, decide_eq_true (by omega)]; exact ⟨rfl, rfl⟩)
              | (rw [xneq, decide_eq_false (by omega)]; exact ⟨rfl, rfl⟩)
              | (intro e3; first
                  | exact st_load ag_bool (h.step e3) 0 rfl rfl ⟨rfl, Ext.refl _⟩
                  | exact st_load ag_int (h.step e3) 0 rfl rfl ⟨rfl, Ext.refl _⟩
                  | exact st_load ag_string (h.step e3) 0 rfl rfl ⟨rfl, Ext.refl _⟩
                  | exact st_load ag_bool (hm e3) 0 rfl rfl ⟨rfl, rfl⟩
                  | exact st_load ag_int (hm e3) 0 rfl rfl ⟨rfl, rfl⟩
                  | exact st_loadW ag_api_Node sz_api_Node (hm e3) 1 rfl rfl ⟨rfl, rfl⟩
                  | exact st_loadW ag_api_Place sz_api_Place (hm e3) 1 rfl rfl ⟨rfl, rfl⟩
                  | exact xcall_of (en_joineryref4_parting _) (hpt _) fun _ _ hq => hq)
              | (rw [xmul, wi64 (by omega) (by omega)]; exact ⟨rfl, rfl⟩)
              | (rw [xsub, wu8 (by omega) (by omega)]; exact ⟨rfl, rfl⟩)
              | (rw [xconv_int und_uint8 und_int, wi64 (by omega) (by omega)]; exact ⟨rfl, rfl⟩)
              | (rw [xadd, wi64 (by omega) (by omega)]; exact ⟨rfl, rfl⟩)
              | (rw [xslice_mid und_string (by omega) (by omega)]; exact ⟨rfl, rfl⟩)
              | exact ⟨rfl, rfl⟩)
    intro w3 e3
    have h := h.step e3
    have e : (Rd.number ⟨s, false⟩).2.fin = false := by rw [hfin]; rfl
    exact ⟨Ext.refl _, fun w4 e4 => ⟨t, by rw [e], (fun hh => Bool.noConfusion (e.symm.trans hh)), (h.step e4).ext⟩⟩
theorem st_storeG {x : List Nat} {w0 w : World} {L : List Res} {t : TypeId} {m : Nat} {b o : Nat} {cs : Array Value} {T : TypeId} {v : Value} {K : World → Prop} (hs : ∀ w, (sizeOf t).run Tryz.prog w = .ok m w) (h : St x w0 L w) (n : Nat) (hn : L[n]? = some (.blk b (.cells cs T (0, 0)))) (hm : v.cells.size = m) (ho : Nat.ble (o + m) cs.size = true) (hf : v.cells.toList.all flat = true)
    (hk : ∀ w', Chg [b] w w' → St x w0 (L.set n (.blk b (.cells (setRow cs o v.cells.toList) T (0, 0)))) w' → K w') : XStore Tryz.prog t (.pointer (some ⟨b, o, none⟩)) v w K := by
  refine ⟨?_⟩
  obtain ⟨w', h2, h3, h4⟩ := run_storeCells_put (P := Tryz.prog) o v.cells.toList 0 cs w (h.at n hn) (by have := Nat.le_of_ble_eq_true ho; simp [hm]; omega) hf
  unfold XU
  have : (Instr.storeAt t (.pointer (some ⟨b, o, none⟩)) v).run Tryz.prog w = .ok () w' := by
    simp only [Instr.storeAt, Instr.sureAddr, storeVar, Sem.run_bind, Sem.run_pure, Result.andThen_ok, hs, hm]
    simpa using h2
  rw [this]
  exact hk _ h4 (h.turnB hn h4 (by simpa using h3))
theorem vec_no (x : Rd) (h : x.no = true) : x.vec.2.no = true := number_no _ (must_no _ _ (number_no _ h))
set_option maxHeartbeats 4000000 in
theorem c_fReadNode {w : World} {s : Str} (hs : s.length ≤ 1000000) : Ret Tryz.prog F_joineryref4_ReadNode #[S s] w fun v w' => ∃ (n : NodeM) (mv tv : Value), v = .tuple #[nodeAt n mv tv, .bool (Rd.node ⟨s, false⟩).2.fin] ∧ ((Rd.node ⟨s, false⟩).2.fin = true → n = (Rd.node ⟨s, false⟩).1) ∧ St [] w [.row T_string 1 mv n.marks.length (strsL n.marks), .row T_string 1 tv n.taints.length (strsL n.taints)] w' := by
  refine call_joineryref4_ReadNode ?_
  have h := St.start w
  unfold S_joineryref4_ReadNode
  refine st_alloc zv_api_Node h ?_
  intro q2 w0 _ h
  rw [xbuild (v := .agg #[S s, .int .i64 0, .bool false]) (fun w => by kernel_rfl)]
  refine st_box h ?_
  intro b w1 hb h
  refine st_callA (A := [.blk b (rfO ⟨s, 0, false⟩)]) en_joineryref4_Reader_Name h (fun k => c_fName (k.at 0 rfl) (Rl.start hs)) ?_
  rintro v w2 ⟨t, p1, b1, rfl, _, hl1, he1, _, k⟩ mg
  have h := mg _ k
  rw [xbuild (v := nodeV t zVec nilV nilV false) (fun w => by kernel_rfl)]
  refine st_alloc zv_api_Node h ?_
  intro q5 w3 _ h
  refine st_store sz_api_Node h 0 rfl rfl rfl rfl ?_
  intro w4 h
  try simp only [go_sem] at h
  have h := h.pick [1, 0, 2] (by decide) rfl
  refine st_callA (A := [.blk b (rfO ⟨s, p1, b1⟩)]) en_joineryref4_Reader_Must h (fun k => c_fMust 58 (k.at 0 rfl) hl1) ?_
  rintro v w5 ⟨p2, b2, rfl, hl2, k⟩ mg
  have h := mg _ k
  refine st_callA (A := [.blk b (rfO ⟨s, p2, b2⟩)]) en_joineryref4_Reader_Vec h (fun k => c_fVec (k.at 0 rfl) hl2) ?_
  rintro v w6 ⟨u, p3, b3, rfl, hl3, he3, k⟩ mg
  have h := mg _ k
  rw [fld_api_Node_Cap]
  refine st_store sz_api_Vec h 1 rfl rfl rfl rfl ?_
  intro w7 h
  try simp only [go_sem] at h
  refine st_callA (A := [.blk b (rfO ⟨s, p3, b3⟩)]) en_joineryref4_Reader_row h (fun k => c_fRow 43 (k.at 0 rfl) hl3) ?_
  rintro mv w8 ⟨l1, p4, b4, hl4, he4, _, k⟩ mg
  have h := mg _ k
  have hmv := h.atR 0 rfl
  rw [fld_api_Node_Marks]
  refine st_storeC sz_sl_string h 2 rfl (cells_own hmv) rfl (flat_own hmv) ?_
  intro w9 h
  try simp only [go_sem] at h
  have h := h.pick [1, 0, 2, 3] (by decide) rfl
  refine st_callA (A := [.blk b (rfO ⟨s, p4, b4⟩)]) en_joineryref4_Reader_row h (fun k => c_fRow 126 (k.at 0 rfl) hl4) ?_
  rintro tv w10 ⟨l2, p5, b5, hl5, he5, _, k⟩ mg
  have h := mg _ k
  have htv := h.atR 0 rfl
  rw [fld_api_Node_Taints]
  refine st_storeC sz_sl_string h 3 rfl (cells_own htv) rfl (flat_own htv) ?_
  intro w11 h
  try simp only [go_sem] at h
  have h := h.pick [1, 0, 2, 3, 4] (by decide) rfl
  refine st_callA (A := [.blk b (rfO ⟨s, p5, b5⟩)]) en_joineryref4_Reader_sign h (fun k => c_fSign 33 (k.at 0 rfl) hl5) ?_
  rintro v w12 ⟨cl, p9, rfl, hl9, he9, _, _, k⟩ mg
  have h := mg _ k
  rw [fld_api_Node_Closed]
  refine st_storeC sz_bool h 3 rfl rfl rfl rfl ?_
  intro w13 h
  try simp only [go_sem] at h
  have hfin : (Rd.node ⟨s, false⟩).2.fin = _ := hl9.fin
  have hvals : b5 = false → (⟨t, u, l1, l2, cl⟩ : NodeM) = (Rd.node ⟨s, false⟩).1 := fun h5 => by
    have h4 := hl4.back hl5 (signed_no 126 _) h5
    have h3 := hl3.back hl4 (signed_no 43 _) h4
    have h2 := hl2.back hl3 (vec_no _) h3
    have h1 := hl1.back hl2 (must_no 58 _) h2
    rw [he1 h1, he3 h3, he4 h4, he5 h5, he9 h5]
    rfl
  have hfl1 := flat_own (h.atR 2 rfl)
  have hfl2 := flat_own (h.atR 1 rfl)
  have hflat : (nodeC t u mv tv cl).all flat = true := by
    simp only [nodeC, List.all_cons, List.all_nil, hfl1, hfl2]
    rfl
  have h := (h.pick [4, 0, 3, 2, 1] (by decide) rfl).step (Ext.drew _)
  have h : St [] w [.blk q2 (.cells #[.string ⟨#[]⟩, .int .i64 0, .int .i64 0, .slice none 0 0, .slice none 0 0, .bool false] T_api_Node (0, 0)), .blk b (.cells #[S s, .int .i64 (p9 : Nat), .bool b5] T_joineryref4_Reader (0, 0)), .blk q5 (.cells (nodeC t u mv tv cl).toArray T_api_Node (0, 0)), .row T_string 1 mv l1.length (strsL l1), .row T_string 1 tv l2.length (strsL l2)] w13.drew := h
  have hm := fun {w' : World} (hc : Chg [q2] w13.drew w') => St.mod h hc
  refine ⟨Chg [q2], Eq, preChg _, ?_⟩
  have hlt := trivial
  have tail : ∀ {f : Bool}, (f = (Rd.node ⟨s, false⟩).2.fin) → ((Rd.node ⟨s, false⟩).2.fin = true → (⟨t, u, l1, l2, cl⟩ : NodeM) = (Rd.node ⟨s, false⟩).1) →
      XStore Tryz.prog T_api_Node (pt q2) (.agg (nodeC t u mv tv cl).toArray) w13.drew fun w56 => Chg [q2] w13.drew w56 ∧ ∀ w57 : World, w56 = w57 → XLoad Tryz.prog T_api_Node (pt q2) w57 fun r1 w58 => w58 = w57 ∧ (∃ (n : NodeM) (mv tv : Value), (.tuple #[r1, .bool f] : Value) = .tuple #[nodeAt n mv tv, .bool (Rd.node ⟨s, false⟩).2.fin] ∧ ((Rd.node ⟨s, false⟩).2.fin = true → n = (Rd.node ⟨s, false⟩).1) ∧ St [] w [.row T_string 1 mv n.marks.length (strsL n.marks), .row T_string 1 tv n.taints.length (strsL n.taints)] w57) := fun hf hn => by
    refine st_storeG sz_api_Node h 0 rfl rfl rfl hflat ?_
    intro w56 hc h
    try simp only [go_sem] at h
    refine ⟨hc, ?_⟩
    rintro w57 rfl
    refine st_loadW ag_api_Node sz_api_Node h 0 rfl rfl ⟨rfl, ⟨t, u, l1, l2, cl⟩, mv, tv, ?_, hn, h.pick [3, 4] (by decide) rfl⟩
    rw [hf]
  cases b5
  · by_cases hpe : p9 = s.length
    · repeat
        apply Exists.intro
        apply And.intro
        · first
            | (rw [xg_ft]; try rfl)
            | (rw [xg_tf]; try rfl)
            | ((try rw [xg_same]); intro w3; first
                | (rw [xnil_ptr]; exact ⟨rfl, rfl⟩)
                | (rw [fld_joineryref4_Reader_S]; exact ⟨rfl, rfl⟩)
                | (rw [fld_joineryref4_Reader_P]; exact ⟨rfl, rfl⟩)
                | (rw [fld_joineryref4_Reader_Bad]; exact ⟨rfl, rfl⟩)
                | (rw [xpick_true]; exact ⟨rfl, rfl⟩)
                | (rw [xpick_false]; exact ⟨rfl, rfl⟩)
                | (rw [xnot, Bool.not_true]; exact ⟨rfl, rfl⟩)
                | (rw [xnot, Bool.not_false]; exact ⟨rfl, rfl⟩)
                | (rw [xnot]; exact ⟨rfl, rfl⟩)
                | (rw [xlen_string und_string]; exact ⟨rfl, rfl⟩)
                | (rw [xix_str und_string _ _ _ hlt]; exact ⟨rfl, rfl⟩)
                | (rw [xgeq, decide_eq_true (by omega)]; exact ⟨rfl, rfl⟩)
                | (rw [xgeq, decide_eq_false (by omega)]; exact ⟨rfl, rfl⟩)
                | (rw [xleq, decide_eq_true (by omega)]; exact ⟨rfl, rfl⟩)
                | (rw [xleq, decide_eq_false (by omega)]; exact ⟨rfl, rfl⟩)
                | (rw [xlss, decide_eq_true (by omega)]; exact ⟨rfl, rfl⟩)
                | (rw [xlss, decide_eq_false (by omega)]; exact ⟨rfl, rfl⟩)
                | (rw [xeql, decide_eq_true (by omega)]; exact ⟨rfl, rfl⟩)
                | (rw [xeql, decide_eq_false (by omega)]; exact ⟨rfl, rfl⟩)
                | (rw [xneq, decide_eq_true (by omega)]; exact ⟨rfl, rfl⟩)
                | (rw [xneq, decide_eq_false (by omega)]; exact ⟨rfl, rfl⟩)
                | (intro e3; first
                    | exact st_load ag_bool (h.step e3) 0 rfl rfl ⟨rfl, Ext.refl _⟩
                    | exact st_load ag_int (h.step e3) 0 rfl rfl ⟨rfl, Ext.refl _⟩
                    | exact st_load ag_string (h.step e3) 0 rfl rfl ⟨rfl, Ext.refl _⟩
                    | exact st_load ag_bool (hm e3) 0 rfl rfl ⟨rfl, rfl⟩
                    | exact st_load ag_int (hm e3) 0 rfl rfl ⟨rfl, rfl⟩
                    | exact st_loadW ag_api_Node sz_api_Node (hm e3) 1 rfl rfl ⟨rfl, rfl⟩
                    | exact st_loadW ag_api_Place sz_api_Place (hm e3) 1 rfl rfl ⟨rfl, rfl⟩
                    | exact xcall_of (en_joineryref4_parting _) (hpt _) fun _ _ hq => hq)
                | (rw [xmul, wi64 (by omega) (by omega)]; exact ⟨rfl, rfl⟩)
                | (rw [xsub, wu8 (by omega) (by omega)]; exact ⟨rfl, rfl⟩)
                | (rw [xconv_int und_uint8 und_int, wi64 (by omega) (by omega)]; exact ⟨rfl, rfl⟩)
                | (rw [xadd, wi64 (by omega) (by omega)]; exact ⟨rfl, rfl⟩)
                | (rw [xslice_mid und_string (by omega) (by omega)]; exact ⟨rfl, rfl⟩)
                | exact ⟨rfl, rfl⟩)
      rintro w3 rfl
      exact tail (by rw [hfin]; simp [hpe]) fun _ => hvals rfl
    · repeat
        apply Exists.intro
        apply And.intro
        · first
            | (rw [xg_ft]; try rfl)
            | (rw [xg_tf]; try rfl)
            | ((try rw [xg_same]); intro w3; first
                | (rw [xnil_ptr]; exact ⟨rfl, rfl⟩)
                | (rw [fld_joineryref4_Reader_S]; exact ⟨rfl, rfl⟩)
                | (rw [fld_joineryref4_Reader_P]; exact ⟨rfl, rfl⟩)
                | (rw [fld_joineryref4_Reader_Bad]; exact ⟨rfl, rfl⟩)
                | (rw [xpick_true]; exact ⟨rfl, rfl⟩)
                | (rw [xpick_false]; exact ⟨rfl, rfl⟩)
                | (rw [xnot, Bool.not_true]; exact ⟨rfl, rfl⟩)
                | (rw [xnot, Bool.not_false]; exact ⟨rfl, rfl⟩)
                | (rw [xnot]; exact ⟨rfl, rfl⟩)
                | (rw [xlen_string und_string]; exact ⟨rfl, rfl⟩)
                | (rw [xix_str und_string _ _ _ hlt]; exact ⟨rfl, rfl⟩)
                | (rw [xgeq, decide_eq_true (by omega)]; exact ⟨rfl, rfl⟩)
                | (rw [xgeq, decide_eq_false (by omega)]; exact ⟨rfl, rfl⟩)
                | (rw [xleq, decide_eq_true (by omega)]; exact ⟨rfl, rfl⟩)
                | (rw [xleq, decide_eq_false (by omega)]; exact ⟨rfl, rfl⟩)
                | (rw [xlss, decide_eq_true (by omega)]; exact ⟨rfl, rfl⟩)
                | (rw [xlss, decide_eq_false (by omega)]; exact ⟨rfl, rfl⟩)
                | (rw [xeql, decide_eq_true (by omega)]; exact ⟨rfl, rfl⟩)
                | (rw [xeql, decide_eq_false (by omega)]; exact ⟨rfl, rfl⟩)
                | (rw [xneq, decide_eq_true (by omega)]; exact ⟨rfl, rfl⟩)
                | (rw [xneq, decide_eq_false (by omega)]; exact ⟨rfl, rfl⟩)
                | (intro e3; first
                    | exact st_load ag_bool (h.step e3) 0 rfl rfl ⟨rfl, Ext.refl _⟩
                    | exact st_load ag_int (h.step e3) 0 rfl rfl ⟨rfl, Ext.refl _⟩
                    | exact st_load ag_string (h.step e3) 0 rfl rfl ⟨rfl, Ext.refl _⟩
                    | exact st_load ag_bool (hm e3) 0 rfl rfl ⟨rfl, rfl⟩
                    | exact st_load ag_int (hm e3) 0 rfl rfl ⟨rfl, rfl⟩
                    | exact st_loadW ag_api_Node sz_api_Node (hm e3) 1 rfl rfl ⟨rfl, rfl⟩
                    | exact st_loadW ag_api_Place sz_api_Place (hm e3) 1 rfl rfl ⟨rfl, rfl⟩
                    | exact xcall_of (en_joineryref4_parting _) (hpt _) fun _ _ hq => hq)
                | (rw [xmul, wi64 (by omega) (by omega)]; exact ⟨rfl, rfl⟩)
                | (rw [xsub, wu8 (by omega) (by omega)]; exact ⟨rfl, rfl⟩)
                | (rw [xconv_int und_uint8 und_int, wi64 (by omega) (by omega)]; exact ⟨rfl, rfl⟩)
                | (rw [xadd, wi64 (by omega) (by omega)]; exact ⟨rfl, rfl⟩)
                | (rw [xslice_mid und_string (by omega) (by omega)]; exact ⟨rfl, rfl⟩)
                | exact ⟨rfl, rfl⟩)
      rintro w3 rfl
      exact tail (by rw [hfin]; simp [hpe]) fun _ => hvals rfl
  · repeat
      apply Exists.intro
      apply And.intro
      · first
          | (rw [xg_ft]; try rfl)
          | (rw [xg_tf]; try rfl)
          | ((try rw [xg_same]); intro w3; first
              | (rw [xnil_ptr]; exact ⟨rfl, rfl⟩)
              | (rw [fld_joineryref4_Reader_S]; exact ⟨rfl, rfl⟩)
              | (rw [fld_joineryref4_Reader_P]; exact ⟨rfl, rfl⟩)
              | (rw [fld_joineryref4_Reader_Bad]; exact ⟨rfl, rfl⟩)
              | (rw [xpick_true]; exact ⟨rfl, rfl⟩)
              | (rw [xpick_false]; exact ⟨rfl, rfl⟩)
              | (rw [xnot, Bool.not_true]; exact ⟨rfl, rfl⟩)
              | (rw [xnot, Bool.not_false]; exact ⟨rfl, rfl⟩)
              | (rw [xnot]; exact ⟨rfl, rfl⟩)
              | (rw [xlen_string und_string]; exact ⟨rfl, rfl⟩)
              | (rw [xix_str und_string _ _ _ hlt]; exact ⟨rfl, rfl⟩)
              | (rw [xgeq, decide_eq_true (by omega)]; exact ⟨rfl, rfl⟩)
              | (rw [xgeq, decide_eq_false (by omega)]; exact ⟨rfl, rfl⟩)
              | (rw [xleq, decide_eq_true (by omega)]; exact ⟨rfl, rfl⟩)
              | (rw [xleq, decide_eq_false (by omega)]; exact ⟨rfl, rfl⟩)
              | (rw [xlss, decide_eq_true (by omega)]; exact ⟨rfl, rfl⟩)
              | (rw [xlss, decide_eq_false (by omega)]; exact ⟨rfl, rfl⟩)
              | (rw [xeql, decide_eq_true (by omega)]; exact ⟨rfl, rfl⟩)
              | (rw [xeql, decide_eq_false (by omega)]; exact ⟨rfl, rfl⟩)
              | (rw [xneq, decide_eq_true (by omega)]; exact ⟨rfl, rfl⟩)
              | (rw [xneq, decide_eq_false (by omega)]; exact ⟨rfl, rfl⟩)
              | (intro e3; first
                  | exact st_load ag_bool (h.step e3) 0 rfl rfl ⟨rfl, Ext.refl _⟩
                  | exact st_load ag_int (h.step e3) 0 rfl rfl ⟨rfl, Ext.refl _⟩
                  | exact st_load ag_string (h.step e3) 0 rfl rfl ⟨rfl, Ext.refl _⟩
                  | exact st_load ag_bool (hm e3) 0 rfl rfl ⟨rfl, rfl⟩
                  | exact st_load ag_int (hm e3) 0 rfl rfl ⟨rfl, rfl⟩
                  | exact st_loadW ag_api_Node sz_api_Node (hm e3) 1 rfl rfl ⟨rfl, rfl⟩
                  | exact st_loadW ag_api_Place sz_api_Place (hm e3) 1 rfl rfl ⟨rfl, rfl⟩
                  | exact xcall_of (en_joineryref4_parting _) (hpt _) fun _ _ hq => hq)
              | (rw [xmul, wi64 (by omega) (by omega)]; exact ⟨rfl, rfl⟩)
              | (rw [xsub, wu8 (by omega) (by omega)]; exact ⟨rfl, rfl⟩)
              | (rw [xconv_int und_uint8 und_int, wi64 (by omega) (by omega)]; exact ⟨rfl, rfl⟩)
              | (rw [xadd, wi64 (by omega) (by omega)]; exact ⟨rfl, rfl⟩)
              | (rw [xslice_mid und_string (by omega) (by omega)]; exact ⟨rfl, rfl⟩)
              | exact ⟨rfl, rfl⟩)
    rintro w3 rfl
    exact tail (by rw [hfin]; rfl) fun hh => by rw [hfin] at hh; cases hh
end Go.Proofs.YthkgbajldkicfaaGreatDoor
