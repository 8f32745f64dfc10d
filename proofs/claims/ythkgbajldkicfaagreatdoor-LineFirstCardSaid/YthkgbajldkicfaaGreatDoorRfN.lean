/-
  The document's own reader: numbers.
-/
import Derived.Test.YthkgbajldkicfaaGreatDoorRfR
namespace Go.Proofs.YthkgbajldkicfaaGreatDoor
set_option linter.unusedVariables false
set_option linter.unusedSimpArgs false
open Go Go.Jo
set_option maxRecDepth 100000

theorem valD_ge : ∀ (n : Nat) (l : Str), l.length = n + 1 → (∀ b ∈ l, isDig b = true) → l.head? ≠ some 48 → 10 ^ n ≤ valD l
  | 0, l, h, hd, hh => by
    obtain ⟨b, rfl⟩ : ∃ b, l = [b] := by
      match l, h with
      | [b], _ => exact ⟨b, rfl⟩
    exact valD_pos b [] (hd b (by simp)) fun e => hh (by rw [e]; rfl)
  | n + 1, l, h, hd, hh => by
    have hne : l ≠ [] := fun e => by subst e; simp at h
    obtain ⟨l', b, rfl⟩ : ∃ l' b, l = l' ++ [b] := ⟨l.dropLast, l.getLast hne, (List.dropLast_concat_getLast hne).symm⟩
    have hll : l'.length = n + 1 := by simpa using h
    have ih := valD_ge n l' hll (fun x hx => hd x (by simp [hx])) (by
      cases l' with
      | nil => simp at hll
      | cons c t => simpa using hh)
    rw [valD_snoc, Nat.pow_succ]
    omega
theorem num_none {xs : Str} {no : Bool} (h : xs.takeWhile isDig = []) : (Rd.number ⟨xs, no⟩).2.no = true := by
  unfold Rd.number
  simp only [h]
  simp
theorem num_zero {xs : Str} {no : Bool} (h : 1 < (xs.takeWhile isDig).length) (h0 : xs.head? = some 48) : (Rd.number ⟨xs, no⟩).2.no = true := by
  unfold Rd.number
  simp only
  rw [if_pos (.inr ⟨h, h0⟩)]
theorem num_long {xs : Str} {no : Bool} (h : 15 < (xs.takeWhile isDig).length) : (Rd.number ⟨xs, no⟩).2.no = true := by
  unfold Rd.number
  simp only
  rw [if_pos (.inl h)]
theorem num_bad {xs : Str} : (Rd.number ⟨xs, true⟩).2.no = true := by
  unfold Rd.number
  simp only
  split <;> simp
theorem num_fine {xs : Str} {no : Bool} {n : Nat} (ht : xs.takeWhile isDig = xs.take n) (hd : xs.dropWhile isDig = xs.drop n) (hn : n ≤ xs.length) (h0 : 1 ≤ n) (h1 : n ≤ 15) (hh : n = 1 ∨ xs.head? ≠ some 48) : Rd.number ⟨xs, no⟩ = (valD (xs.take n), ⟨xs.drop n, no⟩) := by
  unfold Rd.number
  have hl : (xs.take n).length = n := by rw [List.length_take]; omega
  simp only [ht, hd, hl]
  rw [if_neg (by
    rintro (h | ⟨h, h2⟩)
    · omega
    · rcases hh with hh | hh
      · omega
      · exact hh h2)]
  have : (xs.take n).isEmpty = false := by
    cases he : xs.take n with
    | nil => rw [he] at hl; simp at hl; omega
    | cons a l => rfl
  rw [this, Bool.or_false]
/-- Behind a number's digits. -/
theorem numEnd {w w2 : World} {b p i n : Nat} {s xs : Str} {no bad bd : Bool} (hle : p ≤ s.length) (hfew : s.length ≤ 1000000) (hno : no = bad) (hrest : bad = false → xs = s.drop p) (hi : p + i ≤ s.length) (hn : ∀ j (hj : j < s.length), p ≤ j → j < p + i → isDig s[j] = true) (hv : n = valD ((s.drop p).take i)) (hbi : bad = true → i = 0) (hbd : bd = (bad || decide (999999999999999 < n))) (hn9 : n ≤ 9999999999999999)
    (hend : bd = true ∨ p + i = s.length ∨ ∃ hl : p + i < s.length, isDig s[p + i] = false) (h : St [b] w [.blk b (.cells #[S s, .int .i64 ((p + i : Nat) : Int), .bool bd] T_joineryref4_Reader (0, 0))] w2) {R : Value → World → Prop}
    (hR : ∀ (m : Nat) (bb : Bool) (w' : World), m ≤ 9999999999999999 → Rl (Rd.number ⟨xs, no⟩).2 ⟨s, p + i, bb⟩ → (bb = false → m = (Rd.number ⟨xs, no⟩).1) → St [b] w [.blk b (.cells #[S s, .int .i64 ((p + i : Nat) : Int), .bool bb] T_joineryref4_Reader (0, 0))] w' → R (.int .i64 (m : Nat)) w') :
    XNil (pt b) fun q17 => XFld Tryz.prog 166 q17 1 w2 fun v81 w140 => XLoad Tryz.prog 3 v81 w140 fun v82 w141 => XBin Tryz.prog .eql 3 false false v82 (.int .i64 (p : Nat)) w141 fun v84 w142 =>
      ∃ J1 : Value → World → Prop, (∀ (_ : Env) (u93 : Value) (w143 : World), J1 u93 w143 → ∃ J2 : Value → World → Prop, (∀ (_ : Env) (u100 : Value) (w144 : World), J2 u100 w144 →
        ∃ J3 : Value → World → Prop, (∀ (_ : Env) (u101 : Value) (w145 : World), J3 u101 w145 → XPick v84 (Value.bool true) u101 fun q18 => XC q18 (XNil (pt b) fun q19 => XFld Tryz.prog 166 q19 2 w145 fun v105 w146 => XStore Tryz.prog 4 v105 (Value.bool true) w146 fun w147 => R (Value.int .i64 0) w147) (R (.int .i64 (n : Nat)) w145)) ∧
          XG v84 false (XPick u93 u100 (Value.bool false) fun q20 => J3 q20 w144) (J3 undef w144)) ∧
        XG u93 true (XNil (pt b) fun q21 => XFld Tryz.prog 166 q21 1 w143 fun v96 w148 => XLoad Tryz.prog 3 v96 w148 fun v97 w149 => XBin Tryz.prog .add 3 false true (.int .i64 (p : Nat)) (Value.int .i64 1) w149 fun v99 w150 => XBin Tryz.prog .gtr 3 false false v97 v99 w150 fun v100 w151 => J2 v100 w151) (J2 undef w143)) ∧
      XG v84 false (XNil (pt b) fun q22 => XFld Tryz.prog 166 q22 0 w142 fun v88 w152 => XLoad Tryz.prog 9 v88 w152 fun v89 w153 => XIx Tryz.prog 9 v89 (.int .i64 (p : Nat)) w153 fun v91 w154 => XBin Tryz.prog .eql 5 false true v91 (Value.int .u8 48) w154 fun v92 w155 => J1 v92 w155) (J1 undef w142) := by
  have hx : bad = false → xs.length = s.length - p := fun hh => by rw [hrest hh, List.length_drop]
  have hge : bad = false → i ≤ (xs.takeWhile isDig).length := fun hh => by
    have := hx hh
    refine takeWhile_ge isDig xs i (by omega) fun j hj h1 => ?_
    have hr := hrest hh
    subst hr
    rw [List.getElem_drop]
    exact hn (p + j) (by omega) (by omega) (by omega)
  have hat : bad = false → bd = false → xs.takeWhile isDig = xs.take i ∧ xs.dropWhile isDig = xs.drop i := fun hh hd => by
    have := hx hh
    have hr := hrest hh
    refine takeWhile_at isDig xs i (by omega) (fun j hj h1 => ?_) (fun hj => ?_)
    · subst hr
      rw [List.getElem_drop]
      exact hn (p + j) (by omega) (by omega) (by omega)
    · subst hr
      rw [List.getElem_drop]
      rcases hend with e | e | ⟨_, e⟩
      · rw [hd] at e; cases e
      · omega
      · exact e
  have bads : ∀ {w' : World} (m : Nat), m ≤ 9999999999999999 → (Rd.number ⟨xs, no⟩).2.no = true → St [b] w [.blk b (.cells #[S s, .int .i64 ((p + i : Nat) : Int), .bool true] T_joineryref4_Reader (0, 0))] w' → R (.int .i64 (m : Nat)) w' := fun m hm hh h => hR m true _ hm ⟨hi, hfew, hh, nofun⟩ nofun h
  rw [xnil_ptr, fld_joineryref4_Reader_P]
  refine st_load ag_int h 0 rfl rfl ?_
  rw [xeql]
  by_cases h0 : i = 0
  · rw [decide_eq_true (by omega)]
    refine ⟨fun u w' => u = undef ∧ St [b] w [.blk b (.cells #[S s, .int .i64 ((p + i : Nat) : Int), .bool bd] T_joineryref4_Reader (0, 0))] w', ?_, by rw [xg_tf]; exact ⟨rfl, h⟩⟩
    rintro - u w3 ⟨rfl, h⟩
    refine ⟨fun u w' => St [b] w [.blk b (.cells #[S s, .int .i64 ((p + i : Nat) : Int), .bool bd] T_joineryref4_Reader (0, 0))] w', ?_, ⟨nofun, fun _ => h⟩⟩
    rintro - u w4 h
    refine ⟨fun u w' => St [b] w [.blk b (.cells #[S s, .int .i64 ((p + i : Nat) : Int), .bool bd] T_joineryref4_Reader (0, 0))] w', ?_, by rw [xg_tf]; exact h⟩
    rintro - u w5 h
    rw [xpick_true, xc_true, xnil_ptr, fld_joineryref4_Reader_Bad]
    refine st_store sz_bool h 0 rfl rfl rfl rfl ?_
    intro w6 h
    try simp only [go_sem] at h
    refine bads 0 (by omega) ?_ h
    cases hbad : bad
    · have hbd0 : bd = false := by
        rw [hbd, hbad, hv, h0]
        rfl
      have := hat hbad hbd0
      rw [h0] at this
      exact num_none (by rw [this.1]; rfl)
    · rw [hno, hbad]; exact num_bad
  · have hb0 : bad = false := by
      cases hh : bad
      · rfl
      · exact absurd (hbi hh) h0
    have hlt : p < s.length := by omega
    have hdp := hn p hlt (by omega) (by omega)
    have hd9 := (isDig_iff _).1 hdp
    have hhd : xs.head? = some s[p] := by rw [hrest hb0, drop_at hlt]; rfl
    rw [decide_eq_false (by omega)]
    refine ⟨fun u w' => u = .bool (decide ((s[p].toNat : Int) = 48)) ∧ St [b] w [.blk b (.cells #[S s, .int .i64 ((p + i : Nat) : Int), .bool bd] T_joineryref4_Reader (0, 0))] w', ?_, ?_⟩
    · rintro - u w3 ⟨rfl, h⟩
      refine ⟨fun u w' => ((s[p].toNat : Int) = 48 → u = .bool (decide (1 < i))) ∧ St [b] w [.blk b (.cells #[S s, .int .i64 ((p + i : Nat) : Int), .bool bd] T_joineryref4_Reader (0, 0))] w', ?_, ?_⟩
      · rintro - u w4 ⟨hu, h⟩
        refine ⟨fun u w' => u = .bool (decide ((s[p].toNat : Int) = 48) && decide (1 < i)) ∧ St [b] w [.blk b (.cells #[S s, .int .i64 ((p + i : Nat) : Int), .bool bd] T_joineryref4_Reader (0, 0))] w', ?_, ?_⟩
        · rintro - u w5 ⟨rfl, h⟩
          rw [xpick_false]
          refine xc_of ?_ ?_
          · intro hc
            rw [Bool.and_eq_true, decide_eq_true_eq, decide_eq_true_eq] at hc
            rw [xnil_ptr, fld_joineryref4_Reader_Bad]
            refine st_store sz_bool h 0 rfl rfl rfl rfl ?_
            intro w6 h
            try simp only [go_sem] at h
            refine bads 0 (by omega) ?_ h
            have := hge hb0
            refine num_zero (by omega) ?_
            rw [hhd, u8_eq (b := 48) hc.1]
          · intro hc
            rw [Bool.and_eq_false_iff, decide_eq_false_iff_not, decide_eq_false_iff_not] at hc
            have hlen : ((s.drop p).take i).length = i := by rw [List.length_take, List.length_drop]; omega
            have hdg : ∀ c ∈ (s.drop p).take i, isDig c = true := fun c hc => by
              obtain ⟨j, hj, rfl⟩ := List.mem_iff_getElem.1 hc
              rw [List.getElem_take, List.getElem_drop]
              exact hn (p + j) (by omega) (by omega) (by omega)
            have hvlt := valD_lt i _ hlen hdg
            rw [← hv] at hvlt
            cases hbb : bd
            · have ha := hat hb0 hbb
              have hnm : n ≤ 999999999999999 := by
                rcases Nat.lt_or_ge 999999999999999 n with hh | hh
                · rw [hbb, hb0, decide_eq_true hh] at hbd; cases hbd
                · exact hh
              have hne : i = 1 ∨ xs.head? ≠ some 48 := by
                rcases hc with hc | hc
                · right
                  rw [hhd]
                  intro e
                  injection e with e
                  rw [e] at hc
                  exact hc rfl
                · left; omega
              have h15 : i ≤ 15 := by
                rcases Nat.lt_or_ge 15 i with hh | hh
                · have hne : xs.head? ≠ some 48 := hne.resolve_left (by omega)
                  have h1 := valD_ge (i - 1) ((s.drop p).take i) (by rw [hlen]; omega) hdg (by
                    rw [← hrest hb0, List.head?_take, if_neg h0]
                    exact hne)
                  rw [← hv] at h1
                  have h2 : 10 ^ 15 ≤ 10 ^ (i - 1) := Nat.pow_le_pow_right (by omega) (by omega)
                  omega
                · exact hh
              have hxl := hx hb0
              have hf := num_fine (no := no) ha.1 ha.2 (by omega) (by omega) h15 hne
              rw [hbb] at h
              refine hR n false _ hn9 ⟨hi, hfew, ?_, fun _ => ?_⟩ (fun _ => ?_) h
              · rw [hf]; exact hno.trans hb0
              · rw [hf, hrest hb0]
                show (s.drop p).drop i = s.drop (p + i)
                rw [List.drop_drop]
              · rw [hf, hrest hb0]; exact hv
            · rw [hbb] at h
              refine bads n hn9 ?_ h
              have hnm : 999999999999999 < n := by
                rw [hbb, hb0, Bool.false_or] at hbd
                exact of_decide_eq_true hbd.symm
              have := hge hb0
              refine num_long ?_
              rcases Nat.lt_or_ge 15 i with hh | hh
              · omega
              · have h2 : 10 ^ i ≤ 10 ^ 15 := Nat.pow_le_pow_right (by omega) hh
                omega
        · rw [xg_same]
          by_cases hc : (s[p].toNat : Int) = 48
          · rw [decide_eq_true hc, xpick_true, hu hc]
            exact ⟨rfl, h⟩
          · rw [decide_eq_false hc, xpick_false]
            exact ⟨rfl, h⟩
      · by_cases hc : (s[p].toNat : Int) = 48
        · rw [decide_eq_true hc, xg_same, xnil_ptr, fld_joineryref4_Reader_P]
          refine st_load ag_int h 0 rfl rfl ?_
          rw [xadd, wi64 (by omega) (by omega), xgtr]
          refine ⟨fun _ => ?_, h⟩
          have : decide ((p : Int) + 1 < ((p + i : Nat) : Int)) = decide (1 < i) := decide_eq_decide.2 (by omega)
          rw [this]
        · rw [decide_eq_false hc, xg_ft]
          exact ⟨fun hh => absurd hh hc, h⟩
    · rw [xg_same, xnil_ptr, fld_joineryref4_Reader_S]
      refine st_load ag_string h 0 rfl rfl ?_
      rw [xix_str und_string _ _ _ hlt, xeql]
      exact ⟨rfl, h⟩
set_option maxHeartbeats 4000000 in
theorem c_fNumber {w : World} {b : Nat} {x : Rd} {r : RR} (hb : w.heap[b]? = some (rfO r)) (hr : Rl x r) :
    Ret Tryz.prog F_joineryref4_Reader_Number #[pt b, .int .i64 999999999999999] w fun v w' => ∃ (n : Nat) (p : Nat) (bad : Bool), v = .int .i64 (n : Nat) ∧ n ≤ 9999999999999999 ∧ Rl x.number.2 ⟨r.s, p, bad⟩ ∧ (bad = false → n = x.number.1) ∧ r.p ≤ p ∧ St [b] w [.blk b (rfO ⟨r.s, p, bad⟩)] w' := by
  refine call_joineryref4_Reader_Number ?_
  have h := St.startR hb
  obtain ⟨s, p, bad⟩ := r
  obtain ⟨xs, no⟩ := x
  suffices hS : ∀ R : Value → World → Prop, (∀ (m p' : Nat) (bb : Bool) (w' : World), m ≤ 9999999999999999 → Rl (Rd.number ⟨xs, no⟩).2 ⟨s, p', bb⟩ → (bb = false → m = (Rd.number ⟨xs, no⟩).1) → p ≤ p' → St [b] w [.blk b (.cells #[S s, .int .i64 (p' : Nat), .bool bb] T_joineryref4_Reader (0, 0))] w' → R (.int .i64 (m : Nat)) w') → S_joineryref4_Reader_Number Tryz.prog (pt b) (.int .i64 999999999999999) w R from hS _ fun m p' bb w' h1 h2 h3 h4 h5 => ⟨m, p', bb, rfl, h1, h2, h3, h4, h5⟩
  intro R hR
  unfold S_joineryref4_Reader_Number
  obtain ⟨hle, hfew, hno, hrest⟩ := hr
  simp only at hle hfew hno hrest
  have h : St [b] w [.blk b (.cells #[S s, .int .i64 (p : Nat), .bool bad] T_joineryref4_Reader (0, 0))] w := h
  rw [xnil_ptr, fld_joineryref4_Reader_P]
  refine st_load ag_int h 0 rfl rfl ?_
  refine ⟨fun u w' => ∃ (i : Nat) (n : Nat) (bd : Bool), p + i ≤ s.length ∧ (∀ j (hj : j < s.length), p ≤ j → j < p + i → isDig s[j] = true) ∧ n = valD ((s.drop p).take i) ∧ u = .int .i64 (n : Nat) ∧ (bad = true → i = 0) ∧ bd = (bad || decide (999999999999999 < n)) ∧ n ≤ 9999999999999999 ∧ St [b] w [.blk b (.cells #[S s, .int .i64 ((p + i : Nat) : Int), .bool bd] T_joineryref4_Reader (0, 0))] w', fun _ w' => s.length - rfP b w', ⟨0, 0, bad, hle, fun _ _ _ _ => by omega, rfl, rfl, fun _ => rfl, by simp, by omega, h⟩, ?_⟩
  clear h
  rintro - u w1 ⟨i, n, bd, hi, hn, hv, rfl, hbi, hbd, hn9, h⟩
  have hpos := rfP_of (h.at 0 rfl)
  have h := h.step (Ext.drew _)
  refine ⟨Ext, Ext, preExt, ?_⟩
  cases bd
  · by_cases hlt : p + i < s.length
    · by_cases h1 : 48 ≤ s[p + i].toNat
      · by_cases h2 : s[p + i].toNat ≤ 57
        · repeat
            apply Exists.intro
            apply And.intro
            · first
                | (rw [xg_ft]; try rfl)
                | (rw [xg_tf]; try rfl)
                | ((try rw [xg_same]); intro w3; first
                    | (rw [xnil_ptr]; exact ⟨rfl, rfl⟩)
                    | (rw [fld_joineryref4_Reader_S]; exact ⟨rfl, rfl⟩)
                    | (rw [fld_joineryref4_Reader_P]; exact ⟨rfl, rfl⟩)
                    | (rw [fld_joineryref4_Reader_Bad]; exact ⟨rfl, rfl⟩)
                    | (rw [xpick_true]; exact ⟨rfl, rfl⟩)
                    | (rw [xpick_false]; exact ⟨rfl, rfl⟩)
                    | (rw [xnot, Bool.not_true]; exact ⟨rfl, rfl⟩)
                    | (rw [xnot, Bool.not_false]; exact ⟨rfl, rfl⟩)
                    | (rw [xnot]; exact ⟨rfl, rfl⟩)
                    | (rw [xlen_string und_string]; exact ⟨rfl, rfl⟩)
                    | (rw [xix_str und_string _ _ _ hlt]; exact ⟨rfl, rfl⟩)
                    | (rw [xgeq, decide_eq_true (by omega)]; exact ⟨rfl, rfl⟩)
                    | (rw [xgeq, decide_eq_false (by omega)]; exact ⟨rfl, rfl⟩)
                    | (rw [xleq, decide_eq_true (by omega)]; exact ⟨rfl, rfl⟩)
                    | (rw [xleq, decide_eq_false (by omega)]; exact ⟨rfl, rfl⟩)
                    | (rw [xlss, decide_eq_true (by omega)]; exact ⟨rfl, rfl⟩)
                    | (rw [xlss, decide_eq_false (by omega)]; exact ⟨rfl, rfl⟩)
                    | (rw [xeql, decide_eq_true (by omega)]; exact ⟨rfl, rfl⟩)
                    | (rw [xeql, decide_eq_false (by omega)]; exact ⟨rfl, rfl⟩)
                    | (rw [xneq, decide_eq_true (by omega)]; exact ⟨rfl, rfl⟩)
                    | (rw [xneq, decide_eq_false (by omega)]; exact ⟨rfl, rfl⟩)
                    | (intro e3; first
                        | exact st_load ag_bool (h.step e3) 0 rfl rfl ⟨rfl, Ext.refl _⟩
                        | exact st_load ag_int (h.step e3) 0 rfl rfl ⟨rfl, Ext.refl _⟩
                        | exact st_load ag_string (h.step e3) 0 rfl rfl ⟨rfl, Ext.refl _⟩
                        | exact st_load ag_bool (hm e3) 0 rfl rfl ⟨rfl, rfl⟩
                        | exact st_load ag_int (hm e3) 0 rfl rfl ⟨rfl, rfl⟩
                        | exact st_loadW ag_api_Node sz_api_Node (hm e3) 1 rfl rfl ⟨rfl, rfl⟩
                        | exact st_loadW ag_api_Place sz_api_Place (hm e3) 1 rfl rfl ⟨rfl, rfl⟩
                        | exact xcall_of (en_joineryref4_parting _) (hpt _) fun _ _ hq => hq)
                    | (rw [xmul, wi64 (by omega) (by omega)]; exact ⟨rfl, rfl⟩)
                    | (rw [xsub, wu8 (by omega) (by omega)]; exact ⟨rfl, rfl⟩)
                    | (rw [xconv_int und_uint8 und_int, wi64 (by omega) (by omega)]; exact ⟨rfl, rfl⟩)
                    | (rw [xadd, wi64 (by omega) (by omega)]; exact ⟨rfl, rfl⟩)
                    | (rw [xslice_mid und_string (by omega) (by omega)]; exact ⟨rfl, rfl⟩)
                    | exact ⟨rfl, rfl⟩)
          intro w2 e2
          have h := h.step e2
          rw [xc_true]
          have h := h.step (Ext.drew _)
          have hmn : n ≤ 999999999999999 := by
            rcases Nat.lt_or_ge 999999999999999 n with hh | hh
            · rw [decide_eq_true hh, Bool.or_true] at hbd; cases hbd
            · exact hh
          have hb0 : bad = false := by
            cases bad
            · rfl
            · rw [Bool.true_or] at hbd; cases hbd
          refine ⟨Ext, Ext, preExt, ?_⟩
          repeat
            apply Exists.intro
            apply And.intro
            · first
                | (rw [xg_ft]; try rfl)
                | (rw [xg_tf]; try rfl)
                | ((try rw [xg_same]); intro w3; first
                    | (rw [xnil_ptr]; exact ⟨rfl, rfl⟩)
                    | (rw [fld_joineryref4_Reader_S]; exact ⟨rfl, rfl⟩)
                    | (rw [fld_joineryref4_Reader_P]; exact ⟨rfl, rfl⟩)
                    | (rw [fld_joineryref4_Reader_Bad]; exact ⟨rfl, rfl⟩)
                    | (rw [xpick_true]; exact ⟨rfl, rfl⟩)
                    | (rw [xpick_false]; exact ⟨rfl, rfl⟩)
                    | (rw [xnot, Bool.not_true]; exact ⟨rfl, rfl⟩)
                    | (rw [xnot, Bool.not_false]; exact ⟨rfl, rfl⟩)
                    | (rw [xnot]; exact ⟨rfl, rfl⟩)
                    | (rw [xlen_string und_string]; exact ⟨rfl, rfl⟩)
                    | (rw [xix_str und_string _ _ _ hlt]; exact ⟨rfl, rfl⟩)
                    | (rw [xgeq, decide_eq_true (by omega)]; exact ⟨rfl, rfl⟩)
                    | (rw [xgeq, decide_eq_false (by omega)]; exact ⟨rfl, rfl⟩)
                    | (rw [xleq, decide_eq_true (by omega)]; exact ⟨rfl, rfl⟩)
                    | (rw [xleq, decide_eq_false (by omega)]; exact ⟨rfl, rfl⟩)
                    | (rw [xlss, decide_eq_true (by omega)]; exact ⟨rfl, rfl⟩)
                    | (rw [xlss, decide_eq_false (by omega)]; exact ⟨rfl, rfl⟩)
                    | (rw [xeql, decide_eq_true (by omega)]; exact ⟨rfl, rfl⟩)
                    | (rw [xeql, decide_eq_false (by omega)]; exact ⟨rfl, rfl⟩)
                    | (rw [xneq, decide_eq_true (by omega)]; exact ⟨rfl, rfl⟩)
                    | (rw [xneq, decide_eq_false (by omega)]; exact ⟨rfl, rfl⟩)
                    | (intro e3; first
                        | exact st_load ag_bool (h.step e3) 0 rfl rfl ⟨rfl, Ext.refl _⟩
                        | exact st_load ag_int (h.step e3) 0 rfl rfl ⟨rfl, Ext.refl _⟩
                        | exact st_load ag_string (h.step e3) 0 rfl rfl ⟨rfl, Ext.refl _⟩
                        | exact st_load ag_bool (hm e3) 0 rfl rfl ⟨rfl, rfl⟩
                        | exact st_load ag_int (hm e3) 0 rfl rfl ⟨rfl, rfl⟩
                        | exact st_loadW ag_api_Node sz_api_Node (hm e3) 1 rfl rfl ⟨rfl, rfl⟩
                        | exact st_loadW ag_api_Place sz_api_Place (hm e3) 1 rfl rfl ⟨rfl, rfl⟩
                        | exact xcall_of (en_joineryref4_parting _) (hpt _) fun _ _ hq => hq)
                    | (rw [xmul, wi64 (by omega) (by omega)]; exact ⟨rfl, rfl⟩)
                    | (rw [xsub, wu8 (by omega) (by omega)]; exact ⟨rfl, rfl⟩)
                    | (rw [xconv_int und_uint8 und_int, wi64 (by omega) (by omega)]; exact ⟨rfl, rfl⟩)
                    | (rw [xadd, wi64 (by omega) (by omega)]; exact ⟨rfl, rfl⟩)
                    | (rw [xslice_mid und_string (by omega) (by omega)]; exact ⟨rfl, rfl⟩)
                    | exact ⟨rfl, rfl⟩)
          intro w3 e3
          have h := h.step e3
          rw [xnil_ptr, fld_joineryref4_Reader_P]
          refine st_load ag_int h 0 rfl rfl ?_
          rw [xadd, wi64 (by omega) (by omega), xnil_ptr, fld_joineryref4_Reader_P]
          refine st_store sz_int h 0 rfl rfl rfl rfl ?_
          intro w4 h
          try simp only [go_sem] at h
          have ec : ((p + i : Nat) : Int) + 1 = ((p + (i + 1) : Nat) : Int) := by omega
          rw [ec] at h
          have en : (10 : Int) * (n : Int) + ((s[p + i].toNat : Int) - 48) = ((n * 10 + (s[p + i].toNat - 48) : Nat) : Int) := by omega
          have hv2 : n * 10 + (s[p + i].toNat - 48) = valD ((s.drop p).take (i + 1)) := by
            rw [List.take_succ_eq_append_getElem (by rw [List.length_drop]; omega), valD_snoc, ← hv, List.getElem_drop]
          have hdig : ∀ j (hj : j < s.length), p ≤ j → j < p + (i + 1) → isDig s[j] = true := fun j hj h3 h4 => by
            rcases Nat.lt_succ_iff_lt_or_eq.1 (show j < (p + i) + 1 by omega) with h5 | rfl
            · exact hn j hj h3 h5
            · exact (isDig_iff _).2 ⟨h1, h2⟩
          rw [en, xgtr]
          refine xc_dec ?_ ?_
          · intro hm
            rw [xnil_ptr, fld_joineryref4_Reader_Bad]
            refine st_store sz_bool h 0 rfl rfl rfl rfl ?_
            intro w5 h
            try simp only [go_sem] at h
            have hpos5 := rfP_of (h.at 0 rfl)
            refine ⟨⟨i + 1, _, true, by omega, hdig, hv2, rfl, (fun hh => Bool.noConfusion (hb0.symm.trans hh)), ?_, by omega, h⟩, by show s.length - rfP b w5 < s.length - rfP b w1; rw [hpos5, hpos]; omega⟩
            rw [decide_eq_true (by omega), Bool.or_true]
          · intro hm
            have hpos5 := rfP_of (h.at 0 rfl)
            refine ⟨⟨i + 1, _, false, by omega, hdig, hv2, rfl, (fun hh => Bool.noConfusion (hb0.symm.trans hh)), ?_, by omega, h⟩, by show s.length - rfP b w4 < s.length - rfP b w1; rw [hpos5, hpos]; omega⟩
            rw [decide_eq_false (by omega), hb0]
            rfl
        · repeat
            apply Exists.intro
            apply And.intro
            · first
                | (rw [xg_ft]; try rfl)
                | (rw [xg_tf]; try rfl)
                | ((try rw [xg_same]); intro w3; first
                    | (rw [xnil_ptr]; exact ⟨rfl, rfl⟩)
                    | (rw [fld_joineryref4_Reader_S]; exact ⟨rfl, rfl⟩)
                    | (rw [fld_joineryref4_Reader_P]; exact ⟨rfl, rfl⟩)
                    | (rw [fld_joineryref4_Reader_Bad]; exact ⟨rfl, rfl⟩)
                    | (rw [xpick_true]; exact ⟨rfl, rfl⟩)
                    | (rw [xpick_false]; exact ⟨rfl, rfl⟩)
                    | (rw [xnot, Bool.not_true]; exact ⟨rfl, rfl⟩)
                    | (rw [xnot, Bool.not_false]; exact ⟨rfl, rfl⟩)
                    | (rw [xnot]; exact ⟨rfl, rfl⟩)
                    | (rw [xlen_string und_string]; exact ⟨rfl, rfl⟩)
                    | (rw [xix_str und_string _ _ _ hlt]; exact ⟨rfl, rfl⟩)
                    | (rw [xgeq, decide_eq_true (by omega)]; exact ⟨rfl, rfl⟩)
                    | (rw [xgeq, decide_eq_false (by omega)]; exact ⟨rfl, rfl⟩)
                    | (rw [xleq, decide_eq_true (by omega)]; exact ⟨rfl, rfl⟩)
                    | (rw [xleq, decide_eq_false (by omega)]; exact ⟨rfl, rfl⟩)
                    | (rw [xlss, decide_eq_true (by omega)]; exact ⟨rfl, rfl⟩)
                    | (rw [xlss, decide_eq_false (by omega)]; exact ⟨rfl, rfl⟩)
                    | (rw [xeql, decide_eq_true (by omega)]; exact ⟨rfl, rfl⟩)
                    | (rw [xeql, decide_eq_false (by omega)]; exact ⟨rfl, rfl⟩)
                    | (rw [xneq, decide_eq_true (by omega)]; exact ⟨rfl, rfl⟩)
                    | (rw [xneq, decide_eq_false (by omega)]; exact ⟨rfl, rfl⟩)
                    | (intro e3; first
                        | exact st_load ag_bool (h.step e3) 0 rfl rfl ⟨rfl, Ext.refl _⟩
                        | exact st_load ag_int (h.step e3) 0 rfl rfl ⟨rfl, Ext.refl _⟩
                        | exact st_load ag_string (h.step e3) 0 rfl rfl ⟨rfl, Ext.refl _⟩
                        | exact st_load ag_bool (hm e3) 0 rfl rfl ⟨rfl, rfl⟩
                        | exact st_load ag_int (hm e3) 0 rfl rfl ⟨rfl, rfl⟩
                        | exact st_loadW ag_api_Node sz_api_Node (hm e3) 1 rfl rfl ⟨rfl, rfl⟩
                        | exact st_loadW ag_api_Place sz_api_Place (hm e3) 1 rfl rfl ⟨rfl, rfl⟩
                        | exact xcall_of (en_joineryref4_parting _) (hpt _) fun _ _ hq => hq)
                    | (rw [xmul, wi64 (by omega) (by omega)]; exact ⟨rfl, rfl⟩)
                    | (rw [xsub, wu8 (by omega) (by omega)]; exact ⟨rfl, rfl⟩)
                    | (rw [xconv_int und_uint8 und_int, wi64 (by omega) (by omega)]; exact ⟨rfl, rfl⟩)
                    | (rw [xadd, wi64 (by omega) (by omega)]; exact ⟨rfl, rfl⟩)
                    | (rw [xslice_mid und_string (by omega) (by omega)]; exact ⟨rfl, rfl⟩)
                    | exact ⟨rfl, rfl⟩)
          intro w2 e2
          have h := h.step e2
          rw [xc_false]
          have hend : false = true ∨ p + i = s.length ∨ ∃ hl : p + i < s.length, isDig s[p + i] = false := .inr (.inr ⟨hlt, by simp [isDig, h2]⟩)
          exact numEnd hle hfew hno hrest hi hn hv hbi hbd hn9 hend h fun m bb w' h1 h2 h3 h4 => hR m (p + i) bb w' h1 h2 h3 (Nat.le_add_right p i) h4
      · repeat
          apply Exists.intro
          apply And.intro
          · first
              | (rw [xg_ft]; try rfl)
              | (rw [xg_tf]; try rfl)
              | ((try rw [xg_same]); intro w3; first
                  | (rw [xnil_ptr]; exact ⟨rfl, rfl⟩)
                  | (rw [fld_joineryref4_Reader_S]; exact ⟨rfl, rfl⟩)
                  | (rw [fld_joineryref4_Reader_P]; exact ⟨rfl, rfl⟩)
                  | (rw [fld_joineryref4_Reader_Bad]; exact ⟨rfl, rfl⟩)
                  | (rw [xpick_true]; exact ⟨rfl, rfl⟩)
                  | (rw [xpick_false]; exact ⟨rfl, rfl⟩)
                  | (rw [xnot, Bool.not_true]; exact ⟨rfl, rfl⟩)
                  | (rw [xnot, Bool.not_false]; exact ⟨rfl, rfl⟩)
                  | (rw [xnot]; exact ⟨rfl, rfl⟩)
                  | (rw [xlen_string und_string]; exact ⟨rfl, rfl⟩)
                  | (rw [xix_str und_string _ _ _ hlt]; exact ⟨rfl, rfl⟩)
                  | (rw [xgeq, decide_eq_true (by omega)]; exact ⟨rfl, rfl⟩)
                  | (rw [xgeq, decide_eq_false (by omega)]; exact ⟨rfl, rfl⟩)
                  | (rw [xleq, decide_eq_true (by omega)]; exact ⟨rfl, rfl⟩)
                  | (rw [xleq, decide_eq_false (by omega)]; exact ⟨rfl, rfl⟩)
                  | (rw [xlss, decide_eq_true (by omega)]; exact ⟨rfl, rfl⟩)
                  | (rw [xlss, decide_eq_false (by omega)]; exact ⟨rfl, rfl⟩)
                  | (rw [xeql, decide_eq_true (by omega)]; exact ⟨rfl, rfl⟩)
                  | (rw [xeql, decide_eq_false (by omega)]; exact ⟨rfl, rfl⟩)
                  | (rw [xneq, decide_eq_true (by omega)]; exact ⟨rfl, rfl⟩)
                  | (rw [xneq, decide_eq_false (by omega)]; exact ⟨rfl, rfl⟩)
                  | (intro e3; first
                      | exact st_load ag_bool (h.step e3) 0 rfl rfl ⟨rfl, Ext.refl _⟩
                      | exact st_load ag_int (h.step e3) 0 rfl rfl ⟨rfl, Ext.refl _⟩
                      | exact st_load ag_string (h.step e3) 0 rfl rfl ⟨rfl, Ext.refl _⟩
                      | exact st_load ag_bool (hm e3) 0 rfl rfl ⟨rfl, rfl⟩
                      | exact st_load ag_int (hm e3) 0 rfl rfl ⟨rfl, rfl⟩
                      | exact st_loadW ag_api_Node sz_api_Node (hm e3) 1 rfl rfl ⟨rfl, rfl⟩
                      | exact st_loadW ag_api_Place sz_api_Place (hm e3) 1 rfl rfl ⟨rfl, rfl⟩
                      | exact xcall_of (en_joineryref4_parting _) (hpt _) fun _ _ hq => hq)
                  | (rw [xmul, wi64 (by omega) (by omega)]; exact ⟨rfl, rfl⟩)
                  | (rw [xsub, wu8 (by omega) (by omega)]; exact ⟨rfl, rfl⟩)
                  | (rw [xconv_int und_uint8 und_int, wi64 (by omega) (by omega)]; exact ⟨rfl, rfl⟩)
                  | (rw [xadd, wi64 (by omega) (by omega)]; exact ⟨rfl, rfl⟩)
                  | (rw [xslice_mid und_string (by omega) (by omega)]; exact ⟨rfl, rfl⟩)
                  | exact ⟨rfl, rfl⟩)
        intro w2 e2
        have h := h.step e2
        rw [xc_false]
        have hend : false = true ∨ p + i = s.length ∨ ∃ hl : p + i < s.length, isDig s[p + i] = false := .inr (.inr ⟨hlt, by simp [isDig, h1]⟩)
        exact numEnd hle hfew hno hrest hi hn hv hbi hbd hn9 hend h fun m bb w' h1 h2 h3 h4 => hR m (p + i) bb w' h1 h2 h3 (Nat.le_add_right p i) h4
    · have hlt' := hlt
      repeat
        apply Exists.intro
        apply And.intro
        · first
            | (rw [xg_ft]; try rfl)
            | (rw [xg_tf]; try rfl)
            | ((try rw [xg_same]); intro w3; first
                | (rw [xnil_ptr]; exact ⟨rfl, rfl⟩)
                | (rw [fld_joineryref4_Reader_S]; exact ⟨rfl, rfl⟩)
                | (rw [fld_joineryref4_Reader_P]; exact ⟨rfl, rfl⟩)
                | (rw [fld_joineryref4_Reader_Bad]; exact ⟨rfl, rfl⟩)
                | (rw [xpick_true]; exact ⟨rfl, rfl⟩)
                | (rw [xpick_false]; exact ⟨rfl, rfl⟩)
                | (rw [xnot, Bool.not_true]; exact ⟨rfl, rfl⟩)
                | (rw [xnot, Bool.not_false]; exact ⟨rfl, rfl⟩)
                | (rw [xnot]; exact ⟨rfl, rfl⟩)
                | (rw [xlen_string und_string]; exact ⟨rfl, rfl⟩)
                | (rw [xix_str und_string _ _ _ hlt]; exact ⟨rfl, rfl⟩)
                | (rw [xgeq, decide_eq_true (by omega)]; exact ⟨rfl, rfl⟩)
                | (rw [xgeq, decide_eq_false (by omega)]; exact ⟨rfl, rfl⟩)
                | (rw [xleq, decide_eq_true (by omega)]; exact ⟨rfl, rfl⟩)
                | (rw [xleq, decide_eq_false (by omega)]; exact ⟨rfl, rfl⟩)
                | (rw [xlss, decide_eq_true (by omega)]; exact ⟨rfl, rfl⟩)
                | (rw [xlss, decide_eq_false (by omega)]; exact ⟨rfl, rfl⟩)
                | (rw [xeql, decide_eq_true (by omega)]; exact ⟨rfl, rfl⟩)
                | (rw [xeql, decide_eq_false (by omega)]; exact ⟨rfl, rfl⟩)
                | (rw [xneq, decide_eq_true (by omega)]; exact ⟨rfl, rfl⟩)
                | (rw [xneq, decide_eq_false (by omega)]; exact ⟨rfl, rfl⟩)
                | (intro e3; first
                    | exact st_load ag_bool (h.step e3) 0 rfl rfl ⟨rfl, Ext.refl _⟩
                    | exact st_load ag_int (h.step e3) 0 rfl rfl ⟨rfl, Ext.refl _⟩
                    | exact st_load ag_string (h.step e3) 0 rfl rfl ⟨rfl, Ext.refl _⟩
                    | exact st_load ag_bool (hm e3) 0 rfl rfl ⟨rfl, rfl⟩
                    | exact st_load ag_int (hm e3) 0 rfl rfl ⟨rfl, rfl⟩
                    | exact st_loadW ag_api_Node sz_api_Node (hm e3) 1 rfl rfl ⟨rfl, rfl⟩
                    | exact st_loadW ag_api_Place sz_api_Place (hm e3) 1 rfl rfl ⟨rfl, rfl⟩
                    | exact xcall_of (en_joineryref4_parting _) (hpt _) fun _ _ hq => hq)
                | (rw [xmul, wi64 (by omega) (by omega)]; exact ⟨rfl, rfl⟩)
                | (rw [xsub, wu8 (by omega) (by omega)]; exact ⟨rfl, rfl⟩)
                | (rw [xconv_int und_uint8 und_int, wi64 (by omega) (by omega)]; exact ⟨rfl, rfl⟩)
                | (rw [xadd, wi64 (by omega) (by omega)]; exact ⟨rfl, rfl⟩)
                | (rw [xslice_mid und_string (by omega) (by omega)]; exact ⟨rfl, rfl⟩)
                | exact ⟨rfl, rfl⟩)
      intro w2 e2
      have h := h.step e2
      rw [xc_false]
      have hend : false = true ∨ p + i = s.length ∨ ∃ hl : p + i < s.length, isDig s[p + i] = false := .inr (.inl (by omega))
      exact numEnd hle hfew hno hrest hi hn hv hbi hbd hn9 hend h fun m bb w' h1 h2 h3 h4 => hR m (p + i) bb w' h1 h2 h3 (Nat.le_add_right p i) h4
  · have hlt := trivial
    repeat
      apply Exists.intro
      apply And.intro
      · first
          | (rw [xg_ft]; try rfl)
          | (rw [xg_tf]; try rfl)
          | ((try rw [xg_same]); intro w3; first
              | (rw [xnil_ptr]; exact ⟨rfl, rfl⟩)
              | (rw [fld_joineryref4_Reader_S]; exact ⟨rfl, rfl⟩)
              | (rw [fld_joineryref4_Reader_P]; exact ⟨rfl, rfl⟩)
              | (rw [fld_joineryref4_Reader_Bad]; exact ⟨rfl, rfl⟩)
              | (rw [xpick_true]; exact ⟨rfl, rfl⟩)
              | (rw [xpick_false]; exact ⟨rfl, rfl⟩)
              | (rw [xnot, Bool.not_true]; exact ⟨rfl, rfl⟩)
              | (rw [xnot, Bool.not_false]; exact ⟨rfl, rfl⟩)
              | (rw [xnot]; exact ⟨rfl, rfl⟩)
              | (rw [xlen_string und_string]; exact ⟨rfl, rfl⟩)
              | (rw [xix_str und_string _ _ _ hlt]; exact ⟨rfl, rfl⟩)
              | (rw [xgeq, decide_eq_true (by omega)]; exact ⟨rfl, rfl⟩)
              | (rw [xgeq, decide_eq_false (by omega)]; exact ⟨rfl, rfl⟩)
              | (rw [xleq, decide_eq_true (by omega)]; exact ⟨rfl, rfl⟩)
              | (rw [xleq, decide_eq_false (by omega)]; exact ⟨rfl, rfl⟩)
              | (rw [xlss, decide_eq_true (by omega)]; exact ⟨rfl, rfl⟩)
              | (rw [xlss, decide_eq_false (by omega)]; exact ⟨rfl, rfl⟩)
              | (rw [xeql, decide_eq_true (by omega)]; exact ⟨rfl, rfl⟩)
              | (rw [xeql, decide_eq_false (by omega)]; exact ⟨rfl, rfl⟩)
              | (rw [xneq, decide_eq_true (by omega)]; exact ⟨rfl, rfl⟩)
              | (rw [xneq, decide_eq_false (by omega)]; exact ⟨rfl, rfl⟩)
              | (intro e3; first
                  | exact st_load ag_bool (h.step e3) 0 rfl rfl ⟨rfl, Ext.refl _⟩
                  | exact st_load ag_int (h.step e3) 0 rfl rfl ⟨rfl, Ext.refl _⟩
                  | exact st_load ag_string (h.step e3) 0 rfl rfl ⟨rfl, Ext.refl _⟩
                  | exact st_load ag_bool (hm e3) 0 rfl rfl ⟨rfl, rfl⟩
                  | exact st_load ag_int (hm e3) 0 rfl rfl ⟨rfl, rfl⟩
                  | exact st_loadW ag_api_Node sz_api_Node (hm e3) 1 rfl rfl ⟨rfl, rfl⟩
                  | exact st_loadW ag_api_Place sz_api_Place (hm e3) 1 rfl rfl ⟨rfl, rfl⟩
                  | exact xcall_of (en_joineryref4_parting _) (hpt _) fun _ _ hq => hq)
              | (rw [xmul, wi64 (by omega) (by omega)]; exact ⟨rfl, rfl⟩)
              | (rw [xsub, wu8 (by omega) (by omega)]; exact ⟨rfl, rfl⟩)
              | (rw [xconv_int und_uint8 und_int, wi64 (by omega) (by omega)]; exact ⟨rfl, rfl⟩)
              | (rw [xadd, wi64 (by omega) (by omega)]; exact ⟨rfl, rfl⟩)
              | (rw [xslice_mid und_string (by omega) (by omega)]; exact ⟨rfl, rfl⟩)
              | exact ⟨rfl, rfl⟩)
    intro w2 e2
    have h := h.step e2
    rw [xc_false]
    have hend : true = true ∨ p + i = s.length ∨ ∃ hl : p + i < s.length, isDig s[p + i] = false := .inl rfl
    exact numEnd hle hfew hno hrest hi hn hv hbi hbd hn9 hend h fun m bb w' h1 h2 h3 h4 => hR m (p + i) bb w' h1 h2 h3 (Nat.le_add_right p i) h4
end Go.Proofs.YthkgbajldkicfaaGreatDoor
