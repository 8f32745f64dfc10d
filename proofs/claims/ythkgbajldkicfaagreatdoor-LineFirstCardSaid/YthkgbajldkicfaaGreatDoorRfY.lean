/-
  The document's own words of a line, and a word's kind.
-/
import Derived.Test.YthkgbajldkicfaaGreatDoorRfX
namespace Go.Proofs.YthkgbajldkicfaaGreatDoor
set_option linter.unusedVariables false
set_option linter.unusedSimpArgs false
open Go Go.Jo
set_option maxRecDepth 100000

theorem part_no {s : Str} {a i : Nat} (hi : i ≤ s.length) (hn : ∀ j (hj : j < s.length), a ≤ j → j < i → s[j] ≠ 32) : (32 : UInt8) ∉ (s.drop a).take (i - a) := fun hm => by
  obtain ⟨j, hj, e⟩ := List.mem_iff_getElem.1 hm
  rw [List.getElem_take, List.getElem_drop] at e
  rw [List.length_take, List.length_drop] at hj
  exact hn (a + j) (by omega) (by omega) (by omega) e
theorem part_len {s : Str} {a i : Nat} (h : a ≤ i) (hi : i ≤ s.length) : ((s.drop a).take (i - a)).length = i - a := by rw [List.length_take, List.length_drop]; omega
theorem part_spl {s : Str} {a i : Nat} (h : a ≤ i) (hi : i < s.length) (hn : ∀ j (hj : j < s.length), a ≤ j → j < i → s[j] ≠ 32) (h32 : s[i] = 32) : spl (s.drop a) = (s.drop a).take (i - a) :: spl (s.drop (i + 1)) := by
  have e1 : s.drop a = (s.drop a).take (i - a) ++ 32 :: s.drop (i + 1) := by
    conv => lhs; rw [← List.take_append_drop (i - a) (s.drop a)]
    rw [List.drop_drop, show a + (i - a) = i by omega, drop_at hi, h32]
  conv => lhs; rw [e1]
  rw [spl_word _ _ (part_no (by omega) hn)]
theorem part_last {s : Str} {a : Nat} (h : a ≤ s.length) (hn : ∀ j (hj : j < s.length), a ≤ j → j < s.length → s[j] ≠ 32) : spl (s.drop a) = [(s.drop a).take (s.length - a)] := by
  have e1 : (s.drop a).take (s.length - a) = s.drop a := List.take_of_length_le (by rw [List.length_drop]; omega)
  have := part_no (Nat.le_refl _) hn
  rw [e1] at this ⊢
  exact spl_last _ this
set_option maxHeartbeats 2000000 in
theorem c_fWords {w : World} {s : Str} (hs : s.length ≤ 1000000) : Ret Tryz.prog F_joineryref4_Words #[S s] w fun v w' => St [] w [.row T_string 1 v (wordsM s).length (strsL (wordsM s))] w' := by
  refine call_joineryref4_Words ?_
  have h := (St.start w).row0 T_string 1
  unfold S_joineryref4_Words
  refine ⟨fun u1 u2 u3 w' => ∃ (i a : Nat) (out : List Str), u2 = .int .i64 (a : Nat) ∧ u3 = .int .i64 (i : Nat) ∧ out.length ≤ a ∧ [] ∉ out ∧ (i ≤ s.length → a ≤ i ∧ spl s = out ++ spl (s.drop a) ∧ ∀ j (hj : j < s.length), a ≤ j → j < i → s[j] ≠ 32) ∧ (s.length < i → i = s.length + 1 ∧ spl s = out) ∧ St [] w [.row T_string 1 u1 out.length (strsL out)] w', fun _ _ u _ => lenI (s.length + 2) u, ⟨0, 0, [], rfl, rfl, Nat.le_refl _, by simp, fun _ => ⟨Nat.le_refl _, rfl, fun _ _ _ _ => by omega⟩, fun hh => by omega, h⟩, ?_⟩
  clear h
  rintro - u1 u2 u3 w1 ⟨i, a, out, rfl, rfl, hol, hne, hle, hgt, h⟩
  rw [xlen_string und_string, xleq]
  refine xc_dec ?_ ?_
  · intro hi
    have hi : i ≤ s.length := by omega
    obtain ⟨hai, hsp, hn⟩ := hle hi
    rw [xlen_string und_string, xeql]
    refine or_st h (decide (s[i]? = some 32)) ?_ ?_
    · intro hlt J hJ
      have hlt : i < s.length := by have := of_decide_eq_false hlt; omega
      rw [xix_str und_string _ _ _ hlt, xeql]
      have e : decide ((s[i].toNat : Int) = 32) = decide (s[i]? = some 32) := by
        rw [List.getElem?_eq_getElem hlt]
        refine decide_eq_decide.2 ⟨fun e => ?_, fun e => ?_⟩
        · rw [u8_eq (b := 32) e]
        · injection e with e
          rw [e]
          rfl
      rw [e]
      exact hJ _ h
    intro w2 h
    refine xc_of ?_ ?_
    · intro hc
      rw [xeql]
      refine xc_dec ?_ ?_
      · intro e0
        have e0 : i = a := by omega
        subst e0
        have hw : wordsM s = [] := by
          unfold wordsM
          refine if_pos ?_
          rw [hsp]
          refine List.mem_append_right _ ?_
          by_cases hlt : i < s.length
          · have h32 : s[i] = 32 := by
              rw [Bool.or_eq_true, decide_eq_true_eq, decide_eq_true_eq, List.getElem?_eq_getElem hlt] at hc
              rcases hc with hc | hc
              · omega
              · exact Option.some.inj hc
            rw [part_spl (Nat.le_refl _) hlt hn h32, Nat.sub_self]
            simp
          · rw [List.drop_eq_nil_iff.2 (by omega)]
            simp [spl]
        rw [hw]
        exact (h.row0 T_string 1).pick [0] (by decide) rfl
      · intro e0
        have e0 : a < i := by omega
        rw [xslice_mid und_string hai hi]
        refine st_buildS (cs := #[S ((s.drop a).take (i - a))]) (e := T_string) (fun w => by kernel_rfl) h ?_
        intro bx w3 hbx h
        refine app_sl_string h 1 rfl [S ((s.drop a).take (i - a))] rfl (news_blk (h.at 0 rfl)) (by simp [Value.oneCell']) (by omega) ?_
        intro v' w4 h
        have h := h.drop
        have hpl := part_len hai hi
        rw [xadd, wi64 (by omega) (by omega), xadd, wi64 (by omega) (by omega)]
        have e5 : strsL (out ++ [(s.drop a).take (i - a)]) = strsL out ++ [S ((s.drop a).take (i - a))] := by simp
        refine ⟨⟨i + 1, i + 1, out ++ [(s.drop a).take (i - a)], rfl, rfl, by simp; omega, ?_, fun hh => ⟨Nat.le_refl _, ?_, fun _ _ _ _ => by omega⟩, fun hh => ⟨by omega, ?_⟩, by rw [e5, List.length_append]; exact h⟩, lenI_succ (by omega)⟩
        · intro hm
          rcases List.mem_append.1 hm with hm | hm
          · exact hne hm
          · rw [List.mem_singleton] at hm
            rw [← hm] at hpl
            simp at hpl
            omega
        · have hlt : i < s.length := by omega
          have h32 : s[i] = 32 := by
            rw [Bool.or_eq_true, decide_eq_true_eq, decide_eq_true_eq, List.getElem?_eq_getElem hlt] at hc
            rcases hc with hc | hc
            · omega
            · exact Option.some.inj hc
          rw [hsp, part_spl hai hlt hn h32]
          simp
        · have hi : i = s.length := by omega
          subst hi
          rw [hsp, part_last hai hn]
    · intro hc
      rw [Bool.or_eq_false_iff, decide_eq_false_iff_not, decide_eq_false_iff_not] at hc
      have hlt : i < s.length := by omega
      rw [xadd, wi64 (by omega) (by omega)]
      refine ⟨⟨i + 1, a, out, rfl, rfl, hol, hne, fun hh => ⟨by omega, hsp, fun j hj h1 h2 => ?_⟩, fun hh => by omega, h⟩, lenI_succ (by omega)⟩
      rcases Nat.lt_succ_iff_lt_or_eq.1 h2 with h3 | rfl
      · exact hn j hj h1 h3
      · intro e
        refine hc.2 ?_
        rw [List.getElem?_eq_getElem hj, e]
  · intro hi
    obtain ⟨_, e⟩ := hgt (by omega)
    have hw : wordsM s = out := by
      unfold wordsM
      rw [e]
      exact if_neg hne
    rw [hw]
    exact h
theorem c_fKind {w : World} {s : Str} : RetV Tryz.prog F_joineryref4_kind #[S s] w (.int .i64 (kindM s : Nat)) := by
  refine call_joineryref4_kind ?_
  have h := St.start w
  unfold S_joineryref4_kind
  refine st_buildS (cs := (strsL ([] :: verbsM)).toArray) (e := T_string) (fun w => by kernel_rfl) h ?_
  intro bs w1 hbs h
  have h := h.asRow 0 (k := 8) (sz := 1) rfl (by decide) (by kernel_rfl)
  refine ⟨fun u w' => ∃ i : Nat, 1 ≤ i ∧ i ≤ 8 ∧ u = .int .i64 (i : Nat) ∧ (∀ j (hj : j < verbsM.length), j < i - 1 → verbsM[j] ≠ s) ∧ St [] w [.row T_string 1 (.slice (some ⟨bs, 0, none⟩) 8 8) 8 (strsL ([] :: verbsM))] w', fun u _ => lenI 9 u, ⟨1, Nat.le_refl _, by omega, rfl, fun _ _ _ => by omega, h⟩, ?_⟩
  clear h
  rintro - u w2 ⟨i, h1, h8, rfl, hn, h⟩
  have hrow : Row w2 1 (.slice (some ⟨bs, 0, none⟩) 8 8) ([] :: verbsM : List Str).length (strsL ([] :: verbsM)) := Row.of_own (h.atR 0 rfl)
  rw [xlen_slice und_sl_string, xlss]
  refine xc_dec ?_ ?_
  · intro hlt
    have hlt : i < 8 := by omega
    have hv : i - 1 < verbsM.length := by show i - 1 < 7; omega
    have hx : ([] :: verbsM : List Str)[i]? = some verbsM[i - 1] := by
      obtain ⟨j, rfl⟩ : ∃ j, i = j + 1 := ⟨i - 1, by omega⟩
      rw [List.getElem?_cons_succ]
      exact List.getElem?_eq_getElem hv
    refine str_at hrow (show i < 8 from hlt) hx ?_
    intro b0 o0 hc0
    refine ld_of ag_string hc0 ?_
    rw [xseql]
    refine xc_dec ?_ ?_
    · intro e
      have hf : verbsM.findIdx? (· = s) = some (i - 1) := by
        refine List.findIdx?_eq_some_iff_getElem.2 ⟨hv, by simpa using e, fun j hj => by simpa using hn j (by omega) hj⟩
      have hk : kindM s = i := by
        unfold kindM
        rw [hf]
        show i - 1 + 1 = i
        omega
      rw [hk]
      exact ⟨rfl, h.ext⟩
    · intro e
      rw [xadd, wi64 (by omega) (by omega)]
      refine ⟨⟨i + 1, by omega, by omega, rfl, fun j hj h2 => ?_, h⟩, lenI_succ (by omega)⟩
      by_cases ej : j = i - 1
      · subst ej; exact e
      · exact hn j hj (by omega)
  · intro hge
    have hi : i = 8 := by omega
    subst hi
    have hf : verbsM.findIdx? (· = s) = none := by
      rw [List.findIdx?_eq_none_iff]
      intro x hx
      obtain ⟨j, hj, rfl⟩ := List.mem_iff_getElem.1 hx
      have : j < 7 := hj
      simpa using hn j hj (by omega)
    have hk : kindM s = 0 := by
      unfold kindM
      rw [hf]
    rw [hk]
    exact ⟨rfl, h.ext⟩
end Go.Proofs.YthkgbajldkicfaaGreatDoor
