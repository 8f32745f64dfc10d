/-
  The reader of words: what each of its methods does.
-/
import Derived.Test.YthkgbajldkicfaaGreatDoorPureLn
import Derived.Test.YthkgbajldkicfaaGreatDoorS1
import Derived.Test.YthkgbajldkicfaaGreatDoorShelf
namespace Go.Proofs.YthkgbajldkicfaaGreatDoor
set_option linter.unusedVariables false
set_option linter.unusedSimpArgs false
open Go Go.Jo
set_option maxRecDepth 100000

abbrev rdO (r : Rd) : Obj := .cells #[S r.s, .bool r.no] T_line_reader (0, 0)
abbrev pt (b : Nat) : Value := .pointer (some ⟨b, 0, none⟩)

theorem toList_S (s : Str) : (⟨s.toArray⟩ : ByteArray).data.toList = s := by simp
theorem trim_sign (s : Str) (c : UInt8) : Lib.trimPrefix s [c] = (signP c s).2 ∧ Lib.hasPrefix s [c] = (signP c s).1 := by
  cases s with
  | nil => exact ⟨rfl, rfl⟩
  | cons b t =>
    by_cases h : b = c
    · subst h; simp [Lib.trimPrefix, Lib.hasPrefix, signP]
    · have : ¬ c = b := fun e => h e.symm
      simp [Lib.trimPrefix, Lib.hasPrefix, List.isPrefixOf, signP, h, this]
theorem c_cut (s : Str) (c : UInt8) (w : World) : RetV Tryz.prog F_strings_CutPrefix #[S s, S [c]] w (.tuple #[S (signP c s).2, .bool (signP c s).1]) := by
  refine (Tryz.strings_CutPrefix _ _ w).mono ?_
  rintro e w' ⟨rfl, rfl⟩
  refine ⟨_, rfl, ?_, Ext.refl _⟩
  rw [toList_S, toList_S, (trim_sign s c).1, (trim_sign s c).2]

theorem c_sign {w : World} {b : Nat} {r : Rd} (hb : w.heap[b]? = some (rdO r)) (c : UInt8) : RetT Tryz.prog F_line_reader_sign #[pt b, S [c]] w b (rdO (r.sign c).2) (.bool (r.sign c).1) := by
  refine call_line_reader_sign ?_
  have h := St.startR hb
  unfold S_line_reader_sign
  simp only [go_sem]
  refine st_load ag_string h 0 rfl rfl ?_
  refine st_callV en_strings_CutPrefix (c_cut _ _ _) h ?_
  intro w1 h
  simp only [go_sem]
  refine st_store sz_string h 0 rfl rfl rfl rfl ?_
  intro w2 h
  exact ⟨rfl, h.chg, h.at 0 rfl⟩

def partC (c : Nat) : Bool := c == 32 || c == 58 || c == 44 || c == 43 || c == 126 || c == 33 || c == 62 || c == 64
abbrev signs : Str := [32, 58, 44, 43, 126, 33, 62, 64]
theorem c_parting (c : Nat) (w : World) : RetV Tryz.prog F_line_parting #[.int .i32 (c : Int)] w (.bool (partC c)) := by
  refine call_line_parting ?_
  have h := St.start w
  unfold S_line_parting
  refine st_range (s := signs) und_string h ?_
  intro b w1 hb h
  refine ⟨fun w2 => ∃ pos, pos ≤ 8 ∧ St [] w [.blk b (.stringIter ⟨signs.toArray⟩ pos)] w2 ∧ ∀ i (hi : i < signs.length), i < pos → signs[i].toNat ≠ c, fun w2 => 8 - posOf b w2, ⟨0, by omega, h, fun i hi h0 => by omega⟩, ?_⟩
  rintro - w2 ⟨pos, hp, h, hc⟩
  have hpos := h.pos 0 rfl
  refine st_next h 0 rfl ?_ ?_
  · intro hlt w3 h3
    have hlt : pos < signs.length := by rw [size_list] at hlt; exact hlt
    have hlow : signs[pos].toNat < 128 := by
      have : ∀ (i : Fin 8), (signs[i.1]'i.2).toNat < 128 := by decide
      exact this ⟨pos, hlt⟩
    simp only [go_sem]
    rw [decode_low signs pos hlt hlow] at h3 ⊢
    refine xc_dec ?_ ?_
    · intro e
      have e : signs[pos].toNat = c := Int.ofNat_inj.1 e
      refine ⟨?_, h3.chg.ext⟩
      have : ∀ (i : Fin 8), partC (signs[i.1]'i.2).toNat = true := by decide
      have := this ⟨pos, hlt⟩
      rw [← e]
      exact congrArg Value.bool this.symm
    · intro e
      have e : signs[pos].toNat ≠ c := fun e' => e (Int.ofNat_inj.2 e')
      have hpos3 := h3.pos 0 rfl
      have hlt' : pos < 8 := hlt
      refine ⟨⟨pos + 1, hlt, h3, fun i hi h0 => ?_⟩, by simp only at hpos3; rw [hpos, hpos3]; omega⟩
      by_cases e2 : i = pos
      · subst e2; exact e
      · exact hc i hi (by omega)
  · intro hge
    have hge : 8 ≤ pos := by rw [size_list] at hge; exact hge
    simp only [go_sem]
    refine ⟨?_, h.chg.ext⟩
    have h0 := hc 0 (by decide) (by omega); have h1 := hc 1 (by decide) (by omega); have h2 := hc 2 (by decide) (by omega); have h3 := hc 3 (by decide) (by omega)
    have h4 := hc 4 (by decide) (by omega); have h5 := hc 5 (by decide) (by omega); have h6 := hc 6 (by decide) (by omega); have h7 := hc 7 (by decide) (by omega)
    have h0 : ¬ c = 32 := fun e => h0 e.symm
    have h1 : ¬ c = 58 := fun e => h1 e.symm
    have h2 : ¬ c = 44 := fun e => h2 e.symm
    have h3 : ¬ c = 43 := fun e => h3 e.symm
    have h4 : ¬ c = 126 := fun e => h4 e.symm
    have h5 : ¬ c = 33 := fun e => h5 e.symm
    have h6 : ¬ c = 62 := fun e => h6 e.symm
    have h7 : ¬ c = 64 := fun e => h7 e.symm
    simp [partC, h0, h1, h2, h3, h4, h5, h6, h7]

theorem partC_byte (b : UInt8) : partC b.toNat = isPart b := by
  simp only [partC, isPart, ← UInt8.toNat_inj, Bool.beq_eq_decide_eq]
  rfl
theorem partC_up {c : Nat} (h : 128 ≤ c) : partC c = false := by
  simp only [partC, Bool.or_eq_false_iff, beq_eq_false_iff_ne]
  omega
theorem isPart_up {b : UInt8} (h : 128 ≤ b.toNat) : isPart b = false := by rw [← partC_byte]; exact partC_up h

set_option maxHeartbeats 1000000 in
theorem c_name {w : World} {b : Nat} {r : Rd} (hb : w.heap[b]? = some (rdO r)) : RetT Tryz.prog F_line_reader_name #[pt b] w b (rdO r.name.2) (S r.name.1) := by
  refine call_line_reader_name ?_
  have h := St.startR hb
  unfold S_line_reader_name
  simp only [go_sem]
  refine st_load ag_string h 0 rfl rfl ?_
  rw [len_string]
  -- behind the loop
  refine ⟨fun u w2 => ∃ n, u = .int .i64 (n : Nat) ∧ n ≤ r.s.length ∧ r.s.takeWhile (fun b => !isPart b) = r.s.take n ∧ r.s.dropWhile (fun b => !isPart b) = r.s.drop n ∧ St [b] w [.blk b (rdO r)] w2, ?_, ?_⟩
  · rintro - u w2 ⟨n, rfl, hn, ht, hd, h⟩
    refine st_load ag_string h 0 rfl rfl ?_
    rw [xslice_to und_string (by omega) (by omega)]
    refine st_load ag_string h 0 rfl rfl ?_
    rw [xslice_from und_string (by omega) (by omega)]
    refine st_store sz_string h 0 rfl rfl rfl rfl ?_
    intro w3 h
    refine st_load ag_bool h 0 rfl rfl ?_
    simp only [Int.toNat_natCast]
    refine or_st h (decide (r.s.take n = [])) ?_ ?_
    · intro _ J hJ
      rw [xseql]
      exact hJ _ h
    · intro w4 h
      refine st_store sz_bool h 0 rfl rfl rfl rfl ?_
      intro w5 h
      refine ⟨?_, h.chg, ?_⟩
      · rw [Rd.name, ht]
      · refine (h.at 0 rfl).trans ?_
        simp only [rdO, Rd.name, ht, hd]
        have : decide (List.take n r.s = []) = (List.take n r.s).isEmpty := by cases List.take n r.s <;> rfl
        rw [this]
        rfl
  · refine st_load ag_string h 0 rfl rfl ?_
    refine st_range und_string h ?_
    intro q w1 hq h
    refine ⟨fun u w2 => u = .int .i64 r.s.length ∧ ∃ pos, pos ≤ r.s.length ∧ St [b] w [.blk q (.stringIter ⟨r.s.toArray⟩ pos), .blk b (rdO r)] w2 ∧ ∀ i (hi : i < r.s.length), i < pos → isPart r.s[i] = false, fun _ w2 => r.s.length - posOf q w2, ⟨rfl, 0, by omega, h, fun i hi h0 => by omega⟩, ?_⟩
    rintro - u w2 ⟨rfl, pos, hp, h, hc⟩
    have hpos := h.pos 0 rfl
    refine st_next h 0 rfl ?_ ?_
    · intro hlt w3 h3
      have hlt : pos < r.s.length := by rw [size_list] at hlt; exact hlt
      simp only [go_sem]
      refine st_callV en_line_parting (c_parting _ _) h3 ?_
      intro w4 h4
      have hpos4 := h4.pos 0 rfl
      by_cases hl : r.s[pos].toNat < 128
      · rw [decode_low r.s pos hlt hl] at h4 hpos4 ⊢
        simp only [partC_byte] at hpos4 ⊢
        refine xc_of ?_ ?_
        · intro hpart
          have := takeWhile_at (fun b => !isPart b) r.s pos hp (fun i hi h0 => by simp [hc i hi h0]) (fun _ => by simp [hpart])
          exact ⟨pos, rfl, hp, this.1, this.2, h4.drop⟩
        · intro hpart
          refine ⟨⟨by trivial, pos + 1, hlt, h4, fun i hi h0 => ?_⟩, by rw [hpos, hpos4]; omega⟩
          by_cases e2 : i = pos
          · subst e2; exact hpart
          · exact hc i hi (by omega)
      · obtain ⟨g1, g2, g3, g4⟩ := decode_up r.s pos hlt (by omega)
        rw [partC_up g1]
        simp only [go_sem]
        refine ⟨⟨by trivial, _, g3, h4, fun i hi h0 => ?_⟩, by rw [hpos, hpos4]; omega⟩
        by_cases e2 : i < pos
        · exact hc i hi e2
        · exact isPart_up (g4 i hi (by omega) h0)
    · intro hge
      have hge : r.s.length ≤ pos := by rw [size_list] at hge; exact hge
      have e : pos = r.s.length := by omega
      subst e
      simp only [go_sem]
      have := takeWhile_at (fun b => !isPart b) r.s r.s.length hp (fun i hi h0 => by simp [hc i hi h0]) (fun hh => by omega)
      exact ⟨_, rfl, hp, this.1, this.2, h.drop⟩

theorem c_must {w : World} {b : Nat} {r : Rd} (hb : w.heap[b]? = some (rdO r)) (c : UInt8) : RetT Tryz.prog F_line_reader_must #[pt b, S [c]] w b (rdO (r.must c)) (.tuple #[]) := by
  refine call_line_reader_must ?_
  have h := St.startR hb
  unfold S_line_reader_must
  refine st_callT en_line_reader_sign (c_sign hb c) h 0 rfl ?_
  intro w1 h
  simp only [go_sem]
  refine or_st h r.no ?_ ?_
  · intro _ J hJ
    exact st_load ag_bool h 0 rfl rfl (hJ _ h)
  · intro w2 h
    refine st_store sz_bool h 0 rfl rfl rfl rfl ?_
    intro w3 h
    exact ⟨by trivial, h.chg, h.at 0 rfl⟩
theorem c_end {w : World} {b : Nat} {r : Rd} (hb : w.heap[b]? = some (rdO r)) : RetV Tryz.prog F_line_reader_end #[pt b] w (.bool r.fin) := by
  refine call_line_reader_end ?_
  have h : St [] w [] w := St.start w
  have h1 : St [b] w [.blk b (rdO r)] w := St.startR hb
  unfold S_line_reader_end
  simp only [go_sem]
  refine st_load ag_bool h1 0 rfl rfl ?_
  simp only [go_sem]
  refine and_st h (decide (r.s = [])) ?_ ?_
  · intro _ J hJ
    refine st_load ag_string h1 0 rfl rfl ?_
    rw [xseql]
    exact hJ _ h
  · intro w2 h
    refine ⟨?_, h.ext⟩
    have : decide (r.s = []) = r.s.isEmpty := by cases r.s <;> rfl
    rw [this]
    rfl
set_option maxHeartbeats 1000000 in
theorem c_number {w : World} {b : Nat} {r : Rd} (hb : w.heap[b]? = some (rdO r)) : RetT Tryz.prog F_line_reader_number #[pt b] w b (rdO r.number.2) (.int .i64 (r.number.1 : Nat)) := by
  refine call_line_reader_number ?_
  have h := St.startR hb
  unfold S_line_reader_number
  simp only [go_sem]
  -- behind the loop
  refine ⟨fun u v w2 => ∃ n, n ≤ 15 ∧ n ≤ r.s.length ∧ u = .int .i64 (valD (r.s.take n) : Nat) ∧ v = .int .i64 (n : Nat) ∧ r.s.takeWhile isDig = r.s.take n ∧ r.s.dropWhile isDig = r.s.drop n ∧ ¬ (1 < n ∧ r.s.head? = some 48) ∧ St [b] w [.blk b (rdO r)] w2, ?_, ?_⟩
  · rintro - u v w2 ⟨n, hn, hl, rfl, rfl, ht, hd, hz, h⟩
    have hlen : (r.s.takeWhile isDig).length = n := by rw [ht, List.length_take]; omega
    have hnum : r.number = (valD (r.s.take n), ⟨r.s.drop n, r.no || (r.s.take n).isEmpty⟩) := by
      unfold Rd.number
      simp only [hlen]
      rw [if_neg (by rintro (h1 | h1); omega; exact hz h1), ht, hd]
    refine st_load ag_bool h 0 rfl rfl ?_
    simp only [go_sem]
    refine or_st h (decide (n = 0)) ?_ ?_
    · intro _ J hJ
      have : decide ((n : Int) = 0) = decide (n = 0) := by simp
      rw [this]
      exact hJ _ h
    · intro w3 h
      refine st_store sz_bool h 0 rfl rfl rfl rfl ?_
      intro w4 h
      refine st_load ag_string h 0 rfl rfl ?_
      rw [xslice_from und_string (by omega) (by omega)]
      refine st_store sz_string h 0 rfl rfl rfl rfl ?_
      intro w5 h
      refine ⟨by rw [hnum], h.chg, ?_⟩
      refine (h.at 0 rfl).trans ?_
      rw [hnum]
      have : decide (n = 0) = (List.take n r.s).isEmpty := by
        cases n with
        | zero => simp
        | succ n =>
          cases hs : r.s with
          | nil => rw [hs] at hl; simp at hl
          | cons a t => simp
      simp only [rdO]
      rw [← this]
      rfl
  · refine st_load ag_string h 0 rfl rfl ?_
    refine st_range und_string h ?_
    intro q w1 hq h
    refine ⟨fun u v w2 => ∃ n, n ≤ 15 ∧ n ≤ r.s.length ∧ u = .int .i64 (valD (r.s.take n) : Nat) ∧ v = .int .i64 (n : Nat) ∧ (∀ i (hi : i < r.s.length), i < n → isDig r.s[i] = true) ∧ ¬ (1 < n ∧ r.s.head? = some 48) ∧ St [b] w [.blk q (.stringIter ⟨r.s.toArray⟩ n), .blk b (rdO r)] w2, fun _ _ w2 => r.s.length - posOf q w2, ⟨0, by omega, by omega, rfl, rfl, fun i hi h0 => by omega, by omega, h⟩, ?_⟩
    rintro - u v w2 ⟨n, hn, hl, rfl, rfl, hc, hz, h⟩
    have hpos := h.pos 0 rfl
    have stop : (∀ hh : n < r.s.length, isDig r.s[n] = false) → r.s.takeWhile isDig = r.s.take n ∧ r.s.dropWhile isDig = r.s.drop n := fun hh => takeWhile_at isDig r.s n hl hc hh
    refine st_next h 0 rfl ?_ ?_
    · intro hlt w3 h3
      have hlt : n < r.s.length := by rw [size_list] at hlt; exact hlt
      have hpos3 := h3.pos 0 rfl
      simp only [go_sem]
      by_cases hdg : isDig r.s[n] = true
      · have hd2 := (isDig_iff _).1 hdg
        have hlow := decode_low r.s n hlt (by omega)
        rw [hlow] at h3 hpos3 ⊢
        have e1 : decide ((r.s[n].toNat : Int) < 48) = false := decide_eq_false (by omega)
        have e2 : decide ((57 : Int) < (r.s[n].toNat : Int)) = false := decide_eq_false (by omega)
        have hv : valD (r.s.take n) < 10 ^ 15 := by
          refine Nat.lt_of_lt_of_le (valD_lt n _ (by rw [List.length_take]; omega) fun x hx => ?_) (Nat.pow_le_pow_right (by omega) hn)
          obtain ⟨i, hi, rfl⟩ := List.mem_iff_getElem.1 hx
          rw [List.length_take] at hi
          rw [List.getElem_take]
          exact hc i (by omega) (by omega)
        have e3 : IntKind.i64.wrap ((n : Int) + 1) = ((n + 1 : Nat) : Int) := by rw [wi64 (by omega) (by omega)]; omega
        have e4 : IntKind.i64.wrap ((valD (r.s.take n) : Int) * 10) = ((valD (r.s.take n) * 10 : Nat) : Int) := by rw [wi64 (by omega) (by omega)]; omega
        have e5 : IntKind.i32.wrap ((r.s[n].toNat : Int) - 48) = ((r.s[n].toNat - 48 : Nat) : Int) := by rw [wi32 (by omega) (by omega)]; omega
        have e6 : IntKind.i64.wrap ((r.s[n].toNat - 48 : Nat) : Int) = ((r.s[n].toNat - 48 : Nat) : Int) := wi64 (by omega) (by omega)
        have e7 : IntKind.i64.wrap (((valD (r.s.take n) * 10 : Nat) : Int) + ((r.s[n].toNat - 48 : Nat) : Int)) = ((valD (r.s.take (n + 1)) : Nat) : Int) := by
          rw [wi64 (by omega) (by omega), List.take_succ_eq_append_getElem hlt, valD_snoc]
          omega
        simp only [e1]
        refine ⟨_, fun _ _ _ hh => hh, ?_⟩
        simp only [go_sem, e2, e3, e4, e5, xconv_int und_int32 und_int, e6, e7]
        have hge : n + 1 ≤ (r.s.takeWhile isDig).length := takeWhile_ge isDig r.s (n + 1) hlt fun i hi h0 => by
          by_cases e : i = n
          · subst e; exact hdg
          · exact hc i hi (by omega)
        have bad : (15 < n + 1 ∨ 1 < n + 1 ∧ r.s.head? = some 48) → ∀ w', St [b] w [.blk q (.stringIter ⟨r.s.toArray⟩ (n + 1)), .blk b (rdO r)] w' → XStore Tryz.prog T_bool (.pointer (some ⟨b, 0 + 1, none⟩)) (.bool true) w' fun w32 =>
            Value.int IntKind.i64 0 = Value.int IntKind.i64 ↑r.number.fst ∧ Chg [b] w w32 ∧ w32.heap[b]? = some (rdO r.number.snd) := fun hb' w' h => by
          have hnum : r.number = (0, ⟨r.s, true⟩) := by
            unfold Rd.number
            simp only
            rw [if_pos (by rcases hb' with h1 | ⟨h1, h2⟩; exact .inl (by omega); exact .inr ⟨by omega, h2⟩)]
          refine st_store sz_bool h 1 rfl rfl rfl rfl ?_
          intro w4 h
          rw [hnum]
          exact ⟨rfl, h.chg, h.at 1 rfl⟩
        have good : ¬ (15 < n + 1) → ¬ (1 < n + 1 ∧ r.s.head? = some 48) → ∀ w', St [b] w [.blk q (.stringIter ⟨r.s.toArray⟩ (n + 1)), .blk b (rdO r)] w' → (∃ n_1, n_1 ≤ 15 ∧ n_1 ≤ r.s.length ∧ Value.int .i64 ↑(valD (r.s.take (n + 1))) = Value.int .i64 ↑(valD (r.s.take n_1)) ∧ Value.int .i64 ↑(n + 1) = Value.int .i64 ↑n_1 ∧
            (∀ (i : Nat) (hi : i < r.s.length), i < n_1 → isDig r.s[i] = true) ∧ ¬(1 < n_1 ∧ r.s.head? = some 48) ∧ St [b] w [.blk q (.stringIter ⟨r.s.toArray⟩ n_1), .blk b (rdO r)] w') ∧ r.s.length - posOf q w' < r.s.length - posOf q w2 := fun h1 h2 w' h => by
          have hp := h.pos 0 rfl
          refine ⟨⟨n + 1, by omega, hlt, rfl, rfl, fun i hi h0 => ?_, h2, h⟩, by rw [hpos, hp]; omega⟩
          by_cases e : i = n
          · subst e; exact hdg
          · exact hc i hi (by omega)
        by_cases h15 : 15 < n + 1
        · have e8 : decide ((15 : Int) < ((n + 1 : Nat) : Int)) = true := decide_eq_true (by omega)
          refine ⟨_, fun _ _ _ hh => hh, ?_⟩
          simp only [go_sem, e8]
          refine ⟨_, fun _ _ _ hh => hh, ?_⟩
          try simp only [go_sem]
          refine ⟨_, fun _ _ _ hh => hh, ?_⟩
          try simp only [go_sem]
          exact bad (.inl h15) _ h3
        · have e8 : decide ((15 : Int) < ((n + 1 : Nat) : Int)) = false := decide_eq_false (by omega)
          refine ⟨_, fun _ _ _ hh => hh, ?_⟩
          simp only [go_sem, e8]
          by_cases h1 : 1 < n + 1
          · have e9 : decide ((1 : Int) < ((n + 1 : Nat) : Int)) = true := decide_eq_true (by omega)
            refine ⟨_, fun _ _ _ hh => hh, ?_⟩
            simp only [go_sem, e9]
            refine st_load ag_string h3 1 rfl rfl ?_
            rw [show (0 : Int) = ((0 : Nat) : Int) from rfl, xix_str und_string r.s .i64 0 (by omega)]
            try simp only [go_sem]
            refine ⟨_, fun _ _ _ hh => hh, ?_⟩
            try simp only [go_sem]
            have hh : r.s.head? = some (r.s[0]'(by omega)) := by
              rw [List.head?_eq_getElem?, List.getElem?_eq_getElem]
            by_cases hz : r.s.head? = some 48
            · have : decide (((r.s[0]'(by omega)).toNat : Int) = 48) = true := decide_eq_true (by
                rw [hh] at hz
                injection hz with hz
                rw [hz]
                rfl)
              simp only [this, go_sem]
              exact bad (.inr ⟨h1, hz⟩) _ h3
            · have : decide (((r.s[0]'(by omega)).toNat : Int) = 48) = false := decide_eq_false fun e => hz (by
                rw [hh]
                congr 1
                apply UInt8.toNat_inj.1
                exact Int.ofNat_inj.1 e)
              simp only [this, go_sem]
              exact good h15 (fun hx => hz hx.2) _ h3
          · have e9 : decide ((1 : Int) < ((n + 1 : Nat) : Int)) = false := decide_eq_false (by omega)
            refine ⟨_, fun _ _ _ hh => hh, ?_⟩
            simp only [go_sem, e9]
            refine ⟨_, fun _ _ _ hh => hh, ?_⟩
            simp only [go_sem]
            exact good h15 (fun hx => h1 hx.1) _ h3
      · have hnd : isDig r.s[n] = false := by simpa using hdg
        have hst := stop fun _ => hnd
        have hcc : (Utf8.decode ⟨r.s.toArray⟩ n).1 < 48 ∨ 57 < (Utf8.decode ⟨r.s.toArray⟩ n).1 := by
          by_cases hl : r.s[n].toNat < 128
          · rw [decode_low r.s n hlt hl]
            have : ¬ (48 ≤ r.s[n].toNat ∧ r.s[n].toNat ≤ 57) := fun hh => hdg ((isDig_iff _).2 hh)
            show r.s[n].toNat < 48 ∨ 57 < r.s[n].toNat
            omega
          · have := (decode_up r.s n hlt (by omega)).1
            omega
        refine or_st h3 (decide (57 < (Utf8.decode ⟨r.s.toArray⟩ n).1)) ?_ ?_
        · intro _ J hJ
          have : decide ((57 : Int) < ((Utf8.decode ⟨r.s.toArray⟩ n).1 : Int)) = decide (57 < (Utf8.decode ⟨r.s.toArray⟩ n).1) := by
            congr 1
            exact propext ⟨fun h => by omega, fun h => by omega⟩
          rw [this]
          exact hJ _ h3
        · intro w4 h4
          have : (decide (((Utf8.decode ⟨r.s.toArray⟩ n).1 : Int) < 48) || decide (57 < (Utf8.decode ⟨r.s.toArray⟩ n).1)) = true := by
            rw [Bool.or_eq_true, decide_eq_true_eq, decide_eq_true_eq]
            omega
          rw [this]
          simp only [go_sem]
          exact ⟨n, hn, hl, rfl, rfl, hst.1, hst.2, hz, h4.drop⟩
    · intro hge
      have hge : r.s.length ≤ n := by rw [size_list] at hge; exact hge
      simp only [go_sem]
      have := stop fun hh => by omega
      exact ⟨n, hn, hl, rfl, rfl, this.1, this.2, hz, h.drop⟩
end Go.Proofs.YthkgbajldkicfaaGreatDoor
