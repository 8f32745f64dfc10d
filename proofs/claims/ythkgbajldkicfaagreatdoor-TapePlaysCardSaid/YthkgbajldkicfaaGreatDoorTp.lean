/-
  Tapes: what is read of one.
-/
import Derived.Test.YthkgbajldkicfaaGreatDoorPl
import Derived.Test.YthkgbajldkicfaaGreatDoorTypes3
import Derived.Test.YthkgbajldkicfaaGreatDoorS4
import Derived.Test.YthkgbajldkicfaaGreatDoorMkOk
namespace Go.Proofs.YthkgbajldkicfaaGreatDoor
set_option linter.unusedVariables false
set_option linter.unusedSimpArgs false
open Go Go.Jo
set_option maxRecDepth 100000

theorem xta_of {x r : Value} {t u : TypeId} {ok : Bool} {w : World} {K : Value → World → Prop} (h : (Instr.typeAssert x t u ok).run Tryz.prog w = .ok r w) (hk : K r w) : XTA Tryz.prog x t u ok w K := ⟨by unfold XV; rw [h]; exact hk⟩
theorem xmki_of {x r : Value} {t : TypeId} {w : World} {K : Value → World → Prop} (h : (Instr.makeInterface t x).run Tryz.prog w = .ok r w) (hk : K r w) : XMkI Tryz.prog t x w K := ⟨by unfold XV; rw [h]; exact hk⟩
/-- A cell of a block that is known whole, some steps on. -/
theorem ldB {t : TypeId} {w w' : World} {b i : Nat} {cs : Array Value} {T : TypeId} {fz : Nat × Nat} {v : Value} {K : Value → World → Prop} (ha : ∀ w, (isAgg t).run Tryz.prog w = .ok false w) (hb : w.heap[b]? = some (.cells cs T fz)) (e : Ext w w') (hv : cs[i]? = some v) (hk : K v w') : XLoad Tryz.prog t (.pointer (some ⟨b, i, none⟩)) w' K :=
  ld_of ha ((cellx hb e i).trans hv) hk

abbrev tapeO (v : Value) (l n : Nat) : Obj := .cells #[v, .int .i64 (l : Int), .int .i64 (n : Int)] T_tape_Tape (0, 0)
def textC (ls : List Str) : List Nat := ls.flatMap fun s => cp s ++ [10]
theorem textC_cons (s : Str) (ls : List Str) : textC (s :: ls) = cp s ++ 10 :: textC ls := by simp [textC]
theorem textC_append (a b : List Str) : textC (a ++ b) = textC a ++ textC b := by simp [textC]
abbrev tapeR (b : Nat) (v : Value) (ls : List Str) (n : Nat) : List Res := [.blk b (tapeO v ls.length n), .row T_int32 1 v (textC ls).length (runesV (textC ls))]
structure LineOk (s : Str) : Prop where
  plain : Plain s
  ne : s ≠ []
theorem c_newT (w : World) : Ret Tryz.prog F_tape_New #[] w fun v w' => ∃ b, v = pt b ∧ St [] w (tapeR b nilV [] 0) w' := by
  refine call_tape_New ?_
  have h := (St.start w).row0 T_int32 1
  unfold S_tape_New
  rw [xbuild (v := .agg #[nilV, .int .i64 0, .int .i64 0]) (fun w => by kernel_rfl)]
  refine st_box h ?_
  intro b w1 hb h
  exact ⟨b, rfl, h⟩
theorem c_indexR {w : World} {p : Value} {pre post : List Nat} {c : Nat} (hp : Row w 1 p (pre ++ c :: post).length (runesV (pre ++ c :: post))) (hc : c ∉ pre) (hl : pre.length ≤ 1000000000) : RetV Tryz.prog F_slices_Index_rune_rune #[p, .int .i32 (c : Int)] w (.int .i64 (pre.length : Nat)) := by
  refine call_slices_Index_rune_rune ?_
  have h := St.start w
  unfold S_slices_Index_rune_rune
  refine hp.len und_sl_int32 ?_
  refine ⟨fun u w2 => ∃ i : Nat, i ≤ pre.length ∧ u = .int .i64 (i : Nat) ∧ St [] w [] w2, fun u _ => lenI (pre.length + 1) u, ⟨0, Nat.zero_le _, rfl, h⟩, ?_⟩
  rintro - u w2 ⟨i, hi, rfl, h⟩
  rw [xlss, decide_eq_true (by simp; omega), xc_true]
  have hlt : i < (pre ++ c :: post).length := by simp; omega
  obtain ⟨b1, o1, i1, c1⟩ := hp.at (k := .i64) und_sl_int32 sz_int32 hlt
  refine i1 _ _ ?_
  have hcell := c1 _ h.ext 0 (by omega)
  simp only [Nat.add_zero, Nat.mul_one] at hcell
  obtain ⟨x, hx⟩ : ∃ x, (pre ++ c :: post)[i]? = some x := ⟨_, List.getElem?_eq_getElem hlt⟩
  refine ld_of ag_int32 (v := .int .i32 (x : Int)) (by rw [hcell, List.getElem?_map, hx]; rfl) ?_
  rw [xeql]
  refine xc_dec ?_ ?_
  · intro he
    have he : x = c := by omega
    subst he
    have : i = pre.length := by
      apply Nat.le_antisymm hi
      apply Nat.le_of_not_lt
      intro hlt2
      rw [List.getElem?_append_left hlt2] at hx
      exact hc (List.mem_of_getElem? hx)
    subst this
    exact ⟨rfl, h.ext⟩
  · intro hne
    have hlt2 : i < pre.length := by
      apply Nat.lt_of_le_of_ne hi
      intro e
      subst e
      rw [List.getElem?_append_right (Nat.le_refl _), Nat.sub_self, List.getElem?_cons_zero] at hx
      injection hx with hx
      omega
    rw [xadd, wi64 (by omega) (by omega)]
    exact ⟨⟨i + 1, hlt2, rfl, h⟩, lenI_succ (by omega)⟩
/-- A text of runes that lie in a row. -/
theorem xrunes {w : World} {a : Option Addr} {cap : Nat} {s : Str} {K : Value → World → Prop} (hs : LineOk s) (hr : Row w 1 (.slice a (cp s).length cap) (cp s).length (runesV (cp s))) (hk : K (S s) w) : XConv Tryz.prog T_sl_int32 T_string (.slice a (cp s).length cap) w K := by
  have e1 : XConv Tryz.prog T_sl_int32 T_string (.slice a (cp s).length cap) w K = XV Tryz.prog (convert T_sl_int32 T_string (.slice a (cp s).length cap)) w K := propext ⟨(·.h), (⟨·⟩)⟩
  rw [e1]
  obtain ⟨_, a', cap', hv, hc, hr⟩ := hr
  injection hv with hv1 hv2 hv3
  subst hv1 hv3
  have hne : (cp s).length ≠ 0 := fun h0 => by
    have := hs.plain.enc
    rw [List.eq_nil_of_length_eq_zero h0] at this
    exact hs.ne this.symm
  rcases hr with h0 | ⟨b, o, rfl, hr⟩
  · exact absurd h0 hne
  · have hl := run_loadCells_list (P := Tryz.prog) w ⟨b, o, none⟩ (((cp s).map fun (c : Nat) => (c : Int)).map (Value.int .i32)) (fun j v hj => by
      have hj' : j < (cp s).length := by
        have := (List.getElem?_eq_some_iff.1 hj).1
        simpa using this
      rw [Addr.add_lit, hr j (by omega), ← hj, List.map_map]
      rfl)
    simp only [List.length_map] at hl
    have hr2 : (convert T_sl_int32 T_string (.slice (some ⟨b, o, none⟩) (cp s).length cap)).run Tryz.prog w = .ok (S s) w := by
      rw [run_convert_runes_string w T_sl_int32 T_string T_int32 _ _ _ und_sl_int32 und_int32 und_string, run_runesToString w ⟨b, o, none⟩ _ cap _ hl, runesBytes_enc (fun c hc => (hs.plain.ok c hc).1), hs.plain.enc]
    rw [xv_ok hr2]
    exact hk
def lenS (v : Value) : Nat := match v with | .slice _ n _ => n | _ => 0
theorem c_lines {w : World} {b n : Nat} {v : Value} {ls : List Str} (hb : w.heap[b]? = some (tapeO v ls.length n)) (hv : Row w 1 v (textC ls).length (runesV (textC ls))) (hls : ∀ s ∈ ls, LineOk s) (hlen : (textC ls).length ≤ 1000000000) (hl : ls.length ≤ 1000000) : RetR Tryz.prog F_tape_Tape_Lines #[pt b] w T_string 1 ls.length (strsL ls) := by
  refine call_tape_Tape_Lines ?_
  have h := St.start w
  unfold S_tape_Tape_Lines
  rw [xnil_ptr, fld_tape_Tape_lines]
  refine ldB (i := 0 + 1) ag_int hb h.ext rfl ?_
  obtain ⟨inf, i1, i2, i3, i4⟩ := inf_sl_string
  refine st_makeS und_sl_string i1 i2 i3 i4 (by omega) (by simp only [maxLen]; omega) h ?_
  intro out w1 h
  rw [xnil_ptr, fld_tape_Tape_text]
  refine ldB (i := 0 + 0) ag_sl_int32 hb h.ext rfl ?_
  have h : St [] w [.row T_string 1 out (ls.take 0).length (strsL (ls.take 0))] w1 := h
  refine ⟨fun u v w' => ∃ i, i ≤ ls.length ∧ Row w 1 v (textC (ls.drop i)).length (runesV (textC (ls.drop i))) ∧ St [] w [.row T_string 1 u (ls.take i).length (strsL (ls.take i))] w', fun _ v _ => lenS v, ⟨0, Nat.zero_le _, by rw [List.drop_zero]; exact hv, h⟩, ?_⟩
  rintro - u v w2 ⟨i, hi, hr, h⟩
  refine hr.len und_sl_int32 ?_
  rw [xgtr]
  refine xc_dec ?_ ?_
  · intro hpos
    have hlt : i < ls.length := by
      apply Nat.lt_of_le_of_ne hi
      intro e
      subst e
      rw [List.drop_length] at hpos
      simp [textC] at hpos
    obtain ⟨s, hs⟩ : ∃ s, ls[i]? = some s := ⟨_, List.getElem?_eq_getElem hlt⟩
    have hge : ls[i] = s := by
      rw [List.getElem?_eq_getElem hlt] at hs
      injection hs
    have hd : ls.drop i = s :: ls.drop (i + 1) := by rw [List.drop_eq_getElem_cons hlt, hge]
    have hok := hls s (List.mem_of_getElem? hs)
    have hd2 : textC (ls.drop i) = cp s ++ 10 :: textC (ls.drop (i + 1)) := by rw [hd, textC_cons]
    have hlen2 : (textC (ls.drop i)).length ≤ (textC ls).length := by
      have : textC ls = textC (ls.take i) ++ textC (ls.drop i) := by rw [← textC_append, List.take_append_drop]
      rw [this]; simp
    rw [hd2] at hr hlen2
    have hlc : (cp s).length + ((textC (ls.drop (i + 1))).length + 1) = (cp s ++ 10 :: textC (ls.drop (i + 1))).length := by simp
    have h10 : 10 ∉ cp s := fun hm => (hok.plain.ok 10 hm).2 rfl
    refine st_callV en_slices_Index_rune_rune (c_indexR (c := 10) (hr.mono h.ext) h10 (by omega)) h ?_
    intro w3 h
    obtain ⟨a, cap, rfl, hac, hrt⟩ := (hr.mono h.ext).take (i := (cp s).length) (by omega)
    refine xslice_upto und_sl_int32 sz_int32 (by omega) hac ?_
    have hrt : Row w3 1 (.slice a (cp s).length cap) (cp s).length (runesV (cp s)) := by
      have e : (runesV (cp s ++ 10 :: textC (ls.drop (i + 1)))).take ((cp s).length * 1) = runesV (cp s) := by
        rw [Nat.mul_one, ← List.map_take, List.take_left']
        rfl
      rw [e] at hrt
      exact hrt
    refine xrunes hok hrt ?_
    refine st_buildS (cs := #[S s]) (e := T_string) (fun w => by kernel_rfl) h ?_
    intro bx w4 hbx h
    have hlt3 : (ls.take i).length ≤ i := by rw [List.length_take]; omega
    refine app_sl_string h 1 rfl [S s] rfl (news_blk (h.at 0 rfl)) (by simp [Value.oneCell']) (by omega) ?_
    intro out2 w5 h
    rw [xadd, wi64 (by omega) (by omega)]
    have e1 : ((cp s).length : Int) + 1 = (((cp s).length + 1 : Nat) : Int) := by omega
    rw [e1]
    obtain ⟨v', hv', hsl⟩ := hr.fromE (k := .i64) (i := (cp s).length + 1) und_sl_int32 sz_int32 (by omega)
    refine hsl _ _ ?_
    refine ⟨⟨i + 1, hlt, ?_, ?_⟩, ?_⟩
    · have e2 : (runesV (cp s ++ 10 :: textC (ls.drop (i + 1)))).drop (((cp s).length + 1) * 1) = runesV (textC (ls.drop (i + 1))) := by
        rw [Nat.mul_one, ← List.map_drop]
        congr 1
        rw [List.drop_append]
        simp
      have e3 : (cp s ++ 10 :: textC (ls.drop (i + 1))).length - ((cp s).length + 1) = (textC (ls.drop (i + 1))).length := by omega
      rw [e2, e3] at hv'
      exact hv'
    · have h := h.pick [1] (by decide) rfl
      have e2 : ls.take (i + 1) = ls.take i ++ [s] := by rw [List.take_succ_eq_append_getElem hlt, hge]
      have e3 : strsL (ls.take i ++ [s]) = strsL (ls.take i) ++ [S s] := by simp
      have e4 : (ls.take i ++ [s]).length = (ls.take i).length + 1 := by simp
      rw [e2, e3, e4]
      exact h
    · obtain ⟨_, a2, cap2, hv2, _⟩ := hv'
      rw [hv2]
      show (cp s ++ 10 :: textC (ls.drop (i + 1))).length - ((cp s).length + 1) < (cp s ++ 10 :: textC (ls.drop (i + 1))).length
      omega
  · intro hnp
    have hz : (textC (ls.drop i)).length = 0 := by omega
    have hi : i = ls.length := by
      apply Nat.le_antisymm hi
      apply Nat.le_of_not_lt
      intro hlt
      rw [List.drop_eq_getElem_cons hlt, textC_cons] at hz
      simp at hz
    subst hi
    rw [List.take_length] at h
    have := st_retR h 0 rfl
    exact this
end Go.Proofs.YthkgbajldkicfaaGreatDoor
