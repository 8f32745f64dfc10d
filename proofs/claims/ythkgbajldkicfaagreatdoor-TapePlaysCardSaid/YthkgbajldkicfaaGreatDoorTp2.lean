/-
  Tapes: what is done to one.
-/
import Derived.Test.YthkgbajldkicfaaGreatDoorTp
namespace Go.Proofs.YthkgbajldkicfaaGreatDoor
set_option linter.unusedVariables false
set_option linter.unusedSimpArgs false
open Go Go.Jo
set_option maxRecDepth 100000

theorem c_lasting {w : World} {b l n : Nat} {v : Value} (hb : w.heap[b]? = some (tapeO v l n)) : RetV Tryz.prog F_tape_Tape_Lasting #[pt b] w (.int .i64 (n : Nat)) := by
  refine call_tape_Tape_Lasting ?_
  unfold S_tape_Tape_Lasting
  rw [xnil_ptr, fld_tape_Tape_lasting]
  exact ldB (i := 0 + 2) ag_int hb (Ext.refl _) rfl ⟨rfl, Ext.refl _⟩
theorem textC_take_succ {ls : List Str} {i : Nat} {s : Str} (hs : ls[i]? = some s) : textC (ls.take (i + 1)) = textC (ls.take i) ++ (cp s ++ [10]) := by
  obtain ⟨hlt, hge⟩ := List.getElem?_eq_some_iff.1 hs
  rw [List.take_succ_eq_append_getElem hlt, textC_append, hge]
  simp [textC]
theorem textC_split (ls : List Str) (i : Nat) : textC ls = textC (ls.take i) ++ textC (ls.drop i) := by rw [← textC_append, List.take_append_drop]
theorem c_tend {w : World} {b l n k : Nat} {v : Value} {ls : List Str} (hb : w.heap[b]? = some (tapeO v l n)) (hv : Row w 1 v (textC ls).length (runesV (textC ls))) (hls : ∀ s ∈ ls, LineOk s) (hlen : (textC ls).length ≤ 1000000000) (hk : k ≤ ls.length) (hl : ls.length ≤ 1000000) : RetV Tryz.prog F_tape_Tape_end #[pt b, .int .i64 (k : Int)] w (.int .i64 ((textC (ls.take k)).length : Nat)) := by
  refine call_tape_Tape_end ?_
  have h := St.start w
  unfold S_tape_Tape_end
  refine ⟨fun u v w' => ∃ i, i ≤ k ∧ u = .int .i64 ((k - i : Nat) : Int) ∧ v = .int .i64 ((textC (ls.take i)).length : Nat) ∧ St [] w [] w', fun u _ _ => match u with | .int _ n => n.toNat | _ => 0, ⟨0, Nat.zero_le _, rfl, rfl, h⟩, ?_⟩
  rintro - u v2 w2 ⟨i, hi, rfl, rfl, h⟩
  rw [xgtr]
  refine xc_dec ?_ ?_
  · intro hpos
    have hlt : i < k := by omega
    obtain ⟨s, hs⟩ : ∃ s, ls[i]? = some s := ⟨_, List.getElem?_eq_getElem (by omega)⟩
    have hok := hls s (List.mem_of_getElem? hs)
    have hge := (List.getElem?_eq_some_iff.1 hs).2
    have hd : ls.drop i = s :: ls.drop (i + 1) := by rw [List.drop_eq_getElem_cons (by omega), hge]
    have hd2 : textC (ls.drop i) = cp s ++ 10 :: textC (ls.drop (i + 1)) := by rw [hd, textC_cons]
    have hsp := textC_split ls i
    have hsl : (textC ls).length = (textC (ls.take i)).length + (textC (ls.drop i)).length := by rw [hsp]; simp
    have hdl : (textC (ls.drop i)).length = (cp s).length + 1 + (textC (ls.drop (i + 1))).length := by rw [hd2]; simp; omega
    have h10 : 10 ∉ cp s := fun hm => (hok.plain.ok 10 hm).2 rfl
    rw [xnil_ptr, fld_tape_Tape_text]
    refine ldB (i := 0 + 0) ag_sl_int32 hb h.ext rfl ?_
    obtain ⟨v', hv', hx⟩ := hv.fromE (k := .i64) (i := (textC (ls.take i)).length) und_sl_int32 sz_int32 (by omega)
    refine hx _ _ ?_
    have e1 : (textC ls).length - (textC (ls.take i)).length = (cp s ++ 10 :: textC (ls.drop (i + 1))).length := by rw [← hd2]; omega
    have e2 : (runesV (textC ls)).drop ((textC (ls.take i)).length * 1) = runesV (cp s ++ 10 :: textC (ls.drop (i + 1))) := by
      rw [Nat.mul_one, ← List.map_drop, ← hd2]
      congr 1
      conv => lhs; rw [hsp]
      rw [List.drop_left']
      rfl
    rw [e1, e2] at hv'
    refine st_callV en_slices_Index_rune_rune (c_indexR (c := 10) (hv'.mono h.ext) h10 (by omega)) h ?_
    intro w3 h
    rw [xadd, wi64 (by omega) (by omega), xadd, wi64 (by omega) (by omega), xsub, wi64 (by omega) (by omega)]
    refine ⟨⟨i + 1, hlt, ?_, ?_, h⟩, ?_⟩
    · congr 1; omega
    · rw [textC_take_succ hs]
      congr 1
      simp
    · show (((k - i : Nat) : Int) - 1).toNat < ((k - i : Nat) : Int).toNat
      omega
  · intro hn
    have hi : i = k := by omega
    subst hi
    exact ⟨rfl, h.ext⟩
/-- What a text is turned into. -/
theorem st_runes {x : List Nat} {w0 w : World} {L : List Res} {s : Str} {K : Value → World → Prop} (hs : Plain s) (hl : s.length ≤ 1000000000) (h : St x w0 L w)
    (hk : ∀ (b c : Nat) (cs : Array Value) (w' : World), Ext w w' → cs.toList.take (cp s).length = runesV (cp s) → St x w0 (.blk b (.cells cs T_int32) :: L) w' → K (.slice (some ⟨b, 0, none⟩) (cp s).length c) w') : XConv Tryz.prog T_string T_sl_int32 (S s) w K := by
  have e1 : XConv Tryz.prog T_string T_sl_int32 (S s) w K = XV Tryz.prog (convert T_string T_sl_int32 (S s)) w K := propext ⟨(·.h), (⟨·⟩)⟩
  rw [e1]
  have hle : ∀ cs : List Nat, cs.length ≤ (encL cs).length := fun cs => by
    induction cs with
    | nil => simp
    | cons c cs ih =>
      have := enc2_len c
      rw [encL_cons, List.length_append, List.length_cons]
      split at this <;> omega
  have hcl : (cp s).length ≤ s.length := by
    have := hle (cp s)
    rw [hs.enc] at this
    exact this
  have hrf : Conv.runesFrom ⟨s.toArray⟩ (⟨s.toArray⟩ : ByteArray).size 0 #[] = (runesV (cp s)).toArray := by
    have := runes_enc (cp s) [] s.length #[] (fun c hc => (hs.ok c hc).1) (by rw [hs.enc]; exact Nat.le_refl _)
    rw [List.nil_append, hs.enc] at this
    rw [size_list]
    simpa using this
  have hsz : (runesV (cp s)).toArray.size = (cp s).length := by simp
  have hr := run_runes_of_string (P := Tryz.prog) w T_string T_sl_int32 T_int32 ⟨s.toArray⟩ und_string und_sl_int32 und_int32 (by rw [hrf, hsz]; omega)
  rw [hrf, hsz] at hr
  rw [xv_ok hr]
  have h2 := (h.step (Ext.drew _)).new (.cells ((runesV (cp s)).toArray ++ Array.replicate (grownCap w (cp s).length 0 T_int32 - (cp s).length) (.int .i32 0)) T_int32)
  exact hk _ _ _ _ ((Ext.drew w).trans (ext_alloc _ _)) (by simp [List.take_append]) h2
theorem cp_len {s : Str} (hs : Plain s) : (cp s).length ≤ s.length := by
  have hle : ∀ cs : List Nat, cs.length ≤ (encL cs).length := fun cs => by
    induction cs with
    | nil => simp
    | cons c cs ih =>
      have := enc2_len c
      rw [encL_cons, List.length_append, List.length_cons]
      split at this <;> omega
  have := hle (cp s)
  rw [hs.enc] at this
  exact this
theorem news_take {w : World} {b k : Nat} {cs : Array Value} {T : TypeId} {fz : Nat × Nat} {xs : List Value} (hb : w.heap[b]? = some (.cells cs T fz)) (hx : cs.toList.take k = xs) : ∀ (j : Nat) (u : Value), xs[j]? = some u → w.cell? ((⟨b, 0, none⟩ : Addr).add j) = some u := fun j u hj => by
  rw [Addr.add_lit, cellx0 hb, Nat.zero_add]
  subst hx
  rw [List.getElem?_take] at hj
  split at hj
  · simpa using hj
  · cases hj
theorem xnil_drawn {p q : Value} {w : World} (h : p = q) (hp : ∃ a, p = .pointer (some a)) : XNil p fun v => v = q ∧ w = w := by
  obtain ⟨a, rfl⟩ := hp
  rw [xnil_ptr]
  exact ⟨h, rfl⟩
set_option maxHeartbeats 4000000 in
theorem c_doWrite {w : World} {b n : Nat} {v : Value} {ls : List Str} {s : Str} (h : St (ownsL (tapeR b v ls n)) w (tapeR b v ls n) w) (hs : LineOk s) (hl : (textC ls).length + s.length ≤ 1000000000) (hll : ls.length ≤ 1000000) :
    Ret Tryz.prog F_tape_Tape_do #[pt b, .iface T_tape_write (.agg #[S s])] w fun u w' => u = .tuple #[] ∧ ∃ v', St (ownsL (tapeR b v ls n)) w (tapeR b v' (ls ++ [s]) n) w' := by
  refine call_tape_Tape_do ?_
  unfold S_tape_Tape_do
  have hcl := cp_len hs.plain
  have htx : textC (ls ++ [s]) = textC ls ++ (cp s ++ [10]) := by rw [textC_append]; simp [textC]
  have hll2 : (ls ++ [s]).length = ls.length + 1 := by simp
  refine xta_of (r := .tuple #[.agg #[S s], .bool true]) (by kernel_rfl) ?_
  rw [xe21, xe20, xc_true]
  refine st_alloc zv_tape_write h ?_
  intro b4 w1 hb4 h
  try simp only [go_sem] at h
  refine st_store sz_tape_write h 0 rfl rfl rfl rfl ?_
  intro w2 h
  try simp only [go_sem] at h
  have h := h.step (Ext.drew _)
  refine ⟨Ext, Ext, preExt, pt b, fun w3 => xnil_drawn rfl ⟨_, rfl⟩, .pointer (some ⟨b, 0, none⟩), fun w3 => ?_, v, fun w3 e3 => ?_, .pointer (some ⟨b4, 0, none⟩), fun w3 => ?_, S s, fun w3 e3 => ?_, fun w3 e3 => ?_⟩
  · rw [fld_tape_Tape_text]; exact ⟨rfl, rfl⟩
  · exact st_load ag_sl_int32 (h.step e3) 1 rfl rfl ⟨rfl, Ext.refl _⟩
  · rw [fld_tape_write_line]; exact ⟨rfl, rfl⟩
  · exact st_load ag_string (h.step e3) 0 rfl rfl ⟨rfl, Ext.refl _⟩
  have h := h.step e3
  have h : St (ownsL (tapeR b v ls n)) w (tapeR b v ls n) w3 := h.pick [1, 2] (by decide) rfl
  refine ⟨?_, ?_⟩
  · refine st_runes hs.plain (by omega) h ?_
    intro br cr cs w4 e4 hcs h
    refine ⟨e4, fun w5 e5 => ?_⟩
    have h := h.step e5
    refine ⟨?_, ?_⟩
    · refine app_sl_int32 h 2 rfl (runesV (cp s)) (by simp) (news_take (h.at 0 rfl) hcs) (by simp [Value.oneCell']) (by omega) ?_
      intro v2 w6 h
      refine st_buildS (cs := #[.int .i32 10]) (e := T_int32) (fun w => by kernel_rfl) h ?_
      intro bn w7 hbn h
      refine app_sl_int32 h 3 rfl [.int .i32 10] rfl (news_blk (h.at 0 rfl)) (by simp [Value.oneCell']) (by omega) ?_
      intro v3 wA h
      try simp only [go_sem] at h
      refine ⟨pt b, fun w3 => xnil_drawn rfl ⟨_, rfl⟩, .pointer (some ⟨b, 0, none⟩), fun w3 => by rw [fld_tape_Tape_text]; exact ⟨rfl, rfl⟩, ?_⟩
      have hv3 := h.atR 3 rfl
      refine st_storeC sz_sl_int32 h 2 rfl (cells_own hv3) rfl (flat_own hv3) ?_
      intro wB h
      try simp only [go_sem] at h
      rw [xnil_ptr, fld_tape_Tape_lines]
      refine st_load ag_int h 2 rfl rfl ?_
      rw [xadd, wi64 (by omega) (by omega), xnil_ptr, fld_tape_Tape_lines]
      refine st_store sz_int h 2 rfl rfl rfl rfl ?_
      intro wC h
      try simp only [go_sem] at h
      refine ⟨rfl, v3, ?_⟩
      have h := h.pick [2, 3] (by decide) rfl
      have eC : runesV (textC (ls ++ [s])) = runesV (textC ls) ++ runesV (cp s) ++ [.int .i32 10] := by rw [htx]; simp
      have eD : (textC (ls ++ [s])).length = (textC ls).length + (cp s).length + 1 := by rw [htx]; simp; omega
      unfold tapeR
      rw [eC, eD, hll2]
      exact h
    · refine st_buildSE (cs := #[.int .i32 10]) (e := T_int32) (fun w => by kernel_rfl) h ?_
      intro bn w7 hbn e7 h
      refine ⟨e7, fun w8 e8 => ?_⟩
      have h := h.step e8
      refine app_sl_int32 h 3 rfl (runesV (cp s)) (by simp) (news_take (h.at 1 rfl) hcs) (by simp [Value.oneCell']) (by omega) ?_
      intro v2 w9 h
      refine app_sl_int32 h 3 rfl [.int .i32 10] rfl (news_blk (h.at 0 rfl)) (by simp [Value.oneCell']) (by omega) ?_
      intro v3 wA h
      try simp only [go_sem] at h
      refine ⟨pt b, fun w3 => xnil_drawn rfl ⟨_, rfl⟩, .pointer (some ⟨b, 0, none⟩), fun w3 => by rw [fld_tape_Tape_text]; exact ⟨rfl, rfl⟩, ?_⟩
      have hv3 := h.atR 3 rfl
      refine st_storeC sz_sl_int32 h 2 rfl (cells_own hv3) rfl (flat_own hv3) ?_
      intro wB h
      try simp only [go_sem] at h
      rw [xnil_ptr, fld_tape_Tape_lines]
      refine st_load ag_int h 2 rfl rfl ?_
      rw [xadd, wi64 (by omega) (by omega), xnil_ptr, fld_tape_Tape_lines]
      refine st_store sz_int h 2 rfl rfl rfl rfl ?_
      intro wC h
      try simp only [go_sem] at h
      refine ⟨rfl, v3, ?_⟩
      have h := h.pick [2, 3] (by decide) rfl
      have eC : runesV (textC (ls ++ [s])) = runesV (textC ls) ++ runesV (cp s) ++ [.int .i32 10] := by rw [htx]; simp
      have eD : (textC (ls ++ [s])).length = (textC ls).length + (cp s).length + 1 := by rw [htx]; simp; omega
      unfold tapeR
      rw [eC, eD, hll2]
      exact h
  · refine st_buildSE (cs := #[.int .i32 10]) (e := T_int32) (fun w => by kernel_rfl) h ?_
    intro bn w4 hbn e4 h
    refine ⟨e4, fun w5 e5 => ?_⟩
    have h := h.step e5
    refine st_runes hs.plain (by omega) h ?_
    intro br cr cs w6 e6 hcs h
    refine ⟨e6, fun w7 e7 => ?_⟩
    have h := h.step e7
    have h := h.pick [1, 0, 2, 3] (by decide) rfl
    refine app_sl_int32 h 3 rfl (runesV (cp s)) (by simp) (news_take (h.at 1 rfl) hcs) (by simp [Value.oneCell']) (by omega) ?_
    intro v2 w9 h
    refine app_sl_int32 h 3 rfl [.int .i32 10] rfl (news_blk (h.at 0 rfl)) (by simp [Value.oneCell']) (by omega) ?_
    intro v3 wA h
    try simp only [go_sem] at h
    refine ⟨pt b, fun w3 => xnil_drawn rfl ⟨_, rfl⟩, .pointer (some ⟨b, 0, none⟩), fun w3 => by rw [fld_tape_Tape_text]; exact ⟨rfl, rfl⟩, ?_⟩
    have hv3 := h.atR 3 rfl
    refine st_storeC sz_sl_int32 h 2 rfl (cells_own hv3) rfl (flat_own hv3) ?_
    intro wB h
    try simp only [go_sem] at h
    rw [xnil_ptr, fld_tape_Tape_lines]
    refine st_load ag_int h 2 rfl rfl ?_
    rw [xadd, wi64 (by omega) (by omega), xnil_ptr, fld_tape_Tape_lines]
    refine st_store sz_int h 2 rfl rfl rfl rfl ?_
    intro wC h
    try simp only [go_sem] at h
    refine ⟨rfl, v3, ?_⟩
    have h := h.pick [2, 3] (by decide) rfl
    have eC : runesV (textC (ls ++ [s])) = runesV (textC ls) ++ runesV (cp s) ++ [.int .i32 10] := by rw [htx]; simp
    have eD : (textC (ls ++ [s])).length = (textC ls).length + (cp s).length + 1 := by rw [htx]; simp; omega
    unfold tapeR
    rw [eC, eD, hll2]
    exact h
end Go.Proofs.YthkgbajldkicfaaGreatDoor
