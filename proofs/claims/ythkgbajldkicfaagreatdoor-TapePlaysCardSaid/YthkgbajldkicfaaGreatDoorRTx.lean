/-
  A record's line, as the document writes it.
-/
import Derived.Test.YthkgbajldkicfaaGreatDoorMkOk
namespace Go.Proofs.YthkgbajldkicfaaGreatDoor
set_option linter.unusedVariables false
set_option linter.unusedSimpArgs false
open Go Go.Jo
set_option maxRecDepth 100000

theorem itoa_len (u : Nat) (hu : u < 9223372036854775808) : (Lib.itoa (u : Int)).length ≤ 21 := Lib.itoa_length_le _ (by omega) (by omega)
theorem itoa_small {u : Nat} (h : u < 10) : Lib.itoa (u : Int) = [UInt8.ofNat (48 + u)] := by rw [Lib.itoa_nonneg, Lib.decDigits_one h]
theorem itoa_big {u : Nat} (h : ¬ u < 10) : Lib.itoa (u : Int) = Lib.itoa ((u / 10 : Nat) : Int) ++ Lib.itoa ((u % 10 : Nat) : Int) := by
  rw [Lib.itoa_nonneg, Lib.itoa_nonneg, itoa_small (u := u % 10) (by omega), Lib.decDigits, dif_neg h]
theorem c_rDigitsN (u : Nat) : ∀ (w : World), u < 9223372036854775808 → RetV Tryz.prog F_joineryref4_Digits #[.int .i64 (u : Int)] w (S (Lib.itoa (u : Int))) := by
  induction u using Nat.strongRecOn with
  | _ u ih =>
    intro w hu
    refine call_joineryref4_Digits ?_
    have h := St.start w
    unfold S_joineryref4_Digits
    rw [xlss, decide_eq_false (by omega), xc_false, xgeq]
    refine xc_dec ?_ ?_
    · intro h10
      have h10 : ¬ u < 10 := by omega
      have e1 : (u : Int).tdiv 10 = ((u / 10 : Nat) : Int) := (Int.ofNat_tdiv u 10).symm
      have e2 : (u : Int).tmod 10 = ((u % 10 : Nat) : Int) := (Int.ofNat_tmod u 10).symm
      rw [xquo _ _ _ _ _ _ _ _ (by omega), e1, wi64 (by omega) (by omega)]
      refine st_callV en_joineryref4_Digits (ih (u / 10) (by omega) _ (by omega)) h ?_
      intro w1 h
      rw [xrem _ _ _ _ _ _ _ _ (by omega), e2]
      refine st_callV en_joineryref4_Digits (ih (u % 10) (by omega) _ (by omega)) h ?_
      intro w2 h
      have l1 := itoa_len (u / 10) (by omega)
      have l2 := itoa_len (u % 10) (by omega)
      rw [xcat _ _ _ _ _ _ _ (by omega), itoa_big h10]
      exact ⟨rfl, h.ext⟩
    · intro h10
      have h10 : u < 10 := by omega
      rw [xadd, wi64 (by omega) (by omega), xconv_int und_int und_uint8, wu8 (by omega) (by omega)]
      refine st_buildS (cs := #[.int .u8 (48 + (u : Int))]) (e := T_uint8) (fun w => by kernel_rfl) h ?_
      intro bc w1 hbc h
      have hu2 : (48 + (u : Int)) = ((UInt8.ofNat (48 + u)).toNat : Int) := by
        rw [UInt8.toNat_ofNat']
        omega
      rw [hu2] at h
      refine st_bytes1 (u := UInt8.ofNat (48 + u)) und_sl_uint8 und_uint8 und_string h 0 rfl ?_
      rw [itoa_small h10]
      exact ⟨rfl, h.ext⟩
theorem c_rDigits {n : Int} (h0 : 0 ≤ n) (h1 : n < 9223372036854775808) (w : World) : RetV Tryz.prog F_joineryref4_Digits #[.int .i64 n] w (S (Lib.itoa n)) := by
  obtain ⟨u, rfl⟩ := Int.eq_ofNat_of_zero_le h0
  exact c_rDigitsN u w (by omega)
theorem c_rVec {v : VecM} (hv : vecOk v) (w : World) : RetV Tryz.prog F_joineryref4_Vec #[vecV v] w (S (vecT v)) := by
  obtain ⟨a, b, c, d⟩ := hv
  have l1 := Lib.itoa_length_le v.cpu (by omega) (by omega)
  have l2 := Lib.itoa_length_le v.mem (by omega) (by omega)
  refine call_joineryref4_Vec ?_
  have h := St.start w
  unfold S_joineryref4_Vec
  refine st_box h ?_
  intro q w1 hb h
  try simp only [go_sem] at h
  have h := h.step (Ext.drew _)
  have e1 := h.ext
  refine ⟨Ext, Ext, preExt, .pointer (some ⟨q, 0, none⟩), fun _ => ?_, .int .i64 v.cpu, fun w2 e2 => ?_, S (Lib.itoa v.cpu), fun w2 e2 => ?_, S (Lib.itoa v.cpu ++ [44]), fun w2 => ?_, .pointer (some ⟨q, 1, none⟩), fun _ => ?_, .int .i64 v.mem, fun w2 e2 => ?_, S (Lib.itoa v.mem), fun w2 e2 => ?_, S (vecT v), fun w2 => ?_, fun w2 e2 => ?_⟩
  · simp only [go_sem]; exact ⟨by trivial, by trivial⟩
  · exact st_load ag_int (h.step e2) 0 rfl rfl ⟨rfl, Ext.refl _⟩
  · exact xcall_of (en_joineryref4_Digits _) (c_rDigits a (by omega) _) fun _ _ hq => hq
  · rw [xcat _ _ _ _ _ _ _ (by simp; omega)]; exact ⟨rfl, rfl⟩
  · simp only [go_sem]; exact ⟨by trivial, by trivial⟩
  · exact st_load ag_int (h.step e2) 0 rfl rfl ⟨rfl, Ext.refl _⟩
  · exact xcall_of (en_joineryref4_Digits _) (c_rDigits c (by omega) _) fun _ _ hq => hq
  · rw [xcat _ _ _ _ _ _ _ (by simp; omega)]; exact ⟨rfl, rfl⟩
  · exact ⟨rfl, e1.trans e2⟩
theorem c_rFlag (b : Bool) (w : World) : RetV Tryz.prog F_joineryref4_flag #[.bool b] w (S (flagT b)) := by
  refine call_joineryref4_flag ?_
  unfold S_joineryref4_flag
  cases b
  · rw [xc_false]; exact ⟨rfl, Ext.refl _⟩
  · rw [xc_true]; exact ⟨rfl, Ext.refl _⟩
theorem c_rRow {w : World} {p1 : Value} {l : List Str} (c : UInt8) (hp : Row w 1 p1 l.length (strsL l)) (hl : l.length ≤ 1000) (hs : ∀ x ∈ l, x.length ≤ 1000) : RetV Tryz.prog F_joineryref4_row #[S [c], p1] w (S (signedT c l)) := by
  refine call_joineryref4_row ?_
  have h := St.start w
  unfold S_joineryref4_row
  refine ⟨fun u v w2 => ∃ i, i ≤ l.length ∧ u = S (signedT c (l.take i)) ∧ v = .int .i64 (i : Nat) ∧ St [] w [] w2, fun _ v _ => lenI l.length v, ⟨0, Nat.zero_le _, rfl, rfl, h⟩, ?_⟩
  rintro - u v w2 ⟨i, hi, rfl, rfl, h⟩
  refine hp.len und_sl_string ?_
  rw [xlss]
  refine xc_dec ?_ ?_
  · intro hlt
    have hlt : i < l.length := by omega
    obtain ⟨x, hx⟩ : ∃ x, l[i]? = some x := ⟨_, List.getElem?_eq_getElem hlt⟩
    have hge : l[i] = x := by
      rw [List.getElem?_eq_getElem hlt] at hx
      injection hx
    have hxs := hs x (List.mem_of_getElem? hx)
    have hb := flat_le (l := l.take i) (m := 1000) (fun y hy => hs y (List.mem_of_mem_take hy)) c
    have hb2 : (l.take i).length * (1000 + 1) ≤ 1000 * 1001 := Nat.mul_le_mul (by rw [List.length_take]; omega) (by omega)
    rw [xcat _ _ _ _ _ _ _ (by simp; omega)]
    refine str_at (hp.mono h.ext) hlt hx ?_
    intro b0 o0 hc0
    refine ld_of ag_string hc0 ?_
    rw [xcat _ _ _ _ _ _ _ (by simp; omega), xadd, wi64 (by omega) (by omega)]
    refine ⟨⟨i + 1, hlt, ?_, rfl, h⟩, lenI_succ hlt⟩
    rw [List.take_succ_eq_append_getElem hlt, hge, signedT_snoc, List.append_assoc]
    rfl
  · intro hge
    have hi : i = l.length := by omega
    subst hi
    rw [List.take_length]
    exact ⟨rfl, h.ext⟩
theorem c_rNodeT {w : World} {n : NodeM} {mv tv : Value} (hn : NodeOk n) (h1 : Row w 1 mv n.marks.length (strsL n.marks)) (h2 : Row w 1 tv n.taints.length (strsL n.taints)) : RetV Tryz.prog F_joineryref4_Node #[nodeAt n mv tv] w (S (nodeT n)) := by
  refine call_joineryref4_Node ?_
  have h := St.start w
  unfold S_joineryref4_Node
  have hci := vec_i64 hn.cap
  have a1 := vecT_len hci
  have a2 := flat_le (l := n.marks) (m := 32) (fun y hy => (hn.marks y hy).len) 43
  have a3 := flat_le (l := n.taints) (m := 32) (fun y hy => (hn.taints y hy).len) 126
  have a4 : (flagT n.closed).length ≤ 1 := by cases n.closed <;> decide
  have a5 : n.marks.length * (32 + 1) ≤ 4 * 33 := Nat.mul_le_mul hn.mlen (by omega)
  have a6 : n.taints.length * (32 + 1) ≤ 4 * 33 := Nat.mul_le_mul hn.tlen (by omega)
  have a7 := hn.name.len
  have a8 := hn.mlen
  have a9 := hn.tlen
  refine st_box h ?_
  intro b w1 hb h
  try simp only [go_sem] at h
  have h := h.step (Ext.drew _)
  have e1 := h.ext
  refine ⟨Ext, Ext, preExt, .pointer (some ⟨b, 0, none⟩), fun _ => ?_, S n.name, fun w2 e2 => ?_, S (n.name ++ [58]), fun w2 => ?_, .pointer (some ⟨b, 1, none⟩), fun _ => ?_, vecV n.cap, fun w2 e2 => ?_, S (vecT n.cap), fun w2 e2 => ?_, S (n.name ++ [58] ++ vecT n.cap), fun w2 => ?_, .pointer (some ⟨b, 3, none⟩), fun _ => ?_, mv, fun w2 e2 => ?_, S (signedT 43 n.marks), fun w2 e2 => ?_, S (n.name ++ [58] ++ vecT n.cap ++ signedT 43 n.marks), fun w2 => ?_, .pointer (some ⟨b, 4, none⟩), fun _ => ?_, tv, fun w2 e2 => ?_, S (signedT 126 n.taints), fun w2 e2 => ?_, S (n.name ++ [58] ++ vecT n.cap ++ signedT 43 n.marks ++ signedT 126 n.taints), fun w2 => ?_, .pointer (some ⟨b, 5, none⟩), fun _ => ?_, .bool n.closed, fun w2 e2 => ?_, S (flagT n.closed), fun w2 e2 => ?_, S (nodeT n), fun w2 => ?_, fun w2 e2 => ?_⟩
  · simp only [go_sem]; exact ⟨by trivial, by trivial⟩
  · exact st_load ag_string (h.step e2) 0 rfl rfl ⟨rfl, Ext.refl _⟩
  · rw [xcat _ _ _ _ _ _ _ (by simp; omega)]; exact ⟨rfl, rfl⟩
  · simp only [go_sem]; exact ⟨by trivial, by trivial⟩
  · exact st_loadN ag_api_Vec sz_api_Vec (h.step e2) 0 rfl rfl (vs := vecC n.cap) rfl ⟨rfl, Ext.refl _⟩
  · exact xcall_of (en_joineryref4_Vec _) (c_rVec hn.cap _) fun _ _ hq => hq
  · rw [xcat _ _ _ _ _ _ _ (by simp; omega)]; exact ⟨rfl, rfl⟩
  · simp only [go_sem]; exact ⟨by trivial, by trivial⟩
  · exact st_load ag_sl_string (h.step e2) 0 rfl rfl ⟨rfl, Ext.refl _⟩
  · exact xcall_of (en_joineryref4_row _) (c_rRow 43 (h1.mono (e1.trans e2)) (by omega) fun x hx => by have := (hn.marks x hx).len; omega) fun _ _ hq => hq
  · rw [xcat _ _ _ _ _ _ _ (by simp; omega)]; exact ⟨rfl, rfl⟩
  · simp only [go_sem]; exact ⟨by trivial, by trivial⟩
  · exact st_load ag_sl_string (h.step e2) 0 rfl rfl ⟨rfl, Ext.refl _⟩
  · exact xcall_of (en_joineryref4_row _) (c_rRow 126 (h2.mono (e1.trans e2)) (by omega) fun x hx => by have := (hn.taints x hx).len; omega) fun _ _ hq => hq
  · rw [xcat _ _ _ _ _ _ _ (by simp; omega)]; exact ⟨rfl, rfl⟩
  · simp only [go_sem]; exact ⟨by trivial, by trivial⟩
  · exact st_load ag_bool (h.step e2) 0 rfl rfl ⟨rfl, Ext.refl _⟩
  · exact xcall_of (en_joineryref4_flag _) (c_rFlag _ _) fun _ _ hq => hq
  · rw [xcat _ _ _ _ _ _ _ (by simp; omega)]; exact ⟨rfl, rfl⟩
  · exact ⟨rfl, e1.trans e2⟩
theorem c_rNumbers {w : World} {p : Value} {l : List Int} (hp : Row w 1 p l.length (intsL l)) (hl : l.length ≤ 1000) (hs : ∀ n ∈ l, 0 ≤ n ∧ n < 1000000000000000) : RetV Tryz.prog F_joineryref4_numbers #[p] w (S (peersT l)) := by
  refine call_joineryref4_numbers ?_
  have h := St.start w
  unfold S_joineryref4_numbers
  refine ⟨fun u v w2 => ∃ i, i ≤ l.length ∧ u = S (peersT (l.take i)) ∧ v = .int .i64 (i : Nat) ∧ St [] w [] w2, fun _ v _ => lenI l.length v, ⟨0, Nat.zero_le _, rfl, rfl, h⟩, ?_⟩
  rintro - u v w2 ⟨i, hi, rfl, rfl, h⟩
  refine hp.len und_sl_int ?_
  rw [xlss]
  refine xc_dec ?_ ?_
  · intro hlt
    have hlt : i < l.length := by omega
    obtain ⟨x, hx⟩ : ∃ x, l[i]? = some x := ⟨_, List.getElem?_eq_getElem hlt⟩
    have hge : l[i] = x := by
      rw [List.getElem?_eq_getElem hlt] at hx
      injection hx
    have hxs := hs x (List.mem_of_getElem? hx)
    have hlen : (peersT (l.take i)).length ≤ 1000 * 22 := by
      unfold peersT
      have := join_le (l := (l.take i).map Lib.itoa) (m := 21) (fun y hy => by
        obtain ⟨n, hn, rfl⟩ := List.mem_map.1 hy
        have := hs n (List.mem_of_mem_take hn)
        exact Lib.itoa_length_le n (by omega) (by omega)) 44
      rw [List.length_map] at this
      have h2 : (l.take i).length * (21 + 1) ≤ 1000 * 22 := Nat.mul_le_mul (by rw [List.length_take]; omega) (by omega)
      omega
    have hxl := Lib.itoa_length_le x (by omega) (by omega)
    have step : ∀ (s : Str) (w3 : World), s.length ≤ 1000 * 22 + 1 → s ++ Lib.itoa x = peersT (l.take (i + 1)) → St [] w [] w3 → XIdx Tryz.prog T_sl_int p (.int .i64 (i : Nat)) w3 fun v18 w5 => XLoad Tryz.prog T_int v18 w5 fun v19 w6 => XCall Tryz.prog F_joineryref4_Digits #[v19] w6 fun v20 w7 =>
        XBin Tryz.prog .add T_string false false (S s) v20 w7 fun v21 w8 => XBin Tryz.prog .add T_int false true (.int .i64 (i : Nat)) (.int .i64 1) w8 fun v10 w9 => (∃ i, i ≤ l.length ∧ v21 = S (peersT (l.take i)) ∧ v10 = .int .i64 (i : Nat) ∧ St [] w [] w9) ∧ lenI l.length v10 < lenI l.length (.int .i64 (i : Nat)) := fun s w3 hs3 hs4 h => by
      obtain ⟨b1, o1, i1, c1⟩ := hp.at (k := .i64) und_sl_int sz_int (i := i) hlt
      refine i1 _ _ ?_
      have hc := c1 _ h.ext 0 (by omega)
      simp only [Nat.add_zero, Nat.mul_one] at hc
      refine ld_of ag_int (v := .int .i64 x) (by rw [hc, List.getElem?_map, hx]; rfl) ?_
      refine st_callV en_joineryref4_Digits (c_rDigits hxs.1 (by omega) _) h ?_
      intro w4 h
      rw [xcat _ _ _ _ _ _ _ (by omega), hs4, xadd, wi64 (by omega) (by omega)]
      exact ⟨⟨i + 1, hlt, rfl, rfl, h⟩, lenI_succ hlt⟩
    have hsucc : l.take (i + 1) = l.take i ++ [x] := by rw [List.take_succ_eq_append_getElem hlt, hge]
    refine ⟨fun u w' => u = S (if 0 < i then peersT (l.take i) ++ [44] else peersT (l.take i)) ∧ St [] w [] w', ?_, ?_⟩
    · rintro - u w3 ⟨rfl, h⟩
      refine step _ _ ?_ ?_ h
      · split
        · simp; omega
        · omega
      · rw [hsucc]
        unfold peersT
        rw [List.map_append]
        split
        · rename_i hi0
          cases hm : (l.take i).map Lib.itoa with
          | nil =>
            have h0 : ((l.take i).map Lib.itoa).length = 0 := by rw [hm]; rfl
            rw [List.length_map, List.length_take] at h0
            omega
          | cons y r =>
            rw [List.cons_append, Lib.join_cons, Lib.join_cons]
            simp [Lib.joinTail]
        · rename_i hi0
          have : i = 0 := by omega
          subst this
          simp [Lib.join_nil, Lib.join_one]
    · rw [xgtr]
      refine xc_dec ?_ ?_
      · intro hi0
        rw [xcat _ _ _ _ _ _ _ (by simp; omega), if_pos (by omega)]
        exact ⟨rfl, h⟩
      · intro hi0
        rw [if_neg (by omega)]
        exact ⟨rfl, h⟩
  · intro hge
    have hi : i = l.length := by omega
    subst hi
    rw [List.take_length]
    exact ⟨rfl, h.ext⟩
/-- A text's first word, and what is behind it. -/
theorem join2 (a b : Str) : Lib.join [a, b] [32] = a ++ [32] ++ b := by rw [Lib.join_cons]; simp [Lib.joinTail]
theorem join_snoc (l : List Str) (hl : l ≠ []) (x : Str) : Lib.join (l ++ [x]) [32] = Lib.join l [32] ++ [32] ++ x := by
  cases l with
  | nil => exact absurd rfl hl
  | cons a l =>
    rw [List.cons_append, Lib.join_cons, Lib.join_cons]
    simp [Lib.joinTail]
set_option maxHeartbeats 4000000 in
theorem c_rText {w : World} {r : RecM} {v : Value} (hr : RecAt w r v) (hk : RecOk r) : RetV Tryz.prog F_joineryref4_Text #[v] w (S (textM r)) := by
  refine call_joineryref4_Text ?_
  have h := St.start w
  unfold S_joineryref4_Text
  obtain ⟨pv, lv, mv, tv, rfl, hpv, hlv, hmv, htv⟩ := hr
  have hti := tiny_ok hk
  have hg := hk.small
  have hgl := Lib.itoa_length_le r.gang (by omega) (by omega)
  have hlo := hk.lo
  have hhi := hk.hi
  refine st_box h ?_
  intro b w1 hb h
  try simp only [go_sem] at h
  rw [fld_api_Record_Kind]
  refine st_load ag_int h 0 rfl rfl ?_
  rw [xeql]
  have hbare : peeredI r.kind = false → r.kind ≠ 3 → textM r = headT r ++ [32] ++ secT r := fun hp h3 => by
    unfold textM wordsT frontT
    rw [hp, hk.noplaces h3]
    simp [join2]
  refine xc_dec ?_ ?_
  · intro k1
    rw [fld_api_Record_Node]
    refine st_loadN ag_api_Node sz_api_Node h 0 rfl rfl (vs := nodeC r.node.name r.node.cap mv tv r.node.closed) rfl ?_
    refine st_callV en_joineryref4_Node (c_rNodeT (n := r.node) (hk.node k1) (hmv.mono h.ext) (htv.mono h.ext)) h ?_
    intro w2 h
    have hnl := (words_len hk).2 (secT r) (by simp [wordsT, frontT])
    have hs : secT r = nodeT r.node := secT_node k1
    rw [hs] at hnl
    rw [xcat _ _ _ _ _ _ _ (by simp; omega), hbare (by rw [k1]; rfl) (by omega), hs]
    have hh : headT r = [110, 111, 100, 101] := by unfold headT; rw [k1]; rfl
    rw [hh]
    exact ⟨rfl, h.ext⟩
  intro k1
  rw [xeql]
  refine xc_dec ?_ ?_
  · intro k2
    rw [fld_api_Record_Node, fld_api_Node_Name]
    refine st_load ag_string h 0 rfl rfl ?_
    have hnl := (hk.name k2).len
    rw [xcat _ _ _ _ _ _ _ (by simp; omega), hbare (by rw [k2]; rfl) (by omega), secT_gone k2]
    have hh : headT r = [103, 111, 110, 101] := by unfold headT; rw [k2]; rfl
    rw [hh]
    exact ⟨rfl, h.ext⟩
  intro k2
  have hsec : secT r = Lib.itoa r.gang := secT_else k1 k2
  rw [xeql]
  refine xc_dec ?_ ?_
  · intro k4
    rw [fld_api_Record_Gang]
    refine st_load ag_int h 0 rfl rfl ?_
    refine st_callV en_joineryref4_Digits (c_rDigits hg.2 (by omega) _) h ?_
    intro w2 h
    rw [xcat _ _ _ _ _ _ _ (by simp; omega), hbare (by rw [k4]; rfl) (by omega), hsec]
    have hh : headT r = [99, 111, 109, 109, 105, 116] := by unfold headT; rw [k4]; rfl
    rw [hh]
    exact ⟨rfl, h.ext⟩
  intro k4
  rw [xeql]
  refine xc_dec ?_ ?_
  · intro k5
    rw [fld_api_Record_Gang]
    refine st_load ag_int h 0 rfl rfl ?_
    refine st_callV en_joineryref4_Digits (c_rDigits hg.2 (by omega) _) h ?_
    intro w2 h
    rw [xcat _ _ _ _ _ _ _ (by simp; omega), hbare (by rw [k5]; rfl) (by omega), hsec]
    have hh : headT r = [97, 98, 111, 114, 116] := by unfold headT; rw [k5]; rfl
    rw [hh]
    exact ⟨rfl, h.ext⟩
  intro k5
  rw [xeql]
  refine xc_dec ?_ ?_
  · intro k6
    rw [fld_api_Record_Gang]
    refine st_load ag_int h 0 rfl rfl ?_
    refine st_callV en_joineryref4_Digits (c_rDigits hg.2 (by omega) _) h ?_
    intro w2 h
    rw [xcat _ _ _ _ _ _ _ (by simp; omega), hbare (by rw [k6]; rfl) (by omega), hsec]
    have hh : headT r = [114, 101, 108, 101, 97, 115, 101] := by unfold headT; rw [k6]; rfl
    rw [hh]
    exact ⟨rfl, h.ext⟩
  intro k6
  have front : ∀ {hd : Str}, headT r = hd → peeredI r.kind = true → frontT r = [hd, Lib.itoa r.gang, peersT r.peers] := fun hh hp => by
    unfold frontT
    rw [hh, hsec, hp]
    rfl
  rw [xeql]
  refine xc_dec ?_ ?_
  · intro k7
    have hp : peeredI r.kind = true := by rw [k7]; rfl
    have hpe := hk.peers hp
    have hpl := hk.plen
    have hh : headT r = [103, 97, 110, 103] := by unfold headT; rw [k7]; rfl
    have hpl2 := (words_len hk).2 (peersT r.peers) (by unfold wordsT; rw [front hh hp]; simp)
    have hl0 := hk.noplaces (by omega)
    have h := h.step (Ext.drew _)
    have e1 := h.ext
    refine ⟨Ext, Ext, preExt, .pointer (some ⟨b, 1, none⟩), fun _ => ?_, .int .i64 r.gang, fun w2 e2 => ?_, S (Lib.itoa r.gang), fun w2 e2 => ?_, S ([103, 97, 110, 103, 32] ++ Lib.itoa r.gang), fun w2 => ?_, S ([103, 97, 110, 103, 32] ++ Lib.itoa r.gang ++ [32]), fun w2 => ?_, .pointer (some ⟨b, 2, none⟩), fun _ => ?_, pv, fun w2 e2 => ?_, S (peersT r.peers), fun w2 e2 => ?_, S (textM r), fun w2 => ?_, fun w2 e2 => ?_⟩
    · simp only [go_sem]; exact ⟨by trivial, by trivial⟩
    · exact st_load ag_int (h.step e2) 0 rfl rfl ⟨rfl, Ext.refl _⟩
    · exact xcall_of (en_joineryref4_Digits _) (c_rDigits hg.2 (by omega) _) fun _ _ hq => hq
    · rw [xcat _ _ _ _ _ _ _ (by simp; omega)]; exact ⟨rfl, rfl⟩
    · rw [xcat _ _ _ _ _ _ _ (by simp; omega)]; exact ⟨rfl, rfl⟩
    · simp only [go_sem]; exact ⟨by trivial, by trivial⟩
    · exact st_load ag_sl_int (h.step e2) 0 rfl rfl ⟨rfl, Ext.refl _⟩
    · exact xcall_of (en_joineryref4_numbers _) (c_rNumbers (hpv.mono (e1.trans e2)) (by omega) hpe.2) fun _ _ hq => hq
    · rw [xcat _ _ _ _ _ _ _ (by simp; omega)]
      have e : textM r = [103, 97, 110, 103, 32] ++ Lib.itoa r.gang ++ [32] ++ peersT r.peers := by
        unfold textM wordsT
        rw [front hh hp, hl0, List.map_nil, List.append_nil, Lib.join_cons]
        simp [Lib.joinTail]
      rw [e]
      exact ⟨rfl, rfl⟩
    · exact ⟨rfl, e1.trans e2⟩
  intro k7
  have k3 : r.kind = 3 := by omega
  have hp : peeredI r.kind = true := by rw [k3]; rfl
  have hpe := hk.peers hp
  have hpl := hk.plen
  have hh : headT r = [112, 114, 101, 112, 97, 114, 101] := by unfold headT; rw [k3]; rfl
  have hpl2 := (words_len hk).2 (peersT r.peers) (by unfold wordsT; rw [front hh hp]; simp)
  have hl8 := hk.pllen
  have h := h.step (Ext.drew _)
  have e1 := h.ext
  have hf3 : frontT r ≠ [] := by rw [front hh hp]; simp
  have hfl : Lib.join (frontT r) [32] = [112, 114, 101, 112, 97, 114, 101, 32] ++ Lib.itoa r.gang ++ [32] ++ peersT r.peers := by
    rw [front hh hp, Lib.join_cons]
    simp [Lib.joinTail]
  refine ⟨Ext, Ext, preExt, .pointer (some ⟨b, 1, none⟩), fun _ => ?_, .int .i64 r.gang, fun w2 e2 => ?_, S (Lib.itoa r.gang), fun w2 e2 => ?_, S ([112, 114, 101, 112, 97, 114, 101, 32] ++ Lib.itoa r.gang), fun w2 => ?_, S ([112, 114, 101, 112, 97, 114, 101, 32] ++ Lib.itoa r.gang ++ [32]), fun w2 => ?_, .pointer (some ⟨b, 2, none⟩), fun _ => ?_, pv, fun w2 e2 => ?_, S (peersT r.peers), fun w2 e2 => ?_, S (Lib.join (frontT r) [32]), fun w2 => ?_, fun w2 e2 => ?_⟩
  · simp only [go_sem]; exact ⟨by trivial, by trivial⟩
  · exact st_load ag_int (h.step e2) 0 rfl rfl ⟨rfl, Ext.refl _⟩
  · exact xcall_of (en_joineryref4_Digits _) (c_rDigits hg.2 (by omega) _) fun _ _ hq => hq
  · rw [xcat _ _ _ _ _ _ _ (by simp; omega)]; exact ⟨rfl, rfl⟩
  · rw [xcat _ _ _ _ _ _ _ (by simp; omega)]; exact ⟨rfl, rfl⟩
  · simp only [go_sem]; exact ⟨by trivial, by trivial⟩
  · exact st_load ag_sl_int (h.step e2) 0 rfl rfl ⟨rfl, Ext.refl _⟩
  · exact xcall_of (en_joineryref4_numbers _) (c_rNumbers (hpv.mono (e1.trans e2)) (by omega) hpe.2) fun _ _ hq => hq
  · rw [xcat _ _ _ _ _ _ _ (by simp; omega), hfl]; exact ⟨rfl, rfl⟩
  have h := h.step e2
  have wle := words_len hk
  have ttl : ∀ i, i ≤ r.places.length → (Lib.join (frontT r ++ (r.places.take i).map placeT) [32]).length ≤ 11 * 401 := fun i hi => by
    have hw : frontT r ++ (r.places.take i).map placeT = (wordsT r).take (3 + i) := by
      unfold wordsT
      rw [front hh hp, Nat.add_comm 3 i, List.map_take]
      rfl
    rw [hw]
    have := join_le (l := (wordsT r).take (3 + i)) (m := 400) (fun x hx => wle.2 x (List.mem_of_mem_take hx)) 32
    have h2 : ((wordsT r).take (3 + i)).length * (400 + 1) ≤ 11 * 401 := Nat.mul_le_mul (by rw [List.length_take]; omega) (by omega)
    omega
  refine ⟨fun u v w' => ∃ i, i ≤ r.places.length ∧ u = S (Lib.join (frontT r ++ (r.places.take i).map placeT) [32]) ∧ v = .int .i64 (i : Nat) ∧ St [] w [.blk b (recO r pv lv mv tv)] w', fun _ v _ => lenI r.places.length v, ⟨0, Nat.zero_le _, by simp, rfl, h⟩, ?_⟩
  rintro - u v w3 ⟨i, hi, rfl, rfl, h⟩
  rw [fld_api_Record_Places]
  refine st_load ag_sl_api_Place h 0 rfl rfl ?_
  refine hlv.len und_sl_api_Place ?_
  rw [xlss]
  refine xc_dec ?_ ?_
  · intro hlt
    have hlt : i < r.places.length := by omega
    obtain ⟨x, hx⟩ : ∃ x, r.places[i]? = some x := ⟨_, List.getElem?_eq_getElem hlt⟩
    have hge : r.places[i] = x := (List.getElem?_eq_some_iff.1 hx).2
    have hxk := hk.places x (List.mem_of_getElem? hx)
    have hxw := wle.2 (placeT x) (by
      unfold wordsT
      exact List.mem_append_right _ (List.mem_map.2 ⟨x, List.mem_of_getElem? hx, rfl⟩))
    have ht1 := ttl i hi
    rw [fld_api_Record_Places]
    refine st_load ag_sl_api_Place h 0 rfl rfl ?_
    obtain ⟨b1, o1, i1, c1⟩ := hlv.at (k := .i64) und_sl_api_Place sz_api_Place hlt
    refine i1 _ _ ?_
    refine ldN_of ag_api_Place sz_api_Place (vs := placeC x) rfl (fun j hj => (c1 _ h.ext j hj).trans (placesL_at hx j hj)) ?_
    refine st_alloc zv_api_Place h ?_
    intro bp w4 hbp h
    try simp only [go_sem] at h
    refine st_store sz_api_Place h 0 rfl rfl rfl rfl ?_
    intro w5 h
    try simp only [go_sem] at h
    have h := h.step (Ext.drew _)
    have pl : (placeT x).length = x.pod.length + 1 + x.node.length + 1 + (vecT x.need).length + (flagT x.alone).length := by simp [placeT]; omega
    generalize hT : Lib.join (frontT r ++ (r.places.take i).map placeT) [32] = T at *
    refine ⟨Ext, Ext, preExt, S (T ++ [32]), fun w3 => ?_, .pointer (some ⟨bp, 0, none⟩), fun _ => ?_, S x.pod, fun w2 e2 => ?_, S (T ++ [32] ++ x.pod), fun _ => ?_, S (T ++ [32] ++ x.pod ++ [62]), fun _ => ?_, .pointer (some ⟨bp, 1, none⟩), fun _ => ?_, S x.node, fun w2 e2 => ?_, S (T ++ [32] ++ x.pod ++ [62] ++ x.node), fun _ => ?_, S (T ++ [32] ++ x.pod ++ [62] ++ x.node ++ [58]), fun _ => ?_, .pointer (some ⟨bp, 2, none⟩), fun _ => ?_, vecV x.need, fun w2 e2 => ?_, S (vecT x.need), fun w2 e2 => ?_,
      S (T ++ [32] ++ x.pod ++ [62] ++ x.node ++ [58] ++ vecT x.need), fun _ => ?_, .pointer (some ⟨bp, 4, none⟩), fun _ => ?_, .bool x.alone, fun w2 e2 => ?_, S (flagT x.alone), fun w2 e2 => ?_, S (T ++ [32] ++ placeT x), fun _ => ?_, fun w6 e6 => ?_⟩
    · rw [xcat _ _ _ _ _ _ _ (by simp; omega)]; exact ⟨rfl, rfl⟩
    · simp only [go_sem]; exact ⟨by trivial, by trivial⟩
    · exact st_load ag_string (h.step e2) 0 rfl rfl ⟨rfl, Ext.refl _⟩
    · rw [xcat _ _ _ _ _ _ _ (by simp; omega)]; exact ⟨rfl, rfl⟩
    · rw [xcat _ _ _ _ _ _ _ (by simp; omega)]; exact ⟨rfl, rfl⟩
    · simp only [go_sem]; exact ⟨by trivial, by trivial⟩
    · exact st_load ag_string (h.step e2) 0 rfl rfl ⟨rfl, Ext.refl _⟩
    · rw [xcat _ _ _ _ _ _ _ (by simp; omega)]; exact ⟨rfl, rfl⟩
    · rw [xcat _ _ _ _ _ _ _ (by simp; omega)]; exact ⟨rfl, rfl⟩
    · simp only [go_sem]; exact ⟨by trivial, by trivial⟩
    · exact st_loadN ag_api_Vec sz_api_Vec (h.step e2) 0 rfl rfl (vs := vecC x.need) rfl ⟨rfl, Ext.refl _⟩
    · exact xcall_of (en_joineryref4_Vec _) (c_rVec hxk.need _) fun _ _ hq => hq
    · rw [xcat _ _ _ _ _ _ _ (by simp; omega)]; exact ⟨rfl, rfl⟩
    · simp only [go_sem]; exact ⟨by trivial, by trivial⟩
    · exact st_load ag_bool (h.step e2) 0 rfl rfl ⟨rfl, Ext.refl _⟩
    · exact xcall_of (en_joineryref4_flag _) (c_rFlag _ _) fun _ _ hq => hq
    · rw [xcat _ _ _ _ _ _ _ (by simp; omega)]
      refine ⟨?_, rfl⟩
      simp [placeT]
    have h := (h.step e6).drop
    rw [xadd, wi64 (by omega) (by omega)]
    refine ⟨⟨i + 1, hlt, ?_, rfl, h⟩, lenI_succ hlt⟩
    have e3 : frontT r ++ (r.places.take (i + 1)).map placeT = (frontT r ++ (r.places.take i).map placeT) ++ [placeT x] := by
      rw [List.take_succ_eq_append_getElem hlt, hge]
      simp
    rw [e3, join_snoc _ (by simp [hf3]), hT]
  · intro hge
    have hi : i = r.places.length := by omega
    subst hi
    rw [List.take_length]
    exact ⟨rfl, h.ext⟩
end Go.Proofs.YthkgbajldkicfaaGreatDoor
