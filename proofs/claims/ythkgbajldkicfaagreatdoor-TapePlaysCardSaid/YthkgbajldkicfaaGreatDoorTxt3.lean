/-
  A record's line is written.
-/
import Derived.Test.YthkgbajldkicfaaGreatDoorTxt2
namespace Go.Proofs.YthkgbajldkicfaaGreatDoor
set_option linter.unusedVariables false
set_option linter.unusedSimpArgs false
open Go Go.Jo
set_option maxRecDepth 100000

set_option maxHeartbeats 4000000 in
theorem c_text {w : World} {r : RecM} {v : Value} (he : EnvP w) (hr : RecAt w r v) (ht : RecTiny r) : RetV Tryz.prog F_line_Text #[v] w (S (textM r)) := by
  refine call_line_Text ?_
  have h := St.start w
  unfold S_line_Text
  obtain ⟨pv, lv, mv, tv, rfl, hpv, hlv, hmv, htv⟩ := hr
  refine st_box h ?_
  intro b w1 hb h
  try simp only [go_sem] at h
  refine st_buildS (cs := #[S []]) (e := T_string) (fun w => by kernel_rfl) h ?_
  intro bl w2 hbl h
  have hfl : Flats pv lv mv tv := ⟨hpv.flat.1, hlv.flat.1, hmv.flat.1, htv.flat.1⟩
  -- behind the first word
  refine ⟨fun w' => St [] w [.row T_string 1 (.slice (some ⟨bl, 0, none⟩) 1 1) 1 (strsL [headT r]), .blk b (recO r pv lv mv tv)] w', ?_, ?_⟩
  · intro _ w3 h
    try simp only [go_sem]
    refine st_loadN ag_api_Node sz_api_Node h 1 rfl rfl (vs := nodeC r.node.name r.node.cap mv tv r.node.closed) rfl ?_
    refine st_alloc zv_api_Node h ?_
    intro bn w4 hbn h
    try simp only [go_sem] at h
    refine st_store sz_api_Node h 0 rfl rfl rfl (by simp only [Value.cells, nodeC, List.all_cons, List.all_nil, hfl.m, hfl.t]; rfl) ?_
    intro w5 h
    try simp only [go_sem] at h
    -- behind the second word
    refine ⟨fun u w' => ∃ x, x = headT r ∧ St [] w [.row T_string 1 u 2 (strsL [headT r, secT r]), .blk b (recO r pv lv mv tv)] w', ?_, ?_⟩
    · rintro - u w6 ⟨_, _, h⟩
      -- behind the peers
      refine ⟨fun u w' => St [] w [.row T_string 1 u (frontT r).length (strsL (frontT r)), .blk b (recO r pv lv mv tv)] w', ?_, ?_⟩
      · rintro - u w7 h
        try simp only [go_sem]
        refine st_load ag_sl_api_Place h 1 rfl rfl ?_
        refine hlv.len und_sl_api_Place ?_
        refine ⟨fun u' v' w' => ∃ i, i ≤ r.places.length ∧ v' = .int .i64 (i : Nat) ∧ St [] w [.row T_string 1 u' (frontT r ++ (r.places.take i).map placeT).length (strsL (frontT r ++ (r.places.take i).map placeT)), .blk b (recO r pv lv mv tv)] w', fun _ v _ => match v with | .int _ n => r.places.length - n.toNat | _ => 0, ⟨0, Nat.zero_le _, rfl, by simpa using h⟩, ?_⟩
        rintro - u' v' w8 ⟨i, hi, rfl, h⟩
        have hpl := ht.places
        have hfl3 : (frontT r).length ≤ 3 := by unfold frontT; split <;> simp
        rw [xlss]
        refine xc_dec ?_ ?_
        · intro hlt
          have hlt : i < r.places.length := by omega
          obtain ⟨x, hx⟩ : ∃ x, r.places[i]? = some x := ⟨_, List.getElem?_eq_getElem hlt⟩
          have hge : r.places[i] = x := by
            rw [List.getElem?_eq_getElem hlt] at hx
            injection hx
          have hxs := ht.place x (List.mem_of_getElem? hx)
          refine (hlv.mono h.ext).idx und_sl_api_Place sz_api_Place hlt fun b0 o0 hc0 => ?_
          refine ldN_of ag_api_Place sz_api_Place (vs := placeC x) rfl (fun j hj => (hc0 j hj).trans (place_cell hx hj)) ?_
          refine st_alloc zv_api_Place h ?_
          intro bp w9 hbp h
          try simp only [go_sem] at h
          refine st_store sz_api_Place h 0 rfl rfl rfl rfl ?_
          intro w10 h
          try simp only [go_sem] at h
          have h := h.step (Ext.drew _)
          have e10 := h.ext
          have hvl := vecT_len hxs.2.2
          have hfg := flagT_len x.alone
          refine ⟨Ext, Ext, preExt, .pointer (some ⟨bp, 0, none⟩), fun _ => ?_, S x.pod, fun w2 e2 => ?_, S (x.pod ++ [62]), fun _ => ?_, .pointer (some ⟨bp, 1, none⟩), fun _ => ?_, S x.node, fun w2 e2 => ?_, S (x.pod ++ [62] ++ x.node), fun _ => ?_, S (x.pod ++ [62] ++ x.node ++ [58]), fun _ => ?_, .pointer (some ⟨bp, 2, none⟩), fun _ => ?_, vecV x.need, fun w2 e2 => ?_, S (vecT x.need), fun w2 e2 => ?_,
            S (x.pod ++ [62] ++ x.node ++ [58] ++ vecT x.need), fun _ => ?_, .pointer (some ⟨bp, 4, none⟩), fun _ => ?_, .bool x.alone, fun w2 e2 => ?_, S (flagT x.alone), fun w2 e2 => ?_, S (placeT x), fun _ => ?_, fun w11 e11 => ?_⟩
          · first | exact ⟨by trivial, by trivial⟩ | (simp only [go_sem]; done) | (simp only [go_sem]; exact ⟨by trivial, by trivial⟩)
          · exact st_load ag_string (h.step e2) 0 rfl rfl ⟨rfl, Ext.refl _⟩
          · rw [xcat _ _ _ _ _ _ _ (by simp; omega)]; exact ⟨rfl, rfl⟩
          · first | exact ⟨by trivial, by trivial⟩ | (simp only [go_sem]; done) | (simp only [go_sem]; exact ⟨by trivial, by trivial⟩)
          · exact st_load ag_string (h.step e2) 0 rfl rfl ⟨rfl, Ext.refl _⟩
          · rw [xcat _ _ _ _ _ _ _ (by simp; omega)]; exact ⟨rfl, rfl⟩
          · rw [xcat _ _ _ _ _ _ _ (by simp; omega)]; exact ⟨rfl, rfl⟩
          · first | exact ⟨by trivial, by trivial⟩ | (simp only [go_sem]; done) | (simp only [go_sem]; exact ⟨by trivial, by trivial⟩)
          · exact st_loadN ag_api_Vec sz_api_Vec (h.step e2) 0 rfl rfl (vs := vecC x.need) rfl ⟨rfl, Ext.refl _⟩
          · exact xcall_of (en_line_vec _) (c_vecT (he.mono (e10.trans e2)) hxs.2.2) fun _ _ hq => hq
          · rw [xcat _ _ _ _ _ _ _ (by simp; omega)]; exact ⟨rfl, rfl⟩
          · first | exact ⟨by trivial, by trivial⟩ | (simp only [go_sem]; done) | (simp only [go_sem]; exact ⟨by trivial, by trivial⟩)
          · exact st_load ag_bool (h.step e2) 0 rfl rfl ⟨rfl, Ext.refl _⟩
          · exact xcall_of (en_line_flag _) (c_flag _ _) fun _ _ hq => hq
          · rw [xcat _ _ _ _ _ _ _ (by simp; omega)]; exact ⟨rfl, rfl⟩
          · have h := h.step e11
            refine st_buildS (cs := #[S (placeT x)]) (e := T_string) (fun w => by kernel_rfl) h ?_
            intro bx w12 hbx h
            refine app_sl_string h 2 rfl [S (placeT x)] rfl (news_blk (h.at 0 rfl)) (by simp [Value.oneCell']) (by simp; omega) ?_
            intro v2 w13 h
            rw [xadd, wi64 (by omega) (by omega)]
            refine ⟨⟨i + 1, hlt, rfl, ?_⟩, ?_⟩
            · have h := h.pick [2, 3] (by decide) rfl
              have e1 : frontT r ++ (r.places.take (i + 1)).map placeT = (frontT r ++ (r.places.take i).map placeT) ++ [placeT x] := by
                rw [List.take_succ_eq_append_getElem hlt, hge]
                simp
              have e2 : strsL (frontT r ++ (r.places.take (i + 1)).map placeT) = strsL (frontT r ++ (r.places.take i).map placeT) ++ [S (placeT x)] := by rw [e1]; simp
              have e3 : (frontT r ++ (r.places.take (i + 1)).map placeT).length = (frontT r ++ (r.places.take i).map placeT).length + 1 := by rw [e1]; simp; omega
              rw [e2, e3]
              exact h
            · show r.places.length - (((i : Int) + 1)).toNat < r.places.length - ((i : Int)).toNat
              omega
        · intro hge
          have hi : i = r.places.length := by omega
          subst hi
          rw [List.take_length] at h
          have hwl := wordsT_len ht
          have hjl := join_le hwl.2 32
          have hjm : (wordsT r).length * (200040000 + 1) ≤ 10003 * 200040001 := Nat.mul_le_mul hwl.1 (by omega)
          refine st_callV en_strings_Join (c_join (xs := wordsT r) [32] (Row.of_own (h.atR 0 rfl)) (by omega) (by omega)) h ?_
          intro w9 h
          exact ⟨rfl, h.ext⟩
      · -- the peers
        try simp only [go_sem]
        refine st_load ag_int h 1 rfl rfl ?_
        refine st_callV en_line_peered (c_peeredI _ _) h ?_
        intro w7 h
        refine xc_of ?_ ?_
        · intro hpd
          refine st_load ag_sl_int h 1 rfl rfl ?_
          refine hpv.len und_sl_int ?_
          refine ⟨fun u' v' w' => ∃ i, i ≤ r.peers.length ∧ v' = .int .i64 (i : Nat) ∧ St [] w [.row T_string 1 u' ((r.peers.take i).map Lib.itoa).length (strsL ((r.peers.take i).map Lib.itoa)), .row T_string 1 u 2 (strsL [headT r, secT r]), .blk b (recO r pv lv mv tv)] w', fun _ v _ => match v with | .int _ n => r.peers.length - n.toNat | _ => 0, ⟨0, Nat.zero_le _, rfl, h.row0 T_string 1⟩, ?_⟩
          rintro - u' v' w8 ⟨i, hi, rfl, h⟩
          have hpl := ht.peers
          rw [xlss]
          refine xc_dec ?_ ?_
          · intro hlt
            have hlt : i < r.peers.length := by omega
            obtain ⟨x, hx⟩ : ∃ x, r.peers[i]? = some x := ⟨_, List.getElem?_eq_getElem hlt⟩
            have hge : r.peers[i] = x := by
              rw [List.getElem?_eq_getElem hlt] at hx
              injection hx
            refine (hpv.mono h.ext).idx und_sl_int sz_int hlt fun b0 o0 hc0 => ?_
            have hc1 := hc0 0 (by omega)
            rw [Nat.add_zero, Nat.mul_one, Nat.add_zero] at hc1
            refine ld_of ag_int (v := .int .i64 x) (by rw [hc1]; simp [hx]) ?_
            refine st_callV en_strconv_Itoa (c_itoa (he.mono h.ext) (ht.peer x (List.mem_of_getElem? hx))) h ?_
            intro w9 h
            refine st_buildS (cs := #[S (Lib.itoa x)]) (e := T_string) (fun w => by kernel_rfl) h ?_
            intro bx w10 hbx h
            have hlen : ((r.peers.take i).map Lib.itoa).length = i := by simp; omega
            refine app_sl_string h 1 rfl [S (Lib.itoa x)] rfl (news_blk (h.at 0 rfl)) (by simp [Value.oneCell']) (by omega) ?_
            intro v2 w11 h
            rw [xadd, wi64 (by omega) (by omega)]
            refine ⟨⟨i + 1, hlt, rfl, ?_⟩, ?_⟩
            · have h := h.pick [1, 2, 3] (by decide) rfl
              have e1 : (r.peers.take (i + 1)).map Lib.itoa = (r.peers.take i).map Lib.itoa ++ [Lib.itoa x] := by
                rw [List.take_succ_eq_append_getElem hlt, hge]
                simp
              have e2 : strsL ((r.peers.take (i + 1)).map Lib.itoa) = strsL ((r.peers.take i).map Lib.itoa) ++ [S (Lib.itoa x)] := by rw [e1]; simp
              have e3 : ((r.peers.take (i + 1)).map Lib.itoa).length = ((r.peers.take i).map Lib.itoa).length + 1 := by rw [e1]; simp
              rw [e2, e3]
              exact h
            · show r.peers.length - (((i : Int) + 1)).toNat < r.peers.length - ((i : Int)).toNat
              omega
          · intro hge
            have hi : i = r.peers.length := by omega
            subst hi
            rw [List.take_length] at h
            have hjl := peersT_len ht
            refine st_callV en_strings_Join (c_join [44] (Row.of_own (h.atR 0 rfl)) (by simp; omega) (by show (peersT r.peers).length ≤ _; omega)) h ?_
            intro w9 h
            refine st_buildS (cs := #[S (peersT r.peers)]) (e := T_string) (fun w => by kernel_rfl) h ?_
            intro bx w10 hbx h
            refine app_sl_string h 2 rfl [S (peersT r.peers)] rfl (news_blk (h.at 0 rfl)) (by simp [Value.oneCell']) (by omega) ?_
            intro v2 w11 h
            have h := h.pick [2, 3] (by decide) rfl
            have hfr : frontT r = [headT r, secT r, peersT r.peers] := by rw [frontT, if_pos hpd]; rfl
            rw [hfr]
            exact h
        · intro hpd
          have hfr : frontT r = [headT r, secT r] := by rw [frontT, if_neg (by rw [hpd]; simp)]; rfl
          rw [hfr]
          exact h
    · -- the second word
      try simp only [go_sem]
      have app : ∀ (x : Str), secT r = x → ∀ {ws : World}, St [] w [.blk bn (.cells (nodeC r.node.name r.node.cap mv tv r.node.closed).toArray T_api_Node (0, 0)), .row T_string 1 (.slice (some ⟨bl, 0, none⟩) 1 1) 1 (strsL [headT r]), .blk b (recO r pv lv mv tv)] ws → ∀ {ty : TypeId} {K : Value → World → Prop}, (∀ v w', St [] w [.row T_string 1 v 2 (strsL [headT r, secT r]), .blk b (recO r pv lv mv tv)] w' → K v w') →
          XBuildS Tryz.prog T_sl_string 1 #[(0, S x)] ws fun v' w' => XB Tryz.prog .append #[T_sl_string, T_sl_string] ty #[.slice (some ⟨bl, 0, none⟩) 1 1, v'] w' K := fun x hx {ws} h {ty K} hk => by
        subst hx
        refine st_buildS (cs := #[S (secT r)]) (e := T_string) (fun w => by kernel_rfl) h ?_
        intro bx w12 hbx h
        refine app_sl_string h 2 rfl [S (secT r)] rfl (news_blk (h.at 0 rfl)) (by simp [Value.oneCell']) (by omega) ?_
        intro v2 w13 h
        exact hk _ _ (h.pick [2, 3] (by decide) rfl)
      refine st_load ag_int h 2 rfl rfl ?_
      rw [xeql]
      refine xc_dec ?_ ?_
      · intro hk1
        have hsec : secT r = nodeT r.node := by rw [secT, if_pos hk1]
        have h := h.step (Ext.drew _)
        have e10 := h.ext
        have hvl := vecT_len ht.cap
        have hfg := flagT_len r.node.closed
        have hs1 := tiny_signed ht.marks ht.mark 43
        have hs2 := tiny_signed ht.taints ht.taint 126
        have hnm := ht.name
        refine ⟨Ext, Ext, preExt, .pointer (some ⟨bn, 0, none⟩), fun _ => ?_, S r.node.name, fun w2 e2 => ?_, S (r.node.name ++ [58]), fun _ => ?_, .pointer (some ⟨bn, 1, none⟩), fun _ => ?_, vecV r.node.cap, fun w2 e2 => ?_, S (vecT r.node.cap), fun w2 e2 => ?_, S (r.node.name ++ [58] ++ vecT r.node.cap), fun _ => ?_, .pointer (some ⟨bn, 3, none⟩), fun _ => ?_, mv, fun w2 e2 => ?_, S (signedT 43 r.node.marks), fun w2 e2 => ?_,
          S (r.node.name ++ [58] ++ vecT r.node.cap ++ signedT 43 r.node.marks), fun _ => ?_, .pointer (some ⟨bn, 4, none⟩), fun _ => ?_, tv, fun w2 e2 => ?_, S (signedT 126 r.node.taints), fun w2 e2 => ?_, S (r.node.name ++ [58] ++ vecT r.node.cap ++ signedT 43 r.node.marks ++ signedT 126 r.node.taints), fun _ => ?_, .pointer (some ⟨bn, 5, none⟩), fun _ => ?_, .bool r.node.closed, fun w2 e2 => ?_, S (flagT r.node.closed), fun w2 e2 => ?_, S (nodeT r.node), fun _ => ?_, fun w11 e11 => ?_⟩
        · first | exact ⟨by trivial, by trivial⟩ | (simp only [go_sem]; done) | (simp only [go_sem]; exact ⟨by trivial, by trivial⟩)
        · exact st_load ag_string (h.step e2) 0 rfl rfl ⟨rfl, Ext.refl _⟩
        · rw [xcat _ _ _ _ _ _ _ (by simp; omega)]; exact ⟨rfl, rfl⟩
        · first | exact ⟨by trivial, by trivial⟩ | (simp only [go_sem]; done) | (simp only [go_sem]; exact ⟨by trivial, by trivial⟩)
        · exact st_loadN ag_api_Vec sz_api_Vec (h.step e2) 0 rfl rfl (vs := vecC r.node.cap) rfl ⟨rfl, Ext.refl _⟩
        · exact xcall_of (en_line_vec _) (c_vecT (he.mono (e10.trans e2)) ht.cap) fun _ _ hq => hq
        · rw [xcat _ _ _ _ _ _ _ (by simp; omega)]; exact ⟨rfl, rfl⟩
        · first | exact ⟨by trivial, by trivial⟩ | (simp only [go_sem]; done) | (simp only [go_sem]; exact ⟨by trivial, by trivial⟩)
        · exact st_load ag_sl_string (h.step e2) 0 rfl rfl ⟨rfl, Ext.refl _⟩
        · exact xcall_of (en_line_signed _) (c_signedT 43 (hmv.mono (e10.trans e2)) (by have := ht.marks; omega) fun x hx => Nat.le_trans (ht.mark x hx) (by omega)) fun _ _ hq => hq
        · rw [xcat _ _ _ _ _ _ _ (by simp; omega)]; exact ⟨rfl, rfl⟩
        · first | exact ⟨by trivial, by trivial⟩ | (simp only [go_sem]; done) | (simp only [go_sem]; exact ⟨by trivial, by trivial⟩)
        · exact st_load ag_sl_string (h.step e2) 0 rfl rfl ⟨rfl, Ext.refl _⟩
        · exact xcall_of (en_line_signed _) (c_signedT 126 (htv.mono (e10.trans e2)) (by have := ht.taints; omega) fun x hx => Nat.le_trans (ht.taint x hx) (by omega)) fun _ _ hq => hq
        · rw [xcat _ _ _ _ _ _ _ (by simp; omega)]; exact ⟨rfl, rfl⟩
        · first | exact ⟨by trivial, by trivial⟩ | (simp only [go_sem]; done) | (simp only [go_sem]; exact ⟨by trivial, by trivial⟩)
        · exact st_load ag_bool (h.step e2) 0 rfl rfl ⟨rfl, Ext.refl _⟩
        · exact xcall_of (en_line_flag _) (c_flag _ _) fun _ _ hq => hq
        · rw [xcat _ _ _ _ _ _ _ (by simp; omega)]; exact ⟨rfl, rfl⟩
        · exact app (nodeT r.node) hsec (h.step e11) fun v w' h => ⟨_, rfl, h⟩
      · intro hk1
        refine st_load ag_int h 2 rfl rfl ?_
        rw [xeql]
        refine xc_dec ?_ ?_
        · intro hk2
          have hsec : secT r = r.node.name := by rw [secT, if_neg hk1, if_pos hk2]
          refine st_load ag_string h 0 rfl rfl ?_
          exact app r.node.name hsec h fun v w' h => ⟨_, rfl, h⟩
        · intro hk2
          have hsec : secT r = Lib.itoa r.gang := by rw [secT, if_neg hk1, if_neg hk2]
          refine st_load ag_int h 2 rfl rfl ?_
          refine st_callV en_strconv_Itoa (c_itoa (he.mono h.ext) ht.gang) h ?_
          intro w6 h
          exact app (Lib.itoa r.gang) hsec h fun v w' h => ⟨_, rfl, h⟩
  · -- the first word
    refine st_callR en_strings_Fields (c_verbs w2 (he.mono h.ext)) h ?_
    intro vf w3 h
    have hf := Row.of_own (h.atR 0 rfl)
    have hf : Row w3 1 vf verbsM.length (strsL verbsM) := hf
    simp only [go_sem]
    refine st_load ag_int h 2 rfl rfl ?_
    rw [xgeq]
    refine and_st h (decide (r.kind ≤ 7)) ?_ ?_
    · intro _ J hJ
      refine st_load ag_int h 2 rfl rfl ?_
      refine hf.len und_sl_string ?_
      rw [xleq]
      exact hJ _ h
    · intro w4 h
      have hf : Row w4 1 vf verbsM.length (strsL verbsM) := Row.of_own (h.atR 0 rfl)
      refine xc_of ?_ ?_
      · intro hk
        rw [Bool.and_eq_true, decide_eq_true_eq, decide_eq_true_eq] at hk
        refine st_load ag_int h 2 rfl rfl ?_
        rw [xsub, wi64 (by omega) (by omega), show r.kind - 1 = ((r.kind.toNat - 1 : Nat) : Int) by omega]
        have hlt : r.kind.toNat - 1 < verbsM.length := by show _ < 7; omega
        refine str_at hf hlt (List.getElem?_eq_getElem hlt) ?_
        intro b0 o0 hc0
        refine ld_of ag_string hc0 ?_
        rw [idx_sl_string (by omega) (by omega)]
        refine st_store sz_string h 1 rfl rfl rfl rfl ?_
        intro w5 h
        have h := h.asRow 1 (k := 1) (sz := 1) rfl (by decide) rfl
        have h := h.pick [1, 2] (by decide) rfl
        have hh : headT r = verbsM[r.kind.toNat - 1] := by
          rw [headT, if_pos hk, List.getD_eq_getElem?_getD, List.getElem?_eq_getElem hlt]
          rfl
        rw [hh]
        exact h
      · intro hk
        have hh : headT r = [] := by
          rw [headT, if_neg]
          intro hx
          rw [decide_eq_true hx.1, decide_eq_true hx.2] at hk
          cases hk
        have h := h.asRow 1 (k := 1) (sz := 1) rfl (by decide) rfl
        have h := h.pick [1, 2] (by decide) rfl
        rw [hh]
        exact h
end Go.Proofs.YthkgbajldkicfaaGreatDoor
