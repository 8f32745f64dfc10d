/-
  The law TapePlays, walked.
-/
import Derived.Test.YthkgbajldkicfaaGreatDoorRtP
import Derived.Test.YthkgbajldkicfaaGreatDoorTLi
namespace Go.Proofs.YthkgbajldkicfaaGreatDoor
set_option linter.unusedVariables false
set_option linter.unusedSimpArgs false
open Go Go.Jo
set_option maxRecDepth 100000

def RecsAt (w : World) (p : Value) (rs : List RecM) : Prop := ∃ l : List (RecM × Q4), l.map (·.1) = rs ∧ Row w 10 p rs.length (recsL l) ∧ ∀ y ∈ l, RecAt w y.1 (recV4 y)
theorem RecsAt.mono {w w' : World} {p : Value} {rs : List RecM} (h : RecsAt w p rs) (e : Ext w w') : RecsAt w' p rs := by
  obtain ⟨l, h1, h2, h3⟩ := h
  exact ⟨l, h1, h2.mono e, fun y hy => (h3 y hy).mono e⟩
theorem RecsAt.get {w : World} {p : Value} {rs : List RecM} (h : RecsAt w p rs) {i : Nat} {r : RecM} (hr : rs[i]? = some r) :
    ∃ b o rv, (∀ (w' : World) (K : Value → World → Prop), K (.pointer (some ⟨b, o, none⟩)) w' → XIdx Tryz.prog T_sl_api_Record p (.int .i64 (i : Nat)) w' K) ∧ (∀ w', Ext w w' → ∀ K : Value → World → Prop, K rv w' → XLoad Tryz.prog T_api_Record (.pointer (some ⟨b, o, none⟩)) w' K) ∧ RecAt w r rv := by
  obtain ⟨l, h1, h2, h3⟩ := h
  have hll : l.length = rs.length := by rw [← h1, List.length_map]
  have hlt := (List.getElem?_eq_some_iff.1 hr).1
  obtain ⟨y, hy⟩ : ∃ y, l[i]? = some y := ⟨_, List.getElem?_eq_getElem (by omega)⟩
  have hy1 : y.1 = r := by
    have := congrArg (fun l => l[i]?) h1
    simp only [List.getElem?_map, hy, hr] at this
    exact Option.some.inj this
  obtain ⟨b1, o1, i1, c1⟩ := h2.at (k := .i64) und_sl_api_Record sz_api_Record (i := i) hlt
  refine ⟨b1, o1, recV4 y, i1, fun w' e K hk => ldN_of ag_api_Record sz_api_Record (vs := recC4 y) rfl (fun jj hj => (c1 _ e jj hj).trans (recsL_at hy jj hj)) hk, ?_⟩
  rw [← hy1]
  exact h3 y (List.mem_of_getElem? hy)
theorem c_Records {w : World} {p q : Value} {rs : List RecM} (hp : RecsAt w p rs) (hq : RecsAt w q rs) (hs : ∀ r ∈ rs, RecSmall r) (hl : rs.length ≤ 100000) : RetV Tryz.prog F_joinerylaw9_Records #[p, q] w (.bool true) := by
  refine call_joinerylaw9_Records ?_
  have h := St.start w
  unfold S_joinerylaw9_Records
  obtain ⟨_, _, rp, _⟩ := id hp
  obtain ⟨_, _, rq, _⟩ := id hq
  refine rp.len und_sl_api_Record ?_
  refine rq.len und_sl_api_Record ?_
  rw [xneq, decide_eq_false (by simp), xc_false]
  refine ⟨fun u w' => ∃ i : Nat, i ≤ rs.length ∧ u = .int .i64 (i : Nat) ∧ St [] w [] w', fun u _ => lenI rs.length u, ⟨0, Nat.zero_le _, rfl, h⟩, ?_⟩
  clear h
  rintro - u w1 ⟨i, hi, rfl, h⟩
  refine rp.len und_sl_api_Record ?_
  rw [xlss]
  refine xc_dec ?_ ?_
  · intro hlt
    have hlt : i < rs.length := by omega
    obtain ⟨r, hr⟩ : ∃ r, rs[i]? = some r := ⟨_, List.getElem?_eq_getElem hlt⟩
    obtain ⟨b1, o1, v1, i1, l1, a1⟩ := hp.get hr
    obtain ⟨b2, o2, v2, i2, l2, a2⟩ := hq.get hr
    have h := h.step (Ext.drew _)
    have e0 := h.ext
    refine ⟨Ext, Ext, preExt, .pointer (some ⟨b1, o1, none⟩), fun w3 => i1 _ _ ⟨rfl, rfl⟩, v1, fun w3 e3 => l1 _ (e0.trans e3) _ ⟨rfl, Ext.refl _⟩, .pointer (some ⟨b2, o2, none⟩), fun w3 => i2 _ _ ⟨rfl, rfl⟩, v2, fun w3 e3 => l2 _ (e0.trans e3) _ ⟨rfl, Ext.refl _⟩, .bool true, fun w3 e3 => ?_, .bool false, fun w3 => by rw [xnot, Bool.not_true]; exact ⟨rfl, rfl⟩, fun w2 e2 => ?_⟩
    · have hh := c_rSame (a1.mono (e0.trans e3)) (a2.mono (e0.trans e3)) (hs r (List.mem_of_getElem? hr))
      rw [decide_eq_true rfl] at hh
      exact xcall_of (en_joineryref4_Same _) hh fun _ _ hq => hq
    rw [xc_false, xadd, wi64 (by omega) (by omega)]
    exact ⟨⟨i + 1, hlt, rfl, h.step e2⟩, lenI_succ hlt⟩
  · intro _
    exact ⟨rfl, h.ext⟩
theorem c_Same9 {w : World} {b b2 n : Nat} {v v2 : Value} {rs : List RecM} (he : EnvP w) (hb : w.heap[b]? = some (tapeO v rs.length n)) (hv : Row w 1 v (textC (rs.map textM)).length (runesV (textC (rs.map textM)))) (hb2 : w.heap[b2]? = some (rtO v2 n)) (ho : w.ownsRow 0 T_string 1 v2 rs.length (strsL (rs.map textM)))
    (hg : ∀ r ∈ rs, RecG r) (hlen : (textC (rs.map textM)).length ≤ 1000000000) (hl : rs.length ≤ 300) : RetV Tryz.prog F_joinerylaw9_Same #[pt b, pt b2] w (.bool true) := by
  refine call_joinerylaw9_Same ?_
  have h := St.start w
  unfold S_joinerylaw9_Same
  have lm : (rs.map textM).length = rs.length := List.length_map _
  have hls : ∀ s ∈ rs.map textM, LineOk s := fun s hs => by
    obtain ⟨r, hr, rfl⟩ := List.mem_map.1 hs
    exact (hg r hr).line
  have own2 : ∀ {w' : World}, Ext w w' → w'.ownsRow 0 T_string 1 v2 rs.length (strsL (rs.map textM)) := fun e => Res.holds_keep (r := .row T_string 1 v2 rs.length (strsL (rs.map textM))) ho fun k hk => e.block k (Res.holds_lt (r := .row T_string 1 v2 rs.length (strsL (rs.map textM))) ho hk)
  refine st_callV en_tape_Tape_Lasting (c_lasting hb) h ?_
  intro w1 h
  refine st_callV en_joineryref9_Tape_Lasting (c_rtLasting (heap_ext h.ext hb2)) h ?_
  intro w2 h
  rw [xeql, decide_eq_true rfl]
  refine and_st h true ?_ ?_
  · intro _ J hJ
    refine st_callR en_tape_Tape_Lines (c_lines (by rw [lm]; exact heap_ext h.ext hb) (hv.mono h.ext) hls hlen (by omega)) h ?_
    intro u w3 h
    refine st_callE en_joineryref9_Tape_Lines (c_rtLines (heap_ext h.ext hb2) (by rw [lm]; exact own2 h.ext) (by omega)) h ?_
    rintro u2 w4 k mg
    have h := mg _ k
    refine st_callV en_joineryref2_Same (c_rStrs (a := rs.map textM) (b := rs.map textM) (Row.of_own (h.atR 1 rfl)) (Row.of_own (h.atR 0 rfl)) (by omega)) h ?_
    intro w5 h
    rw [decide_eq_true rfl]
    exact hJ _ h.nil
  intro w3 h
  refine and_st h true ?_ ?_
  · intro _ J hJ
    refine st_callE en_tape_Tape_All (c_all (he.mono h.ext) (heap_ext h.ext hb) (hv.mono h.ext) (fun r hr => ⟨(hg r hr).ok, (hg r hr).line⟩) hlen (by omega)) h ?_
    rintro u w4 ⟨l, h1, h2, k⟩ mg
    have r1 : RecsAt w4 u rs := ⟨l, h1, h2, fun y hy => rec4_at k (resL_mem hy)⟩
    have h := mg _ k
    refine st_callE en_joineryref9_Tape_All (c_rtAll (heap_ext h.ext hb2) (Row.of_own (own2 h.ext)) hg (by omega)) h ?_
    rintro u2 w5 ⟨l2, h3, k2⟩ mg
    have r2 : RecsAt w5 u2 rs := ⟨l2, h3, Row.of_own (k2.atR 0 rfl), fun y hy => rec4_at k2 fun q hq => List.mem_cons_of_mem _ (resL_mem hy q hq)⟩
    have h := mg _ k2
    refine st_callV en_joinerylaw9_Records (c_Records (r1.mono k2.ext) r2 (fun r hr => small_ok (rec_ok (hg r hr).ok)) (by omega)) h ?_
    intro w6 h
    exact hJ _ h.nil
  intro w4 h
  exact ⟨rfl, h.ext⟩
section
variable {w0 w : World} {b n : Nat} {rs : List RecM} {L : List Res} {K : Value → World → Prop}
/-- A call that works on some of what is owned beside a tape. -/
theorem ts_callA {f : FuncId} {args : Array Value} {A : List Res} {Q : Value → World → Prop} (he : ∀ (args : Array Value) w, (callFunc f args).run Tryz.prog w = .ok (.enter f args) w) (h : TS [] w0 b rs n (A ++ L) w) (hc : St (ownsL A) w A w → Ret Tryz.prog f args w Q)
    (hk : ∀ v w', Q v w' → (∀ A', St (ownsL A) w A' w' → TS [] w0 b rs n (A' ++ L) w') → K v w') : XCall Tryz.prog f args w K := by
  obtain ⟨v, hv⟩ := h.st
  have hv := St.permL hv (L' := A ++ (tapeR b v (rs.map textM) n ++ L)) (List.perm_append_comm_assoc (tapeR b v (rs.map textM) n) A L)
  refine st_callA he hv hc ?_
  intro u w' hq mg
  refine hk u w' hq fun A' k => ⟨⟨v, ?_⟩, h.good, h.le, h.few⟩
  exact St.permL (mg _ k) (List.perm_append_comm_assoc A' (tapeR b v (rs.map textM) n) L)
end
/-- The two tapes stand alike. -/
abbrev TwoS (w : World) (b b2 m : Nat) (L : List Res) (w' : World) : Prop := ∃ (rs : List RecM) (n : Nat) (v2 : Value), rs.length ≤ m ∧ TS [] w b rs n (rtR b2 v2 (rs.map textM) n ++ L) w'
set_option maxHeartbeats 8000000 in
theorem c_TapePlays {w : World} (he : EnvP w) {p : Value} {cl : List CallM} (hok : ∀ c ∈ cl, CallOk w c) (hp : Row w 3 p cl.length (callsL cl)) (raw : Int) : RetV Tryz.prog F_joinerylaw9_TapePlays #[p, .int .i64 raw] w (.bool true) := by
  refine call_joinerylaw9_TapePlays ?_
  have h := St.start w
  unfold S_joinerylaw9_TapePlays
  refine st_callV en_joinerylaw9_known (c_known9 he) h ?_
  intro w1 h
  rw [xnot, Bool.not_true, xc_false]
  refine ts_new h ?_
  intro b w2 h
  have h := h.row0 T_string 1
  rw [xbuild (v := .agg #[nilV, .int .i64 0]) (fun w => by kernel_rfl)]
  obtain ⟨v, hv⟩ := h.st
  refine st_box hv ?_
  intro b2 w3 _ hv
  have hv : St [] w (tapeR b v (([] : List RecM).map textM) 0 ++ (rtR b2 nilV (([] : List RecM).map textM) 0 ++ [])) w3 := hv.pick [1, 2, 0, 3] (by decide) rfl
  rw [xeqnil _ _ _ _ (by kernel_rfl), xc_false]
  have h : TwoS w b b2 0 [] w3 := ⟨[], 0, nilV, by simp, ⟨v, hv⟩, by simp, by simp, by simp⟩
  clear hv
  refine ⟨fun u w' => ∃ i : Nat, i ≤ 60 ∧ u = .int .i64 (i : Nat) ∧ TwoS w b b2 i [] w', fun u _ => lenI 61 u, ⟨0, by omega, rfl, h⟩, ?_⟩
  clear h
  rintro - u w4 ⟨i, hi60, rfl, h⟩
  refine hp.len und_sl_joinerylaw9_Call ?_
  rw [xlss]
  refine and_p h (decide (i < 60)) ?_ ?_
  · intro _ J hJ
    rw [xlss]
    have : decide ((i : Int) < 60) = decide (i < 60) := decide_eq_decide.2 (by omega)
    rw [this]
    exact hJ _ h
  intro w5 h
  obtain ⟨rs, n, v2, hrl, h⟩ := h
  refine xc_of ?_ ?_
  · intro hc
    rw [Bool.and_eq_true, decide_eq_true_eq, decide_eq_true_eq] at hc
    have hlt : i < cl.length := by omega
    obtain ⟨c, hy⟩ : ∃ c, cl[i]? = some c := ⟨_, List.getElem?_eq_getElem hlt⟩
    have ck := hok c (List.mem_of_getElem? hy)
    have hki := ck.kind
    have hni := ck.n
    have hnf := ck.row.flat
    obtain ⟨b1, o1, i1, c1⟩ := hp.at (k := .i64) und_sl_joinerylaw9_Call sz_joinerylaw9_Call (i := i) hlt
    refine i1 _ _ ?_
    refine ldN_of ag_joinerylaw9_Call sz_joinerylaw9_Call (vs := callC c) rfl (fun j hj => (c1 _ h.ext j hj).trans (callsL_at hy j hj)) ?_
    obtain ⟨v, hv⟩ := h.st
    refine st_alloc zv_joinerylaw9_Call hv ?_
    intro q8 w6 _ hv
    have hfl : (callC c).all flat = true := by simp only [callC, List.all_cons, List.all_nil, hnf.1]; rfl
    refine st_store sz_joinerylaw9_Call hv 0 rfl rfl rfl hfl ?_
    intro w7 hv
    simp only [go_sem] at hv
    have hv : St [] w (tapeR b v (rs.map textM) n ++ (rtR b2 v2 (rs.map textM) n ++ [.blk q8 (.cells (callC c).toArray T_joinerylaw9_Call (0, 0))])) w7 := hv.pick [1, 2, 3, 4, 0] (by decide) rfl
    have h : TS [] w b rs n (rtR b2 v2 (rs.map textM) n ++ [.blk q8 (.cells (callC c).toArray T_joinerylaw9_Call (0, 0))]) w7 := ⟨⟨v, hv⟩, h.good, h.le, h.few⟩
    clear hv
    refine ⟨fun w' => TwoS w b b2 (i + 1) [.blk q8 (.cells (callC c).toArray T_joinerylaw9_Call (0, 0))] w', ?_, ?_⟩
    · clear h
      rintro - w8 ⟨rs, n, v2, hrl, h⟩
      obtain ⟨v, hv⟩ := h.st
      have hb := hv.at 0 rfl
      have lm : (rs.map textM).length = rs.length := List.length_map _
      rw [lm] at hb
      have ho := hv.atR 3 rfl
      rw [lm] at ho
      have htl := h.len
      refine ts_callV en_joinerylaw9_Same (c_Same9 (he.mono h.ext) hb (Row.of_own (hv.atR 1 rfl)) (hv.at 2 rfl) ho h.good (by omega) h.few) h ?_
      intro w9 h
      rw [xnot, Bool.not_true, xc_false, xadd, wi64 (by omega) (by omega)]
      refine ⟨⟨i + 1, by omega, rfl, rs, n, v2, hrl, ?_⟩, lenI_succ (by omega)⟩
      exact h.take (List.Sublist.append_left (List.nil_sublist _) _)
    rw [fld_joinerylaw9_Call_Kind]
    obtain ⟨v, hv⟩ := h.st
    refine st_load ag_int (v := .int .i64 c.kind) hv 4 rfl rfl ?_
    clear hv
    have hk8 := within_lt c.kind 8 (by omega)
    refine ts_callV en_joinerylaw9_within (c_within9 _ (by omega) (by omega)) h ?_
    intro w8 h
    have hle := h.le
    have hfew := h.few
    have lm : (rs.map textM).length = rs.length := List.length_map _
    rw [xeql]
    refine xc_dec ?_ ?_
    · intro _
      refine ts_sync h ?_
      intro w9 h
      refine ts_callA (A := rtR b2 v2 (rs.map textM) n) en_joineryref9_Tape_Sync h (fun k => c_rtSync k) ?_
      rintro u w10 ⟨rfl, k⟩ mg
      have h := mg _ k
      rw [lm] at h
      exact ⟨rs, rs.length, v2, by omega, h⟩
    intro _
    rw [xeql]
    refine xc_dec ?_ ?_
    · intro _
      rw [fld_joinerylaw9_Call_N]
      obtain ⟨v, hv⟩ := h.st
      refine st_load ag_int (v := .int .i64 c.n) hv 4 rfl rfl ?_
      clear hv
      have hk6 := within_lt c.n 6 (by omega)
      refine ts_callV en_joinerylaw9_within (c_within9 _ (by omega) (by omega)) h ?_
      intro w9 h
      rw [xsub, wi64 (by omega) (by omega)]
      refine ⟨fun u w' => ∃ k : Int, u = .int .i64 k ∧ TS [] w b rs n (rtR b2 v2 (rs.map textM) n ++ [.blk q8 (.cells (callC c).toArray T_joinerylaw9_Call (0, 0))]) w', ?_, ?_⟩
      · clear h
        rintro - u w10 ⟨k, rfl, h⟩
        refine ts_crash k h ?_
        intro w11 h
        refine ts_callA (A := rtR b2 v2 (rs.map textM) n) en_joineryref9_Tape_Crash h (fun q => c_rtCrash k q (by omega) (by omega)) ?_
        rintro u w12 ⟨rfl, v3, q⟩ mg
        have h := mg _ q
        rw [lm, ← List.map_take] at h
        exact ⟨rs.take (crashN k rs.length n), crashN k rs.length n, v3, by rw [List.length_take]; omega, h⟩
      · rw [fld_joinerylaw9_Call_N]
        obtain ⟨v, hv⟩ := h.st
        refine st_load ag_int (v := .int .i64 c.n) hv 4 rfl rfl ?_
        clear hv
        refine ts_callV en_joinerylaw9_within (c_within9 _ (by omega) (by omega)) h ?_
        intro w10 h
        rw [xeql]
        refine xc_dec ?_ ?_
        · intro _
          exact ⟨raw, rfl, h⟩
        · intro _
          exact ⟨_, rfl, h⟩
    intro _
    obtain ⟨v, hv⟩ := h.st
    rw [fld_joinerylaw9_Call_Kind]
    refine st_load ag_int (v := .int .i64 c.kind) hv 4 rfl rfl ?_
    rw [xquoN hki (by omega), fld_joinerylaw9_Call_N]
    refine st_load ag_int (v := .int .i64 c.n) hv 4 rfl rfl ?_
    rw [fld_joinerylaw9_Call_Ns]
    refine st_load ag_sl_int (v := c.nv) hv 4 rfl rfl ?_
    rw [fld_joinerylaw9_Call_N]
    refine st_load ag_int (v := .int .i64 c.n) hv 4 rfl rfl ?_
    rw [xquoN hni (by omega)]
    clear hv
    refine ts_mwA he ck.row ck.ns h (by omega) ?_
    intro q pv lv mv tv w9 h
    have hg := make_good (c.kind.tdiv 8) c.n c.ns (c.n.tdiv 7)
    generalize makeM (c.kind.tdiv 8) c.n c.ns (c.n.tdiv 7) = r at *
    obtain ⟨v, hv⟩ := h.st
    refine st_loadW ag_api_Record sz_api_Record hv 2 rfl rfl ?_
    have hra : RecAt w9 r (recV r pv lv mv tv) := ⟨pv, lv, mv, tv, rfl, Row.of_own (hv.atR 3 rfl), Row.of_own (hv.atR 4 rfl), Row.of_own (hv.atR 5 rfl), Row.of_own (hv.atR 6 rfl)⟩
    clear hv
    have h := h.only
    refine ts_callA (A := rtR b2 v2 (rs.map textM) n) en_joineryref9_Tape_Write h (fun k => c_rtWrite k hra (rec_ok hg.ok) (by omega)) ?_
    rintro u w10 ⟨rfl, v3, k⟩ mg
    have h := mg _ k
    refine ⟨rs ++ [r], n, v3, by simp; omega, ?_⟩
    rw [List.map_append]
    exact h
  · intro _
    exact ⟨rfl, h.ext⟩
end Go.Proofs.YthkgbajldkicfaaGreatDoor
