/-
  TapeB: TFr, TMo, TKe, TOw, in one text.
-/
import Derived.Test.YthkgbajldkicfaaGreatDoorTAg
import Derived.Test.YthkgbajldkicfaaGreatDoorRTx
import Derived.Test.YthkgbajldkicfaaGreatDoorArgs2
namespace Go.Proofs.YthkgbajldkicfaaGreatDoor
set_option linter.unusedVariables false
set_option linter.unusedSimpArgs false
open Go Go.Jo
set_option maxRecDepth 100000

/-! ### Records made of numbers: their names -/
theorem names8_enc : ∀ k, k < 8 → ∃ cs : List Nat, names8.getD k [] = encL cs ∧ ∀ c ∈ cs, cpOk c := by
  intro k hk
  have h : ∀ k, k < 8 → names8.getD k [] = encL (([[97], [98], [945], [969, 57], [110, 49], [110, 50], [946, 947, 948, 949, 950, 951, 952, 953], [122, 122]] : List (List Nat)).getD k []) ∧ (([[97], [98], [945], [969, 57], [110, 49], [110, 50], [946, 947, 948, 949, 950, 951, 952, 953], [122, 122]] : List (List Nat)).getD k []).all (fun c => decide (c < 2048) && decide (c ≠ 10)) = true := by decide +kernel
  obtain ⟨h1, h2⟩ := h k hk
  refine ⟨_, h1, fun c hc => ?_⟩
  have := List.all_eq_true.1 h2 c hc
  simpa [cpOk] using this
theorem nameN_plain (n : Int) : Plain (nameN n) := by
  obtain ⟨k, hk, e⟩ := within_nat n 8 (by omega)
  have e : withinM n 8 = (k : Int) := e
  obtain ⟨cs, h1, h2⟩ := names8_enc k hk
  unfold nameN
  rw [e, Int.toNat_natCast, h1]
  exact plain_of h2
theorem marks4_plain : ∀ k, k < 4 → Plain (marks4.getD k []) := by
  intro k hk
  have h : ∀ k, k < 4 → marks4.getD k [] = encL (([[98, 105, 103], [115, 115, 100], [119, 101, 115, 116], [947]] : List (List Nat)).getD k []) ∧ (([[98, 105, 103], [115, 115, 100], [119, 101, 115, 116], [947]] : List (List Nat)).getD k []).all (fun c => decide (c < 2048) && decide (c ≠ 10)) = true := by decide +kernel
  obtain ⟨h1, h2⟩ := h k hk
  rw [h1]
  refine plain_of fun c hc => ?_
  have := List.all_eq_true.1 h2 c hc
  simpa [cpOk] using this
theorem setN_plain (n : Int) : ∀ x ∈ setN n, Plain x := fun x hx => by
  obtain ⟨i, hi, rfl⟩ := List.mem_map.1 hx
  have := List.mem_range.1 (List.mem_filter.1 hi).1
  exact marks4_plain i this
theorem make_plain (kind gang : Int) (ns : List Int) (name : Int) : NamesPlain (makeM kind gang ns name) := by
  have z : NamesPlain { zRec with node := zNode } := ⟨plain_nil, by simp [zRec, zNode], by simp [zRec, zNode], by simp [zRec]⟩
  unfold makeM
  split
  · refine ⟨nameN_plain _, setN_plain _, ?_, by simp⟩
    unfold nodeN
    simp only
    split
    · exact setN_plain _
    · simp
  · split
    · exact ⟨nameN_plain _, by simp [zNode], by simp [zNode], by simp⟩
    · split
      · refine ⟨plain_nil, by simp [zNode], by simp [zNode], fun p hp => ?_⟩
        obtain ⟨i, hi, rfl⟩ := List.mem_map.1 hp
        have h8 := (cnt_le ns).2
        have hi := List.mem_range.1 hi
        refine ⟨plain_low ?_, nameN_plain _⟩
        have : ∀ i, i < 8 → ∀ b ∈ ([112, eC i] : Str), b.toNat < 128 ∧ b.toNat ≠ 10 := by decide
        exact this i (by omega)
      · split <;> exact ⟨plain_nil, by simp [zNode], by simp [zNode], by simp⟩
theorem make_good (kind gang : Int) (ns : List Int) (name : Int) : RecG (makeM kind gang ns name) := ⟨make_ok kind gang ns name, make_plain kind gang ns name⟩

/-! ### Steps -/
theorem and_p {c : Bool} {I : World → Prop} {w : World} {A : (Value → World → Prop) → Prop} {K : Value → World → Prop} (h : I w) (d : Bool) (hA : c = true → ∀ J : Value → World → Prop, (∀ w', I w' → J (.bool d) w') → A J) (hK : ∀ w', I w' → K (.bool (c && d)) w') :
    ∃ J : Value → World → Prop, (∀ (_ : Env) (u : Value) (w' : World), J u w' → XPick (.bool c) u (.bool false) fun q => K q w') ∧ XG (.bool c) true (A J) (J undef w) := by
  cases c
  · refine ⟨fun _ w' => I w', fun _ u w' hw => ?_, ?_⟩
    · rw [xpick_false]; exact hK w' hw
    · rw [xg_ft]; exact h
  · refine ⟨fun u w' => u = .bool d ∧ I w', fun _ u w' hw => ?_, ?_⟩
    · rw [xpick_true, hw.1]; exact hK w' hw.2
    · rw [xg_same]; exact hA rfl _ fun w' hw => ⟨rfl, hw⟩
theorem or_p {c : Bool} {I : World → Prop} {w : World} {A : (Value → World → Prop) → Prop} {K : Value → World → Prop} (h : I w) (d : Bool) (hA : c = false → ∀ J : Value → World → Prop, (∀ w', I w' → J (.bool d) w') → A J) (hK : ∀ w', I w' → K (.bool (c || d)) w') :
    ∃ J : Value → World → Prop, (∀ (_ : Env) (u : Value) (w' : World), J u w' → XPick (.bool c) (.bool true) u fun q => K q w') ∧ XG (.bool c) false (A J) (J undef w) := by
  cases c
  · refine ⟨fun u w' => u = .bool d ∧ I w', fun _ u w' hw => ?_, ?_⟩
    · rw [xpick_false, hw.1]; exact hK w' hw.2
    · rw [xg_same]; exact hA rfl _ fun w' hw => ⟨rfl, hw⟩
  · refine ⟨fun _ w' => I w', fun _ u w' hw => ?_, ?_⟩
    · rw [xpick_true]; exact hK w' hw
    · rw [xg_tf]; exact h
section
variable {x : List Nat} {w0 w : World} {b n : Nat} {rs : List RecM} {L : List Res} {K : Value → World → Prop}
theorem TS.own {A : List Res} {w' : World} (h : TS x w0 b rs n L w) (k : St [] w A w') : TS x w0 b rs n (A ++ L) w' := by
  obtain ⟨v, hv⟩ := h.st
  have h1 := hv.mergeE k
  have h1 := St.permL h1 (L' := tapeR b v (rs.map textM) n ++ (A ++ L)) (by
    have := List.perm_append_comm_assoc A (tapeR b v (rs.map textM) n) L
    exact this)
  exact ⟨⟨v, h1⟩, h.good, h.le, h.few⟩
theorem ts_callE {f : FuncId} {args : Array Value} {Q : Value → World → Prop} (he : ∀ (args : Array Value) w, (callFunc f args).run Tryz.prog w = .ok (.enter f args) w) (hc : Ret Tryz.prog f args w Q) (h : TS x w0 b rs n L w)
    (hk : ∀ v w', Q v w' → (∀ A, St [] w A w' → TS x w0 b rs n (A ++ L) w') → K v w') : XCall Tryz.prog f args w K :=
  xcall_of (he args) hc fun v' w' hq => hk v' w' hq fun _ k => h.own k
/-- A step on what is owned beside a tape. -/
theorem TS.beside {w' : World} {L' : List Res} (h : TS x w0 b rs n L w) (hs : ∀ v, St x w0 (tapeR b v (rs.map textM) n ++ L) w → St x w0 (tapeR b v (rs.map textM) n ++ L') w') : TS x w0 b rs n L' w' := by
  obtain ⟨v, hv⟩ := h.st
  exact ⟨⟨v, hs v hv⟩, h.good, h.le, h.few⟩
theorem TS.row {v : Value} {m sz : Nat} {e : TypeId} {xs : List Value} (h : TS x w0 b rs n L w) (i : Nat) (hi : L[i]? = some (.row e sz v m xs)) : Row w sz v m xs := by
  obtain ⟨tv, hv⟩ := h.st
  refine Row.of_own (hv.has _ (List.mem_append_right _ (List.mem_of_getElem? hi)))
theorem TS.take {w : World} {L' : List Res} (h : TS x w0 b rs n L w) (hs : L'.Sublist L) : TS x w0 b rs n L' w := h.rest fun A hA => hA.perm ((List.Sublist.refl A).append hs)
end
end Go.Proofs.YthkgbajldkicfaaGreatDoor

namespace Go.Proofs.YthkgbajldkicfaaGreatDoor
set_option linter.unusedVariables false
set_option linter.unusedSimpArgs false
open Go Go.Jo
set_option maxRecDepth 100000

section
variable {w0 w : World} {b n : Nat} {rs : List RecM} {L : List Res}
theorem TS.row0 (h : TS [] w0 b rs n L w) (e : TypeId) (sz : Nat) : TS [] w0 b rs n (.row e sz nilV 0 [] :: L) w :=
  h.rest fun _ hA => St.permL (hA.row0 e sz) List.perm_middle.symm
theorem ts_put {q : Nat} {r : RecM} {pv lv mv tv : Value} {K : World → Prop} (he : EnvP w0) (h : TS [] w0 b rs n (.blk q (recO zRec nilV nilV nilV nilV) :: (recR r pv lv mv tv ++ L)) w) (hg : RecG r) (hf : rs.length < 300)
    (hk : ∀ w', TS [] w0 b (rs ++ [r]) n (.blk q (recO r pv lv mv tv) :: (recR r pv lv mv tv ++ L)) w' → K w') :
    XStore Tryz.prog T_api_Record (pt q) (recV r pv lv mv tv) w fun w3 => XLoad Tryz.prog T_api_Record (pt q) w3 fun v w4 => XCall Tryz.prog F_tape_Tape_Write #[pt b, v] w4 fun _ w5 => K w5 := by
  obtain ⟨v, hv⟩ := h.st
  have hfl := st_flats (r := r) (pv := pv) (lv := lv) (mv := mv) (tv := tv) hv fun q hq => by
    refine List.mem_append_right _ (List.mem_cons_of_mem _ (List.mem_append_left _ hq))
  refine st_store sz_api_Record hv 2 rfl rfl rfl (hfl.all _) ?_
  intro w3 hv
  simp only [go_sem] at hv
  have hv : St [] w0 (tapeR b v (rs.map textM) n ++ (.blk q (recO r pv lv mv tv) :: (recR r pv lv mv tv ++ L))) w3 := hv
  refine st_loadW ag_api_Record sz_api_Record hv 2 rfl rfl ?_
  have h : TS [] w0 b rs n (.blk q (recO r pv lv mv tv) :: (recR r pv lv mv tv ++ L)) w3 := ⟨⟨v, hv⟩, h.good, h.le, h.few⟩
  refine ts_write (r := r) (he.mono h.ext) h ⟨pv, lv, mv, tv, rfl, Row.of_own (hv.atR 3 rfl), Row.of_own (hv.atR 4 rfl), Row.of_own (hv.atR 5 rfl), Row.of_own (hv.atR 6 rfl)⟩ hg hf ?_
  intro w5 h
  exact hk w5 h
/-- A record made, kept in a variable, and written; the variable first or last. -/
theorem ts_mwA {p : Value} {ns : List Int} {y g z : Int} {K : Value → World → Prop} (he : EnvP w0) (hp : Row w0 1 p ns.length (intsL ns)) (hns : ∀ x ∈ ns, i64 x) (h : TS [] w0 b rs n L w) (hf : rs.length < 300)
    (hk : ∀ q pv lv mv tv w', TS [] w0 b (rs ++ [makeM y g ns z]) n (.blk q (recO (makeM y g ns z) pv lv mv tv) :: (recR (makeM y g ns z) pv lv mv tv ++ L)) w' → K (pt q) w') :
    XCall Tryz.prog F_joinerylaw4_Make #[.int .i64 y, .int .i64 g, p, .int .i64 z] w fun v w1 => XAlloc Tryz.prog T_api_Record w1 fun a w2 => XStore Tryz.prog T_api_Record a v w2 fun w3 => XLoad Tryz.prog T_api_Record a w3 fun v w4 => XCall Tryz.prog F_tape_Tape_Write #[pt b, v] w4 fun _ w5 => K a w5 := by
  refine ts_callE en_joinerylaw4_Make (c_make y g z (hp.mono h.ext) hns) h ?_
  rintro rv w1 ⟨pv, lv, mv, tv, rfl, k⟩ mg
  have h := mg _ k
  obtain ⟨v, hv⟩ := h.st
  refine st_alloc zv_api_Record hv ?_
  intro q w2 _ hv
  have hv := St.permL hv (L' := tapeR b v (rs.map textM) n ++ (.blk q (recO zRec nilV nilV nilV nilV) :: (recR (makeM y g ns z) pv lv mv tv ++ L))) List.perm_middle.symm
  exact ts_put he ⟨⟨v, hv⟩, h.good, h.le, h.few⟩ (make_good _ _ _ _) hf fun w' h => hk _ _ _ _ _ w' h
theorem TS.only {q : Nat} {r : RecM} {pv lv mv tv : Value} (h : TS [] w0 b rs n (.blk q (recO r pv lv mv tv) :: (recR r pv lv mv tv ++ L)) w) : TS [] w0 b rs n L w :=
  h.take ((List.sublist_append_right (recR r pv lv mv tv) L).cons _)
end
end Go.Proofs.YthkgbajldkicfaaGreatDoor

namespace Go.Proofs.YthkgbajldkicfaaGreatDoor
set_option linter.unusedVariables false
set_option linter.unusedSimpArgs false
open Go Go.Jo
set_option maxRecDepth 100000

end Go.Proofs.YthkgbajldkicfaaGreatDoor

namespace Go.Proofs.YthkgbajldkicfaaGreatDoor
set_option linter.unusedVariables false
set_option linter.unusedSimpArgs false
open Go Go.Jo
set_option maxRecDepth 100000

theorem c_clipO {w : World} {v : Value} {n : Nat} {xs : List Value} (hv : Row w 10 v n xs) : Ret Tryz.prog F_slices_Clip_api_Record_api_Record #[v] w fun v' w' => Ext w w' ∧ ∃ a cap, v = .slice a n cap ∧ v' = .slice a n n := by
  refine call_slices_Clip_api_Record_api_Record ?_
  unfold S_slices_Clip_api_Record_api_Record
  refine hv.len und_sl_api_Record ?_
  refine hv.len und_sl_api_Record ?_
  obtain ⟨hl, a, cap, rfl, hc, h⟩ := hv
  refine xslice_clip und_sl_api_Record sz_api_Record hc ?_
  exact ⟨Ext.refl _, a, cap, rfl, rfl⟩
theorem Row.clip {w : World} {a : Option Addr} {sz n cap : Nat} {xs : List Value} (h : Row w sz (.slice a n cap) n xs) : Row w sz (.slice a n n) n xs := by
  obtain ⟨hl, a', cap', e, hc, h⟩ := h
  injection e with e1 e2 e3
  subst e1
  exact ⟨hl, a, n, rfl, Nat.le_refl _, h⟩
theorem xgS {b : Bool} {p q : Prop} (h : p) : XG (.bool b) b p q := by rw [xg_same]; exact h
set_option maxHeartbeats 2000000 in
theorem c_allO {w : World} {b n : Nat} {v : Value} {rs : List RecM} (he : EnvP w) (hb : w.heap[b]? = some (tapeO v rs.length n)) (hv : Row w 1 v (textC (rs.map textM)).length (runesV (textC (rs.map textM)))) (hls : ∀ r ∈ rs, checkM r = 0 ∧ LineOk (textM r)) (hlen : (textC (rs.map textM)).length ≤ 1000000000) (hl : rs.length ≤ 100000) :
    Ret Tryz.prog F_tape_Tape_All #[pt b] w fun u w' => ∃ (l : List (RecM × Q4)) (a : Option Addr) (cap : Nat), l.map (·.1) = rs ∧ u = .slice a rs.length rs.length ∧ St [] w (.row T_api_Record 10 (.slice a rs.length cap) rs.length (recsL l) :: resL l) w' := by
  refine call_tape_Tape_All ?_
  have h := St.start w
  unfold S_tape_Tape_All
  rw [xnil_ptr, fld_tape_Tape_lines]
  refine ldB (i := 0 + 1) ag_int hb h.ext rfl ?_
  obtain ⟨inf, i1, i2, i3, i4⟩ := inf_sl_api_Record
  refine st_makeS und_sl_api_Record i1 i2 i3 i4 (by omega) (by simp only [maxLen]; omega) h ?_
  intro out w1 h
  have hb1 : w1.heap[b]? = some (tapeO v (rs.map textM).length n) := by rw [List.length_map]; exact heap_ext h.ext hb
  refine st_callR en_tape_Tape_Lines (c_lines hb1 (hv.mono h.ext) (fun s hs => by
    obtain ⟨r, hr, rfl⟩ := List.mem_map.1 hs
    exact (hls r hr).2) hlen (by rw [List.length_map]; omega)) h ?_
  intro lv w2 h
  have hlm : (rs.map textM).length = rs.length := List.length_map _
  refine (Row.of_own (h.atR 0 rfl)).len und_sl_string ?_
  rw [hlm]
  have h : St [] w (.row T_string 1 lv (rs.map textM).length (strsL (rs.map textM)) :: .row T_api_Record 10 out ([] : List (RecM × Q4)).length (recsL []) :: resL []) w2 := h
  refine ⟨fun u v w' => ∃ l : List (RecM × Q4), l.length ≤ rs.length ∧ l.map (·.1) = rs.take l.length ∧ v = .int .i64 (l.length : Nat) ∧ St [] w (.row T_string 1 lv (rs.map textM).length (strsL (rs.map textM)) :: .row T_api_Record 10 u l.length (recsL l) :: resL l) w', fun _ v _ => lenI rs.length v, ⟨[], Nat.zero_le _, rfl, rfl, h⟩, ?_⟩
  rintro - u v2 w3 ⟨l, hll, hlr, rfl, h⟩
  rw [xlss]
  refine xc_dec ?_ ?_
  · intro hlt
    have hlt : l.length < rs.length := by omega
    obtain ⟨r, hr⟩ : ∃ r, rs[l.length]? = some r := ⟨_, List.getElem?_eq_getElem hlt⟩
    have hge := (List.getElem?_eq_some_iff.1 hr).2
    have hok := hls r (List.mem_of_getElem? hr)
    have hx : (rs.map textM)[l.length]? = some (textM r) := by rw [List.getElem?_map, hr]; rfl
    refine str_at (Row.of_own (h.atR 0 rfl)) (by omega) hx ?_
    intro b0 o0 hc0
    refine ld_of ag_string hc0 ?_
    refine st_callE en_tape_record (c_record (he.mono h.ext) hok.1) h ?_
    rintro rv w4 ⟨pv, lv2, mv, tv, rfl, k⟩ mg
    have h := mg _ k
    have hf := st_flats (r := r) h fun q hq => List.mem_append_left _ hq
    refine xta_of (r := .tuple #[recV r pv lv2 mv tv, .bool true]) (by kernel_rfl) ?_
    rw [xe20, xe21]
    refine st_alloc zv_api_Record h ?_
    intro b6 w5 hb6 h
    refine st_store sz_api_Record h 0 rfl rfl rfl (hf.all _) ?_
    intro w6 h
    try simp only [go_sem] at h
    rw [xc_true]
    refine st_loadW ag_api_Record sz_api_Record h 0 rfl rfl ?_
    refine st_buildS (cs := (recC r pv lv2 mv tv).toArray) (e := T_api_Record) (fun w => by kernel_rfl) h ?_
    intro bx w7 hbx h
    have hone : ∀ u ∈ recC r pv lv2 mv tv, u.oneCell' = true := by
      intro u hu
      have hf2 := hf.all r
      have := List.all_eq_true.1 hf2 u hu
      cases u <;> first | rfl | exact absurd this (by simp [flat])
    refine app_sl_api_Record h 7 rfl (recC r pv lv2 mv tv) rfl (news_blk (h.at 0 rfl)) hone (by omega) ?_
    intro out2 w8 h
    rw [xadd, wi64 (by omega) (by omega)]
    have h := h.drop.drop
    have h : St [] w (recR r pv lv2 mv tv ++ (.row T_string 1 lv (rs.map textM).length (strsL (rs.map textM)) :: .row T_api_Record 10 out2 (l.length + 1) (recsL l ++ recC r pv lv2 mv tv) :: resL l)) w8 := h
    refine ⟨⟨l ++ [(r, pv, lv2, mv, tv)], by simp; omega, ?_, by simp, ?_⟩, lenI_succ hlt⟩
    · rw [List.map_append, hlr, List.length_append]
      show _ = rs.take (l.length + 1)
      rw [List.take_succ_eq_append_getElem hlt, hge]
      rfl
    · have h := St.permL h (L' := .row T_string 1 lv (rs.map textM).length (strsL (rs.map textM)) :: .row T_api_Record 10 out2 (l.length + 1) (recsL l ++ recC r pv lv2 mv tv) :: (resL l ++ recR r pv lv2 mv tv)) (by
        exact List.perm_append_comm)
      have e1 : recsL (l ++ [(r, pv, lv2, mv, tv)]) = recsL l ++ recC r pv lv2 mv tv := by simp [recsL]
      have e2 : resL (l ++ [(r, pv, lv2, mv, tv)]) = resL l ++ recR r pv lv2 mv tv := by simp [resL]
      rw [e1, e2, List.length_append]
      exact h
  · intro hge
    have hi : l.length = rs.length := by omega
    have hro := Row.of_own (h.atR 1 rfl)
    refine st_callE en_slices_Clip_api_Record_api_Record (Q := fun v' w' => Ext w3 w' ∧ ∃ a cap, u = .slice a l.length cap ∧ v' = .slice a l.length l.length) (c_clipO hro) h ?_
    rintro v' w4 ⟨e, a, cap, rfl, rfl⟩ mg
    refine ⟨l, a, cap, ?_, ?_, ?_⟩
    · rw [hlr, hi, List.take_length]
    · rw [← hi]
    · rw [← hi]; exact (h.step e).drop
theorem ts_allO {w0 w : World} {b n : Nat} {rs : List RecM} {L : List Res} {K : Value → World → Prop} (he : EnvP w0) (h : TS [] w0 b rs n L w) (hk : ∀ a cap w' l, l.map (·.1) = rs → TS [] w0 b rs n (.row T_api_Record 10 (.slice a rs.length cap) rs.length (recsL l) :: (resL l ++ L)) w' → K (.slice a rs.length rs.length) w') : XCall Tryz.prog F_tape_Tape_All #[pt b] w K := by
  obtain ⟨v, hv⟩ := h.st
  have hl := h.len
  have hfew := h.few
  have hlm : (rs.map textM).length = rs.length := List.length_map _
  have hb := hv.at 0 rfl
  rw [hlm] at hb
  refine ts_callE en_tape_Tape_All (c_allO (he.mono h.ext) hb (Row.of_own (hv.atR 1 rfl)) (fun r hr => ⟨(h.good r hr).ok, (h.good r hr).line⟩) (by omega) (by omega)) h ?_
  rintro u w1 ⟨l, a, cap, hl1, rfl, k⟩ mg
  exact hk a cap w1 l hl1 (mg _ k)
end Go.Proofs.YthkgbajldkicfaaGreatDoor
