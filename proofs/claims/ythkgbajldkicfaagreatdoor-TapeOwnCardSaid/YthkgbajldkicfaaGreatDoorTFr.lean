/-
  The laws TapeFront, TapeMore and TapeKeeps, walked.
-/
import Derived.Test.YthkgbajldkicfaaGreatDoorTAg
import Derived.Test.YthkgbajldkicfaaGreatDoorRTx
import Derived.Test.YthkgbajldkicfaaGreatDoorArgs2
namespace Go.Proofs.YthkgbajldkicfaaGreatDoor
set_option linter.unusedVariables false
set_option linter.unusedSimpArgs false
open Go Go.Jo
set_option maxRecDepth 100000

/-! ### Records made of numbers: their names -/
theorem names8_enc : ∀ k, k < 8 → ∃ cs : List Nat, names8.getD k [] = encL cs ∧ ∀ c ∈ cs, cpOk c := by
  intro k hk
  have h : ∀ k, k < 8 → names8.getD k [] = encL (([[97], [98], [945], [969, 57], [110, 49], [110, 50], [946, 947, 948, 949, 950, 951, 952, 953], [122, 122]] : List (List Nat)).getD k []) ∧ (([[97], [98], [945], [969, 57], [110, 49], [110, 50], [946, 947, 948, 949, 950, 951, 952, 953], [122, 122]] : List (List Nat)).getD k []).all (fun c => decide (c < 2048) && decide (c ≠ 10)) = true := by decide +kernel
  obtain ⟨h1, h2⟩ := h k hk
  refine ⟨_, h1, fun c hc => ?_⟩
  have := List.all_eq_true.1 h2 c hc
  simpa [cpOk] using this
theorem nameN_plain (n : Int) : Plain (nameN n) := by
  obtain ⟨k, hk, e⟩ := within_nat n 8 (by omega)
  have e : withinM n 8 = (k : Int) := e
  obtain ⟨cs, h1, h2⟩ := names8_enc k hk
  unfold nameN
  rw [e, Int.toNat_natCast, h1]
  exact plain_of h2
theorem marks4_plain : ∀ k, k < 4 → Plain (marks4.getD k []) := by
  intro k hk
  have h : ∀ k, k < 4 → marks4.getD k [] = encL (([[98, 105, 103], [115, 115, 100], [119, 101, 115, 116], [947]] : List (List Nat)).getD k []) ∧ (([[98, 105, 103], [115, 115, 100], [119, 101, 115, 116], [947]] : List (List Nat)).getD k []).all (fun c => decide (c < 2048) && decide (c ≠ 10)) = true := by decide +kernel
  obtain ⟨h1, h2⟩ := h k hk
  rw [h1]
  refine plain_of fun c hc => ?_
  have := List.all_eq_true.1 h2 c hc
  simpa [cpOk] using this
theorem setN_plain (n : Int) : ∀ x ∈ setN n, Plain x := fun x hx => by
  obtain ⟨i, hi, rfl⟩ := List.mem_map.1 hx
  have := List.mem_range.1 (List.mem_filter.1 hi).1
  exact marks4_plain i this
theorem make_plain (kind gang : Int) (ns : List Int) (name : Int) : NamesPlain (makeM kind gang ns name) := by
  have z : NamesPlain { zRec with node := zNode } := ⟨plain_nil, by simp [zRec, zNode], by simp [zRec, zNode], by simp [zRec]⟩
  unfold makeM
  split
  · refine ⟨nameN_plain _, setN_plain _, ?_, by simp⟩
    unfold nodeN
    simp only
    split
    · exact setN_plain _
    · simp
  · split
    · exact ⟨nameN_plain _, by simp [zNode], by simp [zNode], by simp⟩
    · split
      · refine ⟨plain_nil, by simp [zNode], by simp [zNode], fun p hp => ?_⟩
        obtain ⟨i, hi, rfl⟩ := List.mem_map.1 hp
        have h8 := (cnt_le ns).2
        have hi := List.mem_range.1 hi
        refine ⟨plain_low ?_, nameN_plain _⟩
        have : ∀ i, i < 8 → ∀ b ∈ ([112, eC i] : Str), b.toNat < 128 ∧ b.toNat ≠ 10 := by decide
        exact this i (by omega)
      · split <;> exact ⟨plain_nil, by simp [zNode], by simp [zNode], by simp⟩
theorem make_good (kind gang : Int) (ns : List Int) (name : Int) : RecG (makeM kind gang ns name) := ⟨make_ok kind gang ns name, make_plain kind gang ns name⟩

/-! ### Steps -/
theorem and_p {c : Bool} {I : World → Prop} {w : World} {A : (Value → World → Prop) → Prop} {K : Value → World → Prop} (h : I w) (d : Bool) (hA : c = true → ∀ J : Value → World → Prop, (∀ w', I w' → J (.bool d) w') → A J) (hK : ∀ w', I w' → K (.bool (c && d)) w') :
    ∃ J : Value → World → Prop, (∀ (_ : Env) (u : Value) (w' : World), J u w' → XPick (.bool c) u (.bool false) fun q => K q w') ∧ XG (.bool c) true (A J) (J undef w) := by
  cases c
  · refine ⟨fun _ w' => I w', fun _ u w' hw => ?_, ?_⟩
    · rw [xpick_false]; exact hK w' hw
    · rw [xg_ft]; exact h
  · refine ⟨fun u w' => u = .bool d ∧ I w', fun _ u w' hw => ?_, ?_⟩
    · rw [xpick_true, hw.1]; exact hK w' hw.2
    · rw [xg_same]; exact hA rfl _ fun w' hw => ⟨rfl, hw⟩
theorem or_p {c : Bool} {I : World → Prop} {w : World} {A : (Value → World → Prop) → Prop} {K : Value → World → Prop} (h : I w) (d : Bool) (hA : c = false → ∀ J : Value → World → Prop, (∀ w', I w' → J (.bool d) w') → A J) (hK : ∀ w', I w' → K (.bool (c || d)) w') :
    ∃ J : Value → World → Prop, (∀ (_ : Env) (u : Value) (w' : World), J u w' → XPick (.bool c) (.bool true) u fun q => K q w') ∧ XG (.bool c) false (A J) (J undef w) := by
  cases c
  · refine ⟨fun u w' => u = .bool d ∧ I w', fun _ u w' hw => ?_, ?_⟩
    · rw [xpick_false, hw.1]; exact hK w' hw.2
    · rw [xg_same]; exact hA rfl _ fun w' hw => ⟨rfl, hw⟩
  · refine ⟨fun _ w' => I w', fun _ u w' hw => ?_, ?_⟩
    · rw [xpick_true]; exact hK w' hw
    · rw [xg_tf]; exact h
section
variable {x : List Nat} {w0 w : World} {b n : Nat} {rs : List RecM} {L : List Res} {K : Value → World → Prop}
theorem TS.own {A : List Res} {w' : World} (h : TS x w0 b rs n L w) (k : St [] w A w') : TS x w0 b rs n (A ++ L) w' := by
  obtain ⟨v, hv⟩ := h.st
  have h1 := hv.mergeE k
  have h1 := St.permL h1 (L' := tapeR b v (rs.map textM) n ++ (A ++ L)) (by
    have := List.perm_append_comm_assoc A (tapeR b v (rs.map textM) n) L
    exact this)
  exact ⟨⟨v, h1⟩, h.good, h.le, h.few⟩
theorem ts_callE {f : FuncId} {args : Array Value} {Q : Value → World → Prop} (he : ∀ (args : Array Value) w, (callFunc f args).run Tryz.prog w = .ok (.enter f args) w) (hc : Ret Tryz.prog f args w Q) (h : TS x w0 b rs n L w)
    (hk : ∀ v w', Q v w' → (∀ A, St [] w A w' → TS x w0 b rs n (A ++ L) w') → K v w') : XCall Tryz.prog f args w K :=
  xcall_of (he args) hc fun v' w' hq => hk v' w' hq fun _ k => h.own k
/-- A step on what is owned beside a tape. -/
theorem TS.beside {w' : World} {L' : List Res} (h : TS x w0 b rs n L w) (hs : ∀ v, St x w0 (tapeR b v (rs.map textM) n ++ L) w → St x w0 (tapeR b v (rs.map textM) n ++ L') w') : TS x w0 b rs n L' w' := by
  obtain ⟨v, hv⟩ := h.st
  exact ⟨⟨v, hs v hv⟩, h.good, h.le, h.few⟩
theorem TS.row {v : Value} {m sz : Nat} {e : TypeId} {xs : List Value} (h : TS x w0 b rs n L w) (i : Nat) (hi : L[i]? = some (.row e sz v m xs)) : Row w sz v m xs := by
  obtain ⟨tv, hv⟩ := h.st
  refine Row.of_own (hv.has _ (List.mem_append_right _ (List.mem_of_getElem? hi)))
theorem TS.take {w : World} {L' : List Res} (h : TS x w0 b rs n L w) (hs : L'.Sublist L) : TS x w0 b rs n L' w := h.rest fun A hA => hA.perm ((List.Sublist.refl A).append hs)
end
/-- A number of a row of numbers, read twice, as the laws do. -/
theorem int_at {w : World} {p : Value} {ns : List Int} {i : Nat} {y : Int} (hp : Row w 1 p ns.length (intsL ns)) (hy : ns[i]? = some y) :
    ∃ a, (∀ (w' : World) (K : Value → World → Prop), K (.pointer (some a)) w' → XIdx Tryz.prog T_sl_int p (.int .i64 (i : Nat)) w' K) ∧ ∀ w', Ext w w' → ∀ K : Value → World → Prop, K (.int .i64 y) w' → XLoad Tryz.prog T_int (.pointer (some a)) w' K := by
  obtain ⟨b1, o1, i1, c1⟩ := hp.at (k := .i64) und_sl_int sz_int (i := i) (List.getElem?_eq_some_iff.1 hy).1
  refine ⟨⟨b1, o1, none⟩, i1, fun w' e K hk => ?_⟩
  have hc := c1 _ e 0 (by omega)
  simp only [Nat.add_zero, Nat.mul_one] at hc
  exact ld_of ag_int (v := .int .i64 y) (by rw [hc, List.getElem?_map, hy]; rfl) hk
set_option maxHeartbeats 4000000 in
theorem c_TapeFront {w : World} (he : EnvP w) {p q : Value} {ns : List Int} {ss : List Bool} (hp : Row w 1 p ns.length (intsL ns)) (hns : ∀ x ∈ ns, i64 x) (hq : Row w 1 q ss.length (boolsL ss)) (keep : Int) : RetV Tryz.prog F_joinerylaw9_TapeFront #[p, q, .int .i64 keep] w (.bool true) := by
  refine call_joinerylaw9_TapeFront ?_
  have h := St.start w
  unfold S_joinerylaw9_TapeFront
  refine st_callV en_joinerylaw9_known (c_known9 he) h ?_
  intro w1 h
  rw [xnot, Bool.not_true, xc_false]
  refine ts_new h ?_
  intro b w2 h
  rw [xeqnil _ _ _ _ (by kernel_rfl), xc_false]
  refine ⟨fun u w' => ∃ (rs : List RecM) (n : Nat), rs.length ≤ 30 ∧ u = .int .i64 (rs.length : Nat) ∧ TS [] w b rs n [] w', fun u _ => lenI 31 u, ⟨[], 0, by simp, rfl, h⟩, ?_⟩
  rintro - u w3 ⟨rs, n, hl, rfl, h⟩
  refine hp.len und_sl_int ?_
  rw [xlss]
  refine and_p h (decide (rs.length < 30)) ?_ ?_
  · intro _ J hJ
    rw [xlss]
    have : decide ((rs.length : Int) < 30) = decide (rs.length < 30) := decide_eq_decide.2 (by omega)
    rw [this]
    exact hJ _ h
  intro w4 h
  refine xc_of ?_ ?_
  · intro hc
    rw [Bool.and_eq_true, decide_eq_true_eq, decide_eq_true_eq] at hc
    obtain ⟨y, hy⟩ : ∃ y, ns[rs.length]? = some y := ⟨_, List.getElem?_eq_getElem (by omega)⟩
    have hyi := hns y (List.mem_of_getElem? hy)
    obtain ⟨a, ia, la⟩ := int_at hp hy
    have h := h.step (Ext.drew _)
    have e4 := h.ext
    refine ⟨Ext, Ext, preExt, .pointer (some a), fun w5 => ia _ _ ⟨rfl, rfl⟩, .int .i64 y, fun w5 e5 => la _ (e4.trans e5) _ ⟨rfl, Ext.refl _⟩, .pointer (some a), fun w5 => ia _ _ ⟨rfl, rfl⟩, .int .i64 y, fun w5 e5 => la _ (e4.trans e5) _ ⟨rfl, Ext.refl _⟩, .int .i64 (y.tdiv 7), fun w5 => by rw [xquoN hyi (by omega)]; exact ⟨rfl, rfl⟩, fun w5 e5 => ?_⟩
    have h := h.step e5
    refine ts_callE en_joinerylaw4_Make (c_make y (rs.length : Int) (y.tdiv 7) (hp.mono h.ext) hns) h ?_
    rintro rv w6 ⟨pv, lv, mv, tv, rfl, k⟩ mg
    have h := mg _ k
    refine ts_write (r := makeM y (rs.length : Int) ns (y.tdiv 7)) (he.mono h.ext) h (recR_at (L := []) k) (make_good _ _ _ _) (by omega) ?_
    intro w7 h
    have h := h.none
    generalize makeM y (rs.length : Int) ns (y.tdiv 7) = r at *
    refine hq.len (show Tryz.prog.underlying T_sl_bool = some (.slice T_bool) from und_sl_bool) ?_
    rw [xlss]
    refine and_p h (ss.getD rs.length false) ?_ ?_
    · intro hlt J hJ
      have hlt : rs.length < ss.length := by have := of_decide_eq_true hlt; omega
      obtain ⟨b1, o1, i1, c1⟩ := hq.at (k := .i64) und_sl_bool sz_bool hlt
      refine i1 _ _ ?_
      have hcc := c1 _ h.ext 0 (by omega)
      simp only [Nat.add_zero, Nat.mul_one] at hcc
      refine ld_of ag_bool (v := .bool (ss.getD rs.length false)) (by rw [hcc]; simp [List.getD_eq_getElem?_getD, hlt]) ?_
      exact hJ _ h
    intro w8 h
    have hl2 : (rs ++ [r]).length = rs.length + 1 := by simp
    refine xc_of ?_ ?_
    · intro _
      refine ts_sync h ?_
      intro w9 h
      rw [xadd, wi64 (by omega) (by omega)]
      refine ⟨⟨rs ++ [r], _, by omega, by rw [hl2]; rfl, h⟩, lenI_succ (by omega)⟩
    · intro _
      rw [xadd, wi64 (by omega) (by omega)]
      refine ⟨⟨rs ++ [r], _, by omega, by rw [hl2]; rfl, h⟩, lenI_succ (by omega)⟩
  · intro _
    have hle := h.le
    refine ts_lines h ?_
    intro v w5 h
    refine ts_lasting h ?_
    intro w6 h
    have hk := within_lt keep 40 (by omega)
    refine ts_callV en_joinerylaw9_within (c_within9 _ (by omega) (by omega)) h ?_
    intro w7 h
    rw [xsub, wi64 (by omega) (by omega)]
    have hm := crashN_le (withinM keep 40 - 5) hle
    refine ts_crash (withinM keep 40 - 5) h ?_
    intro w8 h
    generalize crashN (withinM keep 40 - 5) rs.length n = m at *
    have htl : (rs.take m).length = m := by rw [List.length_take]; omega
    refine ts_lines h ?_
    intro v2 w9 h
    rw [htl] at h
    have r2 := h.row 0 rfl
    have r1 := h.row 1 rfl
    refine r2.len und_sl_string ?_
    rw [xgeq, decide_eq_true (by omega)]
    refine and_p h true ?_ ?_
    · intro _ J hJ
      refine r2.len und_sl_string ?_
      refine r1.len und_sl_string ?_
      rw [xleq, decide_eq_true (by omega)]
      exact hJ _ h
    intro w10 h
    refine and_p h true ?_ ?_
    · intro _ J hJ
      refine r2.len und_sl_string ?_
      have r1 := h.row 1 rfl
      have r2 := h.row 0 rfl
      obtain ⟨a, cap, rfl, hac, hrt⟩ := r1.take (i := m) (by omega)
      refine xslice_upto und_sl_string sz_string (by omega) hac ?_
      have et : (strsL (rs.map textM)).take (m * 1) = strsL ((rs.take m).map textM) := by
        rw [Nat.mul_one, ← List.map_take, ← List.map_take]
      rw [et] at hrt
      have lm : ((rs.take m).map textM).length = m := by rw [List.length_map, htl]
      refine ts_callV en_joineryref2_Same (c_rStrs (a := (rs.take m).map textM) (b := (rs.take m).map textM) (by rw [lm]; exact r2) (by rw [lm]; exact hrt) (by omega)) h ?_
      intro w11 h
      rw [decide_eq_true rfl]
      exact hJ _ h
    intro w11 h
    refine and_p h true ?_ ?_
    · intro _ J hJ
      refine ts_lasting h ?_
      intro w12 h
      refine (h.row 0 rfl).len und_sl_string ?_
      rw [xeql, decide_eq_true rfl]
      exact hJ _ h
    intro w12 h
    exact ⟨rfl, h.ext⟩
end Go.Proofs.YthkgbajldkicfaaGreatDoor
