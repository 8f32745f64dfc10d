/-
  The laws TapeAgain and TapeSyncs, walked.
-/
import Derived.Test.YthkgbajldkicfaaGreatDoorTpS
import Derived.Test.YthkgbajldkicfaaGreatDoorS5
namespace Go.Proofs.YthkgbajldkicfaaGreatDoor
set_option linter.unusedVariables false
set_option linter.unusedSimpArgs false
open Go Go.Jo
set_option maxRecDepth 100000

theorem c_within9 {a n : Int} (w : World) (hn : 0 < n) (hn2 : n < 4611686018427387904) : RetV Tryz.prog F_joinerylaw9_within #[.int .i64 a, .int .i64 n] w (.int .i64 (withinM a n)) := by
  refine call_joinerylaw9_within ?_
  unfold S_joinerylaw9_within
  have h1 := Int.tmod_lt_of_pos a hn
  have h2 := Int.lt_tmod_of_pos a hn
  rw [xrem _ _ _ _ _ _ _ _ (by omega), xlss]
  refine xc_dec ?_ ?_
  · intro hlt
    rw [xadd, wi64 (by omega) (by omega), withinM, if_pos hlt]
    exact ⟨rfl, Ext.refl _⟩
  · intro hge
    rw [withinM, if_neg hge]
    exact ⟨rfl, Ext.refl _⟩
/-- A call that leaves all as it was. -/
theorem ts_callV {x : List Nat} {w0 w : World} {b n : Nat} {rs : List RecM} {L : List Res} {K : Value → World → Prop} {f : FuncId} {args : Array Value} {v : Value} (he : ∀ (args : Array Value) w, (callFunc f args).run Tryz.prog w = .ok (.enter f args) w) (hc : RetV Tryz.prog f args w v) (h : TS x w0 b rs n L w) (hk : ∀ w', TS x w0 b rs n L w' → K v w') : XCall Tryz.prog f args w K :=
  xcall_of (he args) hc fun v' w' hq => hq.1 ▸ hk w' (h.step hq.2)
set_option maxHeartbeats 2000000 in
theorem c_TapeAgain {w : World} (he : EnvP w) {p : Value} {ns : List Int} (hp : Row w 1 p ns.length (intsL ns)) (hns : ∀ x ∈ ns, i64 x) (first second : Int) : RetV Tryz.prog F_joinerylaw9_TapeAgain #[p, .int .i64 first, .int .i64 second] w (.bool true) := by
  refine call_joinerylaw9_TapeAgain ?_
  have h := St.start w
  unfold S_joinerylaw9_TapeAgain
  refine st_callV en_joinerylaw9_known (c_known9 he) h ?_
  intro w1 h
  rw [xnot, Bool.not_true, xc_false]
  refine ts_new h ?_
  intro b w2 h
  rw [xeqnil _ _ _ _ (by kernel_rfl), xc_false]
  refine hp.len und_sl_int ?_
  rw [xmin]
  have hN : (min (ns.length : Int) 15) = ((min ns.length 15 : Nat) : Int) := by omega
  rw [hN]
  have hN15 : min ns.length 15 ≤ 15 := by omega
  have hNl : min ns.length 15 ≤ ns.length := by omega
  generalize min ns.length 15 = N at *
  refine ⟨fun u w' => ∃ rs : List RecM, rs.length ≤ N ∧ u = .int .i64 (rs.length : Nat) ∧ TS [] w b rs 0 [] w', fun u _ => lenI N u, ⟨[], Nat.zero_le _, rfl, h⟩, ?_⟩
  rintro - u w3 ⟨rs, hl, rfl, h⟩
  rw [xlss]
  refine xc_dec ?_ ?_
  · intro hlt
    have hlt : rs.length < N := by omega
    obtain ⟨y, hy⟩ : ∃ y, ns[rs.length]? = some y := ⟨_, List.getElem?_eq_getElem (by omega)⟩
    obtain ⟨b1, o1, i1, c1⟩ := hp.at (k := .i64) und_sl_int sz_int (i := rs.length) (by omega)
    refine i1 _ _ ?_
    have hc := c1 _ h.ext 0 (by omega)
    simp only [Nat.add_zero, Nat.mul_one] at hc
    refine ld_of ag_int (v := .int .i64 y) (by rw [hc, List.getElem?_map, hy]; rfl) ?_
    have hw := within_lt y 999999 (by omega)
    refine ts_callV en_joinerylaw9_within (c_within9 _ (by omega) (by omega)) h ?_
    intro w4 h
    rw [xadd, wi64 (by omega) (by omega)]
    rw [xbuild (v := recV (recCo (1 + withinM y 999999)) nilV nilV nilV nilV) (fun w => by kernel_rfl)]
    refine ts_write (r := recCo (1 + withinM y 999999)) (he.mono h.ext) h (at_bare _ (recCo _) rfl rfl rfl rfl) (good_bare (by omega) (by omega) (by omega)) (by omega) ?_
    intro w5 h
    rw [xadd, wi64 (by omega) (by omega)]
    exact ⟨⟨rs ++ [recCo (1 + withinM y 999999)], by simp; omega, by simp, h⟩, lenI_succ hlt⟩
  · intro hge
    have hl : rs.length = N := by omega
    have hk := within_lt first 20 (by omega)
    refine ts_callV en_joinerylaw9_within (c_within9 _ (by omega) (by omega)) h ?_
    intro w4 h
    generalize withinM first 20 = k at *
    refine ts_crash k h ?_
    intro w5 h
    have hm : crashN k rs.length 0 = min k.toNat N := by unfold crashN; omega
    rw [hm] at h
    have hmN : min k.toNat N ≤ N := by omega
    have hmk : min k (N : Int) = ((min k.toNat N : Nat) : Int) := by omega
    generalize min k.toNat N = m at *
    have htl : (rs.take m).length = m := by rw [List.length_take]; omega
    refine ts_all (he.mono h.ext) h ?_
    intro v w6 l hl2 hrow h
    rw [htl] at hrow
    refine hrow.len und_sl_api_Record ?_
    have h := h.none
    have hk2 := within_lt second 9 (by omega)
    refine ts_callV en_joinerylaw9_within (c_within9 _ (by omega) (by omega)) h ?_
    intro w7 h
    rw [xsub, wi64 (by omega) (by omega)]
    refine ts_crash (0 - withinM second 9) h ?_
    intro w8 h
    have hm2 : crashN (0 - withinM second 9) (rs.take m).length m = m := by unfold crashN; omega
    rw [hm2, List.take_take, Nat.min_self] at h
    rw [xmin, hmk, xeql, decide_eq_true rfl]
    refine ⟨fun u w' => u = .bool true ∧ TS [] w b (rs.take m) m [] w', ?_, ?_⟩
    · rintro - u w9 ⟨rfl, h⟩
      rw [xpick_true]
      refine ⟨fun u w' => u = .bool true ∧ TS [] w b (rs.take m) m [] w', ?_, ?_⟩
      · rintro - u w10 ⟨rfl, h⟩
        rw [xpick_true]
        exact ⟨rfl, h.ext⟩
      · rw [xg_same]
        refine ts_lasting h ?_
        intro w10 h
        rw [xeql, decide_eq_true rfl]
        exact ⟨rfl, h⟩
    · rw [xg_same]
      refine ts_all (he.mono h.ext) h ?_
      intro v w9 l hl2 hrow h
      rw [htl] at hrow
      refine hrow.len und_sl_api_Record ?_
      rw [xeql, decide_eq_true rfl]
      exact ⟨rfl, h.none⟩
set_option maxHeartbeats 4000000 in
theorem c_TapeSyncs {w : World} (he : EnvP w) {p : Value} {ns : List Int} (hp : Row w 1 p ns.length (intsL ns)) (hns : ∀ x ∈ ns, i64 x) : RetV Tryz.prog F_joinerylaw9_TapeSyncs #[p] w (.bool true) := by
  refine call_joinerylaw9_TapeSyncs ?_
  have h := St.start w
  unfold S_joinerylaw9_TapeSyncs
  refine st_callV en_joinerylaw9_known (c_known9 he) h ?_
  intro w1 h
  rw [xnot, Bool.not_true, xc_false]
  refine ts_new h ?_
  intro b w2 h
  rw [xeqnil _ _ _ _ (by kernel_rfl), xc_false]
  refine ⟨fun u1 u2 u3 w' => ∃ (i : Nat) (rs : List RecM) (n : Nat), i ≤ 60 ∧ rs.length ≤ i ∧ u1 = .int .i64 (rs.length : Nat) ∧ u2 = .int .i64 (n : Nat) ∧ u3 = .int .i64 (i : Nat) ∧ TS [] w b rs n [] w', fun _ _ u _ => lenI 60 u, ⟨0, [], 0, by omega, by simp, rfl, rfl, rfl, h⟩, ?_⟩
  rintro - u1 u2 u3 w3 ⟨i, rs, n, hi, hrl, rfl, rfl, rfl, h⟩
  have hle := h.le
  refine hp.len und_sl_int ?_
  rw [xlss]
  refine ⟨fun u w' => (i < ns.length → u = .bool (decide (i < 60))) ∧ TS [] w b rs n [] w', ?_, ?_⟩
  · rintro - u w4 ⟨hu, h⟩
    have hq : XPick (.bool (decide ((i : Int) < (ns.length : Int)))) u (.bool false) = fun K => K (.bool (decide (i < ns.length ∧ i < 60))) := by
      by_cases hl : i < ns.length
      · rw [hu hl, decide_eq_true (by omega)]
        funext K
        rw [xpick_true]
        simp [hl]
      · rw [decide_eq_false (by omega)]
        funext K
        rw [xpick_false]
        simp [hl]
    rw [hq]
    show XC _ _ _
    refine xc_dec ?_ ?_
    · rintro ⟨hlt, h60⟩
      have tail : ∀ {rs' : List RecM} {n' : Nat} {w9 : World}, rs'.length ≤ i + 1 → TS [] w b rs' n' [] w9 → (fun (u4 u5 : Value) (w9 : World) => ∃ (rs' : List RecM) (n' : Nat), rs'.length ≤ i + 1 ∧ u4 = .int .i64 (rs'.length : Nat) ∧ u5 = .int .i64 (n' : Nat) ∧ TS [] w b rs' n' [] w9) (.int .i64 (rs'.length : Nat)) (.int .i64 (n' : Nat)) w9 := fun h1 h2 => ⟨_, _, h1, rfl, rfl, h2⟩
      refine ⟨fun u4 u5 w9 => ∃ (rs' : List RecM) (n' : Nat), rs'.length ≤ i + 1 ∧ u4 = .int .i64 (rs'.length : Nat) ∧ u5 = .int .i64 (n' : Nat) ∧ TS [] w b rs' n' [] w9, ?_, ?_⟩
      · rintro - u4 u5 w9 ⟨rs', n', hr', rfl, rfl, h⟩
        refine ts_lasting h ?_
        intro w10 h
        rw [xneq, decide_eq_false (by simp)]
        refine ⟨fun u w' => u = .bool false ∧ TS [] w b rs' n' [] w', ?_, ?_⟩
        · rintro - u w11 ⟨rfl, h⟩
          rw [xpick_false]
          refine ⟨fun u w' => u = .bool false ∧ TS [] w b rs' n' [] w', ?_, ?_⟩
          · rintro - u w12 ⟨rfl, h⟩
            rw [xpick_false, xc_false, xadd, wi64 (by omega) (by omega)]
            exact ⟨⟨i + 1, rs', n', by omega, hr', rfl, rfl, rfl, h⟩, lenI_succ h60⟩
          · rw [xg_same]
            refine ts_all (he.mono h.ext) h ?_
            intro v w12 l hl2 hrow h
            refine hrow.len und_sl_api_Record ?_
            rw [xneq, decide_eq_false (by simp)]
            exact ⟨rfl, h.none⟩
        · rw [xg_same]
          refine ts_lines h ?_
          intro v w11 h
          obtain ⟨tv, hst⟩ := h.st
          refine (Row.of_own (hst.atR 2 rfl)).len und_sl_string ?_
          rw [xneq, decide_eq_false (by simp)]
          exact ⟨rfl, h.none⟩
      · obtain ⟨y, hy⟩ : ∃ y, ns[i]? = some y := ⟨_, List.getElem?_eq_getElem hlt⟩
        obtain ⟨b1, o1, i1, c1⟩ := hp.at (k := .i64) und_sl_int sz_int (i := i) hlt
        have hyi := hns y (List.mem_of_getElem? hy)
        have rd : ∀ {w' : World} {K : Value → World → Prop}, Ext w w' → K (.int .i64 y) w' → XIdx Tryz.prog T_sl_int p (.int .i64 (i : Nat)) w' fun v w'' => XLoad Tryz.prog T_int v w'' K := fun e hk => by
          refine i1 _ _ ?_
          have hc := c1 _ e 0 (by omega)
          simp only [Nat.add_zero, Nat.mul_one] at hc
          exact ld_of ag_int (v := .int .i64 y) (by rw [hc, List.getElem?_map, hy]; rfl) hk
        refine rd h.ext ?_
        refine ts_callV en_joinerylaw9_within (c_within9 _ (by omega) (by omega)) h ?_
        intro w5 h
        rw [xeql]
        refine xc_dec ?_ ?_
        · intro _
          refine ts_sync h ?_
          intro w6 h
          exact tail (by omega) h
        · intro _
          rw [xeql]
          refine xc_dec ?_ ?_
          · intro _
            refine rd h.ext ?_
            rw [xquoN hyi (by omega)]
            have hk := within_lt (y.tdiv 5) 4 (by omega)
            refine ts_callV en_joinerylaw9_within (c_within9 _ (by omega) (by omega)) h ?_
            intro w6 h
            generalize withinM (y.tdiv 5) 4 = k at *
            refine ts_crash k h ?_
            intro w7 h
            have hc := crashN_le k hle
            have e1 : (n : Int) + min k ((rs.length : Int) - (n : Int)) = ((crashN k rs.length n : Nat) : Int) := by unfold crashN; omega
            rw [xsub, wi64 (by omega) (by omega), xmin, xadd, e1, wi64 (by omega) (by omega)]
            have htl : (rs.take (crashN k rs.length n)).length = crashN k rs.length n := by rw [List.length_take]; omega
            have := tail (by rw [htl]; omega) h
            rw [htl] at this
            exact this
          · intro _
            rw [xadd, wi64 (by omega) (by omega)]
            rw [xbuild (v := recV (recAb (1 + (i : Int))) nilV nilV nilV nilV) (fun w => by kernel_rfl)]
            refine ts_write (r := recAb (1 + (i : Int))) (he.mono h.ext) h (at_bare _ (recAb _) rfl rfl rfl rfl) (good_bare (by omega) (by omega) (by omega)) (by omega) ?_
            intro w6 h
            rw [xadd, wi64 (by omega) (by omega)]
            have := tail (rs' := rs ++ [recAb (1 + (i : Int))]) (by simp; omega) h
            rw [List.length_append] at this
            exact this
    · intro _
      exact ⟨rfl, h.ext⟩
  · refine xg_of ?_ ?_
    · intro hl
      rw [xlss]
      refine ⟨fun _ => ?_, h⟩
      have : decide ((i : Int) < 60) = decide (i < 60) := decide_eq_decide.2 (by omega)
      rw [this]
    · intro hl
      exact ⟨fun hh => absurd (decide_eq_true (by omega)) hl, h⟩
end Go.Proofs.YthkgbajldkicfaaGreatDoor
