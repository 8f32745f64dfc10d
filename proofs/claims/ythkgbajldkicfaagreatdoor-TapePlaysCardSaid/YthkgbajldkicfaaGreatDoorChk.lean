/-
  What is wrong with names, with nodes.
-/
import Derived.Test.YthkgbajldkicfaaGreatDoorRd4
import Derived.Laws.StructEq
namespace Go.Proofs.YthkgbajldkicfaaGreatDoor
set_option linter.unusedVariables false
set_option linter.unusedSimpArgs false
open Go Go.Jo
set_option maxRecDepth 100000

theorem c_letter (c : Nat) (w : World) : RetV Tryz.prog F_mark_letter #[.int .i32 (c : Int)] w (.bool (letterC c)) := by
  refine call_mark_letter ?_
  have e := Ext.refl w
  unfold S_mark_letter
  by_cases hA : (97 : Int) ≤ (c : Int) <;> by_cases hB : (c : Int) ≤ 122 <;> by_cases hC : (945 : Int) ≤ (c : Int) <;> by_cases hD : (c : Int) ≤ 969 <;>
    (repeat (first | (refine Exists.intro _ (And.intro (fun _ _ _ hh => hh) ?_)) | (simp only [go_sem, hA, hB, hC, hD, decide_true, decide_false]))) <;>
    (refine ⟨congrArg Value.bool ?_, e⟩; symm; first | (apply decide_eq_true; omega) | (apply decide_eq_false; omega))
theorem c_digit (c : Nat) (w : World) : RetV Tryz.prog F_mark_digit #[.int .i32 (c : Int)] w (.bool (digitC c)) := by
  refine call_mark_digit ?_
  have e := Ext.refl w
  unfold S_mark_digit
  by_cases hA : (48 : Int) ≤ (c : Int) <;> by_cases hB : (c : Int) ≤ 57 <;>
    (repeat (first | (refine Exists.intro _ (And.intro (fun _ _ _ hh => hh) ?_)) | (simp only [go_sem, hA, hB, decide_true, decide_false]))) <;>
    (refine ⟨congrArg Value.bool ?_, e⟩; symm; first | (apply decide_eq_true; omega) | (apply decide_eq_false; omega))

theorem runesFrom_len (s : ByteArray) : ∀ (f pos : Nat), (runesFrom s f pos).length ≤ f
  | 0, _ => Nat.le_refl _
  | f + 1, pos => by
    unfold runesFrom
    split
    · have := runesFrom_len s f (pos + (Utf8.decode s pos).2)
      simp only [List.length_cons]
      omega
    · exact Nat.zero_le _
theorem runesFrom_end (s : ByteArray) (f pos : Nat) (h : s.size ≤ pos) : runesFrom s f pos = [] := by
  cases f with
  | zero => rfl
  | succ f => unfold runesFrom; rw [if_neg (by omega)]
theorem runesFrom_step (s : ByteArray) (f pos : Nat) (h : pos < s.size) : runesFrom s (f + 1) pos = (pos, (Utf8.decode s pos).1) :: runesFrom s f (pos + (Utf8.decode s pos).2) := by
  conv => lhs; unfold runesFrom
  rw [if_pos h]
theorem decode_wide (l : Str) (pos : Nat) (h : pos < l.length) : 1 ≤ (Utf8.decode ⟨l.toArray⟩ pos).2 := by
  by_cases hl : l[pos].toNat < 128
  · rw [decode_low l pos h hl]; exact Nat.le_refl _
  · exact (decode_up l pos h (by omega)).2.1
theorem c_runes (s : Str) (w : World) (hs : s.length ≤ 1000000) : RetV Tryz.prog F_mark_Runes #[S s] w (.int .i64 ((runesM s).length : Nat)) := by
  refine call_mark_Runes ?_
  have h := St.start w
  unfold S_mark_Runes
  refine st_range und_string h ?_
  intro q w1 hq h
  have hlen : (runesM s).length ≤ s.length := runesFrom_len _ _ _
  refine ⟨fun u w2 => ∃ f pos acc, u = .int .i64 (acc : Nat) ∧ acc + (runesFrom ⟨s.toArray⟩ f pos).length = (runesM s).length ∧ s.length ≤ pos + f ∧ St [] w [.blk q (.stringIter ⟨s.toArray⟩ pos)] w2, fun _ w2 => s.length - posOf q w2, ⟨s.length, 0, 0, rfl, by rw [Nat.zero_add]; rfl, by omega, h⟩, ?_⟩
  rintro - u w2 ⟨f, pos, acc, rfl, hacc, hf, h⟩
  have hpos := h.pos 0 rfl
  refine st_next h 0 rfl ?_ ?_
  · intro hlt w3 h3
    have hpos3 := h3.pos 0 rfl
    have hlt' : pos < s.length := by rw [size_list] at hlt; exact hlt
    have hw := decode_wide s pos hlt'
    simp only [go_sem]
    cases f with
    | zero => omega
    | succ f =>
      rw [runesFrom_step _ _ _ hlt, List.length_cons] at hacc
      rw [wi64 (by omega) (by omega)]
      refine ⟨⟨f, _, acc + 1, rfl, by omega, by omega, h3⟩, by rw [hpos, hpos3]; omega⟩
  · intro hge
    simp only [go_sem]
    rw [runesFrom_end _ _ _ hge] at hacc
    have : acc = (runesM s).length := by simpa using hacc
    subst this
    exact ⟨rfl, h.ext⟩
theorem c_markName (s : Str) (w : World) (hs : s.length ≤ 1000000) : RetV Tryz.prog F_mark_Name #[S s] w (.bool (nameM s)) := by
  refine call_mark_Name ?_
  have h := St.start w
  unfold S_mark_Name
  refine st_range und_string h ?_
  intro q w1 hq h
  refine ⟨fun w2 => ∃ f pos, (runesM s).all (fun p => letterC p.2 || digitC p.2 && decide (p.1 ≠ 0)) = (runesFrom ⟨s.toArray⟩ f pos).all (fun p => letterC p.2 || digitC p.2 && decide (p.1 ≠ 0)) ∧ s.length ≤ pos + f ∧ St [] w [.blk q (.stringIter ⟨s.toArray⟩ pos)] w2, fun w2 => s.length - posOf q w2, ⟨s.length, 0, rfl, by omega, h⟩, ?_⟩
  rintro - w2 ⟨f, pos, hall, hf, h⟩
  have hpos := h.pos 0 rfl
  refine st_next h 0 rfl ?_ ?_
  · intro hlt w3 h3
    have hpos3 := h3.pos 0 rfl
    have hlt' : pos < s.length := by rw [size_list] at hlt; exact hlt
    have hw := decode_wide s pos hlt'
    cases f with
    | zero => omega
    | succ f =>
      rw [runesFrom_step _ _ _ hlt, List.all_cons] at hall
      simp only at hall
      have good : (letterC (Utf8.decode ⟨s.toArray⟩ pos).1 || digitC (Utf8.decode ⟨s.toArray⟩ pos).1 && decide (pos ≠ 0)) = true → ∀ w', St [] w [.blk q (.stringIter ⟨s.toArray⟩ (pos + (Utf8.decode ⟨s.toArray⟩ pos).2))] w' → (∃ f pos, (runesM s).all (fun p => letterC p.2 || digitC p.2 && decide (p.1 ≠ 0)) = (runesFrom ⟨s.toArray⟩ f pos).all (fun p => letterC p.2 || digitC p.2 && decide (p.1 ≠ 0)) ∧ s.length ≤ pos + f ∧ St [] w [.blk q (.stringIter ⟨s.toArray⟩ pos)] w') ∧ s.length - posOf q w' < s.length - posOf q w2 := fun hg w' h => by
        have hp := h.pos 0 rfl
        rw [hg, Bool.true_and] at hall
        exact ⟨⟨f, _, hall, by omega, h⟩, by rw [hpos, hp]; omega⟩
      have bad : (letterC (Utf8.decode ⟨s.toArray⟩ pos).1 || digitC (Utf8.decode ⟨s.toArray⟩ pos).1 && decide (pos ≠ 0)) = false → nameM s = false := fun hb => by
        rw [hb, Bool.false_and] at hall
        rw [nameM, hall]
        rfl
      simp only [go_sem]
      refine st_callV en_mark_letter (c_letter _ _) h3 ?_
      intro w4 h4
      cases hL : letterC (Utf8.decode ⟨s.toArray⟩ pos).1 with
      | true =>
        repeat (first | (refine Exists.intro _ (And.intro (fun _ _ _ hh => hh) ?_)) | (simp only [go_sem, Bool.not_true]))
        exact good (by rw [hL]; rfl) _ h4
      | false =>
        simp only [go_sem, Bool.not_false]
        refine Exists.intro _ (And.intro (fun _ _ _ hh => hh) ?_)
        (try simp only [go_sem])
        refine st_callV en_mark_digit (c_digit _ _) h4 ?_
        intro w5 h5
        cases hD : digitC (Utf8.decode ⟨s.toArray⟩ pos).1 with
        | false =>
          simp only [go_sem, Bool.not_false]
          refine Exists.intro _ (And.intro (fun _ _ _ hh => hh) ?_)
          (try simp only [go_sem])
          refine Exists.intro _ (And.intro (fun _ _ _ hh => hh) ?_)
          (try simp only [go_sem])
          rw [bad (by rw [hL, hD]; rfl)]
          exact ⟨rfl, h5.ext⟩
        | true =>
          simp only [go_sem, Bool.not_true]
          refine Exists.intro _ (And.intro (fun _ _ _ hh => hh) ?_)
          (try simp only [go_sem])
          refine Exists.intro _ (And.intro (fun _ _ _ hh => hh) ?_)
          (try simp only [go_sem])
          by_cases h0 : pos = 0
          · have : decide ((pos : Int) = 0) = true := decide_eq_true (by omega)
            simp only [this, go_sem]
            rw [bad (by rw [hL, hD, h0]; rfl)]
            exact ⟨rfl, h5.ext⟩
          · have : decide ((pos : Int) = 0) = false := decide_eq_false (by omega)
            simp only [this, go_sem]
            exact good (by rw [hL, hD]; simpa using h0) _ h5
  · intro hge
    rw [runesFrom_end _ _ _ hge] at hall
    simp only [go_sem]
    have e0 : (⟨#[]⟩ : ByteArray) = ⟨([] : Str).toArray⟩ := rfl
    refine and_st h (decide ((runesM s).length ≤ 8)) ?_ ?_
    · intro _ J hJ
      refine st_callV en_mark_Runes (c_runes s _ hs) h ?_
      intro w4 h4
      simp only [go_sem]
      have : decide (((runesM s).length : Int) ≤ 8) = decide ((runesM s).length ≤ 8) := by congr 1; exact propext ⟨fun h => by omega, fun h => by omega⟩
      rw [this]
      exact hJ _ h4
    · intro w4 h4
      rw [nameM, hall]
      exact ⟨by simp, h4.ext⟩

theorem getD_of {α : Type} {l : List α} {i : Nat} {x d : α} (h : l[i]? = some x) : l.getD i d = x := by
  rw [List.getD_eq_getElem?_getD, h]
  rfl
set_option maxHeartbeats 1000000 in
theorem c_set {w : World} {p0 : Value} {l : List Str} (hp : Row w 1 p0 l.length (strsL l)) (hl : l.length ≤ 1000000) (hs : ∀ x ∈ l, x.length ≤ 1000000) : RetV Tryz.prog F_mark_Set #[p0] w (.bool (setM l)) := by
  refine call_mark_Set ?_
  have h := St.start w
  unfold S_mark_Set
  refine hp.len und_sl_string ?_
  refine ⟨fun u w2 => ∃ i, i ≤ l.length ∧ u = .int .i64 (i : Nat) ∧ upTo (setP l) i = true ∧ St [] w [] w2, fun u _ => match u with | .int _ n => l.length - n.toNat | _ => 0, ⟨0, Nat.zero_le _, rfl, rfl, h⟩, ?_⟩
  rintro - u w2 ⟨i, hi, rfl, hup, h⟩
  rw [xlss]
  refine xc_dec ?_ ?_
  · intro hlt
    have hlt : i < l.length := by omega
    obtain ⟨x, hx⟩ : ∃ x, l[i]? = some x := ⟨_, List.getElem?_eq_getElem hlt⟩
    have hxd : l.getD i [] = x := getD_of hx
    refine str_at (hp.mono h.ext) hlt hx ?_
    intro b0 o0 hc0
    refine ld_of ag_string hc0 ?_
    refine st_callV en_mark_Name (c_markName x _ (hs x (List.mem_of_getElem? hx))) h ?_
    intro w3 h
    have bad : setP l i = false → ∀ w', St [] w [] w' → Value.bool false = Value.bool (setM l) ∧ Ext w w' := fun hb w' h => by
      rw [setM, upTo_false hlt hb]
      exact ⟨rfl, h.ext⟩
    have good : setP l i = true → ∀ w', St [] w [] w' → (∃ i_1, i_1 ≤ l.length ∧ Value.int .i64 (IntKind.i64.wrap ((i : Int) + 1)) = .int .i64 (i_1 : Nat) ∧ upTo (setP l) i_1 = true ∧ St [] w [] w') ∧ l.length - (IntKind.i64.wrap ((i : Int) + 1)).toNat < l.length - ((i : Nat) : Int).toNat := fun hg w' h => by
      rw [wi64 (by omega) (by omega)]
      exact ⟨⟨i + 1, hlt, rfl, by rw [upTo_succ, hup, hg]; rfl, h⟩, by omega⟩
    cases hn : nameM x with
    | false =>
      simp only [go_sem, Bool.not_false]
      refine Exists.intro _ (And.intro (fun _ _ _ hh => hh) ?_)
      (try simp only [go_sem])
      refine Exists.intro _ (And.intro (fun _ _ _ hh => hh) ?_)
      (try simp only [go_sem])
      refine Exists.intro _ (And.intro (fun _ _ _ hh => hh) ?_)
      (try simp only [go_sem])
      exact bad (by rw [setP, hxd, hn]; rfl) _ h
    | true =>
      simp only [go_sem, Bool.not_true]
      refine Exists.intro _ (And.intro (fun _ _ _ hh => hh) ?_)
      (try simp only [go_sem])
      by_cases h0 : i = 0
      · have e0 : decide ((0 : Int) < (i : Int)) = false := decide_eq_false (by omega)
        simp only [e0]
        refine Exists.intro _ (And.intro (fun _ _ _ hh => hh) ?_)
        (try simp only [go_sem])
        refine Exists.intro _ (And.intro (fun _ _ _ hh => hh) ?_)
        (try simp only [go_sem])
        exact good (by rw [setP, hxd, hn, h0]; rfl) _ h
      · have e0 : decide ((0 : Int) < (i : Int)) = true := decide_eq_true (by omega)
        simp only [e0]
        refine Exists.intro _ (And.intro (fun _ _ _ hh => hh) ?_)
        simp only [go_sem]
        obtain ⟨y, hy⟩ : ∃ y, l[i - 1]? = some y := ⟨_, List.getElem?_eq_getElem (by omega)⟩
        have hyd : l.getD (i - 1) [] = y := getD_of hy
        rw [wi64 (n := (i : Int) - 1) (by omega) (by omega), show ((i : Int) - 1) = ((i - 1 : Nat) : Int) by omega]
        refine str_at (hp.mono h.ext) (by omega) hy ?_
        intro b1 o1 hc1
        refine ld_of ag_string hc1 ?_
        rw [xsgeq]
        refine Exists.intro _ (And.intro (fun _ _ _ hh => hh) ?_)
        (try simp only [go_sem])
        cases hb : Op.bytesLess y x with
        | true =>
          simp only [go_sem, Bool.not_true]
          exact good (by rw [setP, hxd, hyd, hn, hb]; simp) _ h
        | false =>
          simp only [go_sem, Bool.not_false]
          exact bad (by rw [setP, hxd, hyd, hn, hb]; simp [h0]) _ h
  · intro hge
    have hi : i = l.length := by omega
    subst hi
    refine hp.len und_sl_string ?_
    simp only [go_sem]
    rw [setM, hup]
    refine ⟨congrArg Value.bool ?_, h.ext⟩
    rw [Bool.true_and]
    congr 1
    exact propext ⟨fun h => by omega, fun h => by omega⟩
theorem c_part (n : Int) (w : World) : RetV Tryz.prog F_spec_part #[.int .i64 n] w (.bool (partM n)) := by
  refine call_spec_part ?_
  have h := St.start w
  unfold S_spec_part
  rw [xgeq]
  refine and_st h (decide (n ≤ 1099511627776)) ?_ ?_
  · intro _ J hJ
    rw [xleq]
    exact hJ _ h
  · intro w1 h
    exact ⟨rfl, h.ext⟩
theorem c_room (v : VecM) (w : World) : RetV Tryz.prog F_spec_room #[vecV v] w (.bool (roomM v)) := by
  refine call_spec_room ?_
  have h := St.start w
  unfold S_spec_room
  refine st_box h ?_
  intro b w1 hb h
  try simp only [go_sem] at h
  try simp only [go_sem]
  refine st_load ag_int h 0 rfl rfl ?_
  refine st_callV en_spec_part (c_part _ _) h ?_
  intro w2 h
  refine and_st h (partM v.mem) ?_ ?_
  · intro _ J hJ
    refine st_load ag_int h 0 rfl rfl ?_
    refine st_callV en_spec_part (c_part _ _) h ?_
    intro w3 h
    exact hJ _ h
  · intro w3 h
    exact ⟨rfl, h.chg.ext⟩
/-- A node, read. -/
structure NodeAt (w : World) (n : NodeM) (v mv tv : Value) : Prop where
  eq : v = nodeV n.name n.cap mv tv n.closed
  m : Row w 1 mv n.marks.length (strsL n.marks)
  t : Row w 1 tv n.taints.length (strsL n.taints)
/-- Nothing in it is long. -/
structure NodeSmall (n : NodeM) : Prop where
  name : n.name.length ≤ 1000000
  marks : n.marks.length ≤ 1000000
  mark : ∀ x ∈ n.marks, x.length ≤ 1000000
  taints : n.taints.length ≤ 1000000
  taint : ∀ x ∈ n.taints, x.length ≤ 1000000
theorem c_specNode {w : World} {n : NodeM} {v mv tv : Value} (hn : NodeAt w n v mv tv) (hs : NodeSmall n) : RetV Tryz.prog F_spec_Node #[v] w (.int .i64 (nodeE n)) := by
  refine call_spec_Node ?_
  have h := St.start w
  unfold S_spec_Node
  obtain ⟨rfl, hm, ht⟩ := hn
  refine st_box h ?_
  intro b w1 hb h
  try simp only [go_sem] at h
  try simp only [go_sem]
  refine st_load ag_string h 0 rfl rfl ?_
  refine st_callV en_mark_Name (c_markName _ _ hs.name) h ?_
  intro w2 h
  cases h1 : nameM n.name with
  | false =>
    simp only [go_sem, Bool.not_false]
    rw [nodeE, h1]
    exact ⟨rfl, h.chg.ext⟩
  | true =>
    simp only [go_sem, Bool.not_true]
    refine st_loadN ag_api_Vec sz_api_Vec h 0 rfl rfl (vs := vecC n.cap) rfl ?_
    refine st_callV en_spec_room (c_room n.cap _) h ?_
    intro w3 h
    cases h2 : roomM n.cap with
    | false =>
      simp only [go_sem, Bool.not_false]
      rw [nodeE, h1, h2]
      exact ⟨rfl, h.chg.ext⟩
    | true =>
      simp only [go_sem, Bool.not_true]
      refine st_load ag_sl_string h 0 rfl rfl ?_
      refine st_callV en_mark_Set (c_set (hm.mono h.chg.ext) hs.marks hs.mark) h ?_
      intro w4 h
      simp only [go_sem]
      refine or_st h (!setM n.taints) ?_ ?_
      · intro _ J hJ
        refine st_load ag_sl_string h 0 rfl rfl ?_
        refine st_callV en_mark_Set (c_set (ht.mono h.chg.ext) hs.taints hs.taint) h ?_
        intro w5 h
        simp only [go_sem]
        exact hJ _ h
      · intro w5 h
        rw [nodeE, h1, h2]
        cases hst : (!setM n.marks || !setM n.taints) with
        | true => rw [xc_true]; exact ⟨rfl, h.chg.ext⟩
        | false => rw [xc_false]; exact ⟨rfl, h.chg.ext⟩

theorem xeq_vec (cx cy : Bool) (a b : VecM) (w : World) (K : Value → World → Prop) : XBin Tryz.prog .eql T_api_Vec cx cy (vecV a) (vecV b) w K = K (.bool (decide (a = b))) w := xbin_v (by
  obtain ⟨a1, a2⟩ := a
  obtain ⟨b1, b2⟩ := b
  simp only [Sem.run_bind, run_eqGuard_agg w _ _ _ _ _ _ egt_api_Vec, Result.andThen_ok, run_eql_struct, run_equalIn_agg w _ _ _ _ usd_api_Vec sih_api_Vec, flds_api_Vec]
  simp only [Op.eqFields, part, Sem.run_bind, sz_int, ag_int, Result.andThen_ok]
  simp [run_equalIn_int w _ _ _ _ _ _ und_int]
  split <;> (try split) <;> simp_all)
theorem c_gangs (k : Int) (w : World) : RetV Tryz.prog F_line_gangs #[.int .i64 k] w (.bool (gangsM k)) := by
  refine call_line_gangs ?_
  have h := St.start w
  unfold S_line_gangs
  rw [xgeq]
  refine and_st h (decide (k ≤ 7)) ?_ ?_
  · intro _ J hJ
    rw [xleq]
    exact hJ _ h
  · intro w1 h
    exact ⟨rfl, h.ext⟩
theorem c_peeredI (k : Int) (w : World) : RetV Tryz.prog F_line_peered #[.int .i64 k] w (.bool (peeredI k)) := by
  refine call_line_peered ?_
  have h := St.start w
  unfold S_line_peered
  rw [xeql]
  refine or_st h (decide (k = 7)) ?_ ?_
  · intro _ J hJ
    rw [xeql]
    exact hJ _ h
  · intro w1 h
    exact ⟨rfl, h.ext⟩
set_option maxHeartbeats 1000000 in
theorem c_bare {w : World} {n : NodeM} {v mv tv : Value} (hn : NodeAt w n v mv tv) (hs : NodeSmall n) : RetV Tryz.prog F_line_bare #[v] w (.bool (bareM n)) := by
  refine call_line_bare ?_
  have h := St.start w
  unfold S_line_bare
  obtain ⟨rfl, hm, ht⟩ := hn
  have s1 := hs.marks
  have s2 := hs.taints
  refine st_box h ?_
  intro b w1 hb h
  try simp only [go_sem] at h
  try simp only [go_sem]
  refine st_loadN ag_api_Vec sz_api_Vec h 0 rfl rfl (vs := vecC n.cap) rfl ?_
  rw [xbuild (v := vecV zVec) (fun w => by kernel_rfl), xeq_vec]
  refine and_st h (decide (n.marks.length + n.taints.length = 0)) ?_ ?_
  · intro _ J hJ
    refine st_load ag_sl_string h 0 rfl rfl ?_
    refine hm.len und_sl_string ?_
    refine st_load ag_sl_string h 0 rfl rfl ?_
    refine ht.len und_sl_string ?_
    rw [xadd, wi64 (by omega) (by omega), xeql]
    have : decide (((n.marks.length : Int) + (n.taints.length : Int)) = 0) = decide (n.marks.length + n.taints.length = 0) := by congr 1; exact propext ⟨fun h => by omega, fun h => by omega⟩
    rw [this]
    exact hJ _ h
  · intro w2 h
    refine and_st h (!n.closed) ?_ ?_
    · intro _ J hJ
      refine st_load ag_bool h 0 rfl rfl ?_
      rw [xnot]
      exact hJ _ h
    · intro w3 h
      exact ⟨rfl, h.chg.ext⟩
set_option maxHeartbeats 1000000 in
theorem c_rising {w : World} {p0 : Value} {l : List Int} (hp : Row w 1 p0 l.length (intsL l)) (hl : l.length ≤ 1000000) : RetV Tryz.prog F_line_rising #[p0] w (.bool (risingM l)) := by
  refine call_line_rising ?_
  have h := St.start w
  unfold S_line_rising
  refine hp.len und_sl_int ?_
  refine ⟨fun u w2 => ∃ i, i ≤ l.length ∧ u = .int .i64 (i : Nat) ∧ upTo (risingP l) i = true ∧ St [] w [] w2, fun u _ => match u with | .int _ n => l.length - n.toNat | _ => 0, ⟨0, Nat.zero_le _, rfl, rfl, h⟩, ?_⟩
  rintro - u w2 ⟨i, hi, rfl, hup, h⟩
  have at_ : ∀ {i : Nat} {x : Int} {K : Value → World → Prop}, l[i]? = some x → (∀ b o, w2.cell? ⟨b, o, none⟩ = some (.int .i64 x) → K (.pointer (some ⟨b, o, none⟩)) w2) → XIdx Tryz.prog T_sl_int p0 (.int .i64 (i : Nat)) w2 K := fun {i x K} hx hk => by
    refine (hp.mono h.ext).idx und_sl_int sz_int (List.getElem?_eq_some_iff.1 hx).1 fun b o hc => hk b o ?_
    have := hc 0 (by omega)
    rw [Nat.add_zero, Nat.mul_one, Nat.add_zero] at this
    rw [this]
    simp [hx]
  rw [xlss]
  refine xc_dec ?_ ?_
  · intro hlt
    have hlt : i < l.length := by omega
    obtain ⟨x, hx⟩ : ∃ x, l[i]? = some x := ⟨_, List.getElem?_eq_getElem hlt⟩
    have hxd : l.getD i 0 = x := getD_of hx
    refine at_ hx ?_
    intro b0 o0 hc0
    refine ld_of ag_int hc0 ?_
    rw [xlss]
    have bad : risingP l i = false → ∀ w', St [] w [] w' → Value.bool false = Value.bool (risingM l) ∧ Ext w w' := fun hb w' h => by
      rw [risingM, upTo_false hlt hb]
      exact ⟨rfl, h.ext⟩
    have good : risingP l i = true → ∀ w', St [] w [] w' → (∃ i_1, i_1 ≤ l.length ∧ Value.int .i64 (IntKind.i64.wrap ((i : Int) + 1)) = .int .i64 (i_1 : Nat) ∧ upTo (risingP l) i_1 = true ∧ St [] w [] w') ∧ l.length - (IntKind.i64.wrap ((i : Int) + 1)).toNat < l.length - ((i : Nat) : Int).toNat := fun hg w' h => by
      rw [wi64 (by omega) (by omega)]
      exact ⟨⟨i + 1, hlt, rfl, by rw [upTo_succ, hup, hg]; rfl, h⟩, by omega⟩
    by_cases h1 : x < 1
    · simp only [h1, decide_true]
      repeat (first | (refine Exists.intro _ (And.intro (fun _ _ _ hh => hh) ?_)) | (simp only [go_sem]))
      exact bad (by rw [risingP, hxd]; simp; omega) _ h
    · by_cases h4 : (4 : Int) < x
      · simp only [h1, h4, decide_true, decide_false]
        repeat (first | (refine Exists.intro _ (And.intro (fun _ _ _ hh => hh) ?_)) | (simp only [go_sem, h4, decide_true]))
        exact bad (by rw [risingP, hxd]; simp; omega) _ h
      · by_cases h0 : i = 0
        · have e0 : decide ((0 : Int) < (i : Int)) = false := decide_eq_false (by omega)
          simp only [h1, decide_false]
          repeat (first | (refine Exists.intro _ (And.intro (fun _ _ _ hh => hh) ?_)) | (simp only [go_sem, h4, e0, decide_false]))
          exact good (by rw [risingP, hxd, h0]; simp; omega) _ h
        · have e0 : decide ((0 : Int) < (i : Int)) = true := decide_eq_true (by omega)
          simp only [h1, decide_false]
          repeat (first | (refine Exists.intro _ (And.intro (fun _ _ _ hh => hh) ?_)) | (simp only [go_sem, h4, e0, decide_false]))
          obtain ⟨y, hy⟩ : ∃ y, l[i - 1]? = some y := ⟨_, List.getElem?_eq_getElem (by omega)⟩
          have hyd : l.getD (i - 1) 0 = y := getD_of hy
          rw [wi64 (n := (i : Int) - 1) (by omega) (by omega), show ((i : Int) - 1) = ((i - 1 : Nat) : Int) by omega]
          refine at_ hy ?_
          intro b1 o1 hc1
          refine ld_of ag_int hc1 ?_
          by_cases hb : x ≤ y
          · repeat (first | (refine Exists.intro _ (And.intro (fun _ _ _ hh => hh) ?_)) | (simp only [go_sem, h4, hb, decide_true, decide_false]))
            exact bad (by rw [risingP, hxd, hyd]; simp [h0]; omega) _ h
          · repeat (first | (refine Exists.intro _ (And.intro (fun _ _ _ hh => hh) ?_)) | (simp only [go_sem, h4, hb, decide_true, decide_false]))
            exact good (by rw [risingP, hxd, hyd]; simp; omega) _ h
  · intro hge
    have hi : i = l.length := by omega
    subst hi
    refine hp.len und_sl_int ?_
    simp only [go_sem]
    rw [risingM, hup]
    refine ⟨congrArg Value.bool ?_, h.ext⟩
    rw [Bool.true_and]
    congr 1
    exact propext ⟨fun h => by omega, fun h => by omega⟩
end Go.Proofs.YthkgbajldkicfaaGreatDoor
