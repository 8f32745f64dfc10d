/-
  Whether two rows, two nodes, two records are the same.
-/
import Derived.Test.YthkgbajldkicfaaGreatDoorChk2
import Derived.Test.YthkgbajldkicfaaGreatDoorS2
import Derived.Test.YthkgbajldkicfaaGreatDoorXMem2
namespace Go.Proofs.YthkgbajldkicfaaGreatDoor
set_option linter.unusedVariables false
set_option linter.unusedSimpArgs false
open Go Go.Jo
set_option maxRecDepth 100000

theorem c_rStrs {w : World} {p q : Value} {a b : List Str} (hp : Row w 1 p a.length (strsL a)) (hq : Row w 1 q b.length (strsL b)) (ha : a.length ≤ 1000000000) : RetV Tryz.prog F_joineryref2_Same #[p, q] w (.bool (decide (a = b))) := by
  refine call_joineryref2_Same ?_
  have h := St.start w
  unfold S_joineryref2_Same
  refine hp.len und_sl_string ?_
  refine hq.len und_sl_string ?_
  rw [xneq]
  refine xc_dec ?_ ?_
  · intro hne
    rw [decide_eq_false fun e => hne (by rw [e])]
    exact ⟨rfl, Ext.refl _⟩
  · intro hl
    have hl : a.length = b.length := by omega
    refine ⟨fun u w2 => ∃ i : Nat, i ≤ a.length ∧ u = .int .i64 (i : Nat) ∧ (∀ j, j < i → a[j]? = b[j]?) ∧ St [] w [] w2, fun u _ => lenI a.length u, ⟨0, Nat.zero_le _, rfl, fun j hj => by omega, h⟩, ?_⟩
    rintro - u w2 ⟨i, hi, rfl, hpre, h⟩
    refine hp.len und_sl_string ?_
    rw [xlss]
    refine xc_dec ?_ ?_
    · intro hlt
      have hlt : i < a.length := by omega
      obtain ⟨x, hx⟩ : ∃ x, a[i]? = some x := ⟨_, List.getElem?_eq_getElem hlt⟩
      obtain ⟨y, hy⟩ : ∃ y, b[i]? = some y := ⟨_, List.getElem?_eq_getElem (hl ▸ hlt)⟩
      obtain ⟨b1, o1, i1, c1⟩ := hp.at (k := .i64) und_sl_string sz_string hlt
      obtain ⟨b2, o2, i2, c2⟩ := hq.at (k := .i64) und_sl_string sz_string (i := i) (by omega)
      have h := h.step (Ext.drew _)
      have e2 := h.ext
      refine ⟨Ext, Ext, preExt, _, fun w3 => i1 _ _ ⟨rfl, rfl⟩, S x, fun w3 e3 => ?_, _, fun w3 => i2 _ _ ⟨rfl, rfl⟩, S y, fun w3 e3 => ?_, .bool (decide (x ≠ y)), fun w3 => ?_, fun w3 e3 => ?_⟩
      · exact ld_of ag_string (by have := c1 w3 (e2.trans e3) 0 (by omega); rw [Nat.add_zero] at this; rw [this]; simp [hx]) ⟨rfl, Ext.refl _⟩
      · exact ld_of ag_string (by have := c2 w3 (e2.trans e3) 0 (by omega); rw [Nat.add_zero] at this; rw [this]; simp [hy]) ⟨rfl, Ext.refl _⟩
      · rw [xsneq]; exact ⟨rfl, rfl⟩
      · have h := h.step e3
        refine xc_dec ?_ ?_
        · intro hne
          rw [decide_eq_false fun e => hne (by subst e; rw [hx] at hy; injection hy)]
          exact ⟨rfl, h.ext⟩
        · intro he
          have he : x = y := by simpa using he
          rw [xadd, wi64 (by omega) (by omega)]
          refine ⟨⟨i + 1, hlt, rfl, fun j hj => ?_, h⟩, lenI_succ hlt⟩
          by_cases e : j = i
          · subst e; rw [hx, hy, he]
          · exact hpre j (by omega)
    · intro hge
      have hi : i = a.length := by omega
      subst hi
      rw [decide_eq_true (ext_upto hl hpre)]
      exact ⟨rfl, h.ext⟩
theorem c_rInts {w : World} {p q : Value} {a b : List Int} (hp : Row w 1 p a.length (intsL a)) (hq : Row w 1 q b.length (intsL b)) (ha : a.length ≤ 1000000000) : RetV Tryz.prog F_joineryref3_Ints #[p, q] w (.bool (decide (a = b))) := by
  refine call_joineryref3_Ints ?_
  have h := St.start w
  unfold S_joineryref3_Ints
  refine hp.len und_sl_int ?_
  refine hq.len und_sl_int ?_
  rw [xneq]
  refine xc_dec ?_ ?_
  · intro hne
    rw [decide_eq_false fun e => hne (by rw [e])]
    exact ⟨rfl, Ext.refl _⟩
  · intro hl
    have hl : a.length = b.length := by omega
    refine ⟨fun u w2 => ∃ i : Nat, i ≤ a.length ∧ u = .int .i64 (i : Nat) ∧ (∀ j, j < i → a[j]? = b[j]?) ∧ St [] w [] w2, fun u _ => lenI a.length u, ⟨0, Nat.zero_le _, rfl, fun j hj => by omega, h⟩, ?_⟩
    rintro - u w2 ⟨i, hi, rfl, hpre, h⟩
    refine hp.len und_sl_int ?_
    rw [xlss]
    refine xc_dec ?_ ?_
    · intro hlt
      have hlt : i < a.length := by omega
      obtain ⟨x, hx⟩ : ∃ x, a[i]? = some x := ⟨_, List.getElem?_eq_getElem hlt⟩
      obtain ⟨y, hy⟩ : ∃ y, b[i]? = some y := ⟨_, List.getElem?_eq_getElem (hl ▸ hlt)⟩
      obtain ⟨b1, o1, i1, c1⟩ := hp.at (k := .i64) und_sl_int sz_int hlt
      obtain ⟨b2, o2, i2, c2⟩ := hq.at (k := .i64) und_sl_int sz_int (i := i) (by omega)
      have h := h.step (Ext.drew _)
      have e2 := h.ext
      refine ⟨Ext, Ext, preExt, _, fun w3 => i1 _ _ ⟨rfl, rfl⟩, .int .i64 x, fun w3 e3 => ?_, _, fun w3 => i2 _ _ ⟨rfl, rfl⟩, .int .i64 y, fun w3 e3 => ?_, .bool (decide (x ≠ y)), fun w3 => ?_, fun w3 e3 => ?_⟩
      · exact ld_of ag_int (by have := c1 w3 (e2.trans e3) 0 (by omega); rw [Nat.add_zero] at this; rw [this]; simp [hx]) ⟨rfl, Ext.refl _⟩
      · exact ld_of ag_int (by have := c2 w3 (e2.trans e3) 0 (by omega); rw [Nat.add_zero] at this; rw [this]; simp [hy]) ⟨rfl, Ext.refl _⟩
      · rw [xneq]; exact ⟨rfl, rfl⟩
      · have h := h.step e3
        refine xc_dec ?_ ?_
        · intro hne
          rw [decide_eq_false fun e => hne (by subst e; rw [hx] at hy; injection hy)]
          exact ⟨rfl, h.ext⟩
        · intro he
          have he : x = y := by omega
          rw [xadd, wi64 (by omega) (by omega)]
          refine ⟨⟨i + 1, hlt, rfl, fun j hj => ?_, h⟩, lenI_succ hlt⟩
          by_cases e : j = i
          · subst e; rw [hx, hy, he]
          · exact hpre j (by omega)
    · intro hge
      have hi : i = a.length := by omega
      subst hi
      rw [decide_eq_true (ext_upto hl hpre)]
      exact ⟨rfl, h.ext⟩
theorem placesL_at : ∀ {l : List PlaceM} {i : Nat} {p : PlaceM}, l[i]? = some p → ∀ j, j < 5 → (placesL l)[i * 5 + j]? = (placeC p)[j]?
  | [], i, p, h, _, _ => by simp at h
  | q :: l, 0, p, h, j, hj => by
    have : q = p := by simpa using h
    subst this
    show (placeC q ++ placesL l)[0 * 5 + j]? = _
    rw [Nat.zero_mul, Nat.zero_add, List.getElem?_append_left (by simpa using hj)]
  | q :: l, i + 1, p, h, j, hj => by
    have ih := placesL_at (l := l) (i := i) (p := p) (by simpa using h) j hj
    show (placeC q ++ placesL l)[(i + 1) * 5 + j]? = _
    have e : (i + 1) * 5 + j = (i * 5 + j) + 5 := by omega
    rw [e, List.getElem?_append_right (by simp), ← ih]
    simp
theorem xne_place (cx cy : Bool) (a b : PlaceM) (w : World) (K : Value → World → Prop) : XBin Tryz.prog .neq T_api_Place cx cy (placeV a) (placeV b) w K = K (.bool (decide (a ≠ b))) w := xbin_v (by
  obtain ⟨a1, a2, ⟨a3, a4⟩, a5⟩ := a
  obtain ⟨b1, b2, ⟨b3, b4⟩, b5⟩ := b
  simp only [Sem.run_bind, run_eqGuard_agg w _ _ _ _ _ _ egt_api_Place, Result.andThen_ok, run_neq_struct, run_equalIn_agg w _ _ _ _ usd_api_Place sih_api_Place, flds_api_Place]
  simp only [Op.eqFields, part, Sem.run_bind, sz_int, ag_int, sz_string, ag_string, sz_bool, ag_bool, sz_api_Vec, ag_api_Vec, Result.andThen_ok]
  simp [run_equalIn_int w _ _ _ _ _ _ und_int, run_equalIn_string w _ _ _ _ und_string, run_equalIn_bool' w _ _ _ _ (show Tryz.prog.underlying T_bool = some .bool by kernel_rfl), run_equalIn_agg w _ _ _ _ usd_api_Vec sih_api_Vec, flds_api_Vec, Op.eqFields, part, sz_int, ag_int, ba_toList]
  by_cases h1 : a1 = b1 <;> by_cases h2 : a2 = b2 <;> by_cases h3 : a3 = b3 <;> by_cases h4 : a4 = b4 <;> by_cases h5 : a5 = b5 <;> simp [h1, h2, h3, h4, h5])
theorem c_rPlaces {w : World} {p q : Value} {a b : List PlaceM} (hp : Row w 5 p a.length (placesL a)) (hq : Row w 5 q b.length (placesL b)) (ha : a.length ≤ 1000000000) : RetV Tryz.prog F_joineryref4_Places #[p, q] w (.bool (decide (a = b))) := by
  refine call_joineryref4_Places ?_
  have h := St.start w
  unfold S_joineryref4_Places
  refine hp.len und_sl_api_Place ?_
  refine hq.len und_sl_api_Place ?_
  rw [xneq]
  refine xc_dec ?_ ?_
  · intro hne
    rw [decide_eq_false fun e => hne (by rw [e])]
    exact ⟨rfl, Ext.refl _⟩
  · intro hl
    have hl : a.length = b.length := by omega
    refine ⟨fun u w2 => ∃ i : Nat, i ≤ a.length ∧ u = .int .i64 (i : Nat) ∧ (∀ j, j < i → a[j]? = b[j]?) ∧ St [] w [] w2, fun u _ => lenI a.length u, ⟨0, Nat.zero_le _, rfl, fun j hj => by omega, h⟩, ?_⟩
    rintro - u w2 ⟨i, hi, rfl, hpre, h⟩
    refine hp.len und_sl_api_Place ?_
    rw [xlss]
    refine xc_dec ?_ ?_
    · intro hlt
      have hlt : i < a.length := by omega
      obtain ⟨x, hx⟩ : ∃ x, a[i]? = some x := ⟨_, List.getElem?_eq_getElem hlt⟩
      obtain ⟨y, hy⟩ : ∃ y, b[i]? = some y := ⟨_, List.getElem?_eq_getElem (hl ▸ hlt)⟩
      obtain ⟨b1, o1, i1, c1⟩ := hp.at (k := .i64) und_sl_api_Place sz_api_Place hlt
      obtain ⟨b2, o2, i2, c2⟩ := hq.at (k := .i64) und_sl_api_Place sz_api_Place (i := i) (by omega)
      have h := h.step (Ext.drew _)
      have e2 := h.ext
      refine ⟨Ext, Ext, preExt, _, fun w3 => i1 _ _ ⟨rfl, rfl⟩, placeV x, fun w3 e3 => ?_, _, fun w3 => i2 _ _ ⟨rfl, rfl⟩, placeV y, fun w3 e3 => ?_, .bool (decide (x ≠ y)), fun w3 => ?_, fun w3 e3 => ?_⟩
      · exact ldN_of ag_api_Place sz_api_Place (vs := placeC x) rfl (fun j hj => (c1 w3 (e2.trans e3) j hj).trans (placesL_at hx j hj)) ⟨rfl, Ext.refl _⟩
      · exact ldN_of ag_api_Place sz_api_Place (vs := placeC y) rfl (fun j hj => (c2 w3 (e2.trans e3) j hj).trans (placesL_at hy j hj)) ⟨rfl, Ext.refl _⟩
      · rw [xne_place]; exact ⟨rfl, rfl⟩
      · have h := h.step e3
        refine xc_dec ?_ ?_
        · intro hne
          rw [decide_eq_false fun e => hne (by subst e; rw [hx] at hy; injection hy)]
          exact ⟨rfl, h.ext⟩
        · intro he
          have he : x = y := by simpa using he
          rw [xadd, wi64 (by omega) (by omega)]
          refine ⟨⟨i + 1, hlt, rfl, fun j hj => ?_, h⟩, lenI_succ hlt⟩
          by_cases e : j = i
          · subst e; rw [hx, hy, he]
          · exact hpre j (by omega)
    · intro hge
      have hi : i = a.length := by omega
      subst hi
      rw [decide_eq_true (ext_upto hl hpre)]
      exact ⟨rfl, h.ext⟩
abbrev nodeAt (n : NodeM) (mv tv : Value) : Value := nodeV n.name n.cap mv tv n.closed
/-- Two booleans, one behind the other. -/
theorem c_rNode {w : World} {n m : NodeM} {mv tv mv2 tv2 : Value} (h1 : Row w 1 mv n.marks.length (strsL n.marks)) (h2 : Row w 1 tv n.taints.length (strsL n.taints)) (h3 : Row w 1 mv2 m.marks.length (strsL m.marks)) (h4 : Row w 1 tv2 m.taints.length (strsL m.taints)) (s1 : n.marks.length ≤ 1000000) (s2 : n.taints.length ≤ 1000000) :
    RetV Tryz.prog F_joineryref3_Same #[nodeAt n mv tv, nodeAt m mv2 tv2] w (.bool (decide (n = m))) := by
  refine call_joineryref3_Same ?_
  have h := St.start w
  unfold S_joineryref3_Same
  refine st_box h ?_
  intro b1 w1 hb1 h
  try simp only [go_sem] at h
  refine st_box h ?_
  intro b2 w2 hb2 h
  try simp only [go_sem] at h
  simp only [go_sem]
  refine st_load ag_string h 1 rfl rfl ?_
  refine st_load ag_string h 0 rfl rfl ?_
  rw [xseql]
  refine and_st h (decide (n.cap = m.cap)) ?_ ?_
  · intro _ J hJ
    try simp only [go_sem]
    refine st_loadN ag_api_Vec sz_api_Vec h 1 rfl rfl (vs := vecC n.cap) rfl ?_
    refine st_loadN ag_api_Vec sz_api_Vec h 0 rfl rfl (vs := vecC m.cap) rfl ?_
    rw [xeq_vec]
    exact hJ _ h
  intro w3 h
  refine and_st h (decide (n.closed = m.closed)) ?_ ?_
  · intro _ J hJ
    try simp only [go_sem]
    refine st_load ag_bool h 1 rfl rfl ?_
    refine st_load ag_bool h 0 rfl rfl ?_
    rw [xbeql (show Tryz.prog.underlying T_bool = some .bool by kernel_rfl)]
    exact hJ _ h
  intro w4 h
  refine and_st h (decide (n.marks = m.marks)) ?_ ?_
  · intro _ J hJ
    try simp only [go_sem]
    refine st_load ag_sl_string h 1 rfl rfl ?_
    refine st_load ag_sl_string h 0 rfl rfl ?_
    refine st_callV en_joineryref2_Same (c_rStrs (h1.mono h.ext) (h3.mono h.ext) (by omega)) h ?_
    intro w5 h
    exact hJ _ h
  intro w5 h
  refine and_st h (decide (n.taints = m.taints)) ?_ ?_
  · intro _ J hJ
    try simp only [go_sem]
    refine st_load ag_sl_string h 1 rfl rfl ?_
    refine st_load ag_sl_string h 0 rfl rfl ?_
    refine st_callV en_joineryref2_Same (c_rStrs (h2.mono h.ext) (h4.mono h.ext) (by omega)) h ?_
    intro w6 h
    exact hJ _ h
  intro w6 h
  have e : (decide (n.name = m.name) && decide (n.cap = m.cap) && decide (n.closed = m.closed) && decide (n.marks = m.marks) && decide (n.taints = m.taints)) = decide (n = m) := by
    obtain ⟨n1, n2, n3, n4, n5⟩ := n
    obtain ⟨m1, m2, m3, m4, m5⟩ := m
    simp only [NodeM.mk.injEq, Bool.decide_and]
    cases decide (n1 = m1) <;> cases decide (n2 = m2) <;> cases decide (n3 = m3) <;> cases decide (n4 = m4) <;> cases decide (n5 = m5) <;> rfl
  rw [← e]
  exact ⟨rfl, h.ext⟩
theorem c_rSame {w : World} {r s : RecM} {v u : Value} (hr : RecAt w r v) (hs : RecAt w s u) (hz : RecSmall r) : RetV Tryz.prog F_joineryref4_Same #[v, u] w (.bool (decide (r = s))) := by
  obtain ⟨pv, lv, mv, tv, rfl, a1, a2, a3, a4⟩ := hr
  obtain ⟨pu, lu, mu, tu, rfl, b1, b2, b3, b4⟩ := hs
  refine call_joineryref4_Same ?_
  have h := St.start w
  unfold S_joineryref4_Same
  refine st_box h ?_
  intro q1 w1 hb1 h
  try simp only [go_sem] at h
  refine st_box h ?_
  intro q2 w2 hb2 h
  try simp only [go_sem] at h
  simp only [go_sem]
  refine st_load ag_int h 1 rfl rfl ?_
  refine st_load ag_int h 0 rfl rfl ?_
  rw [xeql]
  refine and_st h (decide (r.gang = s.gang)) ?_ ?_
  · intro _ J hJ
    try simp only [go_sem]
    refine st_load ag_int h 1 rfl rfl ?_
    refine st_load ag_int h 0 rfl rfl ?_
    rw [xeql]
    exact hJ _ h
  intro w3 h
  refine and_st h (decide (r.peers = s.peers)) ?_ ?_
  · intro _ J hJ
    try simp only [go_sem]
    refine st_load ag_sl_int h 1 rfl rfl ?_
    refine st_load ag_sl_int h 0 rfl rfl ?_
    refine st_callV en_joineryref3_Ints (c_rInts (a1.mono h.ext) (b1.mono h.ext) (by have := hz.peers; omega)) h ?_
    intro w4 h
    exact hJ _ h
  intro w4 h
  refine and_st h (decide (r.places = s.places)) ?_ ?_
  · intro _ J hJ
    try simp only [go_sem]
    refine st_load ag_sl_api_Place h 1 rfl rfl ?_
    refine st_load ag_sl_api_Place h 0 rfl rfl ?_
    refine st_callV en_joineryref4_Places (c_rPlaces (a2.mono h.ext) (b2.mono h.ext) (by have := hz.places; omega)) h ?_
    intro w5 h
    exact hJ _ h
  intro w5 h
  refine and_st h (decide (r.node = s.node)) ?_ ?_
  · intro _ J hJ
    try simp only [go_sem]
    refine st_loadN ag_api_Node sz_api_Node h 1 rfl rfl (vs := nodeC r.node.name r.node.cap mv tv r.node.closed) rfl ?_
    refine st_loadN ag_api_Node sz_api_Node h 0 rfl rfl (vs := nodeC s.node.name s.node.cap mu tu s.node.closed) rfl ?_
    refine st_callV en_joineryref3_Same (c_rNode (n := r.node) (m := s.node) (a3.mono h.ext) (a4.mono h.ext) (b3.mono h.ext) (b4.mono h.ext) hz.node.marks hz.node.taints) h ?_
    intro w6 h
    exact hJ _ h
  intro w6 h
  have e : (decide (r.kind = s.kind) && decide (r.gang = s.gang) && decide (r.peers = s.peers) && decide (r.places = s.places) && decide (r.node = s.node)) = decide (r = s) := by
    obtain ⟨n1, n2, n3, n4, n5⟩ := r
    obtain ⟨m1, m2, m3, m4, m5⟩ := s
    simp only [RecM.mk.injEq, Bool.decide_and]
    cases decide (n1 = m1) <;> cases decide (n2 = m2) <;> cases decide (n3 = m3) <;> cases decide (n4 = m4) <;> cases decide (n5 = m5) <;> rfl
  rw [← e]
  exact ⟨rfl, h.ext⟩
end Go.Proofs.YthkgbajldkicfaaGreatDoor
