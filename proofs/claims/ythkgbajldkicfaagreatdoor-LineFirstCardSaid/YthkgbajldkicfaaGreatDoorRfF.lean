/-
  What the document says is wrong with a record; its own reading of a line.
-/
import Derived.Test.YthkgbajldkicfaaGreatDoorRfE
namespace Go.Proofs.YthkgbajldkicfaaGreatDoor
set_option linter.unusedVariables false
set_option linter.unusedSimpArgs false
open Go Go.Jo
set_option maxRecDepth 100000

/-- What its kind has alone. -/
def keptM (r : RecM) : RecM :=
  if r.kind = 1 then { zRec with kind := r.kind, node := r.node }
  else if r.kind = 2 then { zRec with kind := r.kind, node := { zNode with name := r.node.name } }
  else if r.kind = 3 then { zRec with kind := r.kind, gang := r.gang, peers := r.peers, places := r.places }
  else if r.kind = 7 then { zRec with kind := r.kind, gang := r.gang, peers := r.peers }
  else { zRec with kind := r.kind, gang := r.gang }
theorem st_storeCG {x : List Nat} {w0 w : World} {L : List Res} {t : TypeId} {b o : Nat} {cs : Array Value} {T : TypeId} {v : Value} {K : World → Prop} (hs : ∀ w, (sizeOf t).run Tryz.prog w = .ok 1 w) (h : St x w0 L w) (n : Nat) (hn : L[n]? = some (.blk b (.cells cs T (0, 0)))) (hc : v.cells = #[v]) (ho : Nat.ble (o + 1) cs.size = true) (hf : flat v = true)
    (hk : ∀ w', Chg [b] w w' → St x w0 (L.set n (.blk b (.cells (cs.setIfInBounds o v) T (0, 0)))) w' → K w') : XStore Tryz.prog t (.pointer (some ⟨b, o, none⟩)) v w K := by
  refine st_storeG hs h n hn (by rw [hc]; rfl) ho (by rw [hc]; simp [hf]) fun w' hg h' => hk w' hg ?_
  rw [hc] at h'
  exact h'
set_option maxHeartbeats 4000000 in
theorem c_fKept {w : World} {r : RecM} {v : Value} (hr : RecAt w r v) : Ret Tryz.prog F_joineryref4_kept #[v] w fun v' w' => RecAt w' (keptM r) v' ∧ Ext w w' := by
  refine call_joineryref4_kept ?_
  have h := St.start w
  unfold S_joineryref4_kept
  obtain ⟨pv, lv, mv, tv, rfl, hp, hl, hm, ht⟩ := hr
  have fm := hm.flat
  have ft := ht.flat
  have fp := hp.flat
  have fl := hl.flat
  refine st_box h ?_
  intro q1 w1 _ h
  refine st_alloc zv_api_Record h ?_
  intro q2 w2 _ h
  rw [fld_api_Record_Kind]
  refine st_load ag_int (v := .int .i64 r.kind) h 1 rfl rfl ?_
  rw [xbuild (v := recV { zRec with kind := r.kind } nilV nilV nilV nilV) (fun w => by kernel_rfl)]
  refine st_alloc zv_api_Record h ?_
  intro q3 w3 _ h
  refine st_store sz_api_Record h 0 rfl rfl rfl rfl ?_
  intro w4 h
  try simp only [go_sem] at h
  have h : St [] w [.blk q3 (recO { zRec with kind := r.kind } nilV nilV nilV nilV), .blk q2 (recO zRec nilV nilV nilV nilV), .blk q1 (recO r pv lv mv tv)] w4 := h
  rw [fld_api_Record_Kind]
  refine st_load ag_int (v := .int .i64 r.kind) h 2 rfl rfl ?_
  have fin : ∀ {w' : World} {k : RecM} {p2 l2 m2 t2 : Value}, keptM r = k → Flats p2 l2 m2 t2 → Row w 1 p2 k.peers.length (intsL k.peers) → Row w 5 l2 k.places.length (placesL k.places) → Row w 1 m2 k.node.marks.length (strsL k.node.marks) → Row w 1 t2 k.node.taints.length (strsL k.node.taints) →
      St [] w [.blk q3 (recO k p2 l2 m2 t2), .blk q2 (recO zRec nilV nilV nilV nilV), .blk q1 (recO r pv lv mv tv)] w' →
      XLoad Tryz.prog T_api_Record (pt q3) w' fun v w5 => XStore Tryz.prog T_api_Record (pt q2) v w5 fun w6 => XLoad Tryz.prog T_api_Record (pt q2) w6 fun r1 w7 => w7 = w6 ∧ (RecAt w6 (keptM r) r1 ∧ Ext w w6) := fun hk hf h1 h2 h3 h4 h => by
    refine st_loadW ag_api_Record sz_api_Record h 0 rfl rfl ?_
    refine st_store sz_api_Record h 1 rfl rfl rfl (hf.all _) ?_
    intro w6 h
    try simp only [go_sem] at h
    refine st_loadW ag_api_Record sz_api_Record h 1 rfl rfl ⟨rfl, ?_, h.ext⟩
    rw [hk]
    exact ⟨_, _, _, _, rfl, h1.mono h.ext, h2.mono h.ext, h3.mono h.ext, h4.mono h.ext⟩
  rw [xeql]
  refine xc_dec ?_ ?_
  · intro k1
    rw [fld_api_Record_Node]
    refine st_loadN ag_api_Node sz_api_Node h 2 rfl rfl (vs := nodeC r.node.name r.node.cap mv tv r.node.closed) rfl ?_
    rw [fld_api_Record_Node]
    have hflat : (nodeC r.node.name r.node.cap mv tv r.node.closed).all flat = true := by
      simp only [nodeC, List.all_cons, List.all_nil, fm.1, ft.1]
      rfl
    refine st_store sz_api_Node h 0 rfl rfl rfl hflat ?_
    intro w5 h
    try simp only [go_sem] at h
    have h : St [] w [.blk q3 (recO { zRec with kind := r.kind, node := r.node } nilV nilV mv tv), .blk q2 (recO zRec nilV nilV nilV nilV), .blk q1 (recO r pv lv mv tv)] w5 := h
    exact fin (k := { zRec with kind := r.kind, node := r.node }) (by unfold keptM; rw [if_pos k1]) ⟨rfl, rfl, fm.1, ft.1⟩ (Row.nil _ _) (Row.nil _ _) hm ht h
  intro k1
  rw [xeql]
  refine xc_dec ?_ ?_
  · intro k2
    rw [fld_api_Record_Node, fld_api_Node_Name]
    refine st_load ag_string (v := S r.node.name) h 2 rfl rfl ?_
    rw [fld_api_Record_Node, fld_api_Node_Name]
    refine st_storeC sz_string h 0 rfl rfl rfl rfl ?_
    intro w5 h
    try simp only [go_sem] at h
    have h : St [] w [.blk q3 (recO { zRec with kind := r.kind, node := { zNode with name := r.node.name } } nilV nilV nilV nilV), .blk q2 (recO zRec nilV nilV nilV nilV), .blk q1 (recO r pv lv mv tv)] w5 := h
    exact fin (k := { zRec with kind := r.kind, node := { zNode with name := r.node.name } }) (by unfold keptM; rw [if_neg k1, if_pos k2]) ⟨rfl, rfl, rfl, rfl⟩ (Row.nil _ _) (Row.nil _ _) (Row.nil _ _) (Row.nil _ _) h
  intro k2
  rw [xeql]
  refine xc_dec ?_ ?_
  · intro k3
    have h := h.step (Ext.drew _)
    refine ⟨Chg [q3], Eq, preChg _, .pointer (some ⟨q1, 0 + 1, none⟩), fun w3 => by rw [fld_api_Record_Gang]; exact ⟨rfl, rfl⟩, .int .i64 r.gang, fun w3 e3 => st_load ag_int (St.mod h e3) 1 rfl rfl ⟨rfl, rfl⟩, .pointer (some ⟨q1, 0 + 2, none⟩), fun w3 => by rw [fld_api_Record_Peers]; exact ⟨rfl, rfl⟩, pv, fun w3 e3 => st_load ag_sl_int (St.mod h e3) 1 rfl rfl ⟨rfl, rfl⟩, .pointer (some ⟨q1, 0 + 3, none⟩), fun w3 => by rw [fld_api_Record_Places]; exact ⟨rfl, rfl⟩, lv, fun w3 e3 => st_load ag_sl_api_Place (St.mod h e3) 1 rfl rfl ⟨rfl, rfl⟩, .pointer (some ⟨q3, 0 + 1, none⟩), fun w3 => by rw [fld_api_Record_Gang]; exact ⟨rfl, rfl⟩, ?_⟩
    rintro w5 rfl
    refine st_storeCG sz_int h 0 rfl rfl rfl rfl ?_
    intro w6 hc h
    try simp only [go_sem] at h
    refine ⟨hc, .pointer (some ⟨q3, 0 + 2, none⟩), fun w3 => by rw [fld_api_Record_Peers]; exact ⟨rfl, rfl⟩, ?_⟩
    rintro w7 rfl
    refine st_storeCG sz_sl_int h 0 rfl fp.2 rfl fp.1 ?_
    intro w8 hc h
    try simp only [go_sem] at h
    refine ⟨hc, .pointer (some ⟨q3, 0 + 3, none⟩), fun w3 => by rw [fld_api_Record_Places]; exact ⟨rfl, rfl⟩, ?_⟩
    rintro w9 rfl
    refine st_storeC sz_sl_api_Place h 0 rfl fl.2 rfl fl.1 ?_
    intro w10 h
    try simp only [go_sem] at h
    have h : St [] w [.blk q3 (recO { zRec with kind := r.kind, gang := r.gang, peers := r.peers, places := r.places } pv lv nilV nilV), .blk q2 (recO zRec nilV nilV nilV nilV), .blk q1 (recO r pv lv mv tv)] w10 := h
    exact fin (k := { zRec with kind := r.kind, gang := r.gang, peers := r.peers, places := r.places }) (by unfold keptM; rw [if_neg k1, if_neg k2, if_pos k3]) ⟨fp.1, fl.1, rfl, rfl⟩ hp hl (Row.nil _ _) (Row.nil _ _) h
  intro k3
  rw [xeql]
  refine xc_dec ?_ ?_
  · intro k7
    have h := h.step (Ext.drew _)
    refine ⟨Chg [q3], Eq, preChg _, .pointer (some ⟨q1, 0 + 1, none⟩), fun w3 => by rw [fld_api_Record_Gang]; exact ⟨rfl, rfl⟩, .int .i64 r.gang, fun w3 e3 => st_load ag_int (St.mod h e3) 1 rfl rfl ⟨rfl, rfl⟩, .pointer (some ⟨q1, 0 + 2, none⟩), fun w3 => by rw [fld_api_Record_Peers]; exact ⟨rfl, rfl⟩, pv, fun w3 e3 => st_load ag_sl_int (St.mod h e3) 1 rfl rfl ⟨rfl, rfl⟩, .pointer (some ⟨q3, 0 + 1, none⟩), fun w3 => by rw [fld_api_Record_Gang]; exact ⟨rfl, rfl⟩, ?_⟩
    rintro w5 rfl
    refine st_storeCG sz_int h 0 rfl rfl rfl rfl ?_
    intro w6 hc h
    try simp only [go_sem] at h
    refine ⟨hc, .pointer (some ⟨q3, 0 + 2, none⟩), fun w3 => by rw [fld_api_Record_Peers]; exact ⟨rfl, rfl⟩, ?_⟩
    rintro w7 rfl
    refine st_storeC sz_sl_int h 0 rfl fp.2 rfl fp.1 ?_
    intro w8 h
    try simp only [go_sem] at h
    have h : St [] w [.blk q3 (recO { zRec with kind := r.kind, gang := r.gang, peers := r.peers } pv nilV nilV nilV), .blk q2 (recO zRec nilV nilV nilV nilV), .blk q1 (recO r pv lv mv tv)] w8 := h
    exact fin (k := { zRec with kind := r.kind, gang := r.gang, peers := r.peers }) (by unfold keptM; rw [if_neg k1, if_neg k2, if_neg k3, if_pos k7]) ⟨fp.1, rfl, rfl, rfl⟩ hp (Row.nil _ _) (Row.nil _ _) (Row.nil _ _) h
  intro k7
  rw [fld_api_Record_Gang]
  refine st_load ag_int (v := .int .i64 r.gang) h 2 rfl rfl ?_
  rw [fld_api_Record_Gang]
  refine st_storeC sz_int h 0 rfl rfl rfl rfl ?_
  intro w5 h
  try simp only [go_sem] at h
  have h : St [] w [.blk q3 (recO { zRec with kind := r.kind, gang := r.gang } nilV nilV nilV nilV), .blk q2 (recO zRec nilV nilV nilV nilV), .blk q1 (recO r pv lv mv tv)] w5 := h
  exact fin (k := { zRec with kind := r.kind, gang := r.gang }) (by unfold keptM; rw [if_neg k1, if_neg k2, if_neg k3, if_neg k7]) ⟨rfl, rfl, rfl, rfl⟩ (Row.nil _ _) (Row.nil _ _) (Row.nil _ _) (Row.nil _ _) h
theorem bare_iff (n : NodeM) : bareM n = true ↔ n = { zNode with name := n.name } := by
  obtain ⟨a, b, c, d, e⟩ := n
  unfold bareM
  simp only [Bool.and_eq_true, decide_eq_true_eq, Bool.not_eq_true', zNode, NodeM.mk.injEq, true_and]
  constructor
  · rintro ⟨⟨h1, h2⟩, h3⟩
    exact ⟨h1, List.eq_nil_of_length_eq_zero (by omega), List.eq_nil_of_length_eq_zero (by omega), h3⟩
  · rintro ⟨h1, rfl, rfl, h3⟩
    exact ⟨⟨h1, rfl⟩, h3⟩
theorem kept_iff {r : RecM} (h1 : 1 ≤ r.kind) (h7 : r.kind ≤ 7) : (!decide (r = keptM r)) = moreM r := by
  have key : (r = keptM r) ↔ moreM r = false := by
    obtain ⟨k, g, ps, pl, n⟩ := r
    simp only at h1 h7
    have hk : k = 1 ∨ k = 2 ∨ k = 3 ∨ k = 4 ∨ k = 5 ∨ k = 6 ∨ k = 7 := by omega
    have hb := bare_iff n
    have hn : n = zNode ↔ bareM n = true ∧ n.name = [] := by
      rw [hb]
      constructor
      · rintro rfl
        exact ⟨rfl, rfl⟩
      · rintro ⟨h, h2⟩
        rw [h, h2]
        rfl
    rcases hk with rfl | rfl | rfl | rfl | rfl | rfl | rfl
    · simp [keptM, moreM, zRec, gangsM, peeredI, and_assoc]
    · rw [show keptM ⟨2, g, ps, pl, n⟩ = ⟨2, 0, [], [], { zNode with name := n.name }⟩ from rfl, show moreM ⟨2, g, ps, pl, n⟩ = (if (decide (g ≠ 0) || !ps.isEmpty || !pl.isEmpty) = true then true else (!bareM n || false)) by simp [moreM, gangsM, peeredI]]
      rw [RecM.mk.injEq, ← hb]
      clear hb hn
      cases bareM n <;> by_cases hg : g = 0 <;> cases ps <;> cases pl <;> simp [hg]
    · rw [show keptM ⟨3, g, ps, pl, n⟩ = ⟨3, g, ps, pl, zNode⟩ from rfl, show moreM ⟨3, g, ps, pl, n⟩ = (!bareM n || decide (n.name ≠ [])) by simp [moreM, gangsM, peeredI]]
      rw [RecM.mk.injEq, hn]
      clear hb hn
      cases bareM n <;> simp
    · rw [show keptM ⟨4, g, ps, pl, n⟩ = ⟨4, g, [], [], zNode⟩ from rfl, show moreM ⟨4, g, ps, pl, n⟩ = (if (!ps.isEmpty || !pl.isEmpty) = true then true else (!bareM n || decide (n.name ≠ []))) by simp [moreM, gangsM, peeredI]]
      rw [RecM.mk.injEq, hn]
      clear hb hn
      cases bareM n <;> cases ps <;> cases pl <;> simp
    · rw [show keptM ⟨5, g, ps, pl, n⟩ = ⟨5, g, [], [], zNode⟩ from rfl, show moreM ⟨5, g, ps, pl, n⟩ = (if (!ps.isEmpty || !pl.isEmpty) = true then true else (!bareM n || decide (n.name ≠ []))) by simp [moreM, gangsM, peeredI]]
      rw [RecM.mk.injEq, hn]
      clear hb hn
      cases bareM n <;> cases ps <;> cases pl <;> simp
    · rw [show keptM ⟨6, g, ps, pl, n⟩ = ⟨6, g, [], [], zNode⟩ from rfl, show moreM ⟨6, g, ps, pl, n⟩ = (if (!ps.isEmpty || !pl.isEmpty) = true then true else (!bareM n || decide (n.name ≠ []))) by simp [moreM, gangsM, peeredI]]
      rw [RecM.mk.injEq, hn]
      clear hb hn
      cases bareM n <;> cases ps <;> cases pl <;> simp
    · rw [show keptM ⟨7, g, ps, pl, n⟩ = ⟨7, g, ps, [], zNode⟩ from rfl, show moreM ⟨7, g, ps, pl, n⟩ = (if (!pl.isEmpty) = true then true else (!bareM n || decide (n.name ≠ []))) by simp [moreM, gangsM, peeredI]]
      rw [RecM.mk.injEq, hn]
      clear hb hn
      cases bareM n <;> cases pl <;> simp
  cases hm : moreM r
  · rw [decide_eq_true (key.2 hm)]; rfl
  · rw [decide_eq_false fun h => by rw [key.1 h] at hm; cases hm]; rfl
end Go.Proofs.YthkgbajldkicfaaGreatDoor
