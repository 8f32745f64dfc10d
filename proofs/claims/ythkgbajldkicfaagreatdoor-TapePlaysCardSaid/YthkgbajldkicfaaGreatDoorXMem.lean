/-
  What a walk knows of its memory: what stood at its start stands; the blocks of its own, one by one.
-/
import Derived.Test.YthkgbajldkicfaaGreatDoorXLib
import Derived.Lib.RuneCount
namespace Go.Jo
set_option linter.unusedVariables false
set_option linter.unusedSimpArgs false
open Go

attribute [go_sem] xadd xsub xmul xeql xneq xlss xleq xgtr xgeq xseql xsneq xnot xc_true xc_false xpick_true xpick_false xnil_ptr xg_same xg_tf xg_ft xmin xmax

/-- All but some blocks stands. -/
structure Chg (x : List Nat) (w w' : World) : Prop where
  os : w'.os = w.os
  tape : w'.tape = w.tape
  output : w'.output = w.output
  size : w.heap.size ≤ w'.heap.size
  keep : ∀ k, k < w.heap.size → k ∉ x → w'.heap[k]? = w.heap[k]?
theorem Chg.refl (x : List Nat) (w : World) : Chg x w w := ⟨rfl, rfl, rfl, Nat.le_refl _, fun _ _ _ => rfl⟩
theorem Chg.trans {x : List Nat} {a b c : World} (h : Chg x a b) (k : Chg x b c) : Chg x a c :=
  ⟨k.os.trans h.os, k.tape.trans h.tape, k.output.trans h.output, Nat.le_trans h.size k.size, fun i hi hx => (k.keep i (Nat.lt_of_lt_of_le hi h.size) hx).trans (h.keep i hi hx)⟩
theorem Chg.mono {x y : List Nat} {a b : World} (h : Chg x a b) (hxy : ∀ k ∈ x, k ∈ y) : Chg y a b :=
  ⟨h.os, h.tape, h.output, h.size, fun i hi hx => h.keep i hi fun hh => hx (hxy i hh)⟩
theorem Chg.ext {a b : World} (h : Chg [] a b) : Ext a b := ⟨h.os, h.tape, h.output, h.size, fun i hi => h.keep i hi (by simp)⟩
theorem Chg.of_ext {x : List Nat} {a b : World} (h : Ext a b) : Chg x a b := ⟨h.os, h.tape, h.output, h.size, fun i hi _ => h.block i hi⟩

/-- A world with one block turned. -/
def putO (w : World) (b : Nat) (o : Obj) : World := { w with heap := w.heap.setIfInBounds b o }
theorem putO_heap (w : World) (b : Nat) (o : Obj) (k : Nat) : (putO w b o).heap[k]? = if b = k then (if b < w.heap.size then some o else none) else w.heap[k]? := by
  show (w.heap.setIfInBounds b o)[k]? = _
  rw [Array.getElem?_setIfInBounds]
theorem putO_size (w : World) (b : Nat) (o : Obj) : (putO w b o).heap.size = w.heap.size := by
  show (w.heap.setIfInBounds b o).size = _
  simp
theorem putO_chg (w : World) (b : Nat) (o : Obj) : Chg [b] w (putO w b o) :=
  ⟨rfl, rfl, rfl, by rw [putO_size]; exact Nat.le_refl _, fun k _ hk => by rw [putO_heap, if_neg (fun e => hk (by simp [e]))]⟩

/-- What a walk owns: a block, or a row that it may append to. -/
inductive Res where
  | blk (b : Nat) (o : Obj)
  | row (e : TypeId) (sz : Nat) (v : Value) (n : Nat) (xs : List Value)
def Res.own : Res → Option Nat
  | .blk b _ => some b
  | .row _ _ v _ _ => v.ownBlock
def Res.holds (w : World) : Res → Prop
  | .blk b o => w.heap[b]? = some o
  | .row e sz v n xs => w.ownsRow 0 e sz v n xs
/-- No block in common. -/
def Res.apart (a b : Res) : Prop := a.own = none ∨ a.own ≠ b.own
theorem ownsRow_base {w : World} {B B' : Nat} {e : TypeId} {sz : Nat} {v : Value} {n : Nat} {xs : List Value} (h : w.ownsRow B e sz v n xs) (hb : ∀ k, v.ownBlock = some k → B' ≤ k) : w.ownsRow B' e sz v n xs := by
  refine ⟨h.1, ?_⟩
  rcases h.2 with h | ⟨g, cap, cur, rfl, _, h2⟩
  · exact .inl h
  · exact .inr ⟨g, cap, cur, rfl, hb g rfl, h2⟩
theorem Res.holds_lt {w : World} {r : Res} (h : r.holds w) {k : Nat} (hk : r.own = some k) : k < w.heap.size := by
  cases r with
  | blk b o =>
    have : b = k := by injection hk
    subst this
    exact (Array.getElem?_eq_some_iff.1 h).1
  | row e sz v n xs => exact (World.ownsRow.lt h k hk).2
theorem Res.holds_keep {w w' : World} {r : Res} (h : r.holds w) (hk : ∀ k, r.own = some k → w'.heap[k]? = w.heap[k]?) : r.holds w' := by
  cases r with
  | blk b o => exact (hk b rfl).trans h
  | row e sz v n xs =>
    refine ⟨h.1, ?_⟩
    rcases h.2 with h | ⟨g, cap, cur, rfl, h1, h2, h3⟩
    · exact .inl h
    · exact .inr ⟨g, cap, cur, rfl, h1, (hk g rfl).trans h2, h3⟩

structure St (x : List Nat) (w0 : World) (L : List Res) (w : World) : Prop where
  chg : Chg x w0 w
  low : ∀ p ∈ L, ∀ k, p.own = some k → k ∈ x ∨ w0.heap.size ≤ k
  nd : L.Pairwise Res.apart
  has : ∀ p ∈ L, p.holds w
theorem St.start (w : World) : St [] w [] w := ⟨Chg.refl _ _, by simp, List.Pairwise.nil, by simp⟩
theorem St.startR {w : World} {b : Nat} {o : Obj} (h : w.heap[b]? = some o) : St [b] w [.blk b o] w :=
  ⟨Chg.refl _ _, fun p hp k hk => by
    have : p = .blk b o := by simpa using hp
    subst this
    left
    have : b = k := by injection hk
    simp [this], by simp, fun p hp => by
    have : p = .blk b o := by simpa using hp
    subst this
    exact h⟩
theorem St.ext {w0 w : World} {L : List Res} (h : St [] w0 L w) : Ext w0 w := h.chg.ext
theorem St.at {x : List Nat} {w0 w : World} {L : List Res} (h : St x w0 L w) (n : Nat) {b : Nat} {o : Obj} (hn : L[n]? = some (.blk b o)) : w.heap[b]? = some o :=
  h.has (.blk b o) (List.mem_of_getElem? hn)
theorem St.atR {x : List Nat} {w0 w : World} {L : List Res} (h : St x w0 L w) (n : Nat) {e : TypeId} {sz : Nat} {v : Value} {m : Nat} {xs : List Value} (hn : L[n]? = some (.row e sz v m xs)) : w.ownsRow 0 e sz v m xs :=
  h.has (.row e sz v m xs) (List.mem_of_getElem? hn)
/-- Behind something that leaves all as it was. -/
theorem St.step {x : List Nat} {w0 w w' : World} {L : List Res} (h : St x w0 L w) (e : Ext w w') : St x w0 L w' :=
  ⟨h.chg.trans (Chg.of_ext e), h.low, h.nd, fun p hp => Res.holds_keep (h.has p hp) fun k hk => e.block k (Res.holds_lt (h.has p hp) hk)⟩
/-- One more, that is new. -/
theorem St.add {x : List Nat} {w0 w w' : World} {L : List Res} {r : Res} (h : St x w0 L w) (e : Ext w w') (hr : r.holds w') (hn : ∀ k, r.own = some k → w.heap.size ≤ k) : St x w0 (r :: L) w' := by
  have h' := h.step e
  refine ⟨h'.chg, fun p hp k hk => ?_, List.pairwise_cons.2 ⟨fun p hp => ?_, h.nd⟩, fun p hp => ?_⟩
  · rcases List.mem_cons.1 hp with rfl | hp
    · exact Or.inr (Nat.le_trans h.chg.size (hn k hk))
    · exact h.low p hp k hk
  · unfold Res.apart
    cases ho : r.own with
    | none => exact .inl rfl
    | some k =>
      right
      intro e
      have := Res.holds_lt (h.has p hp) e.symm
      have := hn k ho
      omega
  · rcases List.mem_cons.1 hp with rfl | hp
    · exact hr
    · exact h'.has p hp
theorem St.new {x : List Nat} {w0 w : World} {L : List Res} (h : St x w0 L w) (o : Obj) : St x w0 (.blk w.heap.size o :: L) (w.alloc o) :=
  h.add (ext_alloc w o) (heap_new w o) fun k hk => by
    have : w.heap.size = k := by injection hk
    omega
/-- Behind something that turned one of them. -/
theorem St.turn {x : List Nat} {w0 w w' : World} {L : List Res} {r r' : Res} {n : Nat} (h : St x w0 L w) (hn : L[n]? = some r) (e : Chg r.own.toList w w') (ho : r'.holds w') (hf : ∀ k, r'.own = some k → r.own = some k ∨ w.heap.size ≤ k) : St x w0 (L.set n r') w' := by
  obtain ⟨hlt, hv⟩ := List.getElem?_eq_some_iff.1 hn
  have hm := List.mem_of_getElem? hn
  have keep : ∀ (i : Nat) (hi : i < L.length), i ≠ n → L[i].holds w' ∧ Res.apart L[i] r' ∧ Res.apart r' L[i] := fun i hi hne => by
    have hp := List.getElem_mem (l := L) (n := i) hi
    have hap : Res.apart L[i] r ∨ Res.apart r L[i] := by
      rcases Nat.lt_or_gt_of_ne hne with hl | hl
      · exact .inl (hv ▸ List.pairwise_iff_getElem.1 h.nd i n hi hlt hl)
      · exact .inr (hv ▸ List.pairwise_iff_getElem.1 h.nd n i hlt hi hl)
    have hne' : ∀ k, L[i].own = some k → r.own ≠ some k := fun k hk hr => by
      rcases hap with (ha | ha) | (ha | ha)
      · rw [ha] at hk; cases hk
      · exact ha (hk.trans hr.symm)
      · rw [ha] at hr; cases hr
      · exact ha (hr.trans hk.symm)
    have hno : ∀ k, L[i].own = some k → r'.own ≠ some k := fun k hk hr => by
      rcases hf k hr with h1 | h1
      · exact hne' k hk h1
      · have := Res.holds_lt (h.has _ hp) hk
        omega
    refine ⟨Res.holds_keep (h.has _ hp) fun k hk => e.keep k (Res.holds_lt (h.has _ hp) hk) fun hh => ?_, ?_, ?_⟩
    · cases hr : r.own with
      | none => rw [hr] at hh; simp at hh
      | some j =>
        rw [hr] at hh
        have : k = j := by simpa using hh
        exact hne' k hk (this ▸ hr)
    · unfold Res.apart
      cases hk : L[i].own with
      | none => exact .inl rfl
      | some k => exact .inr fun e => hno k hk e.symm
    · unfold Res.apart
      cases hk : r'.own with
      | none => exact .inl rfl
      | some k => exact .inr fun e => hno k e.symm hk
  refine ⟨⟨e.os.trans h.chg.os, e.tape.trans h.chg.tape, e.output.trans h.chg.output, Nat.le_trans h.chg.size e.size, fun k hk hx => ?_⟩, fun p hp k hk => ?_, ?_, fun p hp => ?_⟩
  · refine (e.keep k (Nat.lt_of_lt_of_le hk h.chg.size) fun hb => ?_).trans (h.chg.keep k hk hx)
    have hb : r.own = some k := by
      cases hr : r.own with
      | none => rw [hr] at hb; simp at hb
      | some j => rw [hr] at hb; simp at hb; rw [hb]
    rcases h.low _ hm k hb with hl | hl
    · exact hx hl
    · omega
  · obtain ⟨i, hi, hp⟩ := List.mem_iff_getElem.1 hp
    rw [List.getElem_set] at hp
    split at hp
    · subst hp
      rcases hf k hk with h1 | h1
      · exact h.low _ hm k h1
      · exact .inr (Nat.le_trans h.chg.size h1)
    · subst hp
      exact h.low _ (List.getElem_mem _) k hk
  · rw [List.pairwise_iff_getElem]
    intro i j hi hj hij
    rw [List.length_set] at hi hj
    rw [List.getElem_set, List.getElem_set]
    split
    · split
      · omega
      · exact (keep j hj (by omega)).2.2
    · split
      · exact (keep i hi (by omega)).2.1
      · exact List.pairwise_iff_getElem.1 h.nd i j hi hj hij
  · obtain ⟨i, hi, hp⟩ := List.mem_iff_getElem.1 hp
    rw [List.length_set] at hi
    rw [List.getElem_set] at hp
    split at hp
    · subst hp; exact ho
    · subst hp; exact (keep i hi (by omega)).1
theorem St.turnB {x : List Nat} {w0 w w' : World} {L : List Res} (h : St x w0 L w) {n b : Nat} {o o' : Obj} (hn : L[n]? = some (.blk b o)) (e : Chg [b] w w') (ho : w'.heap[b]? = some o') : St x w0 (L.set n (.blk b o')) w' :=
  h.turn hn e ho fun _ hk => .inl hk
theorem St.put {x : List Nat} {w0 w : World} {L : List Res} (h : St x w0 L w) {n b : Nat} {o : Obj} (hn : L[n]? = some (.blk b o)) (o' : Obj) : St x w0 (L.set n (.blk b o')) (putO w b o') :=
  h.turnB hn (putO_chg w b o') (by rw [putO_heap, if_pos rfl, if_pos (Array.getElem?_eq_some_iff.1 (h.at n hn)).1])
/-- What is owned may be forgotten. -/
theorem St.drop {x : List Nat} {w0 w : World} {L : List Res} {p : Res} (h : St x w0 (p :: L) w) : St x w0 L w :=
  ⟨h.chg, fun q hq => h.low q (List.mem_cons_of_mem _ hq), (List.pairwise_cons.1 h.nd).2, fun q hq => h.has q (List.mem_cons_of_mem _ hq)⟩
theorem St.nil {x : List Nat} {w0 w : World} {L : List Res} (h : St x w0 L w) : St x w0 [] w := ⟨h.chg, by simp, List.Pairwise.nil, by simp⟩
/-- A block whose cells are all a row's. -/
theorem St.asRow {x : List Nat} {w0 w : World} {L : List Res} (h : St x w0 L w) (n : Nat) {b k sz : Nat} {cs : Array Value} {e : TypeId} (hn : L[n]? = some (.blk b (.cells cs e (0, 0)))) (hk : k ≤ maxLen) (hs : cs.size = k * sz) : St x w0 (L.set n (.row e sz (.slice (some ⟨b, 0, none⟩) k k) k cs.toList)) w := by
  refine h.turn hn (Chg.refl _ _) ?_ fun j hj => .inl hj
  exact ⟨by simpa using hs, .inr ⟨b, k, cs, rfl, Nat.zero_le _, h.at n hn, Nat.le_refl _, hk, hs, List.take_of_length_le (by rw [Array.length_toList, hs]; exact Nat.le_refl _)⟩⟩
theorem St.row0 {x : List Nat} {w0 w : World} {L : List Res} (h : St x w0 L w) (e : TypeId) (sz : Nat) : St x w0 (.row e sz (.slice none 0 0) 0 [] :: L) w :=
  h.add (Ext.refl w) (World.ownsRow_nil w 0 e sz) fun k hk => by cases hk

theorem St.fresh {w0 w : World} {L : List Res} {b : Nat} {o : Obj} {r : Res} (h : St [b] w0 (r :: L) w) (n : Nat) (hn : L[n]? = some (.blk b o)) : ∀ k, r.own = some k → w0.heap.size ≤ k := fun k hk => by
  rcases h.low r (by simp) k hk with hx | hx
  · have hb : k = b := by simpa using hx
    subst hb
    rcases (List.pairwise_cons.1 h.nd).1 _ (List.mem_of_getElem? hn) with ha | ha
    · rw [hk] at ha; cases ha
    · exact absurd hk ha
  · exact hx

theorem St.freshA {w0 w : World} {rs : List Res} {b : Nat} {o : Obj} (h : St [b] w0 (rs ++ [.blk b o]) w) : ∀ r ∈ rs, ∀ k, r.own = some k → w0.heap.size ≤ k := fun r hr k hk => by
  rcases h.low r (by simp [hr]) k hk with hx | hx
  · have hb : k = b := by simpa using hx
    subst hb
    rcases (List.pairwise_append.1 h.nd).2.2 r hr _ (List.mem_singleton.2 rfl) with ha | ha
    · rw [hk] at ha; cases ha
    · exact absurd hk ha
  · exact hx
theorem St.joinA {x : List Nat} {w0 w w' : World} {L rs : List Res} (h : St x w0 L w') (hs : w0.heap.size ≤ w.heap.size) (hL : ∀ p ∈ L, ∀ k, p.own = some k → k < w.heap.size) (hf : ∀ r ∈ rs, ∀ k, r.own = some k → w.heap.size ≤ k) (hnd : rs.Pairwise Res.apart) (hh : ∀ r ∈ rs, r.holds w') : St x w0 (rs ++ L) w' := by
  refine ⟨h.chg, fun p hp k hk => ?_, List.pairwise_append.2 ⟨hnd, h.nd, fun r hr p hp => ?_⟩, fun p hp => ?_⟩
  · rcases List.mem_append.1 hp with hp | hp
    · exact .inr (Nat.le_trans hs (hf p hp k hk))
    · exact h.low p hp k hk
  · unfold Res.apart
    cases ho : r.own with
    | none => exact .inl rfl
    | some k =>
      right
      intro e
      have := hL p hp k e.symm
      have := hf r hr k ho
      omega
  · rcases List.mem_append.1 hp with hp | hp
    · exact hh p hp
    · exact h.has p hp
/-- Behind a call that turned one block, and handed back rows that are new. -/
theorem St.merge {x : List Nat} {w0 w w' : World} {L rs : List Res} {n b : Nat} {o o' : Obj} (h : St x w0 L w) (hn : L[n]? = some (.blk b o)) (k : St [b] w (rs ++ [.blk b o']) w') : St x w0 (rs ++ L.set n (.blk b o')) w' := by
  refine St.joinA (w := w) (h.turnB hn k.chg (k.has (.blk b o') (by simp))) h.chg.size (fun p hp j hj => ?_) k.freshA (List.pairwise_append.1 k.nd).1 fun r hr => k.has r (by simp [hr])
  have hb := Res.holds_lt (h.has _ (List.mem_of_getElem? hn)) (k := b) rfl
  rcases List.mem_or_eq_of_mem_set hp with hp | rfl
  · exact Res.holds_lt (h.has p hp) hj
  · have : b = j := by injection hj
    omega
/-- Behind a call that handed back rows that are new. -/
theorem St.mergeE {x : List Nat} {w0 w w' : World} {L rs : List Res} (h : St x w0 L w) (k : St [] w rs w') : St x w0 (rs ++ L) w' :=
  St.joinA (w := w) (h.step k.ext) h.chg.size (fun p hp j hj => Res.holds_lt (h.has p hp) hj) (fun r hr j hj => (k.low r hr j hj).resolve_left (by simp)) k.nd k.has
theorem Res.apart_symm {a b : Res} (h : Res.apart a b) : Res.apart b a := by
  rcases h with h | h
  · cases hb : b.own with
    | none => exact .inl hb
    | some k => exact .inr (by rw [hb, h]; simp)
  · exact .inr (Ne.symm h)
/-- Some of what is owned, in any order. -/
theorem St.pick {x : List Nat} {w0 w : World} {L L' : List Res} (h : St x w0 L w) (is : List Nat) (hn : is.Nodup) (hL : is.filterMap (fun i => L[i]?) = L') : St x w0 L' w := by
  subst hL
  refine ⟨h.chg, fun p hp => ?_, ?_, fun p hp => ?_⟩
  · obtain ⟨i, _, hi⟩ := List.mem_filterMap.1 hp
    exact h.low p (List.mem_of_getElem? hi)
  · rw [List.pairwise_filterMap]
    refine hn.imp fun {i j} hij a ha b hb => ?_
    obtain ⟨hi, ei⟩ := List.getElem?_eq_some_iff.1 ha
    obtain ⟨hj, ej⟩ := List.getElem?_eq_some_iff.1 hb
    rcases Nat.lt_or_gt_of_ne hij with hlt | hlt
    · exact ei ▸ ej ▸ List.pairwise_iff_getElem.1 h.nd i j hi hj hlt
    · exact Res.apart_symm (ei ▸ ej ▸ List.pairwise_iff_getElem.1 h.nd j i hj hi hlt)
  · obtain ⟨i, _, hi⟩ := List.mem_filterMap.1 hp
    exact h.has p (List.mem_of_getElem? hi)
/-- In another order. -/
theorem St.perm {x : List Nat} {w0 w : World} {L L' : List Res} (h : St x w0 L w) (hp : L'.Sublist L) : St x w0 L' w :=
  ⟨h.chg, fun p hq => h.low p (hp.subset hq), h.nd.sublist hp, fun p hq => h.has p (hp.subset hq)⟩

section
variable {P : Program} {x : List Nat} {w0 w : World} {L : List Res}

theorem st_box {t : TypeId} {v : Value} {K : Value → World → Prop} (h : St x w0 L w) (hk : ∀ (b : Nat) (w' : World), w0.heap.size ≤ b → St x w0 (.blk b (.cells v.cells t) :: L) w' → K (.pointer (some ⟨b, 0, none⟩)) w') : XBox P t v w K := by
  rw [xbox]
  exact hk _ _ h.chg.size (h.new _)
theorem st_alloc {t : TypeId} {z : Value} {K : Value → World → Prop} (hz : ∀ w, (zeroValue t).run P w = .ok z w) (h : St x w0 L w) (hk : ∀ (b : Nat) (w' : World), w0.heap.size ≤ b → St x w0 (.blk b (.cells z.cells t) :: L) w' → K (.pointer (some ⟨b, 0, none⟩)) w') : XAlloc P t w K := by
  rw [xalloc hz]
  exact hk _ _ h.chg.size (h.new _)
/-- One of a list. -/
def nthV : List Value → Nat → Option Value
  | [], _ => none
  | v :: _, 0 => some v
  | _ :: l, n + 1 => nthV l n
theorem nthV_eq : ∀ (l : List Value) (n : Nat), nthV l n = l[n]?
  | [], _ => by simp [nthV]
  | v :: _, 0 => by simp [nthV]
  | _ :: l, n + 1 => by simp [nthV, nthV_eq l n]
theorem st_load {t : TypeId} {b o : Nat} {cs : Array Value} {T : TypeId} {fz : Nat × Nat} {v : Value} {K : Value → World → Prop} (ha : ∀ w, (isAgg t).run P w = .ok false w) (h : St x w0 L w) (n : Nat) (hn : L[n]? = some (.blk b (.cells cs T fz))) (hv : nthV cs.toList o = some v) (hk : K v w) : XLoad P t (.pointer (some ⟨b, o, none⟩)) w K := by
  have hv : cs[o]? = some v := by rw [← hv, nthV_eq]; simp
  rw [load1 ha, cellx0 (h.at n hn), hv]
  exact hk
theorem rowsAt_block {b : Nat} {cs : Array Value} {T : TypeId} {fz : Nat × Nat} (hb : w.heap[b]? = some (.cells cs T fz)) (o : Nat) : ∀ (m i : Nat), o + i + m ≤ cs.size → rowsAt w ⟨b, o, none⟩ m i = some ((cs.toList.drop (o + i)).take m)
  | 0, i, _ => by simp [rowsAt]
  | m + 1, i, hm => by
    unfold rowsAt
    rw [Addr.add_lit, cellx0 hb]
    have hlt : o + i < cs.size := by omega
    rw [Array.getElem?_eq_getElem hlt]
    simp only
    rw [rowsAt_block hb o m (i + 1) (by omega)]
    simp only [Option.map_some]
    congr 1
    rw [List.drop_eq_getElem_cons (i := o + i) (by simpa using hlt), List.take_succ_cons]
    simp [Nat.add_assoc]
theorem st_loadN {t : TypeId} {m : Nat} {b o : Nat} {cs : Array Value} {T : TypeId} {fz : Nat × Nat} {vs : List Value} {K : Value → World → Prop} (ha : ∀ w, (isAgg t).run P w = .ok true w) (hs : ∀ w, (sizeOf t).run P w = .ok m w) (h : St x w0 L w) (n : Nat) (hn : L[n]? = some (.blk b (.cells cs T fz))) (ho : Nat.ble (o + m) cs.size = true) (hv : (cs.toList.drop o).take m = vs) (hk : K (.agg vs.toArray) w) : XLoad P t (.pointer (some ⟨b, o, none⟩)) w K := by
  rw [loadN ha hs, rowsAt_block (h.at n hn) o m 0 (Nat.le_of_ble_eq_true ho)]
  simp only [Nat.add_zero]
  rw [hv]
  exact hk

theorem st_loadW {t : TypeId} {m : Nat} {b : Nat} {cs : Array Value} {T : TypeId} {fz : Nat × Nat} {K : Value → World → Prop} (ha : ∀ w, (isAgg t).run P w = .ok true w) (hs : ∀ w, (sizeOf t).run P w = .ok m w) (h : St x w0 L w) (n : Nat) (hn : L[n]? = some (.blk b (.cells cs T fz))) (ho : cs.size = m) (hk : K (.agg cs) w) : XLoad P t (.pointer (some ⟨b, 0, none⟩)) w K := by
  subst ho
  refine st_loadN ha hs h n hn (by simp) (vs := cs.toList) (by simp [List.take_of_length_le]) ?_
  simpa using hk
/-- A value of one cell. -/
def flat : Value → Bool
  | .agg _ | .tuple _ => false
  | _ => true
def setRow (cs : Array Value) (o : Nat) : List Value → Array Value
  | [] => cs
  | v :: vs => setRow (cs.setIfInBounds o v) (o + 1) vs
section norm
@[go_sem] theorem cells_string (s : ByteArray) : (Value.string s).cells = #[.string s] := rfl
@[go_sem] theorem cells_int (k : IntKind) (n : Int) : (Value.int k n).cells = #[.int k n] := rfl
@[go_sem] theorem cells_bool (b : Bool) : (Value.bool b).cells = #[.bool b] := rfl
@[go_sem] theorem cells_slice (a : Option Addr) (n c : Nat) : (Value.slice a n c).cells = #[.slice a n c] := rfl
@[go_sem] theorem cells_pointer (a : Option Addr) : (Value.pointer a).cells = #[.pointer a] := rfl
@[go_sem] theorem cells_agg (a : Array Value) : (Value.agg a).cells = a := rfl
@[go_sem] theorem setRow_nil (cs : Array Value) (o : Nat) : setRow cs o [] = cs := rfl
@[go_sem] theorem setRow_cons (cs : Array Value) (o : Nat) (v : Value) (vs : List Value) : setRow cs o (v :: vs) = setRow (cs.setIfInBounds o v) (o + 1) vs := rfl
attribute [go_sem] List.set_cons_zero List.set_cons_succ List.setIfInBounds_toArray List.toList_toArray Nat.zero_add Nat.reduceAdd
end norm
theorem run_store_put {b o : Nat} {cs : Array Value} {T : TypeId} {v : Value} (hb : w.heap[b]? = some (.cells cs T (0, 0))) (ho : o < cs.size) (hf : flat v = true) : (store ⟨b, o, none⟩ v).run P w = .ok () (putO w b (.cells (cs.setIfInBounds o v) T)) := by
  have hc : w.cell? ⟨b, o, none⟩ = some cs[o] := by rw [cellx0 hb, Array.getElem?_eq_getElem ho]
  have hz := frozenx0 hb o
  have hlt := (Array.getElem?_eq_some_iff.1 hb).1
  have hw : w.setCell ⟨b, o, none⟩ v = putO w b (.cells (cs.setIfInBounds o v) T) := by
    unfold World.setCell putO
    congr 1
    apply Array.ext_getElem?
    intro i
    rw [Array.getElem?_modify, Array.getElem?_setIfInBounds]
    by_cases hi : b = i
    · subst hi
      rw [hb, if_pos rfl, if_pos rfl, if_pos hlt]
      rfl
    · rw [if_neg hi, if_neg hi]
  cases v <;> first | exact Bool.noConfusion hf | (unfold store; simp only [Sem.run, hc, hz]; rw [hw]; rfl)
theorem run_storeCells_put {b : Nat} {T : TypeId} (o : Nat) : ∀ (vs : List Value) (i : Nat) (cs : Array Value) (w : World), w.heap[b]? = some (.cells cs T (0, 0)) → o + i + vs.length ≤ cs.size → vs.all flat = true →
    ∃ w', (storeCells ⟨b, o, none⟩ vs i).run P w = .ok () w' ∧ w'.heap[b]? = some (.cells (setRow cs (o + i) vs) T) ∧ Chg [b] w w'
  | [], i, cs, w, hb, _, _ => ⟨w, rfl, hb, Chg.refl _ _⟩
  | v :: vs, i, cs, w, hb, ho, hf => by
    rw [List.all_cons, Bool.and_eq_true] at hf
    have ho' : o + i + (vs.length + 1) ≤ cs.size := ho
    have h1 := run_store_put (P := P) (w := w) hb (o := o + i) (by omega) hf.1
    have hlt := (Array.getElem?_eq_some_iff.1 hb).1
    obtain ⟨w', h2, h3, h4⟩ := run_storeCells_put o vs (i + 1) (cs.setIfInBounds (o + i) v) (putO w b (.cells (cs.setIfInBounds (o + i) v) T)) (by rw [putO_heap, if_pos rfl, if_pos hlt]) (by simp; omega) hf.2
    refine ⟨w', ?_, h3, (putO_chg w b _).trans h4⟩
    unfold storeCells
    simp only [Sem.run_bind, Addr.add_lit, h1, Result.andThen_ok, h2]
theorem st_store {t : TypeId} {m : Nat} {b o : Nat} {cs : Array Value} {T : TypeId} {v : Value} {K : World → Prop} (hs : ∀ w, (sizeOf t).run P w = .ok m w) (h : St x w0 L w) (n : Nat) (hn : L[n]? = some (.blk b (.cells cs T (0, 0)))) (hm : v.cells.size = m) (ho : Nat.ble (o + m) cs.size = true) (hf : v.cells.toList.all flat = true)
    (hk : ∀ w', St x w0 (L.set n (.blk b (.cells (setRow cs o v.cells.toList) T (0, 0)))) w' → K w') : XStore P t (.pointer (some ⟨b, o, none⟩)) v w K := by
  refine ⟨?_⟩
  obtain ⟨w', h2, h3, h4⟩ := run_storeCells_put (P := P) o v.cells.toList 0 cs w (h.at n hn) (by have := Nat.le_of_ble_eq_true ho; simp [hm]; omega) hf
  unfold XU
  have : (Instr.storeAt t (.pointer (some ⟨b, o, none⟩)) v).run P w = .ok () w' := by
    simp only [Instr.storeAt, Instr.sureAddr, storeVar, Sem.run_bind, Sem.run_pure, Result.andThen_ok, hs, hm]
    simpa using h2
  rw [this]
  exact hk _ (h.turnB hn h4 (by simpa using h3))

theorem st_storeC {t : TypeId} {b o : Nat} {cs : Array Value} {T : TypeId} {v : Value} {K : World → Prop} (hs : ∀ w, (sizeOf t).run P w = .ok 1 w) (h : St x w0 L w) (n : Nat) (hn : L[n]? = some (.blk b (.cells cs T (0, 0)))) (hc : v.cells = #[v]) (ho : Nat.ble (o + 1) cs.size = true) (hf : flat v = true)
    (hk : ∀ w', St x w0 (L.set n (.blk b (.cells (cs.setIfInBounds o v) T (0, 0)))) w' → K w') : XStore P t (.pointer (some ⟨b, o, none⟩)) v w K := by
  refine st_store hs h n hn (by rw [hc]; rfl) ho (by rw [hc]; simp [hf]) fun w' h' => hk w' ?_
  rw [hc] at h'
  exact h'

/-! ### Appending -/
theorem st_append {t ty e : TypeId} {i : TypeInfo} {z : Value} {sz bytes : Nat} {K : Value → World → Prop} (ht : P.underlying t = some (.slice e)) (hi : P.info? e = some i) (hz : i.zero = some z) (hsize : i.size = sz) (hby : i.bytes = bytes) (hzs : z.cells.size = sz) (hsz : 0 < sz)
    (h : St x w0 L w) (n : Nat) {v : Value} {m : Nat} {xs : List Value} (hn : L[n]? = some (.row e sz v m xs)) {a : Addr} {k c : Nat} (news : List Value) (hl : news.length = k * sz) (hnews : ∀ j u, news[j]? = some u → w.cell? (a.add j) = some u) (h1 : ∀ u ∈ news, u.oneCell' = true)
    (hb : m + k ≤ maxLen) (hbytes : (m + k) * bytes ≤ 140737488355328)
    (hk : ∀ v' w', St x w0 (L.set n (.row e sz v' (m + k) (xs ++ news))) w' → K v' w') : XB P .append #[t, t] ty #[v, .slice (some a) k c] w K := by
  have hr := h.atR n hn
  obtain ⟨v', w', h2, h3, h4, h5⟩ := run_append_own (P := P) w 0 t ty e i z sz bytes ht hi hz hsize hby hzs hsz v m xs hr a k c news hl hnews h1 hb hbytes (Nat.zero_le _)
  have h6 : XB P .append #[t, t] ty #[v, .slice (some a) k c] w K = K v' w' := xb_v (by simp [builtin, h2])
  rw [h6]
  refine hk v' w' (h.turn hn ⟨h4.os, h4.tape, h4.output, h4.size, fun j hj hx => h4.block j hj fun e => ?_⟩ h3 fun j hj => ?_)
  · have : v.ownBlock = some j := e.symm
    exact hx (by show j ∈ v.ownBlock.toList; rw [this]; simp)
  · show v.ownBlock = some j ∨ w.heap.size ≤ j
    rcases hr.2 with ⟨rfl, rfl⟩ | ⟨g, cap, cur, rfl, _, hg, hnc, hcm, hcs, htake⟩
    · by_cases hk0 : k = 0
      · have := h5.2 ⟨rfl, hk0⟩
        subst this
        cases hj
      · subst hsize
        have hr' := run_append_nil (P := P) w t ty e i z ht hi hz a k c news hl hnews (by omega) (by simp only [maxLen] at hb; omega) (by rw [hby]; have := hbytes; simp only [Nat.zero_add] at this; omega)
        rw [hr'] at h2
        injection h2 with h2 _
        subst h2
        injection hj with hj
        exact .inr (by simpa using Nat.le_of_eq hj)
    · by_cases hroom : m + k ≤ cap
      · obtain ⟨w2, h2', _⟩ := run_append_fits (P := P) w 0 t ty e i sz ht hi hsize g m cap xs hr a k c news hl hnews h1 hroom
        rw [h2'] at h2
        injection h2 with h2 _
        subst h2
        exact .inl hj
      · subst hsize
        have hr' := run_append_grow (P := P) w t ty e i z ht hi hz ⟨g, 0, none⟩ m cap xs hr.1 (hr.cells (g := g) rfl) a k c news hl hnews (by omega) (by simp only [maxLen] at hb; omega) (growslice_fits (by omega) (hby ▸ hbytes))
        rw [hr'] at h2
        injection h2 with h2 _
        subst h2
        injection hj with hj
        exact .inr (by simpa using Nat.le_of_eq hj)

theorem news_blk {b : Nat} {cs : Array Value} {T : TypeId} {fz : Nat × Nat} (hb : w.heap[b]? = some (.cells cs T fz)) : ∀ (j : Nat) (u : Value), cs.toList[j]? = some u → w.cell? ((⟨b, 0, none⟩ : Addr).add j) = some u := fun j u hj => by
  rw [Addr.add_lit, cellx0 hb]
  simpa using hj

/-! ### Building -/
theorem xbuild {t : TypeId} {ps : Array (Nat × Value)} {v : Value} {K : Value → World → Prop} (hr : ∀ w, (Instr.build t ps).run P w = .ok v w) : XBuild P t ps w K = K v w := by
  have e : XBuild P t ps w K = XV P (Instr.build t ps) w K := propext ⟨(·.h), (⟨·⟩)⟩
  rw [e]
  exact xv_ok (hr w)
theorem st_buildS {t e : TypeId} {n : Nat} {ps : Array (Nat × Value)} {cs : Array Value} {K : Value → World → Prop} (hr : ∀ w, (Instr.buildSlice t n ps).run P w = .ok (.slice (some ⟨w.heap.size, 0, none⟩) n n) (w.alloc (.cells cs e))) (h : St x w0 L w)
    (hk : ∀ b w', w0.heap.size ≤ b → St x w0 (.blk b (.cells cs e) :: L) w' → K (.slice (some ⟨b, 0, none⟩) n n) w') : XBuildS P t n ps w K := by
  have e : XBuildS P t n ps w K = XV P (Instr.buildSlice t n ps) w K := propext ⟨(·.h), (⟨·⟩)⟩
  rw [e, xv_ok (hr w)]
  exact hk _ _ h.chg.size (h.new _)
theorem st_buildSE {t e : TypeId} {n : Nat} {ps : Array (Nat × Value)} {cs : Array Value} {K : Value → World → Prop} (hr : ∀ w, (Instr.buildSlice t n ps).run P w = .ok (.slice (some ⟨w.heap.size, 0, none⟩) n n) (w.alloc (.cells cs e))) (h : St x w0 L w)
    (hk : ∀ b w', w0.heap.size ≤ b → Ext w w' → St x w0 (.blk b (.cells cs e) :: L) w' → K (.slice (some ⟨b, 0, none⟩) n n) w') : XBuildS P t n ps w K := by
  have e : XBuildS P t n ps w K = XV P (Instr.buildSlice t n ps) w K := propext ⟨(·.h), (⟨·⟩)⟩
  rw [e, xv_ok (hr w)]
  exact hk _ _ h.chg.size (ext_alloc w _) (h.new _)
theorem st_buildR {t e : TypeId} {n sz : Nat} {ps : Array (Nat × Value)} {cs : Array Value} {K : Value → World → Prop} (hr : ∀ w, (Instr.buildSlice t n ps).run P w = .ok (.slice (some ⟨w.heap.size, 0, none⟩) n n) (w.alloc (.cells cs e))) (hm : n ≤ maxLen) (hsz : cs.size = n * sz) (h : St x w0 L w)
    (hk : ∀ v w', St x w0 (.row e sz v n cs.toList :: L) w' → K v w') : XBuildS P t n ps w K := by
  have e : XBuildS P t n ps w K = XV P (Instr.buildSlice t n ps) w K := propext ⟨(·.h), (⟨·⟩)⟩
  rw [e, xv_ok (hr w)]
  exact hk _ _ (h.add (ext_alloc w _) (World.ownsRow_lit w cs n (Nat.zero_le _) hm hsz) fun k hk => by
    have : w.heap.size = k := by injection hk
    omega)

/-! ### Calls -/
/-- The call hands back that value; all that stood stands. -/
abbrev RetV (P : Program) (f : FuncId) (args : Array Value) (w : World) (v : Value) : Prop := Ret P f args w fun v' w' => v' = v ∧ Ext w w'
theorem st_call {f : FuncId} {args : Array Value} {Q : Value → World → Prop} {K : Value → World → Prop} (he : ∀ (args : Array Value) w, (callFunc f args).run P w = .ok (.enter f args) w) (hc : Ret P f args w fun v w' => Q v w' ∧ Ext w w') (h : St x w0 L w) (hk : ∀ v w', St x w0 L w' → Q v w' → K v w') : XCall P f args w K :=
  xcall_of (he args) hc fun v w' hq => hk v w' (h.step hq.2) hq.1
theorem st_callV {f : FuncId} {args : Array Value} {v : Value} {K : Value → World → Prop} (he : ∀ (args : Array Value) w, (callFunc f args).run P w = .ok (.enter f args) w) (hc : RetV P f args w v) (h : St x w0 L w) (hk : ∀ w', St x w0 L w' → K v w') : XCall P f args w K :=
  st_call he hc h fun _ w' h' hq => hq ▸ hk w' h'
/-- The call turns one block. -/
abbrev RetT (P : Program) (f : FuncId) (args : Array Value) (w : World) (b : Nat) (o : Obj) (v : Value) : Prop := Ret P f args w fun v' w' => v' = v ∧ Chg [b] w w' ∧ w'.heap[b]? = some o
theorem st_callT {f : FuncId} {args : Array Value} {b : Nat} {o o' : Obj} {v : Value} {K : Value → World → Prop} (he : ∀ (args : Array Value) w, (callFunc f args).run P w = .ok (.enter f args) w) (hc : RetT P f args w b o' v) (h : St x w0 L w) (n : Nat) (hn : L[n]? = some (.blk b o)) (hk : ∀ w', St x w0 (L.set n (.blk b o')) w' → K v w') : XCall P f args w K :=
  xcall_of (he args) hc fun _ w' hq => hq.1 ▸ hk w' (h.turnB hn hq.2.1 hq.2.2)

/-- The call hands back a row that is new. -/
abbrev RetR (P : Program) (f : FuncId) (args : Array Value) (w : World) (e : TypeId) (sz n : Nat) (xs : List Value) : Prop := Ret P f args w fun v' w' => Ext w w' ∧ w'.ownsRow w.heap.size e sz v' n xs
theorem st_callR {f : FuncId} {args : Array Value} {e : TypeId} {sz m : Nat} {xs : List Value} {K : Value → World → Prop} (he : ∀ (args : Array Value) w, (callFunc f args).run P w = .ok (.enter f args) w) (hc : RetR P f args w e sz m xs) (h : St x w0 L w) (hk : ∀ v w', St x w0 (.row e sz v m xs :: L) w' → K v w') : XCall P f args w K :=
  xcall_of (he args) hc fun v' w' hq => hk v' w' (h.add hq.1 (ownsRow_base hq.2 fun _ _ => Nat.zero_le _) fun k hk => (World.ownsRow.lt hq.2 k hk).1)
/-- The call turns one block, and hands back a row that is new. -/
abbrev RetTR (P : Program) (f : FuncId) (args : Array Value) (w : World) (b : Nat) (o : Obj) (e : TypeId) (sz n : Nat) (xs : List Value) : Prop := Ret P f args w fun v' w' => Chg [b] w w' ∧ w'.heap[b]? = some o ∧ w'.ownsRow w.heap.size e sz v' n xs
theorem St.cons {w' : World} {r : Res} (h : St x w0 L w') (hr : r.holds w') (hs : w0.heap.size ≤ w.heap.size) (hn : ∀ k, r.own = some k → w.heap.size ≤ k) (hL : ∀ p ∈ L, ∀ k, p.own = some k → k < w.heap.size) : St x w0 (r :: L) w' := by
  refine ⟨h.chg, fun p hp k hk => ?_, List.pairwise_cons.2 ⟨fun p hp => ?_, h.nd⟩, fun p hp => ?_⟩
  · rcases List.mem_cons.1 hp with rfl | hp
    · exact Or.inr (Nat.le_trans hs (hn k hk))
    · exact h.low p hp k hk
  · unfold Res.apart
    cases ho : r.own with
    | none => exact .inl rfl
    | some k =>
      right
      intro e
      have := hL p hp k e.symm
      have := hn k ho
      omega
  · rcases List.mem_cons.1 hp with rfl | hp
    · exact hr
    · exact h.has p hp
theorem st_callTR {f : FuncId} {args : Array Value} {b : Nat} {o o' : Obj} {e : TypeId} {sz m : Nat} {xs : List Value} {K : Value → World → Prop} (he : ∀ (args : Array Value) w, (callFunc f args).run P w = .ok (.enter f args) w) (hc : RetTR P f args w b o' e sz m xs) (h : St x w0 L w) (n : Nat) (hn : L[n]? = some (.blk b o)) (hk : ∀ v w', St x w0 (.row e sz v m xs :: L.set n (.blk b o')) w' → K v w') : XCall P f args w K :=
  xcall_of (he args) hc fun v' w' hq => hk v' w' (St.cons (w := w) (h.turnB hn hq.1 hq.2.1) (ownsRow_base hq.2.2 fun _ _ => Nat.zero_le _) h.chg.size (fun k hk => (World.ownsRow.lt hq.2.2 k hk).1) fun p hp k hk => by
    have hb := Res.holds_lt (h.has _ (List.mem_of_getElem? hn)) (k := b) rfl
    rcases List.mem_or_eq_of_mem_set hp with hp | rfl
    · exact Res.holds_lt (h.has p hp) hk
    · have : b = k := by injection hk
      omega)

/-- A call, what it leaves told by its own. -/
theorem st_callM {f : FuncId} {args : Array Value} {b : Nat} {o : Obj} {Q : Value → World → Prop} {K : Value → World → Prop} (he : ∀ (args : Array Value) w, (callFunc f args).run P w = .ok (.enter f args) w) (hc : Ret P f args w Q) (h : St x w0 L w) (n : Nat) (hn : L[n]? = some (.blk b o))
    (hk : ∀ v w', Q v w' → (∀ rs o', St [b] w (rs ++ [.blk b o']) w' → St x w0 (rs ++ L.set n (.blk b o')) w') → K v w') : XCall P f args w K :=
  xcall_of (he args) hc fun v' w' hq => hk v' w' hq fun _ _ k => h.merge hn k
theorem st_callE {f : FuncId} {args : Array Value} {Q : Value → World → Prop} {K : Value → World → Prop} (he : ∀ (args : Array Value) w, (callFunc f args).run P w = .ok (.enter f args) w) (hc : Ret P f args w Q) (h : St x w0 L w)
    (hk : ∀ v w', Q v w' → (∀ rs, St [] w rs w' → St x w0 (rs ++ L) w') → K v w') : XCall P f args w K :=
  xcall_of (he args) hc fun v' w' hq => hk v' w' hq fun _ k => h.mergeE k

/-! ### Signs that part -/
@[go_sem] theorem xg_undef (b : Bool) (p q : Prop) : XG undef b p q = q := propext ⟨fun h => h.no (by unfold undef; simp), fun h => ⟨fun h' => by unfold undef at h'; simp at h', fun _ => h⟩⟩
/-- Where an iteration stands. -/
def posOf (b : Nat) (w : World) : Nat := match w.heap[b]? with | some (.stringIter _ p) => p | _ => 0
theorem St.pos {b pos : Nat} {s : ByteArray} (h : St x w0 L w) (n : Nat) (hn : L[n]? = some (.blk b (.stringIter s pos))) : posOf b w = pos := by
  unfold posOf
  rw [h.at n hn]
theorem and_st {c : Bool} {A : (Value → World → Prop) → Prop} {K : Value → World → Prop} (h : St x w0 L w) (d : Bool) (hA : c = true → ∀ J : Value → World → Prop, (∀ w', St x w0 L w' → J (.bool d) w') → A J) (hK : ∀ w', St x w0 L w' → K (.bool (c && d)) w') :
    ∃ J : Value → World → Prop, (∀ (_ : Env) (u : Value) (w' : World), J u w' → XPick (.bool c) u (.bool false) fun q => K q w') ∧ XG (.bool c) true (A J) (J undef w) := by
  cases c
  · refine ⟨fun _ w' => St x w0 L w', fun _ u w' hw => ?_, ?_⟩
    · rw [xpick_false]; exact hK w' hw
    · rw [xg_ft]; exact h
  · refine ⟨fun u w' => u = .bool d ∧ St x w0 L w', fun _ u w' hw => ?_, ?_⟩
    · rw [xpick_true, hw.1]; exact hK w' hw.2
    · rw [xg_same]; exact hA rfl _ fun w' hw => ⟨rfl, hw⟩
theorem or_st {c : Bool} {A : (Value → World → Prop) → Prop} {K : Value → World → Prop} (h : St x w0 L w) (d : Bool) (hA : c = false → ∀ J : Value → World → Prop, (∀ w', St x w0 L w' → J (.bool d) w') → A J) (hK : ∀ w', St x w0 L w' → K (.bool (c || d)) w') :
    ∃ J : Value → World → Prop, (∀ (_ : Env) (u : Value) (w' : World), J u w' → XPick (.bool c) (.bool true) u fun q => K q w') ∧ XG (.bool c) false (A J) (J undef w) := by
  cases c
  · refine ⟨fun u w' => u = .bool d ∧ St x w0 L w', fun _ u w' hw => ?_, ?_⟩
    · rw [xpick_false, hw.1]; exact hK w' hw.2
    · rw [xg_same]; exact hA rfl _ fun w' hw => ⟨rfl, hw⟩
  · refine ⟨fun _ w' => St x w0 L w', fun _ u w' hw => ?_, ?_⟩
    · rw [xpick_true]; exact hK w' hw
    · rw [xg_tf]; exact h

/-! ### A string, rune by rune -/
theorem st_range {t : TypeId} {s : List UInt8} {K : Value → World → Prop} (ht : P.underlying t = some .string) (h : St x w0 L w) (hk : ∀ (b : Nat) (w' : World), w0.heap.size ≤ b → St x w0 (.blk b (.stringIter ⟨s.toArray⟩ 0) :: L) w' → K (.pointer (some ⟨b, 0, none⟩)) w') : XRange P t (S s) w K := by
  refine ⟨?_⟩
  unfold XV
  have : (Instr.range t (S s)).run P w = .ok (.pointer (some ⟨w.heap.size, 0, none⟩)) (w.alloc (.stringIter ⟨s.toArray⟩ 0)) := by
    simp [Instr.range, run_underlying ht]
  rw [this]
  exact hk _ _ h.chg.size (h.new _)
theorem st_next {b pos : Nat} {s : ByteArray} {ty : TypeId} {K : Value → World → Prop} (h : St x w0 L w) (n : Nat) (hn : L[n]? = some (.blk b (.stringIter s pos)))
    (hmore : pos < s.size → ∀ w', St x w0 (L.set n (.blk b (.stringIter s (pos + (Utf8.decode s pos).2)))) w' → K (.tuple #[.bool true, .int .i64 pos, .int .i32 (Utf8.decode s pos).1]) w')
    (hend : s.size ≤ pos → K (.tuple #[.bool false]) w) : XNext P (.pointer (some ⟨b, 0, none⟩)) true ty w K := by
  refine ⟨?_⟩
  unfold XV
  have hb := h.at n hn
  by_cases hp : pos < s.size
  · have : (Instr.next (.pointer (some ⟨b, 0, none⟩)) true ty).run P w = .ok (.tuple #[.bool true, .int .i64 pos, .int .i32 (Utf8.decode s pos).1]) (putO w b (.stringIter s (pos + (Utf8.decode s pos).2))) := by
      simp only [Instr.next, getObj, setObj, Sem.run_bind, Sem.run, hb, Result.andThen, hp, if_true]
      rfl
    rw [this]
    exact hmore hp _ (h.put hn _)
  · have : (Instr.next (.pointer (some ⟨b, 0, none⟩)) true ty).run P w = .ok (.tuple #[.bool false]) w := by
      simp only [Instr.next, getObj, Sem.run_bind, Sem.run, hb, Result.andThen, hp, if_false]
      rfl
    rw [this]
    exact hend (by omega)

/-! ### Numbers -/
theorem wi64 {n : Int} (h0 : -9223372036854775808 ≤ n) (h1 : n < 9223372036854775808) : IntKind.i64.wrap n = n := by rw [IntKind.wrap_i64]; omega
theorem wi32 {n : Int} (h0 : -2147483648 ≤ n) (h1 : n < 2147483648) : IntKind.i32.wrap n = n := by rw [IntKind.wrap_i32]; omega
theorem xconv_int {s d : TypeId} {k k' : IntKind} (hs : P.underlying s = some (.int k)) (hd : P.underlying d = some (.int k')) (n : Int) (K : Value → World → Prop) : XConv P s d (.int k n) w K = K (.int k' (k'.wrap n)) w := by
  have e : XConv P s d (.int k n) w K = XV P (convert s d (.int k n)) w K := propext ⟨(·.h), (⟨·⟩)⟩
  rw [e]
  refine xv_ok ?_
  simp [convert, run_underlying hs, run_underlying hd, Conv.intToInt]
theorem xix_str {t : TypeId} (ht : P.underlying t = some .string) (l : List UInt8) (k : IntKind) (i : Nat) (h : i < l.length) (K : Value → World → Prop) : XIx P t (S l) (.int k (i : Int)) w K = K (.int .u8 (l[i].toNat : Nat)) w := by
  have e : XIx P t (S l) (.int k (i : Int)) w K = XV P (Instr.index t (S l) (.int k (i : Int))) w K := propext ⟨(·.h), (⟨·⟩)⟩
  rw [e]
  refine xv_ok ?_
  have hg : (⟨l.toArray⟩ : ByteArray)[i]? = some l[i] := by
    have hz : i < (⟨l.toArray⟩ : ByteArray).size := by simpa [ByteArray.size] using h
    rw [getElem?_pos (⟨l.toArray⟩ : ByteArray) i hz]
    rfl
  simp [Instr.index, run_underlying ht, asIntOf, hg]

/-! ### Parts of tuples -/
section ext
variable (a b c : Value) (w : World) (K : Value → World → Prop)
@[go_sem] theorem xe10 : XExt P (.tuple #[a]) 0 w K = K a w := xext [a] 0 a rfl w K
@[go_sem] theorem xe20 : XExt P (.tuple #[a, b]) 0 w K = K a w := xext [a, b] 0 a rfl w K
@[go_sem] theorem xe21 : XExt P (.tuple #[a, b]) 1 w K = K b w := xext [a, b] 1 b rfl w K
@[go_sem] theorem xe30 : XExt P (.tuple #[a, b, c]) 0 w K = K a w := xext [a, b, c] 0 a rfl w K
@[go_sem] theorem xe31 : XExt P (.tuple #[a, b, c]) 1 w K = K b w := xext [a, b, c] 1 b rfl w K
@[go_sem] theorem xe32 : XExt P (.tuple #[a, b, c]) 2 w K = K c w := xext [a, b, c] 2 c rfl w K
end ext

/-! ### Rows that are read -/
/-- A slice of n elements, of sz cells each: what its cells hold. -/
def Row (w : World) (sz : Nat) (v : Value) (n : Nat) (xs : List Value) : Prop :=
  xs.length = n * sz ∧ ∃ a cap, v = .slice a n cap ∧ n ≤ cap ∧ (n = 0 ∨ ∃ b o, a = some ⟨b, o, none⟩ ∧ ∀ j, j < n * sz → w.cell? ⟨b, o + j, none⟩ = xs[j]?)
theorem Row.mono {w w' : World} {sz : Nat} {v : Value} {n : Nat} {xs : List Value} (h : Row w sz v n xs) (e : Ext w w') : Row w' sz v n xs := by
  obtain ⟨hl, a, cap, rfl, hc, h⟩ := h
  refine ⟨hl, a, cap, rfl, hc, ?_⟩
  rcases h with h | ⟨b, o, rfl, h⟩
  · exact .inl h
  · refine .inr ⟨b, o, rfl, fun j hj => ?_⟩
    have h1 := h j hj
    rw [List.getElem?_eq_getElem (by omega)] at h1 ⊢
    exact cell_ext e h1
theorem Row.of_own {w : World} {B : Nat} {e : TypeId} {sz : Nat} {v : Value} {n : Nat} {xs : List Value} (h : w.ownsRow B e sz v n xs) : Row w sz v n xs := by
  refine ⟨h.1, ?_⟩
  rcases h.2 with ⟨rfl, rfl⟩ | ⟨g, cap, cur, rfl, _, hg, hc, _⟩
  · exact ⟨none, 0, rfl, Nat.le_refl _, .inl rfl⟩
  · exact ⟨_, cap, rfl, hc, .inr ⟨g, 0, rfl, fun j hj => by rw [Nat.zero_add]; exact h.cellAt j hj⟩⟩
theorem Row.nil (w : World) (sz : Nat) : Row w sz (.slice none 0 0) 0 [] := ⟨by simp, none, 0, rfl, Nat.le_refl _, .inl rfl⟩
theorem Row.flat {w : World} {sz : Nat} {v : Value} {n : Nat} {xs : List Value} (h : Row w sz v n xs) : Go.Jo.flat v = true ∧ v.cells = #[v] := by
  obtain ⟨_, a, cap, rfl, _⟩ := h
  exact ⟨rfl, rfl⟩
theorem Row.len {w : World} {sz : Nat} {v : Value} {n : Nat} {xs : List Value} {t e ty : TypeId} {K : Value → World → Prop} {w' : World} (h : Row w sz v n xs) (ht : P.underlying t = some (.slice e)) (hk : K (.int .i64 (n : Nat)) w') : XB P .len #[t] ty #[v] w' K := by
  obtain ⟨_, a, cap, rfl, _⟩ := h
  rw [xlen_slice ht]
  exact hk
theorem Row.idx {t e : TypeId} {sz : Nat} {v : Value} {n i : Nat} {xs : List Value} {k : IntKind} {K : Value → World → Prop} (h : Row w sz v n xs) (ht : P.underlying t = some (.slice e)) (hs : ∀ w, (sizeOf e).run P w = .ok sz w) (hi : i < n)
    (hk : ∀ b o, (∀ j, j < sz → w.cell? ⟨b, o + j, none⟩ = xs[i * sz + j]?) → K (.pointer (some ⟨b, o, none⟩)) w) : XIdx P t v (.int k (i : Nat)) w K := by
  obtain ⟨hl, a, cap, rfl, hc, h⟩ := h
  rcases h with h | ⟨b, o, rfl, h⟩
  · omega
  · rw [xidx ht hs (by omega) (by omega), Int.toNat_natCast]
    refine hk b _ fun j hj => ?_
    rw [Nat.add_assoc]
    refine h _ ?_
    calc i * sz + j < i * sz + sz := by omega
      _ = (i + 1) * sz := by rw [Nat.add_mul, Nat.one_mul]
      _ ≤ n * sz := Nat.mul_le_mul_right _ hi
theorem ld_of {t : TypeId} {a : Addr} {v : Value} {K : Value → World → Prop} (ha : ∀ w, (isAgg t).run P w = .ok false w) (hc : w.cell? a = some v) (hk : K v w) : XLoad P t (.pointer (some a)) w K := by
  rw [load1 ha, hc]
  exact hk
theorem rowsAt_of {b o : Nat} : ∀ (m i : Nat) (vs : List Value), vs.length = m → (∀ j, j < m → w.cell? ⟨b, o + (i + j), none⟩ = vs[j]?) → rowsAt w ⟨b, o, none⟩ m i = some vs
  | 0, i, vs, hl, _ => by
    have : vs = [] := List.eq_nil_of_length_eq_zero hl
    subst this
    rfl
  | m + 1, i, vs, hl, h => by
    cases vs with
    | nil => simp at hl
    | cons v vs =>
      unfold rowsAt
      have h0 := h 0 (by omega)
      rw [Addr.add_lit]
      simp only [Nat.add_zero, List.getElem?_cons_zero] at h0
      rw [h0]
      simp only
      rw [rowsAt_of m (i + 1) vs (by simpa using hl) fun j hj => by
        have := h (j + 1) (by omega)
        rw [List.getElem?_cons_succ] at this
        rw [← this]
        congr 2
        omega]
      rfl
theorem ldN_of {t : TypeId} {m b o : Nat} {vs : List Value} {K : Value → World → Prop} (ha : ∀ w, (isAgg t).run P w = .ok true w) (hs : ∀ w, (sizeOf t).run P w = .ok m w) (hl : vs.length = m) (hc : ∀ j, j < m → w.cell? ⟨b, o + j, none⟩ = vs[j]?) (hk : K (.agg vs.toArray) w) : XLoad P t (.pointer (some ⟨b, o, none⟩)) w K := by
  rw [loadN ha hs, rowsAt_of m 0 vs hl fun j hj => by rw [Nat.zero_add]; exact hc j hj]
  exact hk
/-- A slice of a slice, from a place on. -/
theorem Row.fromE {t e : TypeId} {sz : Nat} {v : Value} {n i : Nat} {xs : List Value} {k : IntKind} (h : Row w sz v n xs) (ht : P.underlying t = some (.slice e)) (hs : ∀ w, (sizeOf e).run P w = .ok sz w) (hi : i ≤ n) :
    ∃ v', Row w sz v' (n - i) (xs.drop (i * sz)) ∧ ∀ (w' : World) (K : Value → World → Prop), K v' w' → XSlice P t v (some (.int k (i : Nat))) none none w' K := by
  obtain ⟨hl, a, cap, rfl, hc, h⟩ := h
  refine ⟨.slice (if cap = i then a else a.map (·.add (i * sz))) (n - i) (cap - i), ⟨by rw [List.length_drop, hl, Nat.sub_mul], _, _, rfl, by omega, ?_⟩, fun w' K hk => ?_⟩
  · rcases h with h | ⟨b, o, rfl, h⟩
    · exact .inl (by omega)
    · by_cases hc2 : cap = i
      · exact .inl (by omega)
      · refine .inr ⟨b, o + i * sz, by simp [hc2, Addr.add_lit], fun j hj => ?_⟩
        rw [Nat.add_assoc, List.getElem?_drop]
        refine h _ ?_
        rw [Nat.sub_mul] at hj
        have : i * sz ≤ n * sz := Nat.mul_le_mul_right _ hi
        omega
  · have e : XSlice P t (.slice a n cap) (some (.int k (i : Nat))) none none w' K = XV P (Instr.sliceAt t (.slice a n cap) (some (.int k (i : Nat))) none none) w' K := propext ⟨(·.h), (⟨·⟩)⟩
    rw [e]
    have hr : (Instr.sliceAt t (.slice a n cap) (some (.int k (i : Nat))) none none).run P w' = .ok (.slice (if cap = i then a else a.map (·.add (i * sz))) (n - i) (cap - i)) w' := by
      have h0 : (0 : Int) ≤ (i : Int) := by omega
      have h1 : (i : Int) ≤ (n : Int) := by omega
      simp [Instr.sliceAt, Instr.slice, run_underlying ht, Instr.sliceBounds, Instr.sliceBound, asIntOf, hs, hi]
    rw [xv_ok hr]
    exact hk
theorem preChg (x : List Nat) : Pre (Chg x) Eq := ⟨fun _ => rfl, Chg.trans, Eq.trans, fun h => h ▸ Chg.refl _ _⟩

/-! ### Pieces of strings -/
theorem extract_list (l : List UInt8) (a b : Nat) : (⟨l.toArray⟩ : ByteArray).extract a b = ⟨((l.take b).drop a).toArray⟩ := by
  apply ByteArray.ext
  rw [ByteArray.data_extract]
  apply Array.ext'
  simp [List.drop_take]
theorem xslice_to {t : TypeId} {s : List UInt8} {k : IntKind} {i : Int} {K : Value → World → Prop} (ht : P.underlying t = some .string) (h0 : 0 ≤ i) (h1 : i ≤ s.length) : XSlice P t (S s) none (some (.int k i)) none w K = K (S (s.take i.toNat)) w := by
  have e : XSlice P t (S s) none (some (.int k i)) none w K = XV P (Instr.sliceAt t (S s) none (some (.int k i)) none) w K := propext ⟨(·.h), (⟨·⟩)⟩
  rw [e]
  refine xv_ok ?_
  have hz : (⟨s.toArray⟩ : ByteArray).size = s.length := by simp [ByteArray.size]
  simp [Instr.sliceAt, Instr.slice, run_underlying ht, Instr.sliceBounds, Instr.sliceBound, asIntOf, hz, h0, h1, extract_list]
theorem xslice_from {t : TypeId} {s : List UInt8} {k : IntKind} {i : Int} {K : Value → World → Prop} (ht : P.underlying t = some .string) (h0 : 0 ≤ i) (h1 : i ≤ s.length) : XSlice P t (S s) (some (.int k i)) none none w K = K (S (s.drop i.toNat)) w := by
  have e : XSlice P t (S s) (some (.int k i)) none none w K = XV P (Instr.sliceAt t (S s) (some (.int k i)) none none) w K := propext ⟨(·.h), (⟨·⟩)⟩
  rw [e]
  refine xv_ok ?_
  have hz : (⟨s.toArray⟩ : ByteArray).size = s.length := by simp [ByteArray.size]
  simp [Instr.sliceAt, Instr.slice, run_underlying ht, Instr.sliceBounds, Instr.sliceBound, asIntOf, hz, h0, h1, extract_list]
end
end Go.Jo
