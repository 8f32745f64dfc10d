/-
  A call that works on some of what is owned, and what it leaves of it.
-/
import Derived.Test.YthkgbajldkicfaaGreatDoorXMem2
import Derived.Laws.Cover4
import Derived.Laws.MakeOwn
namespace Go.Jo
set_option linter.unusedVariables false
set_option linter.unusedSimpArgs false
open Go

/-- The blocks of what is owned. -/
def ownsL (A : List Res) : List Nat := A.filterMap Res.own
theorem mem_ownsL {A : List Res} {k : Nat} : k ∈ ownsL A ↔ ∃ p ∈ A, p.own = some k := List.mem_filterMap
/-- Some of what is owned, as a call finds it. -/
theorem St.sub {x : List Nat} {w0 w : World} {A L : List Res} (h : St x w0 (A ++ L) w) : St (ownsL A) w A w :=
  ⟨Chg.refl _ _, fun p hp k hk => .inl (mem_ownsL.2 ⟨p, hp, hk⟩), (List.pairwise_append.1 h.nd).1, fun p hp => h.has p (by simp [hp])⟩
/-- Behind a call that worked on some of what is owned. -/
theorem St.mergeA {x : List Nat} {w0 w w' : World} {A A' L : List Res} (h : St x w0 (A ++ L) w) (k : St (ownsL A) w A' w') : St x w0 (A' ++ L) w' := by
  obtain ⟨ndA, ndL, ndX⟩ := List.pairwise_append.1 h.nd
  have notA : ∀ q ∈ L, ∀ j, q.own = some j → j ∉ ownsL A := fun q hq j hj hm => by
    obtain ⟨p, hp, hpj⟩ := mem_ownsL.1 hm
    rcases ndX p hp q hq with e | e
    · rw [e] at hpj; cases hpj
    · exact e (hpj.trans hj.symm)
  refine ⟨⟨k.chg.os.trans h.chg.os, k.chg.tape.trans h.chg.tape, k.chg.output.trans h.chg.output, Nat.le_trans h.chg.size k.chg.size, fun i hi hx => ?_⟩, fun p hp j hj => ?_, List.pairwise_append.2 ⟨k.nd, ndL, fun p hp q hq => ?_⟩, fun p hp => ?_⟩
  · refine (k.chg.keep i (Nat.lt_of_lt_of_le hi h.chg.size) fun hm => ?_).trans (h.chg.keep i hi hx)
    obtain ⟨p, hp, hpj⟩ := mem_ownsL.1 hm
    rcases h.low p (by simp [hp]) i hpj with hl | hl
    · exact hx hl
    · omega
  · rcases List.mem_append.1 hp with hp | hp
    · rcases k.low p hp j hj with hl | hl
      · obtain ⟨q, hq, hqj⟩ := mem_ownsL.1 hl
        exact h.low q (by simp [hq]) j hqj
      · exact .inr (Nat.le_trans h.chg.size hl)
    · exact h.low p (by simp [hp]) j hj
  · unfold Res.apart
    cases ho : p.own with
    | none => exact .inl rfl
    | some j =>
      right
      intro e
      rcases k.low p hp j ho with hl | hl
      · exact notA q hq j e.symm hl
      · have := Res.holds_lt (h.has q (by simp [hq])) e.symm
        omega
  · rcases List.mem_append.1 hp with hp | hp
    · exact k.has p hp
    · exact Res.holds_keep (h.has p (by simp [hp])) fun j hj => k.chg.keep j (Res.holds_lt (h.has p (by simp [hp])) hj) (notA p hp j hj)
section
variable {P : Program} {x : List Nat} {w0 w : World} {L : List Res}
theorem st_callA {f : FuncId} {args : Array Value} {A : List Res} {Q : Value → World → Prop} {K : Value → World → Prop} (he : ∀ (args : Array Value) w, (callFunc f args).run P w = .ok (.enter f args) w) (h : St x w0 (A ++ L) w) (hc : St (ownsL A) w A w → Ret P f args w Q)
    (hk : ∀ v w', Q v w' → (∀ A', St (ownsL A) w A' w' → St x w0 (A' ++ L) w') → K v w') : XCall P f args w K :=
  xcall_of (he args) (hc h.sub) fun v' w' hq => hk v' w' hq fun _ k => h.mergeA k
/-- What was a row's beginning. -/
theorem own_take {B : Nat} {e : TypeId} {sz cap m n : Nat} {a : Option Addr} {xs : List Value} (h : w.ownsRow B e sz (.slice a m cap) m xs) (hn : n ≤ m) : w.ownsRow B e sz (.slice a n cap) n (xs.take (n * sz)) := by
  have hmul : n * sz ≤ m * sz := Nat.mul_le_mul_right _ hn
  refine ⟨by rw [List.length_take, h.1]; omega, ?_⟩
  rcases h.2 with ⟨hv, h0⟩ | ⟨g, cap', cur, hv, h0, hg, hm, hmx, hsz, htk⟩
  · subst h0
    have : n = 0 := by omega
    subst this
    exact .inl ⟨hv, rfl⟩
  · injection hv with h1 h2 h3
    subst h1 h3
    refine .inr ⟨g, cap, cur, rfl, h0, hg, by omega, hmx, hsz, ?_⟩
    rw [← htk, List.take_take, Nat.min_eq_left hmul]
theorem addr_add0 (a : Addr) (k : Nat) (hk : k = 0) : a.add k = a := by subst hk; cases a; simp [Addr.add]
/-- A slice up to a place. -/
theorem xslice_upto {t e : TypeId} {sz : Nat} {a : Option Addr} {n cap i : Nat} {k : IntKind} {K : Value → World → Prop} (ht : P.underlying t = some (.slice e)) (hs : ∀ w, (sizeOf e).run P w = .ok sz w) (hi : i ≤ n) (hn : n ≤ cap) (hk : K (.slice a i cap) w) : XSlice P t (.slice a n cap) none (some (.int k (i : Nat))) none w K := by
  have e1 : XSlice P t (.slice a n cap) none (some (.int k (i : Nat))) none w K = XV P (Instr.sliceAt t (.slice a n cap) none (some (.int k (i : Nat))) none) w K := propext ⟨(·.h), (⟨·⟩)⟩
  rw [e1]
  have hr : (Instr.sliceAt t (.slice a n cap) none (some (.int k (i : Nat))) none).run P w = .ok (.slice a i cap) w := by
    have h1 : i ≤ cap := by omega
    have h2 : (i : Int) ≤ (cap : Int) := by omega
    cases a with
    | none => simp [Instr.sliceAt, Instr.slice, run_underlying ht, Instr.sliceBounds, Instr.sliceBound, asIntOf, hs, h1, h2]
    | some a => simp [Instr.sliceAt, Instr.slice, run_underlying ht, Instr.sliceBounds, Instr.sliceBound, asIntOf, hs, h1, h2, addr_add0]
  rw [xv_ok hr]
  exact hk
/-- A slice up to a place, and no further: its capacity too. -/
theorem xslice_clip {t e : TypeId} {sz : Nat} {a : Option Addr} {n cap : Nat} {k : IntKind} {K : Value → World → Prop} (ht : P.underlying t = some (.slice e)) (hs : ∀ w, (sizeOf e).run P w = .ok sz w) (hn : n ≤ cap) (hk : K (.slice a n n) w) : XSlice P t (.slice a n cap) none (some (.int k (n : Nat))) (some (.int k (n : Nat))) w K := by
  have e1 : XSlice P t (.slice a n cap) none (some (.int k (n : Nat))) (some (.int k (n : Nat))) w K = XV P (Instr.sliceAt t (.slice a n cap) none (some (.int k (n : Nat))) (some (.int k (n : Nat)))) w K := propext ⟨(·.h), (⟨·⟩)⟩
  rw [e1]
  have hr : (Instr.sliceAt t (.slice a n cap) none (some (.int k (n : Nat))) (some (.int k (n : Nat)))).run P w = .ok (.slice a n n) w := by
    have h2 : (n : Int) ≤ (cap : Int) := by omega
    cases a with
    | none => simp [Instr.sliceAt, Instr.slice, run_underlying ht, Instr.sliceBounds, Instr.sliceBound, asIntOf, hs, hn, h2]
    | some a => simp [Instr.sliceAt, Instr.slice, run_underlying ht, Instr.sliceBounds, Instr.sliceBound, asIntOf, hs, hn, h2, addr_add0]
  rw [xv_ok hr]
  exact hk
theorem Row.take {sz n i : Nat} {v : Value} {xs : List Value} (h : Row w sz v n xs) (hi : i ≤ n) : ∃ a cap, v = .slice a n cap ∧ n ≤ cap ∧ Row w sz (.slice a i cap) i (xs.take (i * sz)) := by
  obtain ⟨hl, a, cap, rfl, hc, h⟩ := h
  have hmul : i * sz ≤ n * sz := Nat.mul_le_mul_right _ hi
  refine ⟨a, cap, rfl, hc, by rw [List.length_take, hl]; omega, a, cap, rfl, by omega, ?_⟩
  rcases h with h | ⟨b, o, rfl, h⟩
  · exact .inl (by omega)
  · refine .inr ⟨b, o, rfl, fun j hj => ?_⟩
    rw [h j (by omega), List.getElem?_take, if_pos hj]
theorem st_makeS {t e : TypeId} {i : TypeInfo} {z : Value} {sz bytes c : Nat} {kl kc : IntKind} {K : Value → World → Prop} (ht : P.underlying t = some (.slice e)) (hi : P.info? e = some i) (hz : i.zero = some z) (hsize : i.size = sz) (hby : i.bytes = bytes) (hb : bytes * c ≤ 281474976710656) (hm : c ≤ maxLen)
    (h : St x w0 L w) (hk : ∀ v w', St x w0 (.row e sz v 0 [] :: L) w' → K v w') : XMkS P t (.int kl 0) (.int kc (c : Nat)) w K := by
  refine ⟨?_⟩
  subst hsize
  have hr := run_make (P := P) w t e i z ht hi hz kl kc 0 c (Int.le_refl _) (by omega) (by
    have : ((bytes * c : Nat) : Int) ≤ 281474976710656 := by omega
    rw [hby]
    rwa [Int.natCast_mul] at this) (by simp only [maxLen] at hm; omega)
  simp only [Int.toNat_zero, Int.toNat_natCast] at hr
  unfold XV
  rw [hr]
  refine hk _ _ (h.add (ext_alloc w _) (World.ownsRow_made w _ c (Nat.zero_le _) hm (size_madeCells _ _)) fun k hk => ?_)
  have : w.heap.size = k := by injection hk
  omega
end
end Go.Jo
