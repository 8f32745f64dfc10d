/-
  More steps: a store into a row that is owned; texts of bytes.
-/
import Derived.Test.YthkgbajldkicfaaGreatDoorXMem
import Derived.Laws.IdiomStrings
import Derived.Laws.Small
namespace Go.Jo
set_option linter.unusedVariables false
set_option linter.unusedSimpArgs false
open Go
/-- Where an element of a row lies, and what is there. -/
theorem Row.at {P : Program} {w : World} {t e : TypeId} {sz : Nat} {v : Value} {n i : Nat} {xs : List Value} {k : IntKind} (h : Row w sz v n xs) (ht : P.underlying t = some (.slice e)) (hs : ∀ w, (sizeOf e).run P w = .ok sz w) (hi : i < n) :
    ∃ b o, (∀ (w' : World) (K : Value → World → Prop), K (.pointer (some ⟨b, o, none⟩)) w' → XIdx P t v (.int k (i : Nat)) w' K) ∧ ∀ w', Ext w w' → ∀ j, j < sz → w'.cell? ⟨b, o + j, none⟩ = xs[i * sz + j]? := by
  obtain ⟨hl, a, cap, rfl, hc, h⟩ := h
  rcases h with h | ⟨b, o, rfl, h⟩
  · omega
  · refine ⟨b, o + i * sz, fun w' K hk => ?_, fun w' e j hj => ?_⟩
    · rw [xidx ht hs (by omega) (by omega), Int.toNat_natCast]
      exact hk
    · have hlt : i * sz + j < n * sz := calc i * sz + j < i * sz + sz := by omega
        _ = (i + 1) * sz := by rw [Nat.add_mul, Nat.one_mul]
        _ ≤ n * sz := Nat.mul_le_mul_right _ hi
      have h1 := h (i * sz + j) hlt
      rw [Nat.add_assoc]
      rw [List.getElem?_eq_getElem (by omega)] at h1 ⊢
      exact cell_ext e h1
theorem ext_upto {α : Type} {a b : List α} (hl : a.length = b.length) (h : ∀ j, j < a.length → a[j]? = b[j]?) : a = b := by
  apply List.ext_getElem?
  intro j
  by_cases hj : j < a.length
  · exact h j hj
  · rw [List.getElem?_eq_none (by omega), List.getElem?_eq_none (by omega)]
def lenI (n : Nat) (u : Value) : Nat := match u with | .int _ k => n - k.toNat | _ => 0
theorem lenI_eq (n i : Nat) (k : IntKind) : lenI n (.int k (i : Nat)) = n - i := by show n - ((i : Int)).toNat = _; rw [Int.toNat_natCast]
theorem lenI_succ {n i : Nat} {k k' : IntKind} (h : i < n) : lenI n (.int k ((i + 1 : Nat) : Int)) < lenI n (.int k' (i : Nat)) := by rw [lenI_eq, lenI_eq]; omega

section
variable {P : Program} {x : List Nat} {w0 w : World} {L : List Res}

theorem wu8 {n : Int} (h0 : 0 ≤ n) (h1 : n < 256) : IntKind.u8.wrap n = n := by unfold IntKind.wrap; simp [IntKind.bits, IntKind.signed]; omega
theorem st_bytes1 {s d e : TypeId} {b : Nat} {u : UInt8} {T : TypeId} {fz : Nat × Nat} {K : Value → World → Prop} (hs : P.underlying s = some (.slice e)) (he : P.underlying e = some (.int .u8)) (hd : P.underlying d = some .string)
    (h : St x w0 L w) (n : Nat) (hn : L[n]? = some (.blk b (.cells #[.int .u8 (u.toNat : Int)] T fz))) (hk : K (.string ⟨#[u]⟩) w) : XConv P s d (.slice (some ⟨b, 0, none⟩) 1 1) w K := by
  have e1 : XConv P s d (.slice (some ⟨b, 0, none⟩) 1 1) w K = XV P (convert s d (.slice (some ⟨b, 0, none⟩) 1 1)) w K := propext ⟨(·.h), (⟨·⟩)⟩
  rw [e1]
  have hr : (convert s d (.slice (some ⟨b, 0, none⟩) 1 1)).run P w = .ok (.string ⟨#[u]⟩) w := run_convert_bytes_back (P := P) w s d e ⟨b, 0, none⟩ 1 [u] hs he hd (fun j hj => by
    have hj : j = 0 := by simpa using hj
    subst hj
    rw [Addr.add_lit, cellx0 (h.at n hn)]
    rfl)
  rw [xv_ok hr]
  exact hk
theorem List.take_set_lt {α : Type} (l : List α) (n i : Nat) (a : α) : (l.set i a).take n = (l.take n).set i a := by
  induction l generalizing n i with
  | nil => simp
  | cons x l ih =>
    cases n with
    | zero => simp
    | succ n =>
      cases i with
      | zero => simp
      | succ i => simp [ih]
/-- A store into an element of a row. -/
theorem st_storeR {t e : TypeId} {sz b cap m o : Nat} {xs : List Value} {v : Value} {K : World → Prop} (hs : ∀ w, (sizeOf t).run P w = .ok 1 w) (h : St x w0 L w) (n : Nat) (hn : L[n]? = some (.row e sz (.slice (some ⟨b, 0, none⟩) m cap) m xs)) (hc : v.cells = #[v]) (h1 : v.oneCell' = true) (hf : flat v = true) (ho : o < m * sz)
    (hk : ∀ w', St x w0 (L.set n (.row e sz (.slice (some ⟨b, 0, none⟩) m cap) m (xs.set o v))) w' → K w') : XStore P t (.pointer (some ⟨b, o, none⟩)) v w K := by
  refine ⟨?_⟩
  obtain ⟨hl, hr⟩ := h.atR n hn
  rcases hr with ⟨hr, _⟩ | ⟨g, cap', cur, hv, h0, hg, hm, hmx, hsz, htk⟩
  · cases hr
  · injection hv with hv1 hv2 hv3
    injection hv1 with hv1
    injection hv1 with hv1
    subst hv1 hv3
    have hoc : o < cur.size := by
      have := Nat.mul_le_mul_right sz hm
      omega
    have h2 := run_store_put (P := P) (w := w) hg (o := o) hoc hf
    have hlt := (Array.getElem?_eq_some_iff.1 hg).1
    unfold XU
    have h3 : (Instr.storeAt t (.pointer (some ⟨b, o, none⟩)) v).run P w = .ok () (putO w b (.cells (cur.setIfInBounds o v) e)) := by
      simp only [Instr.storeAt, Instr.sureAddr, storeVar, Sem.run_bind, Sem.run_pure, Result.andThen_ok, hs, hc]
      unfold storeCells storeCells
      simp only [Sem.run_bind, Addr.add_lit, Nat.add_zero, h2, Result.andThen_ok]
      simp
      exact h2
    rw [h3]
    refine hk _ (h.turn hn (by simpa [Res.own, Value.ownBlock] using putO_chg w b _) ?_ fun k hk => .inl hk)
    refine ⟨by simpa using hl, .inr ⟨b, cap, cur.setIfInBounds o v, rfl, h0, ?_, hm, hmx, by simpa using hsz, ?_⟩⟩
    · rw [putO_heap, if_pos rfl, if_pos hlt]
    · rw [Array.toList_setIfInBounds, List.take_set_lt, htk]
/-- A cell of a row that is owned. -/
theorem St.cellR {n : Nat} {e : TypeId} {sz b cap m o : Nat} {xs : List Value} (h : St x w0 L w) (hn : L[n]? = some (.row e sz (.slice (some ⟨b, 0, none⟩) m cap) m xs)) (ho : o < m * sz) : w.cell? ⟨b, o, none⟩ = xs[o]? := (h.atR n hn).cellAt o ho
theorem xbeql {t : TypeId} (ht : P.underlying t = some .bool) (cx cy : Bool) (a b : Bool) (K : Value → World → Prop) : XBin P .eql t cx cy (.bool a) (.bool b) w K = K (.bool (decide (a = b))) w := xbin_v (by
  have hg : ∀ w, (eqGuard .eql t (fl cx) (fl cy) (.bool a) (.bool b)).run P w = .ok () w := fun w => by cases cx <;> cases cy <;> rfl
  simp only [Sem.run_bind, hg, Result.andThen_ok]
  rw [run_eql_bool w t a b ht, Bool.beq_eq_decide_eq])
end
end Go.Jo
