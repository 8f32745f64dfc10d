/-
  More steps: a store into a row that is owned; texts of bytes.
-/
import Derived.Test.YthkgbajldkicfaaGreatDoorXMem
import Derived.Laws.IdiomStrings
import Derived.Laws.Small
namespace Go.Jo
set_option linter.unusedVariables false
set_option linter.unusedSimpArgs false
open Go
/-- Where an element of a row lies, and what is there. -/
theorem Row.at {P : Program} {w : World} {t e : TypeId} {sz : Nat} {v : Value} {n i : Nat} {xs : List Value} {k : IntKind} (h : Row w sz v n xs) (ht : P.underlying t = some (.slice e)) (hs : ∀ w, (sizeOf e).run P w = .ok sz w) (hi : i < n) :
    ∃ b o, (∀ (w' : World) (K : Value → World → Prop), K (.pointer (some ⟨b, o, none⟩)) w' → XIdx P t v (.int k (i : Nat)) w' K) ∧ ∀ w', Ext w w' → ∀ j, j < sz → w'.cell? ⟨b, o + j, none⟩ = xs[i * sz + j]? := by
  obtain ⟨hl, a, cap, rfl, hc, h⟩ := h
  rcases h with h | ⟨b, o, rfl, h⟩
  · omega
  · refine ⟨b, o + i * sz, fun w' K hk => ?_, fun w' e j hj => ?_⟩
    · rw [xidx ht hs (by omega) (by omega), Int.toNat_natCast]
      exact hk
    · have hlt : i * sz + j < n * sz := calc i * sz + j < i * sz + sz := by omega
        _ = (i + 1) * sz := by rw [Nat.add_mul, Nat.one_mul]
        _ ≤ n * sz := Nat.mul_le_mul_right _ hi
      have h1 := h (i * sz + j) hlt
      rw [Nat.add_assoc]
      rw [List.getElem?_eq_getElem (by omega)] at h1 ⊢
      exact cell_ext e h1
theorem ext_upto {α : Type} {a b : List α} (hl : a.length = b.length) (h : ∀ j, j < a.length → a[j]? = b[j]?) : a = b := by
  apply List.ext_getElem?
  intro j
  by_cases hj : j < a.length
  · exact h j hj
  · rw [List.getElem?_eq_none (by omega), List.getElem?_eq_none (by omega)]
def lenI (n : Nat) (u : Value) : Nat := match u with | .int _ k => n - k.toNat | _ => 0
theorem lenI_eq (n i : Nat) (k : IntKind) : lenI n (.int k (i : Nat)) = n - i := by show n - ((i : Int)).toNat = _; rw [Int.toNat_natCast]
theorem lenI_succ {n i : Nat} {k k' : IntKind} (h : i < n) : lenI n (.int k ((i + 1 : Nat) : Int)) < lenI n (.int k' (i : Nat)) := by rw [lenI_eq, lenI_eq]; omega

section
variable {P : Program} {x : List Nat} {w0 w : World} {L : List Res}

theorem wu8 {n : Int} (h0 : 0 ≤ n) (h1 : n < 256) : IntKind.u8.wrap n = n := by unfold IntKind.wrap; simp [IntKind.bits, IntKind.signed]; omega
theorem st_bytes1 {s d e : TypeId} {b : Nat} {u : UInt8} {T : TypeId} {fz : Nat × Nat} {K : Value → World → Prop} (hs : P.underlying s = some (.slice e)) (he : P.underlying e = some (.int .u8)) (hd : P.underlying d = some .string)
    (h : St x w0 L w) (n : Nat) (hn : L[n]? = some (.blk b (.cells #[.int .u8 (u.toNat : Int)] T fz))) (hk : K (.string ⟨#[u]⟩) w) : XConv P s d (.slice (some ⟨b, 0, none⟩) 1 1) w K := by
  have e1 : XConv P s d (.slice (some ⟨b, 0, none⟩) 1 1) w K = XV P (convert s d (.slice (some ⟨b, 0, none⟩) 1 1)) w K := propext ⟨(·.h), (⟨·⟩)⟩
  rw [e1]
  have hr : (convert s d (.slice (some ⟨b, 0, none⟩) 1 1)).run P w = .ok (.string ⟨#[u]⟩) w := run_convert_bytes_back (P := P) w s d e ⟨b, 0, none⟩ 1 [u] hs he hd (fun j hj => by
    have hj : j = 0 := by simpa using hj
    subst hj
    rw [Addr.add_lit, cellx0 (h.at n hn)]
    rfl)
  rw [xv_ok hr]
  exact hk
theorem xbeql {t : TypeId} (ht : P.underlying t = some .bool) (cx cy : Bool) (a b : Bool) (K : Value → World → Prop) : XBin P .eql t cx cy (.bool a) (.bool b) w K = K (.bool (decide (a = b))) w := xbin_v (by
  have hg : ∀ w, (eqGuard .eql t (fl cx) (fl cy) (.bool a) (.bool b)).run P w = .ok () w := fun w => by cases cx <;> cases cy <;> rfl
  simp only [Sem.run_bind, hg, Result.andThen_ok]
  rw [run_eql_bool w t a b ht, Bool.beq_eq_decide_eq])
end
end Go.Jo
