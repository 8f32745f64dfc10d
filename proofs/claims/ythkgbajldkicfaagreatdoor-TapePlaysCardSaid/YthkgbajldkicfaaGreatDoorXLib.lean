/-
  What each operation of the shallow forms comes to, as equations between propositions: for any program, from closed facts on its types.
-/
import Derived.Test.YthkgbajldkicfaaGreatDoorCore
import Derived.WalkKit
namespace Go.Jo
set_option linter.unusedVariables false
set_option linter.unusedSimpArgs false
open Go

/-- A string out of its bytes. -/
abbrev S (l : List UInt8) : Value := .string ⟨l.toArray⟩

section
variable {P : Program}

theorem xv_ok {s : Sem Value} {w w' : World} {v : Value} {K : Value → World → Prop} (h : s.run P w = .ok v w') : XV P s w K = K v w' := by unfold XV; rw [h]
theorem xn_v {s : Sem Next} {w w' : World} {v : Value} {K : Value → World → Prop} (h : s.run P w = .ok (.value v) w') : XN P s w K = K v w' := by unfold XN; rw [h]

/-! ### Reading -/
def rowsAt (w : World) (a : Addr) : Nat → Nat → Option (List Value)
  | 0, _ => some []
  | n + 1, i => match w.cell? (a.add i) with
    | some v => (rowsAt w a n (i + 1)).map (v :: ·)
    | none => none
theorem rowsAt_load {w : World} {a : Addr} : ∀ (n i : Nat) (cs : List Value) (acc : Array Value), rowsAt w a n i = some cs → (loadCellsFrom a i n acc).run P w = .ok (acc ++ cs.toArray) w
  | 0, i, cs, acc, h => by simp [rowsAt] at h; subst h; simp [loadCellsFrom]
  | n + 1, i, cs, acc, h => by
    unfold rowsAt at h
    split at h
    · rename_i v hv
      rw [Option.map_eq_some_iff] at h
      obtain ⟨cs', h1, rfl⟩ := h
      have ih := rowsAt_load n (i + 1) cs' (acc.push v) h1
      unfold loadCellsFrom
      simp only [Sem.run_bind, run_load, hv, Result.andThen_ok, ih]
      simp
    · cases h

theorem load1 {t : TypeId} (ha : ∀ w, (isAgg t).run P w = .ok false w) (a : Addr) (w : World) (K : Value → World → Prop) :
    XLoad P t (.pointer (some a)) w K = match w.cell? a with | some v => K v w | none => XV P (Instr.loadAt t (.pointer (some a))) w K := by
  have e : XLoad P t (.pointer (some a)) w K = XV P (Instr.loadAt t (.pointer (some a))) w K := propext ⟨(·.h), (⟨·⟩)⟩
  rw [e]
  split
  · rename_i v hv
    exact xv_ok (by simp [Instr.loadAt, Instr.sureAddr, loadVar, ha, hv])
  · rfl
theorem loadN {t : TypeId} {n : Nat} (ha : ∀ w, (isAgg t).run P w = .ok true w) (hs : ∀ w, (sizeOf t).run P w = .ok n w) (a : Addr) (w : World) (K : Value → World → Prop) :
    XLoad P t (.pointer (some a)) w K = match rowsAt w a n 0 with | some cs => K (.agg cs.toArray) w | none => XV P (Instr.loadAt t (.pointer (some a))) w K := by
  have e : XLoad P t (.pointer (some a)) w K = XV P (Instr.loadAt t (.pointer (some a))) w K := propext ⟨(·.h), (⟨·⟩)⟩
  rw [e]
  split
  · rename_i cs hv
    refine xv_ok ?_
    have := rowsAt_load (P := P) n 0 cs #[] hv
    simp only [Array.empty_append] at this
    simp [Instr.loadAt, Instr.sureAddr, loadVar, ha, hs, loadCells, this]
  · rfl
/-- A cell of a block that is known whole. -/
theorem cellx {w w' : World} {b : Nat} {cs : Array Value} {T : TypeId} {fz : Nat × Nat} (h : w.heap[b]? = some (.cells cs T fz)) (e : Ext w w') (i : Nat) : w'.cell? ⟨b, i, none⟩ = cs[i]? := by
  have hlt : b < w.heap.size := (Array.getElem?_eq_some_iff.1 h).1
  have := e.block b hlt
  simp [World.cell?, this, h]
theorem cellx0 {w : World} {b : Nat} {cs : Array Value} {T : TypeId} {fz : Nat × Nat} (h : w.heap[b]? = some (.cells cs T fz)) (i : Nat) : w.cell? ⟨b, i, none⟩ = cs[i]? := by
  simp [World.cell?, h]
theorem frozenx0 {w : World} {b : Nat} {cs : Array Value} {T : TypeId} (h : w.heap[b]? = some (.cells cs T (0, 0))) (i : Nat) : w.frozen? ⟨b, i, none⟩ = false := by
  simp [World.frozen?, h]
theorem cell_ext {w w' : World} (e : Ext w w') {a : Addr} {v : Value} (h : w.cell? a = some v) : w'.cell? a = some v :=
  (World.cell?_of_block (w := w) (e.block a.block (World.block_lt_of_cell? w a h))).trans h
theorem heap_ext {w w' : World} (e : Ext w w') {b : Nat} {o : Obj} (h : w.heap[b]? = some o) : w'.heap[b]? = some o :=
  (e.block b (Array.getElem?_eq_some_iff.1 h).1).trans h

/-! ### New variables -/
theorem ext_alloc (w : World) (o : Obj) : Ext w (w.alloc o) := (RowKit.Below.refl _ w).alloc (Nat.le_refl _) o
theorem heap_new (w : World) (o : Obj) : (w.alloc o).heap[w.heap.size]? = some o := by
  show (w.heap.push o)[w.heap.size]? = some o
  simp
theorem xbox (t : TypeId) (v : Value) (w : World) (K : Value → World → Prop) : XBox P t v w K = K (.pointer (some ⟨w.heap.size, 0, none⟩)) (w.alloc (.cells v.cells t)) := by
  have e : XBox P t v w K = XV P (Instr.box t v) w K := propext ⟨(·.h), (⟨·⟩)⟩
  rw [e]
  exact xv_ok rfl
theorem xalloc {t : TypeId} {z : Value} (hz : ∀ w, (zeroValue t).run P w = .ok z w) (w : World) (K : Value → World → Prop) : XAlloc P t w K = K (.pointer (some ⟨w.heap.size, 0, none⟩)) (w.alloc (.cells z.cells t)) := by
  have e : XAlloc P t w K = XV P (Instr.alloc t true (.tuple #[])) w K := propext ⟨(·.h), (⟨·⟩)⟩
  rw [e]
  refine xv_ok ?_
  simp [Instr.alloc, hz, newVar, newRow]
/-! ### Addresses -/
theorem xfld {t : TypeId} {fs : Array Field} (ht : P.underlying t = some (.struct fs)) (i n off : Nat) (hf : (fs[i]?).map (·.offset) = some off) (hs : ∀ w, ((fs[i]?).elim (pure 0) (fun f => sizeOf f.type) : Sem Nat).run P w = .ok (n + 1) w) (b o : Nat) (w : World) (K : Value → World → Prop) :
    XFld P t (.pointer (some ⟨b, o, none⟩)) i w K = K (.pointer (some ⟨b, o + off, none⟩)) w := by
  have e : XFld P t (.pointer (some ⟨b, o, none⟩)) i w K = XV P (Instr.fieldAt t (.pointer (some ⟨b, o, none⟩)) i) w K := propext ⟨(·.h), (⟨·⟩)⟩
  rw [e]
  rw [Option.map_eq_some_iff] at hf
  obtain ⟨f, hf, rfl⟩ := hf
  refine xv_ok ?_
  rw [hf] at hs
  simp only [Option.elim_some] at hs
  simp [Instr.fieldAt, run_underlying ht, hf, Instr.sureAddr, fieldPlace, hs, Addr.add_lit]
theorem xidx {t e : TypeId} {n : Nat} (ht : P.underlying t = some (.slice e)) (hs : ∀ w, (sizeOf e).run P w = .ok n w) {b o len cap : Nat} {k : IntKind} {i : Int} (h0 : 0 ≤ i) (h1 : i < len) (w : World) (K : Value → World → Prop) :
    XIdx P t (.slice (some ⟨b, o, none⟩) len cap) (.int k i) w K = K (.pointer (some ⟨b, o + i.toNat * n, none⟩)) w := by
  have e : XIdx P t (.slice (some ⟨b, o, none⟩) len cap) (.int k i) w K = XV P (Instr.indexAt t (.slice (some ⟨b, o, none⟩) len cap) (.int k i)) w K := propext ⟨(·.h), (⟨·⟩)⟩
  rw [e]
  refine xv_ok ?_
  simp [Instr.indexAt, run_underlying ht, asIntOf, h0, h1, hs, Addr.add_lit]

/-! ### Lengths -/
theorem xb_v {b : Builtin} {ts : Array TypeId} {t : TypeId} {args : Array Value} {w w' : World} {v : Value} {K : Value → World → Prop} (h : (builtin b ts t (args.map fun _ => false) args).run P w = .ok (.value v) w') : XB P b ts t args w K = K v w' := by
  have e : XB P b ts t args w K = XN P (builtin b ts t (args.map fun _ => false) args) w K := propext ⟨(·.h), (⟨·⟩)⟩
  rw [e]
  exact xn_v h
theorem xlen_slice {t e ty : TypeId} (ht : P.underlying t = some (.slice e)) (a : Option Addr) (n c : Nat) (w : World) (K : Value → World → Prop) : XB P .len #[t] ty #[.slice a n c] w K = K (.int .i64 n) w :=
  xb_v (by simp [builtin, Builtin.len_, run_underlying ht, goInt])
theorem xlen_string {t ty : TypeId} (ht : P.underlying t = some .string) (l : List UInt8) (w : World) (K : Value → World → Prop) : XB P .len #[t] ty #[S l] w K = K (.int .i64 l.length) w :=
  xb_v (by simp [builtin, Builtin.len_, run_underlying ht, goInt]; rfl)
theorem xmin (ts : Array TypeId) (t : TypeId) (k : IntKind) (x y : Int) (w : World) (K : Value → World → Prop) : XB P .min ts t #[.int k x, .int k y] w K = K (.int k (min x y)) w :=
  xb_v (by
    simp only [builtin, Sem.run_bind, run_min_int2, Result.andThen_ok, Sem.run_pure]
    congr 3
    split <;> omega)
theorem xmax (ts : Array TypeId) (t : TypeId) (k : IntKind) (x y : Int) (w : World) (K : Value → World → Prop) : XB P .max ts t #[.int k x, .int k y] w K = K (.int k (max x y)) w :=
  xb_v (by
    simp only [builtin, Sem.run_bind, run_max_int2, Result.andThen_ok, Sem.run_pure]
    congr 3
    split <;> omega)

/-! ### Numbers, bools, strings -/
theorem xbin_v {op : BinOp} {t : TypeId} {cx cy : Bool} {a b v : Value} {w w' : World} {K : Value → World → Prop} (h : (do eqGuard op t (fl cx) (fl cy) a b; binOp op t a b : Sem Value).run P w = .ok v w') : XBin P op t cx cy a b w K = K v w' := by
  have e : XBin P op t cx cy a b w K = XV P (do eqGuard op t (fl cx) (fl cy) a b; binOp op t a b) w K := propext ⟨(·.h), (⟨·⟩)⟩
  rw [e]
  exact xv_ok h
section ints
variable (t : TypeId) (cx cy : Bool) (k : IntKind) (a b : Int) (w : World) (K : Value → World → Prop)
theorem xadd : XBin P .add t cx cy (.int k a) (.int k b) w K = K (.int k (k.wrap (a + b))) w := xbin_v (by simp [eqGuard_at_int, binOp_add, Op.intArith])
theorem xsub : XBin P .sub t cx cy (.int k a) (.int k b) w K = K (.int k (k.wrap (a - b))) w := xbin_v (by simp [eqGuard_at_int, binOp_sub, Op.intArith])
theorem xmul : XBin P .mul t cx cy (.int k a) (.int k b) w K = K (.int k (k.wrap (a * b))) w := xbin_v (by simp [eqGuard_at_int, binOp_mul, Op.intArith])
theorem xeql : XBin P .eql t cx cy (.int k a) (.int k b) w K = K (.bool (decide (a = b))) w := xbin_v (by simp [eqGuard_at_int, binOp_eql]; rfl)
theorem xneq : XBin P .neq t cx cy (.int k a) (.int k b) w K = K (.bool (decide (a ≠ b))) w := xbin_v (by
  simp only [eqGuard_at_int, binOp_neq, Sem.run_bind, Sem.run_pure, Result.andThen_ok]
  congr 2
  by_cases h : a = b <;> simp [h])
theorem xlss : XBin P .lss t cx cy (.int k a) (.int k b) w K = K (.bool (decide (a < b))) w := xbin_v (by simp [eqGuard_at_int, binOp_lss])
theorem xleq : XBin P .leq t cx cy (.int k a) (.int k b) w K = K (.bool (decide (a ≤ b))) w := xbin_v (by simp [eqGuard_at_int, binOp_leq])
theorem xgtr : XBin P .gtr t cx cy (.int k a) (.int k b) w K = K (.bool (decide (b < a))) w := xbin_v (by simp [eqGuard_at_int, binOp_gtr])
theorem xgeq : XBin P .geq t cx cy (.int k a) (.int k b) w K = K (.bool (decide (b ≤ a))) w := xbin_v (by simp [eqGuard_at_int, binOp_geq])
theorem xquo (h : b ≠ 0) : XBin P .quo t cx cy (.int k a) (.int k b) w K = K (.int k (k.wrap (a.tdiv b))) w := xbin_v (by simp [eqGuard_at_int, binOp_quo, Op.intDiv, h])
theorem xrem (h : b ≠ 0) : XBin P .rem t cx cy (.int k a) (.int k b) w K = K (.int k (a.tmod b)) w := xbin_v (by simp [eqGuard_at_int, binOp_rem, Op.intDiv, h])
end ints
theorem ba_append (a b : List UInt8) : (⟨a.toArray⟩ : ByteArray) ++ ⟨b.toArray⟩ = ⟨(a ++ b).toArray⟩ := by
  apply ByteArray.ext
  simp
theorem ba_toList (a : List UInt8) : (⟨a.toArray⟩ : ByteArray).toList = a := by
  rw [Go.ByteArray.toList_eq]
theorem xcat (t : TypeId) (cx cy : Bool) (a b : List UInt8) (w : World) (K : Value → World → Prop) (h : a.length + b.length ≤ 9223372036854775807) : XBin P .add t cx cy (S a) (S b) w K = K (S (a ++ b)) w := xbin_v (by
  have h1 : ¬ (9223372036854775807 : Int) < ((⟨a.toArray⟩ : ByteArray).size + (⟨b.toArray⟩ : ByteArray).size : Nat) := by simp [ByteArray.size]; omega
  simp only [eqGuard_at_string, binOp, Op.stringOp, Sem.run_bind, Sem.run_pure, Result.andThen_ok, IntKind.max_i64, gt_iff_lt]
  rw [if_neg h1, ba_append]
  rfl)
theorem xseql (t : TypeId) (cx cy : Bool) (a b : List UInt8) (w : World) (K : Value → World → Prop) : XBin P .eql t cx cy (S a) (S b) w K = K (.bool (decide (a = b))) w := xbin_v (by
  simp only [eqGuard_at_string, binOp, Op.stringOp, Sem.run_bind, Sem.run_pure, Result.andThen_ok, ba_toList]
  rw [Bool.beq_eq_decide_eq])
theorem xsneq (t : TypeId) (cx cy : Bool) (a b : List UInt8) (w : World) (K : Value → World → Prop) : XBin P .neq t cx cy (S a) (S b) w K = K (.bool (decide (a ≠ b))) w := xbin_v (by
  simp only [eqGuard_at_string, binOp, Op.stringOp, Sem.run_bind, Sem.run_pure, Result.andThen_ok, ba_toList]
  congr 2
  by_cases h : a = b <;> simp [h])
theorem xsgeq (t : TypeId) (cx cy : Bool) (a b : List UInt8) (w : World) (K : Value → World → Prop) : XBin P .geq t cx cy (S a) (S b) w K = K (.bool (!Op.bytesLess a b)) w := xbin_v (by
  simp only [eqGuard_at_string, binOp, Op.stringOp, Sem.run_bind, Sem.run_pure, Result.andThen_ok, ba_toList])
theorem xnot (b : Bool) (w : World) (K : Value → World → Prop) : XUn P .not (.bool b) w K = K (.bool (!b)) w := by
  have e : XUn P .not (.bool b) w K = XV P (Op.unary .not (.bool b)) w K := propext ⟨(·.h), (⟨·⟩)⟩
  rw [e]
  exact xv_ok rfl
theorem xext (vs : List Value) (i : Nat) (v : Value) (h : vs[i]? = some v) (w : World) (K : Value → World → Prop) : XExt P (.tuple vs.toArray) i w K = K v w := by
  have e : XExt P (.tuple vs.toArray) i w K = XV P (Instr.extract (.tuple vs.toArray) i) w K := propext ⟨(·.h), (⟨·⟩)⟩
  rw [e]
  refine xv_ok ?_
  simp [Instr.extract, h]
end

/-! ### Ways -/
theorem xc_true (p q : Prop) : XC (.bool true) p q = p := propext ⟨(·.h), (⟨·⟩)⟩
theorem xc_false (p q : Prop) : XC (.bool false) p q = q := propext ⟨(·.h), (⟨·⟩)⟩
theorem xc_of {b : Bool} {p q : Prop} (h1 : b = true → p) (h2 : b = false → q) : XC (.bool b) p q := by
  cases b
  · exact ⟨h2 rfl⟩
  · exact ⟨h1 rfl⟩
theorem xc_dec {c : Prop} [Decidable c] {p q : Prop} (h1 : c → p) (h2 : ¬ c → q) : XC (.bool (decide c)) p q :=
  xc_of (fun h => h1 (of_decide_eq_true h)) (fun h => h2 (of_decide_eq_false h))
theorem xpick_true (a b : Value) (K : Value → Prop) : XPick (.bool true) a b K = K a := propext ⟨(·.h), (⟨·⟩)⟩
theorem xpick_false (a b : Value) (K : Value → Prop) : XPick (.bool false) a b K = K b := propext ⟨(·.h), (⟨·⟩)⟩
theorem xnil_ptr (a : Addr) (K : Value → Prop) : XNil (.pointer (some a)) K = K (.pointer (some a)) := propext ⟨(·.h), (⟨·⟩)⟩
theorem xg_same (b : Bool) (p q : Prop) : XG (.bool b) b p q = p := propext ⟨fun h => h.yes rfl, fun h => ⟨fun _ => h, fun h' => absurd rfl h'⟩⟩
theorem xg_tf (p q : Prop) : XG (.bool true) false p q = q := propext ⟨fun h => h.no (by simp), fun h => ⟨fun h' => by simp at h', fun _ => h⟩⟩
theorem xg_ft (p q : Prop) : XG (.bool false) true p q = q := propext ⟨fun h => h.no (by simp), fun h => ⟨fun h' => by simp at h', fun _ => h⟩⟩

/-! ### Calls -/
theorem xcall_of {P : Program} {f : FuncId} {args : Array Value} {w : World} {R K : Value → World → Prop} (he : ∀ w, (callFunc f args).run P w = .ok (.enter f args) w) (h : Ret P f args w R) (hk : ∀ v w', R v w' → K v w') : XCall P f args w K := by
  refine ⟨?_⟩
  unfold XN
  rw [he]
  exact h.mono hk
end Go.Jo
