/-
  A record's line.
-/
import Derived.Test.YthkgbajldkicfaaGreatDoorTxt
namespace Go.Proofs.YthkgbajldkicfaaGreatDoor
set_option linter.unusedVariables false
set_option linter.unusedSimpArgs false
open Go Go.Jo
set_option maxRecDepth 100000

theorem c_join {w : World} {v : Value} {xs : List Str} (sep : Str) (h : Row w 1 v xs.length (strsL xs)) (hn : xs.length ≤ 140737488355328) (hlen : (Lib.join xs sep).length ≤ 140737488355328) : RetV Tryz.prog F_strings_Join #[v, S sep] w (S (Lib.join xs sep)) := by
  obtain ⟨_, a, cap, rfl, hc, h⟩ := h
  rcases h with h0 | ⟨b, o, rfl, h⟩
  · have : xs = [] := List.eq_nil_of_length_eq_zero h0
    subst this
    refine (Tryz.strings_Join_none a cap _ w).mono ?_
    rintro e w' ⟨rfl, rfl⟩
    exact ⟨_, rfl, rfl, Ext.refl _⟩
  · by_cases h0 : xs.length = 0
    · have : xs = [] := List.eq_nil_of_length_eq_zero h0
      subst this
      refine (Tryz.strings_Join_none _ cap _ w).mono ?_
      rintro e w' ⟨rfl, rfl⟩
      exact ⟨_, rfl, rfl, Ext.refl _⟩
    · have hb : b < w.heap.size := by
        have := h 0 (by omega)
        rw [List.getElem?_eq_getElem (by simp; omega)] at this
        exact World.block_lt_of_cell? w _ this
      have hm : (bas xs).map (·.data.toList) = xs := by
        rw [List.map_map]
        conv => rhs; rw [← List.map_id xs]
        exact List.map_congr_left fun x _ => by simp
      have hl : (bas xs).length = xs.length := by simp
      have key := Tryz.strings_Join b o cap (bas xs) ⟨sep.toArray⟩ w (fun j x hx => by
        have hj : j < xs.length := by
          have := (List.getElem?_eq_some_iff.1 hx).1
          simpa using this
        rw [h j (by omega)]
        have : (strsL xs)[j]? = ((bas xs)[j]?).map Value.string := by
          simp
          rfl
        rw [this, hx]
        rfl) hb (by rw [hl]; exact hn) (by rw [hl]; exact hc) (by rw [hm, toList_S]; exact hlen)
      rw [hm, toList_S, hl] at key
      refine key.mono ?_
      rintro e w' ⟨rfl, hb⟩
      exact ⟨_, rfl, rfl, hb⟩
theorem join_le {l : List Str} {m : Nat} (h : ∀ x ∈ l, x.length ≤ m) (c : UInt8) : (Lib.join l [c]).length ≤ l.length * (m + 1) := by
  cases l with
  | nil => simp [Lib.join_nil]
  | cons x r =>
    have h1 := h x (by simp)
    rw [Lib.join_cons]
    have h2 : (Lib.joinTail [c] r).length ≤ r.length * (m + 1) := by
      have := flat_le (l := r) (m := m) (fun y hy => h y (by simp [hy])) c
      simpa [Lib.joinTail, signedT] using this
    simp only [List.length_append, List.length_cons]
    rw [Nat.add_mul]
    omega

/-! ### The text -/
def headT (r : RecM) : Str := if 1 ≤ r.kind ∧ r.kind ≤ 7 then verbsM.getD (r.kind.toNat - 1) [] else []
def nodeT (n : NodeM) : Str := n.name ++ [58] ++ vecT n.cap ++ signedT 43 n.marks ++ signedT 126 n.taints ++ flagT n.closed
def secT (r : RecM) : Str := if r.kind = 1 then nodeT r.node else if r.kind = 2 then r.node.name else Lib.itoa r.gang
def peersT (l : List Int) : Str := Lib.join (l.map Lib.itoa) [44]
def placeT (p : PlaceM) : Str := p.pod ++ [62] ++ p.node ++ [58] ++ vecT p.need ++ flagT p.alone
def frontT (r : RecM) : List Str := [headT r, secT r] ++ (if peeredI r.kind then [peersT r.peers] else [])
def wordsT (r : RecM) : List Str := frontT r ++ r.places.map placeT
def textM (r : RecM) : Str := Lib.join (wordsT r) [32]
/-- Nothing in it is long, all numbers are. -/
structure RecTiny (r : RecM) : Prop where
  gang : i64 r.gang
  peers : r.peers.length ≤ 10000
  peer : ∀ n ∈ r.peers, i64 n
  places : r.places.length ≤ 10000
  place : ∀ p ∈ r.places, p.pod.length ≤ 10000 ∧ p.node.length ≤ 10000 ∧ i64 p.need.cpu ∧ i64 p.need.mem
  name : r.node.name.length ≤ 10000
  cap : i64 r.node.cap.cpu ∧ i64 r.node.cap.mem
  marks : r.node.marks.length ≤ 10000
  mark : ∀ x ∈ r.node.marks, x.length ≤ 10000
  taints : r.node.taints.length ≤ 10000
  taint : ∀ x ∈ r.node.taints, x.length ≤ 10000
theorem flagT_len (b : Bool) : (flagT b).length ≤ 1 := by cases b <;> simp [flagT]
theorem placeT_len {p : PlaceM} (h : p.pod.length ≤ 10000 ∧ p.node.length ≤ 10000 ∧ i64 p.need.cpu ∧ i64 p.need.mem) : (placeT p).length ≤ 20100 := by
  have h1 := vecT_len h.2.2
  have h2 := flagT_len p.alone
  simp only [placeT, List.length_append, List.length_cons, List.length_nil]
  omega
theorem tiny_signed {l : List Str} (h : l.length ≤ 10000) (hs : ∀ x ∈ l, x.length ≤ 10000) (c : UInt8) : (signedT c l).length ≤ 100010000 := by
  have h1 := flat_le hs c
  have h2 : l.length * (10000 + 1) ≤ 10000 * 10001 := Nat.mul_le_mul h (by omega)
  omega
theorem nodeT_len {r : RecM} (h : RecTiny r) : (nodeT r.node).length ≤ 200040000 := by
  have h1 := vecT_len h.cap
  have h2 := flagT_len r.node.closed
  have h3 := tiny_signed h.marks h.mark 43
  have h4 := tiny_signed h.taints h.taint 126
  have h5 := h.name
  simp only [nodeT, List.length_append, List.length_cons, List.length_nil]
  omega
theorem peersT_len {r : RecM} (h : RecTiny r) : (peersT r.peers).length ≤ 220000 := by
  have h1 := join_le (l := r.peers.map Lib.itoa) (m := 21) (fun x hx => by
    obtain ⟨n, hn, rfl⟩ := List.mem_map.1 hx
    exact Lib.itoa_length_le n (h.peer n hn).1 (h.peer n hn).2) 44
  have h2 : (r.peers.map Lib.itoa).length * (21 + 1) ≤ 10000 * 22 := Nat.mul_le_mul (by simpa using h.peers) (by omega)
  show (Lib.join _ _).length ≤ _
  omega
theorem secT_len {r : RecM} (h : RecTiny r) : (secT r).length ≤ 200040000 := by
  unfold secT
  split
  · exact nodeT_len h
  · split
    · have := h.name; omega
    · have := Lib.itoa_length_le r.gang h.gang.1 h.gang.2; omega
theorem headT_len (r : RecM) : (headT r).length ≤ 10 := by
  unfold headT
  split
  · have : ∀ i, i < 8 → (verbsM.getD i []).length ≤ 10 := by decide
    exact this _ (by omega)
  · simp
theorem wordsT_len {r : RecM} (h : RecTiny r) : (wordsT r).length ≤ 10003 ∧ ∀ x ∈ wordsT r, x.length ≤ 200040000 := by
  refine ⟨?_, fun x hx => ?_⟩
  · have := h.places
    unfold wordsT frontT
    split <;> simp <;> omega
  · rcases List.mem_append.1 hx with hx | hx
    · unfold frontT at hx
      rcases List.mem_append.1 hx with hx | hx
      · simp only [List.mem_cons, List.not_mem_nil, or_false] at hx
        rcases hx with rfl | rfl
        · have := headT_len r; omega
        · exact secT_len h
      · split at hx
        · have : x = peersT r.peers := by simpa using hx
          subst this
          have := peersT_len h; omega
        · simp at hx
    · obtain ⟨p, hp, rfl⟩ := List.mem_map.1 hx
      have := placeT_len (h.place p hp)
      omega
end Go.Proofs.YthkgbajldkicfaaGreatDoor
