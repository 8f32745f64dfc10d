/-
  A record that is made of numbers is one that may be.
-/
import Derived.Test.YthkgbajldkicfaaGreatDoorMk2
import Derived.Test.YthkgbajldkicfaaGreatDoorRound
namespace Go.Proofs.YthkgbajldkicfaaGreatDoor
set_option linter.unusedVariables false
set_option linter.unusedSimpArgs false
open Go Go.Jo
set_option maxRecDepth 100000

theorem names_ok : ∀ k, k < 8 → nameM (names8.getD k []) = true := by decide +kernel
theorem nameN_ok (n : Int) : nameM (nameN n) = true := by
  obtain ⟨k, hk, e⟩ := within_nat n 8 (by omega)
  have e : withinM n 8 = (k : Int) := e
  unfold nameN
  rw [e, Int.toNat_natCast]
  exact names_ok k hk
def setB (a b c d : Bool) : List Str := (if a then [[98, 105, 103]] else []) ++ (if b then [[115, 115, 100]] else []) ++ (if c then [[119, 101, 115, 116]] else []) ++ (if d then [[206, 179]] else [])
theorem setB_ok : ∀ a b c d : Bool, setM (setB a b c d) = true := by decide +kernel
theorem setN_eq (n : Int) : setN n = setB (bitN n 0) (bitN n 1) (bitN n 2) (bitN n 3) := by
  unfold setN setB
  have e : List.range 4 = [0, 1, 2, 3] := rfl
  rw [e]
  cases h0 : bitN n 0 <;> cases h1 : bitN n 1 <;> cases h2 : bitN n 2 <;> cases h3 : bitN n 3 <;> simp [List.filter, h0, h1, h2, h3, marks4]
theorem setN_ok (n : Int) : setM (setN n) = true := by rw [setN_eq]; exact setB_ok _ _ _ _
def peersB (a b c d : Bool) : List Int := let l := (if a then [1] else []) ++ (if b then [2] else []) ++ (if c then [3] else []); if d || l.isEmpty then l ++ [4] else l
theorem peersB_ok : ∀ a b c d : Bool, risingM (peersB a b c d) = true := by decide +kernel
theorem peersN_eq (n : Int) : peersN n = peersB (bitN n 1) (bitN n 2) (bitN n 3) (bitN n 4) := by
  unfold peersN peersB
  simp only [peersTo]
  cases h1 : bitN n 1 <;> cases h2 : bitN n 2 <;> cases h3 : bitN n 3 <;> cases h4 : bitN n 4 <;> simp [h1, h2, h3, h4]
theorem peersN_ok (n : Int) : risingM (peersN n) = true := by rw [peersN_eq]; exact peersB_ok _ _ _ _
theorem partN_ok (a : Int) (n : Int) (h0 : 0 < n) (h1 : n ≤ 1099511627777) : partM (withinM a n) = true := by
  have h := within_lt a n h0
  unfold partM
  rw [Bool.and_eq_true, decide_eq_true_eq, decide_eq_true_eq]
  omega
theorem nodeN_ok (name n : Int) : nodeE (nodeN name n) = 0 := by
  have h1 : nameM (nodeN name n).name = true := nameN_ok name
  have h2 : roomM (nodeN name n).cap = true := by
    unfold roomM nodeN
    rw [partN_ok _ _ (by omega) (by omega), partN_ok _ _ (by omega) (by omega)]
    rfl
  have h3 : setM (nodeN name n).marks = true := setN_ok _
  have h4 : setM (nodeN name n).taints = true := by
    unfold nodeN
    simp only
    split
    · exact setN_ok _
    · decide
  unfold nodeE
  rw [h1, h2, h3, h4]
  rfl
theorem pod_ok : ∀ i, i < 8 → nameM [112, eC i] = true := by decide +kernel
theorem placeN_ok (ns : List Int) {i : Nat} (h : i < 8) : placeE (placeN ns i) = 0 := by
  have h1 : nameM (placeN ns i).pod = true := pod_ok i h
  have h2 : nameM (placeN ns i).node = true := nameN_ok _
  have h3 : roomM (placeN ns i).need = true := by
    unfold roomM placeN
    rw [partN_ok _ _ (by omega) (by omega), partN_ok _ _ (by omega) (by omega)]
    rfl
  unfold placeE
  rw [h1, h2, h3]
  rfl
theorem cnt_le (ns : List Int) : 1 ≤ cntN ns ∧ cntN ns ≤ 8 := by unfold cntN; omega
theorem pods_apart : ∀ k, k ≤ 8 → ((List.range k).map fun i => ([112, eC i] : Str)).Nodup := by
  have : ∀ k, k < 9 → ((List.range k).map fun i => ([112, eC i] : Str)).Nodup := by decide +kernel
  exact fun k hk => this k (by omega)
theorem placesN_ok (ns : List Int) : placesE (placesN ns) = 0 := by
  obtain ⟨c1, c8⟩ := cnt_le ns
  have hl : (placesN ns).length = cntN ns := placesTo_len ns _
  unfold placesE
  rw [if_neg (by omega)]
  have hall : (placesN ns).find? (fun p => decide (placeE p ≠ 0)) = none := by
    rw [List.find?_eq_none]
    intro p hp
    obtain ⟨i, hi, rfl⟩ := List.mem_map.1 hp
    rw [placeN_ok ns (by have := List.mem_range.1 hi; omega)]
    simp
  rw [hall]
  have e : (placesN ns).map (·.pod) = (List.range (cntN ns)).map fun i => ([112, eC i] : Str) := by
    unfold placesN placesTo
    rw [List.map_map]
    rfl
  show (if ((placesN ns).map (·.pod)).Nodup then (0 : Int) else 4) = 0
  rw [e, if_pos (pods_apart _ c8)]
theorem kindN_lt (k : Int) : 1 ≤ kindN k ∧ kindN k ≤ 7 := by
  have := within_lt k 7 (by omega)
  unfold kindN
  omega
theorem gangN_lt (g : Int) : 1 ≤ gangN g ∧ gangN g ≤ 999999 := by
  have := within_lt g 999999 (by omega)
  unfold gangN
  omega
theorem make_ok (kind gang : Int) (ns : List Int) (name : Int) : checkM (makeM kind gang ns name) = 0 := by
  obtain ⟨k1, k7⟩ := kindN_lt kind
  obtain ⟨g1, g7⟩ := gangN_lt gang
  unfold makeM
  split
  · have h : moreM ⟨1, 0, [], [], nodeN name (ns.headD 5)⟩ = false := rfl
    unfold checkM
    rw [if_neg (by rw [h]; simp), if_pos rfl]
    exact nodeN_ok _ _
  · split
    · have h : moreM ⟨2, 0, [], [], { zNode with name := nameN name }⟩ = false := rfl
      unfold checkM
      rw [if_neg (by simp [h]), if_neg (by simp), if_neg (by simp [nameN_ok]), if_pos rfl]
    · split
      · have h : moreM ⟨3, gangN gang, peersN name, placesN ns, zNode⟩ = false := by
          unfold moreM
          simp [gangsM, peeredI, bareM, zNode]
        unfold checkM
        rw [if_neg (by simp [h]), if_neg (by simp), if_neg (by simp), if_neg (by simp), if_neg (by rw [peersN_ok]; simp only [not_or, not_and]; exact ⟨by omega, by omega, fun _ => by simp⟩), if_pos rfl]
        exact placesN_ok ns
      · split
        · have h : moreM ⟨7, gangN gang, peersN name, [], zNode⟩ = false := by
            unfold moreM
            simp [gangsM, peeredI, bareM, zNode]
          unfold checkM
          rw [if_neg (by simp [h]), if_neg (by simp), if_neg (by simp), if_neg (by simp), if_neg (by rw [peersN_ok]; simp only [not_or, not_and]; exact ⟨by omega, by omega, fun _ => by simp⟩), if_neg (by simp)]
        · rename_i n1 n2 n3 n7
          have h : moreM ⟨kindN kind, gangN gang, [], [], zNode⟩ = false := by
            unfold moreM
            have e1 : gangsM (kindN kind) = true := by unfold gangsM; simp; omega
            simp [e1, bareM, zNode]
          have hp : peeredI (kindN kind) = false := by unfold peeredI; simp; omega
          unfold checkM
          simp only [h, hp]
          rw [if_neg (by simp; omega), if_neg n1, if_neg (by simp [n2]), if_neg n2, if_neg (by simp; omega), if_neg n3]
end Go.Proofs.YthkgbajldkicfaaGreatDoor
