/-
  Lines, in plain Lean: how a word is read, what a record's line is, what is wrong with a record.
-/
import Derived.Test.YthkgbajldkicfaaGreatDoorXMem
namespace Go.Jo
set_option linter.unusedVariables false
set_option linter.unusedSimpArgs false
open Go
abbrev Str := List UInt8

def isPart (b : UInt8) : Bool := b == 32 || b == 58 || b == 44 || b == 43 || b == 126 || b == 33 || b == 62 || b == 64
def isDig (b : UInt8) : Bool := decide (48 ≤ b.toNat) && decide (b.toNat ≤ 57)
def valD (ds : Str) : Nat := ds.foldl (fun n b => n * 10 + (b.toNat - 48)) 0

/-- A reader of a word. -/
structure Rd where
  s : Str
  no : Bool
def Rd.name (r : Rd) : Str × Rd :=
  (r.s.takeWhile (fun b => !isPart b), ⟨r.s.dropWhile (fun b => !isPart b), r.no || (r.s.takeWhile (fun b => !isPart b)).isEmpty⟩)
def signP (c : UInt8) : Str → Bool × Str
  | b :: t => if b = c then (true, t) else (false, b :: t)
  | [] => (false, [])
def Rd.sign (c : UInt8) (r : Rd) : Bool × Rd := ((signP c r.s).1, ⟨(signP c r.s).2, r.no⟩)
def Rd.must (c : UInt8) (r : Rd) : Rd := ⟨(signP c r.s).2, !(signP c r.s).1 || r.no⟩
def Rd.number (r : Rd) : Nat × Rd :=
  let ds := r.s.takeWhile isDig
  if 15 < ds.length ∨ 1 < ds.length ∧ r.s.head? = some 48 then (0, ⟨r.s, true⟩) else (valD ds, ⟨r.s.dropWhile isDig, r.no || ds.isEmpty⟩)
structure VecM where
  cpu : Int
  mem : Int
deriving DecidableEq
def Rd.vec (r : Rd) : VecM × Rd :=
  let a := r.number
  let b := (a.2.must 44).number
  (⟨a.1, b.1⟩, b.2)
def Rd.signedN (c : UInt8) : Nat → Rd → List Str × Rd
  | 0, r => ([], r)
  | f + 1, r =>
    if (r.sign c).1 then
      let x := (r.sign c).2.name
      let y := Rd.signedN c f x.2
      (x.1 :: y.1, y.2)
    else ([], r)
def Rd.signed (c : UInt8) (r : Rd) : List Str × Rd := Rd.signedN c r.s.length r
structure NodeM where
  name : Str
  cap : VecM
  marks : List Str
  taints : List Str
  closed : Bool
deriving DecidableEq
structure PlaceM where
  pod : Str
  node : Str
  need : VecM
  alone : Bool
deriving DecidableEq
structure RecM where
  kind : Int
  gang : Int
  peers : List Int
  places : List PlaceM
  node : NodeM
deriving DecidableEq
def Rd.node (r : Rd) : NodeM × Rd :=
  let a := r.name
  let b := (a.2.must 58).vec
  let c := b.2.signed 43
  let d := c.2.signed 126
  let e := d.2.sign 33
  (⟨a.1, b.1, c.1, d.1, e.1⟩, e.2)
def Rd.place (r : Rd) : PlaceM × Rd :=
  let a := r.name
  let b := (a.2.must 62).name
  let c := (b.2.must 58).vec
  let d := c.2.sign 33
  (⟨a.1, b.1, c.1, d.1⟩, d.2)
def Rd.peersN : Nat → Rd → List Int × Rd
  | 0, r => ([], r)
  | f + 1, r =>
    if (r.sign 44).1 then
      let x := (r.sign 44).2.number
      let y := Rd.peersN f x.2
      ((x.1 : Int) :: y.1, y.2)
    else ([], r)
def Rd.peers (r : Rd) : List Int × Rd :=
  let x := r.number
  let y := Rd.peersN x.2.s.length x.2
  ((x.1 : Int) :: y.1, y.2)
def Rd.fin (r : Rd) : Bool := !r.no && r.s.isEmpty

/-! ### Lines -/
def spl : Str → List Str
  | [] => [[]]
  | b :: t => if b = 32 then [] :: spl t else match spl t with
    | x :: r => (b :: x) :: r
    | [] => [[b]]
def wordsM (s : Str) : List Str := if [] ∈ spl s then [] else spl s
def verbsM : List Str := [[110, 111, 100, 101], [103, 111, 110, 101], [112, 114, 101, 112, 97, 114, 101], [99, 111, 109, 109, 105, 116], [97, 98, 111, 114, 116], [114, 101, 108, 101, 97, 115, 101], [103, 97, 110, 103]]
def kindM (s : Str) : Nat := match verbsM.findIdx? (· = s) with
  | some i => i + 1
  | none => 0
def zVec : VecM := ⟨0, 0⟩
def zNode : NodeM := ⟨[], zVec, [], [], false⟩
def zRec : RecM := ⟨0, 0, [], [], zNode⟩
def peeredM (k : Nat) : Bool := decide (k = 3) || decide (k = 7)
/-- What the second word gives. -/
def headM (k : Nat) (s : Str) : RecM × Bool :=
  if k = 1 then ({ zRec with kind := k, node := (Rd.node ⟨s, false⟩).1 }, (Rd.node ⟨s, false⟩).2.fin)
  else if k = 2 then ({ zRec with kind := k, node := { zNode with name := (Rd.name ⟨s, false⟩).1 } }, (Rd.name ⟨s, false⟩).2.fin)
  else ({ zRec with kind := k, gang := (Rd.number ⟨s, false⟩).1 }, (Rd.number ⟨s, false⟩).2.fin)
def placesM (l : List Str) : List PlaceM := l.map fun x => (Rd.place ⟨x, false⟩).1
def finsM (l : List Str) : Bool := l.all fun x => (Rd.place ⟨x, false⟩).2.fin
/-- Behind the peers. -/
def tailM (k : Nat) (r : RecM) (is : Bool) (rest : List Str) : RecM × Bool :=
  if k ≠ 3 then (r, is && rest.isEmpty) else ({ r with places := placesM rest }, is && finsM rest)
def readM : List Str → RecM × Bool
  | a :: b :: rest =>
    let k := kindM a
    if k = 0 then (zRec, false)
    else
      let h := headM k b
      if peeredM k then
        match rest with
        | [] => (h.1, false)
        | p :: rest => tailM k { h.1 with peers := (Rd.peers ⟨p, false⟩).1 } ((Rd.peers ⟨p, false⟩).2.fin && h.2) rest
      else tailM k h.1 h.2 rest
  | _ => (zRec, false)

/-! ### What is wrong -/
def runesFrom (s : ByteArray) : Nat → Nat → List (Nat × Nat)
  | 0, _ => []
  | f + 1, pos => if pos < s.size then (pos, (Utf8.decode s pos).1) :: runesFrom s f (pos + (Utf8.decode s pos).2) else []
/-- The runes of a text, each with its place. -/
def runesM (l : Str) : List (Nat × Nat) := runesFrom ⟨l.toArray⟩ l.length 0
def letterC (c : Nat) : Bool := decide (97 ≤ c ∧ c ≤ 122 ∨ 945 ≤ c ∧ c ≤ 969)
def digitC (c : Nat) : Bool := decide (48 ≤ c ∧ c ≤ 57)
def nameM (s : Str) : Bool := (runesM s).all (fun p => letterC p.2 || digitC p.2 && decide (p.1 ≠ 0)) && decide (s ≠ []) && decide ((runesM s).length ≤ 8)
def upTo (p : Nat → Bool) (n : Nat) : Bool := (List.range n).all p
theorem upTo_succ (p : Nat → Bool) (n : Nat) : upTo p (n + 1) = (upTo p n && p n) := by simp [upTo, List.range_succ]
theorem upTo_false {p : Nat → Bool} {n i : Nat} (hi : i < n) (hp : p i = false) : upTo p n = false := by
  unfold upTo
  rw [List.all_eq_false]
  exact ⟨i, List.mem_range.2 hi, by rw [hp]; simp⟩
def setP (l : List Str) (i : Nat) : Bool := nameM (l.getD i []) && (decide (i = 0) || Op.bytesLess (l.getD (i - 1) []) (l.getD i []))
def setM (l : List Str) : Bool := upTo (setP l) l.length && decide (l.length ≤ 4)
def partM (n : Int) : Bool := decide (0 ≤ n) && decide (n ≤ 1099511627776)
def roomM (v : VecM) : Bool := partM v.cpu && partM v.mem
def nodeE (n : NodeM) : Int := if !nameM n.name then 1 else if !roomM n.cap then 2 else if !setM n.marks || !setM n.taints then 1 else 0
def bareM (n : NodeM) : Bool := decide (n.cap = zVec) && decide (n.marks.length + n.taints.length = 0) && !n.closed
def gangsM (k : Int) : Bool := decide (3 ≤ k) && decide (k ≤ 7)
def peeredI (k : Int) : Bool := decide (k = 3) || decide (k = 7)
def moreM (r : RecM) : Bool :=
  if (!gangsM r.kind && decide (r.gang ≠ 0)) || (!peeredI r.kind && !r.peers.isEmpty) || (decide (r.kind ≠ 3) && !r.places.isEmpty) then true
  else if r.kind = 1 then false
  else !bareM r.node || (decide (r.kind ≠ 2) && decide (r.node.name ≠ []))
def risingP (l : List Int) (i : Nat) : Bool := decide (1 ≤ l.getD i 0) && decide (l.getD i 0 ≤ 4) && (decide (i = 0) || decide (l.getD (i - 1) 0 < l.getD i 0))
def risingM (l : List Int) : Bool := upTo (risingP l) l.length && decide (0 < l.length)
def placeE (p : PlaceM) : Int := if !nameM p.pod || !nameM p.node then 1 else if !roomM p.need then 2 else 0
def firstE (l : List PlaceM) : Option PlaceM → Int
  | some p => placeE p
  | none => if (l.map (·.pod)).Nodup then 0 else 4
def placesE (l : List PlaceM) : Int := if l.length < 1 ∨ 8 < l.length then 3 else firstE l (l.find? (fun p => placeE p ≠ 0))
def checkM (r : RecM) : Int :=
  if r.kind < 1 ∨ 7 < r.kind ∨ moreM r = true then 2
  else if r.kind = 1 then nodeE r.node
  else if r.kind = 2 ∧ nameM r.node.name = false then 1
  else if r.kind = 2 then 0
  else if r.gang < 1 ∨ 999999 < r.gang ∨ peeredI r.kind = true ∧ risingM r.peers = false then 2
  else if r.kind = 3 then placesE r.places
  else 0
def parseM (s : Str) : RecM × Int :=
  let x := readM (wordsM s)
  if x.2 = false then (zRec, 8) else if checkM x.1 ≠ 0 then (zRec, checkM x.1) else (x.1, 0)

/-! ### What a rune is made of -/
theorem get_list (l : Str) (i : Nat) (h : i < l.length) : (⟨l.toArray⟩ : ByteArray).get! i = l[i] := by
  show l.toArray[i]! = l[i]
  rw [getElem!_pos l.toArray i (by simpa using h)]
  simp
theorem size_list (l : Str) : (⟨l.toArray⟩ : ByteArray).size = l.length := by simp [ByteArray.size]
/-- A rune's first byte is below 128: it is that byte. -/
theorem decode_low (l : Str) (i : Nat) (h : i < l.length) (hb : l[i].toNat < 128) : Utf8.decode ⟨l.toArray⟩ i = (l[i].toNat, 1) := by
  unfold Utf8.decode
  simp only [Nat.add_zero, get_list l i h]
  rw [if_pos hb]
/-- Else it is no less than 128, and so are all of its bytes. -/
theorem decode_up (l : Str) (i : Nat) (h : i < l.length) (hb : 128 ≤ l[i].toNat) : 128 ≤ (Utf8.decode ⟨l.toArray⟩ i).1 ∧ 1 ≤ (Utf8.decode ⟨l.toArray⟩ i).2 ∧ i + (Utf8.decode ⟨l.toArray⟩ i).2 ≤ l.length ∧
    ∀ j (hj : j < l.length), i ≤ j → j < i + (Utf8.decode ⟨l.toArray⟩ i).2 → 128 ≤ l[j].toNat := by
  have cont : ∀ k, (i + k < (⟨l.toArray⟩ : ByteArray).size && ((⟨l.toArray⟩ : ByteArray).get! (i + k)).toNat / 64 == 2) = true → ∃ hk : i + k < l.length, 128 ≤ l[i + k].toNat := fun k hk => by
    rw [Bool.and_eq_true, decide_eq_true_eq, size_list, beq_iff_eq] at hk
    refine ⟨hk.1, ?_⟩
    rw [get_list l _ hk.1] at hk
    omega
  have h1 : ∀ j (hj : j < l.length), i ≤ j → j < i + 1 → 128 ≤ l[j].toNat := fun j hj h2 h3 => by
    have : j = i := by omega
    subst this
    exact hb
  have h0 : (⟨l.toArray⟩ : ByteArray).get! (i + 0) = l[i] := get_list l i h
  unfold Utf8.decode
  simp only [h0]
  rw [if_neg (by omega)]
  split
  · rename_i hc
    rw [Bool.and_eq_true] at hc
    obtain ⟨k1, g1⟩ := cont 1 hc.2
    split
    · refine ⟨by assumption, by show 1 ≤ 2; omega, by show i + 2 ≤ _; omega, fun j hj h2 h3 => ?_⟩
      have h3 : j < i + 2 := h3
      by_cases e : j = i
      · subst e; exact hb
      · have : j = i + 1 := by omega
        subst this; exact g1
    · exact ⟨by decide, by decide, by show i + 1 ≤ _; omega, h1⟩
  · split
    · rename_i hc
      rw [Bool.and_eq_true, Bool.and_eq_true] at hc
      obtain ⟨k1, g1⟩ := cont 1 hc.1.2
      obtain ⟨k2, g2⟩ := cont 2 hc.2
      split
      · rename_i hv
        rw [Bool.and_eq_true, decide_eq_true_eq] at hv
        refine ⟨Nat.le_trans (by decide) hv.1, by show 1 ≤ 3; omega, by show i + 3 ≤ _; omega, fun j hj h2 h3 => ?_⟩
        have h3 : j < i + 3 := h3
        by_cases e : j = i
        · subst e; exact hb
        · by_cases e : j = i + 1
          · subst e; exact g1
          · have : j = i + 2 := by omega
            subst this; exact g2
      · exact ⟨by decide, by decide, by show i + 1 ≤ _; omega, h1⟩
    · split
      · rename_i hc
        rw [Bool.and_eq_true, Bool.and_eq_true, Bool.and_eq_true] at hc
        obtain ⟨k1, g1⟩ := cont 1 hc.1.1.2
        obtain ⟨k2, g2⟩ := cont 2 hc.1.2
        obtain ⟨k3, g3⟩ := cont 3 hc.2
        split
        · rename_i hv
          rw [Bool.and_eq_true, decide_eq_true_eq] at hv
          refine ⟨Nat.le_trans (by decide) hv.1, by show 1 ≤ 4; omega, by show i + 4 ≤ _; omega, fun j hj h2 h3 => ?_⟩
          have h3 : j < i + 4 := h3
          by_cases e : j = i
          · subst e; exact hb
          · by_cases e : j = i + 1
            · subst e; exact g1
            · by_cases e : j = i + 2
              · subst e; exact g2
              · have : j = i + 3 := by omega
                subst this; exact g3
        · exact ⟨by decide, by decide, by show i + 1 ≤ _; omega, h1⟩
      · exact ⟨by decide, by decide, by show i + 1 ≤ _; omega, h1⟩
/-- Where a row of bytes that are so ends. -/
theorem takeWhile_at (p : UInt8 → Bool) : ∀ (l : Str) (n : Nat), n ≤ l.length → (∀ i (h : i < l.length), i < n → p l[i] = true) → (∀ h : n < l.length, p l[n] = false) → l.takeWhile p = l.take n ∧ l.dropWhile p = l.drop n
  | [], n, h, _, _ => by
    have : n = 0 := by simpa using h
    subst this
    simp
  | b :: t, 0, _, _, h2 => by
    have := h2 (by simp)
    simp at this
    simp [this]
  | b :: t, n + 1, h, h1, h2 => by
    have hb := h1 0 (by simp) (by omega)
    simp at hb
    have ih := takeWhile_at p t n (by simpa using h) (fun i hi hn => by
      have := h1 (i + 1) (by simpa using hi) (by omega)
      simpa using this) (fun hn => by
      have := h2 (by simpa using hn)
      simpa using this)
    simp [hb, ih.1, ih.2]
theorem takeWhile_ge (p : UInt8 → Bool) : ∀ (l : Str) (n : Nat), n ≤ l.length → (∀ i (h : i < l.length), i < n → p l[i] = true) → n ≤ (l.takeWhile p).length
  | _, 0, _, _ => Nat.zero_le _
  | [], n + 1, h, _ => by simp at h
  | b :: t, n + 1, h, h1 => by
    have hb := h1 0 (by simp) (by omega)
    simp at hb
    have ih := takeWhile_ge p t n (by simpa using h) (fun i hi hn => by
      have := h1 (i + 1) (by simpa using hi) (by omega)
      simpa using this)
    simp [hb]
    exact ih
theorem isDig_iff (b : UInt8) : isDig b = true ↔ 48 ≤ b.toNat ∧ b.toNat ≤ 57 := by simp [isDig]
theorem valD_snoc (l : Str) (b : UInt8) : valD (l ++ [b]) = valD l * 10 + (b.toNat - 48) := by simp [valD, List.foldl_append]
theorem valD_lt : ∀ (n : Nat) (l : Str), l.length = n → (∀ b ∈ l, isDig b = true) → valD l < 10 ^ n
  | 0, l, h, _ => by
    have : l = [] := List.eq_nil_of_length_eq_zero h
    subst this
    simp [valD]
  | n + 1, l, h, hd => by
    have hne : l ≠ [] := fun e => by subst e; simp at h
    obtain ⟨l', b, rfl⟩ : ∃ l' b, l = l' ++ [b] := ⟨l.dropLast, l.getLast hne, (List.dropLast_concat_getLast hne).symm⟩
    have ih := valD_lt n l' (by simpa using h) fun b hb => hd b (by simp [hb])
    have hb := (isDig_iff b).1 (hd b (by simp))
    rw [valD_snoc, Nat.pow_succ]
    omega
end Go.Jo
