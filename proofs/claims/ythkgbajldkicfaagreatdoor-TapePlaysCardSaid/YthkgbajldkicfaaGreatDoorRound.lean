/-
  A record that may be: its line, read, is it.
-/
import Derived.Test.YthkgbajldkicfaaGreatDoorCanon
namespace Go.Proofs.YthkgbajldkicfaaGreatDoor
set_option linter.unusedVariables false
set_option linter.unusedSimpArgs false
open Go Go.Jo
set_option maxRecDepth 100000

/-- A row of signs, none of which parts. -/
structure Clean (s : Str) : Prop where
  ne : s ≠ []
  cl : ∀ b ∈ s, isPart b = false
  len : s.length ≤ 32
/-- What stands behind: nothing, or what parts. -/
def Ends (s : Str) : Prop := s = [] ∨ ∃ b t, s = b :: t ∧ isPart b = true
theorem dig_clean {b : UInt8} (h : isDig b = true) : isPart b = false := by
  obtain ⟨h1, h2⟩ := (isDig_iff b).1 h
  unfold isPart
  simp only [Bool.or_eq_false_iff, beq_eq_false_iff_ne]
  refine ⟨⟨⟨⟨⟨⟨⟨?_, ?_⟩, ?_⟩, ?_⟩, ?_⟩, ?_⟩, ?_⟩, ?_⟩ <;> (intro e; subst e; revert h1 h2; decide)
theorem high_clean {b : UInt8} (h : 128 ≤ b.toNat) : isPart b = false := by
  unfold isPart
  simp only [Bool.or_eq_false_iff, beq_eq_false_iff_ne]
  refine ⟨⟨⟨⟨⟨⟨⟨?_, ?_⟩, ?_⟩, ?_⟩, ?_⟩, ?_⟩, ?_⟩, ?_⟩ <;> (intro e; subst e; revert h; decide)
theorem good_clean {b : UInt8} (h : letterC b.toNat = true ∨ digitC b.toNat = true) : isPart b = false := by
  have h' : 97 ≤ b.toNat ∧ b.toNat ≤ 122 ∨ 945 ≤ b.toNat ∧ b.toNat ≤ 969 ∨ 48 ≤ b.toNat ∧ b.toNat ≤ 57 := by
    unfold letterC digitC at h
    simp only [decide_eq_true_eq] at h
    omega
  unfold isPart
  simp only [Bool.or_eq_false_iff, beq_eq_false_iff_ne]
  refine ⟨⟨⟨⟨⟨⟨⟨?_, ?_⟩, ?_⟩, ?_⟩, ?_⟩, ?_⟩, ?_⟩, ?_⟩ <;> (intro e; subst e; revert h'; decide)
/-- Behind a place that runes come to, all signs are runes' own, or high. -/
theorem runes_bytes (l : Str) (q : Nat → Bool) (hq : ∀ c : Nat, q c = true → letterC c = true ∨ digitC c = true) : ∀ (f pos : Nat), l.length ≤ pos + f → (∀ p ∈ runesFrom ⟨l.toArray⟩ f pos, q p.2 = true) → ∀ j (hj : j < l.length), pos ≤ j → isPart l[j] = false
  | 0, pos, hf, _, j, hj, hp => by omega
  | f + 1, pos, hf, hall, j, hj, hp => by
    have hlt : pos < (⟨l.toArray⟩ : ByteArray).size := by rw [size_list]; omega
    rw [runesFrom_step _ _ _ hlt] at hall
    have h0 := hall _ (List.mem_cons_self ..)
    have hr := fun p hp => hall p (List.mem_cons_of_mem _ hp)
    have hpos : pos < l.length := by omega
    have hw := decode_wide l pos hpos
    by_cases hlow : l[pos].toNat < 128
    · have hd := decode_low l pos hpos hlow
      rw [hd] at h0 hr
      by_cases e : j = pos
      · subst e
        exact good_clean (hq _ h0)
      · exact runes_bytes l q hq f _ (by omega) hr j hj (by simp only; omega)
    · obtain ⟨_, h2, h3, h4⟩ := decode_up l pos hpos (by omega)
      by_cases e : j < pos + (Utf8.decode ⟨l.toArray⟩ pos).2
      · exact high_clean (h4 j hj hp e)
      · exact runes_bytes l q hq f _ (by omega) hr j hj (by omega)
theorem decode_narrow (s : ByteArray) (i : Nat) : (Utf8.decode s i).2 ≤ 4 := by
  unfold Utf8.decode
  simp only
  repeat' split
  all_goals first | decide | (dsimp only; omega)
theorem runes_cover (l : Str) : ∀ (f pos : Nat), l.length ≤ pos + f → l.length ≤ pos + 4 * (runesFrom ⟨l.toArray⟩ f pos).length
  | 0, pos, h => by omega
  | f + 1, pos, h => by
    by_cases hlt : pos < (⟨l.toArray⟩ : ByteArray).size
    · rw [runesFrom_step _ _ _ hlt, List.length_cons]
      have h1 := decode_narrow ⟨l.toArray⟩ pos
      have hpos : pos < l.length := by rw [size_list] at hlt; exact hlt
      have h2 := decode_wide l pos hpos
      have ih := runes_cover l f (pos + (Utf8.decode ⟨l.toArray⟩ pos).2) (by omega)
      omega
    · rw [size_list] at hlt
      omega
theorem name_clean {s : Str} (h : nameM s = true) : Clean s := by
  unfold nameM at h
  rw [Bool.and_eq_true, Bool.and_eq_true] at h
  obtain ⟨⟨h1, h2⟩, h3⟩ := h
  have h4 := runes_cover s s.length 0 (by omega)
  have h3 : (runesFrom ⟨s.toArray⟩ s.length 0).length ≤ 8 := of_decide_eq_true h3
  refine ⟨by simpa using h2, fun b hb => ?_, by omega⟩
  obtain ⟨j, hj, rfl⟩ := List.mem_iff_getElem.1 hb
  refine runes_bytes s (fun c => letterC c || digitC c) (fun c hc => by simpa using hc) s.length 0 (by omega) (fun p hp => ?_) j hj (Nat.zero_le _)
  have := List.all_eq_true.1 h1 p hp
  simp only [Bool.or_eq_true, Bool.and_eq_true] at this ⊢
  rcases this with h | h
  · exact .inl h
  · exact .inr h.1

/-! ### Numbers -/
theorem dig_of (k : Nat) (h : k < 10) : isDig (UInt8.ofNat (48 + k)) = true ∧ (UInt8.ofNat (48 + k)).toNat - 48 = k ∧ (k ≠ 0 → UInt8.ofNat (48 + k) ≠ 48) := by
  have : ∀ k : Fin 10, isDig (UInt8.ofNat (48 + k.val)) = true ∧ (UInt8.ofNat (48 + k.val)).toNat - 48 = k.val ∧ (k.val ≠ 0 → UInt8.ofNat (48 + k.val) ≠ 48) := by decide
  exact this ⟨k, h⟩
theorem dec_dig (u : Nat) : ∀ b ∈ Lib.decDigits u, isDig b = true := by
  induction u using Nat.strongRecOn with
  | _ u ih =>
    intro b hb
    by_cases h : u < 10
    · rw [Lib.decDigits_one h] at hb
      rw [List.mem_singleton] at hb
      subst hb
      exact (dig_of u h).1
    · rw [Lib.decDigits, dif_neg h] at hb
      rcases List.mem_append.1 hb with hb | hb
      · exact ih (u / 10) (by omega) b hb
      · rw [List.mem_singleton] at hb
        subst hb
        exact (dig_of (u % 10) (by omega)).1
theorem dec_ne (u : Nat) : Lib.decDigits u ≠ [] := by
  by_cases h : u < 10
  · rw [Lib.decDigits_one h]; simp
  · rw [Lib.decDigits, dif_neg h]; simp
theorem valD_dec (u : Nat) : valD (Lib.decDigits u) = u := by
  induction u using Nat.strongRecOn with
  | _ u ih =>
    by_cases h : u < 10
    · rw [Lib.decDigits_one h]
      simp only [valD, List.foldl_cons, List.foldl_nil]
      rw [(dig_of u h).2.1]
      omega
    · rw [Lib.decDigits, dif_neg h, valD_snoc, ih (u / 10) (by omega), (dig_of (u % 10) (by omega)).2.1]
      omega
theorem dec_head (u : Nat) : 1 ≤ u → (Lib.decDigits u).head? ≠ some 48 := by
  induction u using Nat.strongRecOn with
  | _ u ih =>
    intro h1
    by_cases h : u < 10
    · rw [Lib.decDigits_one h]
      intro e
      exact (dig_of u h).2.2 (by omega) (by simpa using e)
    · rw [Lib.decDigits, dif_neg h]
      have h2 := ih (u / 10) (by omega) (by omega)
      have h3 := dec_ne (u / 10)
      cases hd : Lib.decDigits (u / 10) with
      | nil => exact absurd hd h3
      | cons c t => rw [hd] at h2; exact h2
theorem dec_len {u : Nat} (h : u < 1000000000000000) : (Lib.decDigits u).length ≤ 15 := by
  rw [Lib.decDigits_length]
  apply Nat.le_of_not_lt
  intro hh
  have h2 : ∀ (k u : Nat), k < Lib.nDigits u → 1 ≤ k → 10 ^ k ≤ u := by
    intro k
    induction k with
    | zero => intro u _ h0; omega
    | succ k ih =>
      intro u hu _
      by_cases hs : u < 10
      · rw [Lib.nDigits_small hs] at hu; omega
      · rw [Lib.nDigits_big hs] at hu
        by_cases hk : k = 0
        · subst hk; omega
        · have := ih (u / 10) (by omega) (by omega)
          rw [Nat.pow_succ]
          omega
  have := h2 15 u hh (by omega)
  omega
theorem takeWhile_ends (p : UInt8 → Bool) (x rest : Str) (hx : ∀ b ∈ x, p b = true) (hr : rest = [] ∨ ∃ b t, rest = b :: t ∧ p b = false) : (x ++ rest).takeWhile p = x ∧ (x ++ rest).dropWhile p = rest := by
  induction x with
  | nil =>
    rcases hr with rfl | ⟨b, t, rfl, hb⟩
    · simp
    · simp [hb]
  | cons a x ih =>
    have ha := hx a (by simp)
    have := ih fun b hb => hx b (by simp [hb])
    simp [ha, this.1, this.2]
theorem number_of {n : Int} (h0 : 0 ≤ n) (h1 : n < 1000000000000000) {rest : Str} (hr : Ends rest) (no : Bool) : Rd.number ⟨Lib.itoa n ++ rest, no⟩ = (n.toNat, ⟨rest, no⟩) := by
  obtain ⟨u, rfl⟩ := Int.eq_ofNat_of_zero_le h0
  rw [Lib.itoa_nonneg]
  have hw := takeWhile_ends isDig (Lib.decDigits u) rest (dec_dig u) (by
    rcases hr with h | ⟨b, t, h, hb⟩
    · exact .inl h
    · refine .inr ⟨b, t, h, ?_⟩
      cases hd : isDig b with
      | false => rfl
      | true => rw [dig_clean hd] at hb; cases hb)
  have hl := dec_len (u := u) (by omega)
  unfold Rd.number
  simp only [hw.1, hw.2]
  have hne := dec_ne u
  rw [if_neg]
  · rw [valD_dec]
    have : (Lib.decDigits u).isEmpty = false := by simpa using hne
    rw [this, Bool.or_false, Int.toNat_natCast]
  · rintro (h | ⟨h2, h3⟩)
    · omega
    · by_cases hu : u < 10
      · rw [Lib.decDigits_one hu] at h2
        simp at h2
      · have h4 := dec_head u (by omega)
        cases hd : Lib.decDigits u with
        | nil => exact hne hd
        | cons c t => rw [hd] at h3 h4; exact h4 h3
theorem name_of {x rest : Str} (hx : Clean x) (hr : Ends rest) (no : Bool) : Rd.name ⟨x ++ rest, no⟩ = (x, ⟨rest, no⟩) := by
  have hw := takeWhile_ends (fun b => !isPart b) x rest (fun b hb => by rw [hx.2 b hb]; rfl) (by
    rcases hr with h | ⟨b, t, h, hb⟩
    · exact .inl h
    · exact .inr ⟨b, t, h, by rw [hb]; rfl⟩)
  unfold Rd.name
  simp only [hw.1, hw.2]
  have : x.isEmpty = false := by simpa using hx.1
  rw [this, Bool.or_false]
theorem must_of (c : UInt8) (rest : Str) (no : Bool) : Rd.must c ⟨c :: rest, no⟩ = ⟨rest, no⟩ := by
  unfold Rd.must signP
  simp
theorem sign_yes (c : UInt8) (rest : Str) (no : Bool) : Rd.sign c ⟨c :: rest, no⟩ = (true, ⟨rest, no⟩) := by
  unfold Rd.sign signP
  simp
theorem sign_none {c : UInt8} {rest : Str} (h : rest.head? ≠ some c) (no : Bool) : Rd.sign c ⟨rest, no⟩ = (false, ⟨rest, no⟩) := by
  unfold Rd.sign signP
  cases rest with
  | nil => rfl
  | cons b t =>
    have : b ≠ c := fun e => h (by rw [e]; rfl)
    simp [this]
def vecOk (v : VecM) : Prop := 0 ≤ v.cpu ∧ v.cpu < 1000000000000000 ∧ 0 ≤ v.mem ∧ v.mem < 1000000000000000
theorem vec_of {v : VecM} (hv : vecOk v) {rest : Str} (hr : Ends rest) (no : Bool) : Rd.vec ⟨vecT v ++ rest, no⟩ = (v, ⟨rest, no⟩) := by
  obtain ⟨h1, h2, h3, h4⟩ := hv
  unfold Rd.vec vecT
  have e1 : (Lib.itoa v.cpu ++ [44] ++ Lib.itoa v.mem ++ rest) = Lib.itoa v.cpu ++ (44 :: (Lib.itoa v.mem ++ rest)) := by simp
  rw [e1]
  have n1 := number_of h1 h2 (rest := 44 :: (Lib.itoa v.mem ++ rest)) (.inr ⟨44, _, rfl, by decide⟩) no
  simp only [n1, must_of]
  rw [number_of h3 h4 hr no]
  simp only
  rw [Int.toNat_of_nonneg h1, Int.toNat_of_nonneg h3]
theorem signed_ends (c : UInt8) (hc : isPart c = true) (l : List Str) (rest : Str) (hr : Ends rest) : Ends (signedT c l ++ rest) := by
  cases l with
  | nil => simpa [signedT] using hr
  | cons x l => exact .inr ⟨c, _, by simp [signedT]; rfl, hc⟩
theorem signedN_of (c : UInt8) (hc : isPart c = true) {rest : Str} (hr : Ends rest) (hh : rest.head? ≠ some c) (no : Bool) : ∀ (l : List Str) (f : Nat), l.length ≤ f → (∀ x ∈ l, Clean x) → Rd.signedN c f ⟨signedT c l ++ rest, no⟩ = (l, ⟨rest, no⟩)
  | [], 0, _, _ => by simp [Rd.signedN, signedT]
  | [], f + 1, _, _ => by
    have : signedT c [] ++ rest = rest := by simp [signedT]
    rw [this]
    unfold Rd.signedN
    rw [sign_none hh]
    simp
  | x :: l, 0, h, _ => by simp at h
  | x :: l, f + 1, h, hx => by
    have ih := signedN_of c hc hr hh no l f (by simpa using h) fun y hy => hx y (by simp [hy])
    have e : signedT c (x :: l) ++ rest = c :: (x ++ (signedT c l ++ rest)) := by simp [signedT]
    rw [e]
    unfold Rd.signedN
    rw [sign_yes]
    simp only [if_true]
    rw [name_of (hx x (by simp)) (signed_ends c hc l rest hr)]
    simp only
    rw [ih]
theorem signed_of (c : UInt8) (hc : isPart c = true) {rest : Str} (hr : Ends rest) (hh : rest.head? ≠ some c) (no : Bool) (l : List Str) (hx : ∀ x ∈ l, Clean x) : Rd.signed c ⟨signedT c l ++ rest, no⟩ = (l, ⟨rest, no⟩) := by
  unfold Rd.signed
  refine signedN_of c hc hr hh no l _ ?_ hx
  have : l.length ≤ (signedT c l).length := by
    clear hx
    induction l with
    | nil => simp
    | cons x l ih => simp [signedT] at ih ⊢; omega
  simp
  omega
theorem flag_of (b no : Bool) : Rd.sign 33 ⟨flagT b, no⟩ = (b, ⟨[], no⟩) := by
  cases b
  · exact sign_none (by simp [flagT]) no
  · exact sign_yes 33 [] no
theorem flag_ends (b : Bool) : Ends (flagT b) := by
  cases b
  · exact .inl rfl
  · exact .inr ⟨33, [], rfl, by decide⟩
theorem flag_head (b : Bool) (c : UInt8) (h : c ≠ 33) : (flagT b).head? ≠ some c := by
  cases b
  · simp [flagT]
  · simp [flagT]; exact fun e => h e.symm
structure NodeOk (n : NodeM) : Prop where
  name : Clean n.name
  cap : vecOk n.cap
  marks : ∀ x ∈ n.marks, Clean x
  taints : ∀ x ∈ n.taints, Clean x
  mlen : n.marks.length ≤ 4
  tlen : n.taints.length ≤ 4
theorem node_of {n : NodeM} (h : NodeOk n) : Rd.node ⟨nodeT n, false⟩ = (n, ⟨[], false⟩) := by
  have e : nodeT n = n.name ++ (58 :: (vecT n.cap ++ (signedT 43 n.marks ++ (signedT 126 n.taints ++ flagT n.closed)))) := by simp [nodeT]
  rw [e]
  unfold Rd.node
  have t1 := signed_ends 126 (by decide) n.taints _ (flag_ends n.closed)
  have t2 := signed_ends 43 (by decide) n.marks _ t1
  rw [name_of h.name (.inr ⟨58, _, rfl, by decide⟩)]
  simp only [must_of]
  rw [vec_of h.cap t2]
  simp only
  rw [signed_of 43 (by decide) t1 (by
    cases n.taints with
    | nil => simpa [signedT] using flag_head n.closed 43 (by decide)
    | cons x l => simp [signedT]) false n.marks h.marks]
  simp only
  rw [signed_of 126 (by decide) (flag_ends _) (flag_head _ 126 (by decide)) false n.taints h.taints]
  simp only
  rw [flag_of]
structure PlaceOk (p : PlaceM) : Prop where
  pod : Clean p.pod
  node : Clean p.node
  need : vecOk p.need
theorem place_of {p : PlaceM} (h : PlaceOk p) : Rd.place ⟨placeT p, false⟩ = (p, ⟨[], false⟩) := by
  have e : placeT p = p.pod ++ (62 :: (p.node ++ (58 :: (vecT p.need ++ flagT p.alone)))) := by simp [placeT]
  rw [e]
  unfold Rd.place
  rw [name_of h.pod (.inr ⟨62, _, rfl, by decide⟩)]
  simp only [must_of]
  rw [name_of h.node (.inr ⟨58, _, rfl, by decide⟩)]
  simp only [must_of]
  rw [vec_of h.need (flag_ends _)]
  simp only
  rw [flag_of]
theorem peersN_of : ∀ (l : List Int) (f : Nat), l.length ≤ f → (∀ n ∈ l, 0 ≤ n ∧ n < 1000000000000000) → Rd.peersN f ⟨Lib.joinTail [44] (l.map Lib.itoa), false⟩ = (l, ⟨[], false⟩)
  | [], 0, _, _ => by simp [Rd.peersN, Lib.joinTail]
  | [], f + 1, _, _ => by
    unfold Rd.peersN
    have : Lib.joinTail [44] (List.map Lib.itoa []) = [] := by simp [Lib.joinTail]
    rw [this, sign_none (by simp)]
    simp
  | n :: l, 0, h, _ => by simp at h
  | n :: l, f + 1, h, hx => by
    have ih := peersN_of l f (by simpa using h) fun y hy => hx y (by simp [hy])
    have e : Lib.joinTail [44] ((n :: l).map Lib.itoa) = 44 :: (Lib.itoa n ++ Lib.joinTail [44] (l.map Lib.itoa)) := by simp [Lib.joinTail]
    have he : Ends (Lib.joinTail [44] (l.map Lib.itoa)) := by
      cases l with
      | nil => exact .inl (by simp [Lib.joinTail])
      | cons m l => exact .inr ⟨44, _, by simp [Lib.joinTail]; rfl, by decide⟩
    rw [e]
    unfold Rd.peersN
    rw [sign_yes]
    simp only [if_true]
    have hn := hx n (by simp)
    rw [number_of hn.1 hn.2 he]
    simp only
    rw [ih, Int.toNat_of_nonneg hn.1]
theorem joinTail_len (l : List Int) : l.length ≤ (Lib.joinTail [44] (l.map Lib.itoa)).length := by
  induction l with
  | nil => simp
  | cons x l ih => simp [Lib.joinTail] at ih ⊢; omega
theorem peers_of {l : List Int} (hne : l ≠ []) (h : ∀ n ∈ l, 0 ≤ n ∧ n < 1000000000000000) : Rd.peers ⟨peersT l, false⟩ = (l, ⟨[], false⟩) := by
  cases l with
  | nil => exact absurd rfl hne
  | cons n l =>
    have hn := h n (by simp)
    have he : Ends (Lib.joinTail [44] (l.map Lib.itoa)) := by
      cases l with
      | nil => exact .inl (by simp [Lib.joinTail])
      | cons m l => exact .inr ⟨44, _, by simp [Lib.joinTail]; rfl, by decide⟩
    have e : peersT (n :: l) = Lib.itoa n ++ Lib.joinTail [44] (l.map Lib.itoa) := by unfold peersT; rw [List.map_cons, Lib.join_cons]
    rw [e]
    unfold Rd.peers
    rw [number_of hn.1 hn.2 he]
    simp only
    rw [peersN_of l _ (joinTail_len l) fun y hy => h y (by simp [hy]), Int.toNat_of_nonneg hn.1]

/-! ### Words -/
theorem spl_word : ∀ (x rest : Str), 32 ∉ x → spl (x ++ 32 :: rest) = x :: spl rest
  | [], rest, _ => by
    show spl (32 :: rest) = _
    conv => lhs; unfold spl
    rw [if_pos rfl]
  | b :: x, rest, h => by
    have hb : b ≠ 32 := fun e => h (by simp [e])
    have ih := spl_word x rest fun hx => h (by simp [hx])
    show spl (b :: (x ++ 32 :: rest)) = _
    conv => lhs; unfold spl
    rw [if_neg hb, ih]
theorem spl_last : ∀ (x : Str), 32 ∉ x → spl x = [x]
  | [], _ => rfl
  | b :: x, h => by
    have hb : b ≠ 32 := fun e => h (by simp [e])
    have ih := spl_last x fun hx => h (by simp [hx])
    conv => lhs; unfold spl
    rw [if_neg hb, ih]
theorem spl_of : ∀ (ws : List Str), ws ≠ [] → (∀ x ∈ ws, 32 ∉ x) → spl (Lib.join ws [32]) = ws
  | [], h, _ => absurd rfl h
  | [x], _, h => by rw [Lib.join_one]; exact spl_last x (h x (by simp))
  | x :: y :: l, _, h => by
    have ih := spl_of (y :: l) (by simp) fun z hz => h z (by simp [hz])
    have e : Lib.join (x :: y :: l) [32] = x ++ 32 :: Lib.join (y :: l) [32] := by
      rw [Lib.join_cons, Lib.join_cons]
      simp [Lib.joinTail]
    rw [e, spl_word x _ (h x (by simp)), ih]
theorem clean_no32 {x : Str} (h : ∀ b ∈ x, isPart b = false) : 32 ∉ x := fun hm => by
  have := h 32 hm
  revert this
  decide
theorem itoa_no32 {n : Int} (h : 0 ≤ n) : 32 ∉ Lib.itoa n ∧ Lib.itoa n ≠ [] := by
  obtain ⟨u, rfl⟩ := Int.eq_ofNat_of_zero_le h
  rw [Lib.itoa_nonneg]
  exact ⟨clean_no32 fun b hb => dig_clean (dec_dig u b hb), dec_ne u⟩
theorem vec_no32 {v : VecM} (h : vecOk v) : 32 ∉ vecT v := by
  unfold vecT
  simp only [List.mem_append, not_or]
  exact ⟨⟨(itoa_no32 h.1).1, by decide⟩, (itoa_no32 h.2.2.1).1⟩
theorem signed_no32 {c : UInt8} (hc : c ≠ 32) : ∀ {l : List Str}, (∀ x ∈ l, Clean x) → 32 ∉ signedT c l
  | [], _ => by simp [signedT]
  | x :: l, h => by
    have ih := signed_no32 hc (l := l) fun y hy => h y (by simp [hy])
    have e : signedT c (x :: l) = c :: x ++ signedT c l := by simp [signedT]
    rw [e]
    simp only [List.mem_append, List.mem_cons, not_or]
    exact ⟨⟨fun e => hc e.symm, clean_no32 (h x (by simp)).2⟩, ih⟩
theorem flag_no32 (b : Bool) : 32 ∉ flagT b := by cases b <;> decide
theorem node_no32 {n : NodeM} (h : NodeOk n) : 32 ∉ nodeT n ∧ nodeT n ≠ [] := by
  unfold nodeT
  refine ⟨?_, by simp⟩
  simp only [List.mem_append, not_or]
  exact ⟨⟨⟨⟨⟨clean_no32 h.name.2, by decide⟩, vec_no32 h.cap⟩, signed_no32 (by decide) h.marks⟩, signed_no32 (by decide) h.taints⟩, flag_no32 _⟩
theorem place_no32 {p : PlaceM} (h : PlaceOk p) : 32 ∉ placeT p ∧ placeT p ≠ [] := by
  unfold placeT
  refine ⟨?_, by simp⟩
  simp only [List.mem_append, not_or]
  exact ⟨⟨⟨⟨⟨clean_no32 h.pod.2, by decide⟩, clean_no32 h.node.2⟩, by decide⟩, vec_no32 h.need⟩, flag_no32 _⟩
theorem tail_no32 : ∀ {l : List Int}, (∀ n ∈ l, 0 ≤ n ∧ n < 1000000000000000) → 32 ∉ Lib.joinTail [44] (l.map Lib.itoa)
  | [], _ => by simp [Lib.joinTail]
  | n :: l, h => by
    have ih := tail_no32 (l := l) fun y hy => h y (by simp [hy])
    have e : Lib.joinTail [44] ((n :: l).map Lib.itoa) = 44 :: Lib.itoa n ++ Lib.joinTail [44] (l.map Lib.itoa) := by simp [Lib.joinTail]
    rw [e]
    simp only [List.mem_append, List.mem_cons, not_or]
    exact ⟨⟨by decide, (itoa_no32 (h n (by simp)).1).1⟩, ih⟩
theorem peers_no32 {l : List Int} (hne : l ≠ []) (h : ∀ n ∈ l, 0 ≤ n ∧ n < 1000000000000000) : 32 ∉ peersT l ∧ peersT l ≠ [] := by
  cases l with
  | nil => exact absurd rfl hne
  | cons n l =>
    have hn := itoa_no32 (h n (by simp)).1
    unfold peersT
    rw [List.map_cons, Lib.join_cons]
    refine ⟨?_, fun e => hn.2 (List.append_eq_nil_iff.1 e).1⟩
    rw [List.mem_append, not_or]
    exact ⟨hn.1, tail_no32 fun y hy => h y (by simp [hy])⟩

/-! ### Records that may be -/
theorem part_ok {n : Int} (h : partM n = true) : 0 ≤ n ∧ n < 1000000000000000 := by
  unfold partM at h
  rw [Bool.and_eq_true, decide_eq_true_eq, decide_eq_true_eq] at h
  omega
theorem room_ok {v : VecM} (h : roomM v = true) : vecOk v := by
  unfold roomM at h
  rw [Bool.and_eq_true] at h
  have a := part_ok h.1
  have b := part_ok h.2
  exact ⟨a.1, a.2, b.1, b.2⟩
theorem upTo_true {p : Nat → Bool} {n : Nat} (h : upTo p n = true) : ∀ i, i < n → p i = true := fun i hi => List.all_eq_true.1 h i (List.mem_range.2 hi)
theorem set_ok {l : List Str} (h : setM l = true) : ∀ x ∈ l, Clean x := fun x hx => by
  unfold setM at h
  rw [Bool.and_eq_true] at h
  obtain ⟨i, hi, rfl⟩ := List.mem_iff_getElem.1 hx
  have := upTo_true h.1 i hi
  unfold setP at this
  rw [Bool.and_eq_true, List.getD_eq_getElem?_getD, List.getElem?_eq_getElem hi] at this
  exact name_clean this.1
theorem set_len {l : List Str} (h : setM l = true) : l.length ≤ 4 := by
  unfold setM at h
  rw [Bool.and_eq_true, decide_eq_true_eq] at h
  exact h.2
theorem node_ok {n : NodeM} (h : nodeE n = 0) : NodeOk n := by
  unfold nodeE at h
  split at h
  · simp at h
  · rename_i h1
    split at h
    · simp at h
    · rename_i h2
      split at h
      · simp at h
      · rename_i h3
        simp only [Bool.or_eq_true, not_or, Bool.not_eq_true, Bool.not_eq_false'] at h1 h2 h3
        exact ⟨name_clean h1, room_ok h2, set_ok h3.1, set_ok h3.2, set_len h3.1, set_len h3.2⟩
theorem place_ok {p : PlaceM} (h : placeE p = 0) : PlaceOk p := by
  unfold placeE at h
  split at h
  · simp at h
  · rename_i h1
    split at h
    · simp at h
    · rename_i h2
      simp only [Bool.or_eq_true, not_or, Bool.not_eq_true, Bool.not_eq_false'] at h1 h2
      exact ⟨name_clean h1.1, name_clean h1.2, room_ok h2⟩
theorem rising_ok {l : List Int} (h : risingM l = true) : l ≠ [] ∧ ∀ n ∈ l, 0 ≤ n ∧ n < 1000000000000000 := by
  unfold risingM at h
  rw [Bool.and_eq_true, decide_eq_true_eq] at h
  refine ⟨List.length_pos_iff.1 h.2, fun n hn => ?_⟩
  obtain ⟨i, hi, rfl⟩ := List.mem_iff_getElem.1 hn
  have := upTo_true h.1 i hi
  unfold risingP at this
  rw [Bool.and_eq_true, Bool.and_eq_true, decide_eq_true_eq, decide_eq_true_eq, List.getD_eq_getElem?_getD, List.getElem?_eq_getElem hi] at this
  have h1 : 1 ≤ l[i] := this.1.1
  have h2 : l[i] ≤ 4 := this.1.2
  omega
theorem rising_len {l : List Int} (h : risingM l = true) : l.length ≤ 4 := by
  unfold risingM at h
  rw [Bool.and_eq_true, decide_eq_true_eq] at h
  have key : ∀ i, i < l.length → (i : Int) + 1 ≤ l.getD i 0 ∧ l.getD i 0 ≤ 4 := by
    intro i
    induction i with
    | zero =>
      intro hi
      have := upTo_true h.1 0 hi
      unfold risingP at this
      simp only [Bool.and_eq_true, decide_eq_true_eq] at this
      omega
    | succ i ih =>
      intro hi
      have := upTo_true h.1 (i + 1) hi
      unfold risingP at this
      simp only [Bool.and_eq_true, Bool.or_eq_true, decide_eq_true_eq, Nat.add_sub_cancel] at this
      have := ih (by omega)
      omega
  apply Nat.le_of_not_lt
  intro hl
  have := key 4 hl
  omega
theorem firstE_ok {l : List PlaceM} (h : firstE l (l.find? (fun p => placeE p ≠ 0)) = 0) : ∀ p ∈ l, PlaceOk p := fun p hp => by
  cases hf : l.find? (fun p => decide (placeE p ≠ 0)) with
  | some q =>
    rw [hf] at h
    have := List.find?_some hf
    simp only [decide_eq_true_eq] at this
    exact absurd h this
  | none =>
    have := List.find?_eq_none.1 hf p hp
    refine place_ok ?_
    simpa using this
theorem kind_of (k : Nat) (h1 : 1 ≤ k) (h2 : k ≤ 7) : kindM (verbsM.getD (k - 1) []) = k := by
  have : ∀ k : Fin 8, 1 ≤ k.val → kindM (verbsM.getD (k.val - 1) []) = k.val := by decide
  exact this ⟨k, by omega⟩ h1
theorem verb_clean (k : Nat) (h1 : 1 ≤ k) (h2 : k ≤ 7) : 32 ∉ verbsM.getD (k - 1) [] ∧ verbsM.getD (k - 1) [] ≠ [] := by
  have : ∀ k : Fin 8, 1 ≤ k.val → 32 ∉ verbsM.getD (k.val - 1) [] ∧ verbsM.getD (k.val - 1) [] ≠ [] := by decide
  exact this ⟨k, by omega⟩ h1
/-- What a record has that its kind has. -/
structure RecOk (r : RecM) : Prop where
  lo : 1 ≤ r.kind
  hi : r.kind ≤ 7
  node : r.kind = 1 → NodeOk r.node
  bare : r.kind ≠ 1 → r.node = { zNode with name := r.node.name }
  name : r.kind = 2 → Clean r.node.name
  noname : r.kind ≠ 1 → r.kind ≠ 2 → r.node.name = []
  nogang : r.kind ≤ 2 → r.gang = 0
  gang : 3 ≤ r.kind → 1 ≤ r.gang ∧ r.gang ≤ 999999
  peers : peeredI r.kind = true → r.peers ≠ [] ∧ ∀ n ∈ r.peers, 0 ≤ n ∧ n < 1000000000000000
  nopeers : peeredI r.kind = false → r.peers = []
  places : ∀ p ∈ r.places, PlaceOk p
  noplaces : r.kind ≠ 3 → r.places = []
  plen : r.peers.length ≤ 4
  pllen : r.places.length ≤ 8
  small : r.gang ≤ 999999 ∧ 0 ≤ r.gang
theorem rec_ok {r : RecM} (h : checkM r = 0) : RecOk r := by
  unfold checkM at h
  split at h
  · simp at h
  · rename_i h0
    simp only [not_or, Bool.not_eq_true] at h0
    obtain ⟨h1, h2, h3⟩ := h0
    have hm : ((!gangsM r.kind && decide (r.gang ≠ 0)) || (!peeredI r.kind && !r.peers.isEmpty) || (decide (r.kind ≠ 3) && !r.places.isEmpty)) = false ∧ (r.kind = 1 ∨ (!bareM r.node || (decide (r.kind ≠ 2) && decide (r.node.name ≠ []))) = false) := by
      unfold moreM at h3
      split at h3
      · cases h3
      · rename_i ha
        refine ⟨by simpa only [Bool.not_eq_true] using ha, ?_⟩
        split at h3
        · rename_i hb; exact .inl hb
        · exact .inr h3
    obtain ⟨hm1, hm2⟩ := hm
    simp only [Bool.or_eq_false_iff, Bool.and_eq_false_iff, Bool.not_eq_false', decide_eq_false_iff_not, List.isEmpty_iff, ne_eq, Decidable.not_not] at hm1
    obtain ⟨⟨g1, g2⟩, g3⟩ := hm1
    have hb : r.kind ≠ 1 → r.node = { zNode with name := r.node.name } ∧ (r.kind ≠ 2 → r.node.name = []) := fun hk => by
      rcases hm2 with e | e
      · exact absurd e hk
      · simp only [Bool.or_eq_false_iff, Bool.and_eq_false_iff, Bool.not_eq_false', decide_eq_false_iff_not, ne_eq, Decidable.not_not] at e
        refine ⟨?_, fun h2 => e.2.resolve_left h2⟩
        have e1 := e.1
        unfold bareM at e1
        simp only [Bool.and_eq_true, decide_eq_true_eq, Bool.not_eq_true'] at e1
        obtain ⟨⟨c1, c2⟩, c3⟩ := e1
        have c4 : r.node.marks = [] := List.eq_nil_of_length_eq_zero (by omega)
        have c5 : r.node.taints = [] := List.eq_nil_of_length_eq_zero (by omega)
        cases hn : r.node with
        | mk n c m t cl =>
          rw [hn] at c1 c3 c4 c5
          simp only at c1 c3 c4 c5
          subst c1 c3 c4 c5
          rfl
    have gk : r.kind ≤ 2 → r.gang = 0 := fun hk => by
      rcases g1 with e | e
      · unfold gangsM at e
        simp only [Bool.and_eq_true, decide_eq_true_eq] at e
        omega
      · exact e
    split at h
    · rename_i k1
      refine ⟨by omega, by omega, fun _ => node_ok h, fun hk => absurd k1 hk, fun hk => by omega, fun hk => absurd k1 hk, gk, fun hk => by omega, fun hp => ?_, fun hp => g2.resolve_left (by rw [hp]; simp), ?_, fun hk => g3.resolve_left hk, ?_, ?_, ?_⟩
      · rw [k1] at hp; exact absurd hp (by decide)
      · rw [g3.resolve_left (by omega)]; simp
      · rw [g2.resolve_left (by rw [k1]; decide)]; simp
      · rw [g3.resolve_left (by omega)]; simp
      · rw [gk (by omega)]; decide
    · rename_i k1
      split at h
      · simp at h
      · rename_i k2
        split at h
        · rename_i k3
          refine ⟨by omega, by omega, fun hk => absurd hk k1, fun hk => (hb hk).1, fun hk => ?_, fun hk => (hb hk).2, gk, fun hk => by omega, fun hp => ?_, fun hp => g2.resolve_left (by rw [hp]; simp), ?_, fun hk => g3.resolve_left hk, ?_, ?_, ?_⟩
          · cases hn : nameM r.node.name with
            | true => exact name_clean hn
            | false => exact absurd ⟨hk, hn⟩ k2
          · rw [k3] at hp; exact absurd hp (by decide)
          · rw [g3.resolve_left (by omega)]; simp
          · rw [g2.resolve_left (by rw [k3]; decide)]; simp
          · rw [g3.resolve_left (by omega)]; simp
          · rw [gk (by omega)]; decide
        · rename_i k3
          split at h
          · simp at h
          · rename_i k4
            simp only [not_or, not_and, Bool.not_eq_false] at k4
            obtain ⟨k5, k6, k7⟩ := k4
            refine ⟨by omega, by omega, fun hk => absurd hk k1, fun hk => (hb hk).1, fun hk => absurd hk k3, fun hk => (hb hk).2, gk, fun hk => by omega, fun hp => rising_ok (k7 hp), fun hp => g2.resolve_left (by rw [hp]; simp), ?_, fun hk => g3.resolve_left hk, ?_, ?_, by omega⟩
            · split at h
              · unfold placesE at h
                split at h
                · simp at h
                · exact firstE_ok h
              · rename_i k8
                rw [g3.resolve_left k8]; simp
            · cases hp : peeredI r.kind with
              | true => exact rising_len (k7 hp)
              | false => rw [g2.resolve_left (by rw [hp]; simp)]; simp
            · split at h
              · unfold placesE at h
                split at h
                · simp at h
                · omega
              · rename_i k8
                rw [g3.resolve_left k8]; simp
theorem sec_no32 {r : RecM} (h : RecOk r) : 32 ∉ secT r ∧ secT r ≠ [] := by
  unfold secT
  split
  · rename_i h1; exact node_no32 (h.node h1)
  · split
    · rename_i h2; exact ⟨clean_no32 (h.name h2).2, (h.name h2).1⟩
    · have := h.lo
      exact itoa_no32 (by have := (h.gang (by omega)).1; omega)
theorem words_no32 {r : RecM} (h : RecOk r) : ∀ x ∈ wordsT r, 32 ∉ x ∧ x ≠ [] := fun x hx => by
  unfold wordsT frontT at hx
  have := h.lo
  have := h.hi
  have hh : headT r = verbsM.getD (r.kind.toNat - 1) [] := by unfold headT; rw [if_pos (by omega)]
  simp only [List.mem_append, List.mem_cons, List.not_mem_nil, or_false] at hx
  rcases hx with ((rfl | rfl) | hx) | hx
  · rw [hh]; exact verb_clean _ (by omega) (by omega)
  · exact sec_no32 h
  · split at hx
    · rename_i hp
      rw [List.mem_singleton] at hx
      subst hx
      exact peers_no32 (h.peers hp).1 (h.peers hp).2
    · simp at hx
  · obtain ⟨p, hp, rfl⟩ := List.mem_map.1 hx
    exact place_no32 (h.places p hp)
theorem places_of : ∀ {l : List PlaceM}, (∀ p ∈ l, PlaceOk p) → placesM (l.map placeT) = l ∧ finsM (l.map placeT) = true
  | [], _ => ⟨rfl, rfl⟩
  | p :: l, h => by
    obtain ⟨h1, h2⟩ := places_of (l := l) fun q hq => h q (by simp [hq])
    have hp := place_of (h p (by simp))
    refine ⟨?_, ?_⟩
    · show (Rd.place ⟨placeT p, false⟩).1 :: placesM (l.map placeT) = _
      rw [h1, hp]
    · show ((Rd.place ⟨placeT p, false⟩).2.fin && finsM (l.map placeT)) = true
      rw [h2, hp]
      rfl
theorem head_of {r : RecM} (h : RecOk r) : headM r.kind.toNat (secT r) = ({ r with peers := [], places := [] }, true) := by
  have hlo := h.lo
  have hhi := h.hi
  unfold headM
  by_cases h1 : r.kind = 1
  · rw [if_pos (by omega)]
    have e : secT r = nodeT r.node := by unfold secT; rw [if_pos h1]
    rw [e, node_of (h.node h1)]
    have hg := h.nogang (by omega)
    cases r with
    | mk k g p pl n =>
      simp only at h1 hg ⊢
      subst h1 hg
      rfl
  · rw [if_neg (by omega)]
    have hb := h.bare h1
    by_cases h2 : r.kind = 2
    · rw [if_pos (by omega)]
      have e : secT r = r.node.name := by unfold secT; rw [if_neg h1, if_pos h2]
      have hn := name_of (h.name h2) (rest := []) (.inl rfl) false
      rw [List.append_nil] at hn
      rw [e, hn]
      have hg := h.nogang (by omega)
      cases r with
      | mk k g p pl n =>
        simp only at h2 hg hb ⊢
        subst h2 hg
        rw [← hb]
        rfl
    · rw [if_neg (by omega)]
      have e : secT r = Lib.itoa r.gang := by unfold secT; rw [if_neg h1, if_neg h2]
      have hg := h.gang (by omega)
      have hn := number_of (n := r.gang) (by omega) (by omega) (rest := []) (.inl rfl) false
      rw [List.append_nil] at hn
      rw [e, hn]
      have hz := h.noname h1 h2
      rw [hz] at hb
      cases r with
      | mk k g p pl n =>
        simp only at hb ⊢
        have hgn : ((g.toNat : Nat) : Int) = g := Int.toNat_of_nonneg (by simp only at hg; omega)
        have hk : ((k.toNat : Nat) : Int) = k := Int.toNat_of_nonneg (by simp only at hlo; omega)
        rw [hk, hgn, hb]
        rfl
/-- What may be is read as it was. -/
theorem parse_text {r : RecM} (h : checkM r = 0) : parseM (textM r) = (r, 0) := by
  have hr := rec_ok h
  have hlo := hr.lo
  have hhi := hr.hi
  have hw := words_no32 hr
  have hs : spl (textM r) = wordsT r := spl_of _ (by simp [wordsT, frontT]) fun x hx => (hw x hx).1
  have hwm : wordsM (textM r) = wordsT r := by
    unfold wordsM
    rw [hs, if_neg fun hh => (hw [] hh).2 rfl]
  have hh : headT r = verbsM.getD (r.kind.toNat - 1) [] := by unfold headT; rw [if_pos (by omega)]
  have hk : kindM (headT r) = r.kind.toNat := by rw [hh]; exact kind_of _ (by omega) (by omega)
  have hk0 : kindM (headT r) ≠ 0 := by omega
  have hread : readM (wordsT r) = (r, true) := by
    cases hp : peeredI r.kind with
    | true =>
      have hpm : peeredM (kindM (headT r)) = true := by
        rw [hk]
        unfold peeredI at hp
        unfold peeredM
        rw [Bool.or_eq_true, decide_eq_true_eq, decide_eq_true_eq] at hp ⊢
        omega
      have e : wordsT r = headT r :: secT r :: peersT r.peers :: r.places.map placeT := by
        unfold wordsT frontT
        rw [hp]
        rfl
      rw [e, readM_peer hk0 hpm, hk, head_of hr, peers_of (hr.peers hp).1 (hr.peers hp).2]
      simp only
      unfold tailM
      split
      · rename_i h3
        have := hr.noplaces (by omega)
        rw [this]
        simp only [List.map_nil, List.isEmpty_nil, Bool.and_true]
        cases r with
        | mk k g p pl n => simp only at this; subst this; rfl
      · have := places_of hr.places
        rw [this.1, this.2]
        cases r
        rfl
    | false =>
      have hpm : peeredM (kindM (headT r)) = false := by
        rw [hk]
        unfold peeredI at hp
        unfold peeredM
        rw [Bool.or_eq_false_iff, decide_eq_false_iff_not, decide_eq_false_iff_not] at hp ⊢
        omega
      have h3 : r.kind ≠ 3 := by
        intro e
        rw [e] at hp
        revert hp
        decide
      have hpl := hr.noplaces h3
      have hpe := hr.nopeers hp
      have e : wordsT r = [headT r, secT r] := by
        unfold wordsT frontT
        rw [hp, hpl]
        rfl
      rw [e, readM_bare hk0 hpm, hk, head_of hr]
      unfold tailM
      rw [if_pos (by omega)]
      cases r with
      | mk k g p pl n => simp only at hpl hpe; subst hpl hpe; rfl
  unfold parseM
  rw [hwm, hread]
  simp only
  rw [if_neg (by simp), if_neg (by rw [h]; simp)]
theorem vec_i64 {v : VecM} (h : vecOk v) : i64 v.cpu ∧ i64 v.mem := by
  obtain ⟨a, b, c, d⟩ := h
  exact ⟨⟨by omega, by omega⟩, ⟨by omega, by omega⟩⟩
theorem RecOk.nodeAll {r : RecM} (h : RecOk r) : r.node.name.length ≤ 32 ∧ vecOk r.node.cap ∧ (∀ x ∈ r.node.marks, Clean x) ∧ (∀ x ∈ r.node.taints, Clean x) ∧ r.node.marks.length ≤ 4 ∧ r.node.taints.length ≤ 4 := by
  by_cases h1 : r.kind = 1
  · have := h.node h1
    exact ⟨this.name.len, this.cap, this.marks, this.taints, this.mlen, this.tlen⟩
  · have hb := h.bare h1
    have hn : r.node.name.length ≤ 32 := by
      by_cases h2 : r.kind = 2
      · exact (h.name h2).len
      · rw [h.noname h1 h2]; simp
    have c : r.node.cap = zVec := by rw [hb]; rfl
    have m : r.node.marks = [] := by rw [hb]; rfl
    have t : r.node.taints = [] := by rw [hb]; rfl
    rw [c, m, t]
    exact ⟨hn, ⟨by decide, by decide, by decide, by decide⟩, by simp, by simp, by simp, by simp⟩
theorem tiny_ok {r : RecM} (h : RecOk r) : RecTiny r := by
  obtain ⟨n1, n2, n3, n4, n5, n6⟩ := h.nodeAll
  have hs := h.small
  have hp : ∀ n ∈ r.peers, i64 n := fun n hn => by
    cases hp : peeredI r.kind with
    | true => have := (h.peers hp).2 n hn; exact ⟨by omega, by omega⟩
    | false => rw [h.nopeers hp] at hn; simp at hn
  exact ⟨⟨by omega, by omega⟩, by have := h.plen; omega, hp, by have := h.pllen; omega, fun p hp => ⟨by have := (h.places p hp).pod.len; omega, by have := (h.places p hp).node.len; omega, (vec_i64 (h.places p hp).need).1, (vec_i64 (h.places p hp).need).2⟩, by omega, vec_i64 n2, by omega, fun x hx => by have := (n3 x hx).len; omega, by omega, fun x hx => by have := (n4 x hx).len; omega⟩
theorem small_ok {r : RecM} (h : RecOk r) : RecSmall r := by
  obtain ⟨n1, n2, n3, n4, n5, n6⟩ := h.nodeAll
  exact ⟨by have := h.plen; omega, by have := h.pllen; omega, fun p hp => ⟨by have := (h.places p hp).pod.len; omega, by have := (h.places p hp).node.len; omega⟩, by omega, by omega, fun x hx => by have := (n3 x hx).len; omega, by omega, fun x hx => by have := (n4 x hx).len; omega⟩
theorem words_len {r : RecM} (h : RecOk r) : (wordsT r).length ≤ 11 ∧ ∀ x ∈ wordsT r, x.length ≤ 400 := by
  obtain ⟨n1, n2, n3, n4, n5, n6⟩ := h.nodeAll
  have ht := tiny_ok h
  refine ⟨?_, fun x hx => ?_⟩
  · have := h.pllen
    unfold wordsT frontT
    split <;> simp <;> omega
  · unfold wordsT frontT at hx
    simp only [List.mem_append, List.mem_cons, List.not_mem_nil, or_false] at hx
    rcases hx with ((rfl | rfl) | hx) | hx
    · have := headT_len r; omega
    · unfold secT
      split
      · have a1 := vecT_len ht.cap
        have a2 := flat_le (l := r.node.marks) (m := 32) (fun y hy => (n3 y hy).len) 43
        have a3 := flat_le (l := r.node.taints) (m := 32) (fun y hy => (n4 y hy).len) 126
        have a4 : (flagT r.node.closed).length ≤ 1 := by cases r.node.closed <;> decide
        have a5 : r.node.marks.length * (32 + 1) ≤ 4 * 33 := Nat.mul_le_mul n5 (by omega)
        have a6 : r.node.taints.length * (32 + 1) ≤ 4 * 33 := Nat.mul_le_mul n6 (by omega)
        simp only [nodeT, List.length_append, List.length_cons, List.length_nil]
        omega
      · split
        · omega
        · have := Lib.itoa_length_le r.gang ht.gang.1 ht.gang.2; omega
    · split at hx
      · rw [List.mem_singleton] at hx
        subst hx
        unfold peersT
        have := join_le (l := r.peers.map Lib.itoa) (m := 21) (fun y hy => by
          obtain ⟨n, hn, rfl⟩ := List.mem_map.1 hy
          have := ht.peer n hn
          exact Lib.itoa_length_le n this.1 this.2) 44
        rw [List.length_map] at this
        have h2 : r.peers.length * (21 + 1) ≤ 4 * 22 := Nat.mul_le_mul h.plen (by omega)
        omega
      · simp at hx
    · obtain ⟨p, hp, rfl⟩ := List.mem_map.1 hx
      have a1 := vecT_len (ht.place p hp).2.2
      have a2 : (flagT p.alone).length ≤ 1 := by cases p.alone <;> decide
      have a3 := (h.places p hp).pod.len
      have a4 := (h.places p hp).node.len
      simp only [placeT, List.length_append, List.length_cons, List.length_nil]
      omega
theorem text_len {r : RecM} (h : RecOk r) : (textM r).length ≤ 5000 := by
  obtain ⟨a, b⟩ := words_len h
  have := join_le b 32
  have h2 : (wordsT r).length * (400 + 1) ≤ 11 * 401 := Nat.mul_le_mul a (by omega)
  unfold textM
  omega
end Go.Proofs.YthkgbajldkicfaaGreatDoor
