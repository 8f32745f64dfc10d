/-
  A line that is read is the one that is written of what was read.
-/
import Derived.Test.YthkgbajldkicfaaGreatDoorTxt3
namespace Go.Proofs.YthkgbajldkicfaaGreatDoor
set_option linter.unusedVariables false
set_option linter.unusedSimpArgs false
open Go Go.Jo
set_option maxRecDepth 100000

theorem digU (b : UInt8) (h : isDig b = true) : UInt8.ofNat (48 + (b.toNat - 48)) = b := by
  obtain ⟨h1, h2⟩ := (isDig_iff b).1 h
  have : 48 + (b.toNat - 48) = b.toNat := by omega
  rw [this]
  simp
theorem foldD_ge : ∀ (l : Str) (a : Nat), a ≤ l.foldl (fun n b => n * 10 + (b.toNat - 48)) a
  | [], a => Nat.le_refl _
  | b :: l, a => by
    have := foldD_ge l (a * 10 + (b.toNat - 48))
    simp only [List.foldl_cons]
    omega
theorem valD_pos (b : UInt8) (l : Str) (hd : isDig b = true) (hb : b ≠ 48) : 1 ≤ valD (b :: l) := by
  have h := foldD_ge l (0 * 10 + (b.toNat - 48))
  obtain ⟨h1, h2⟩ := (isDig_iff b).1 hd
  have h3 : b.toNat ≠ 48 := fun e => hb (UInt8.toNat_inj.1 (by rw [e]; rfl))
  unfold valD
  rw [List.foldl_cons]
  omega
theorem dec_val : ∀ (n : Nat) (ds : Str), ds.length = n + 1 → (∀ b ∈ ds, isDig b = true) → (1 ≤ n → ds.head? ≠ some 48) → Lib.decDigits (valD ds) = ds
  | 0, ds, hl, hd, _ => by
    obtain ⟨b, rfl⟩ : ∃ b, ds = [b] := by
      match ds, hl with
      | [b], _ => exact ⟨b, rfl⟩
    have h := (isDig_iff b).1 (hd b (by simp))
    have hv : valD [b] = b.toNat - 48 := by simp [valD]
    rw [hv, Lib.decDigits_one (by omega), digU b (hd b (by simp))]
  | n + 1, ds, hl, hd, hh => by
    have hne : ds ≠ [] := fun e => by subst e; simp at hl
    obtain ⟨l, b, rfl⟩ : ∃ l b, ds = l ++ [b] := ⟨ds.dropLast, ds.getLast hne, (List.dropLast_concat_getLast hne).symm⟩
    have hll : l.length = n + 1 := by simpa using hl
    have hdl : ∀ x ∈ l, isDig x = true := fun x hx => hd x (by simp [hx])
    obtain ⟨c, t, rfl⟩ : ∃ c t, l = c :: t := by
      cases l with
      | nil => simp at hll
      | cons c t => exact ⟨c, t, rfl⟩
    have hc : c ≠ 48 := fun e => hh (by omega) (by subst e; rfl)
    have ih := dec_val n (c :: t) hll hdl fun _ e => hc (by simpa using e)
    have hp := valD_pos c t (hdl c (by simp)) hc
    have hb := (isDig_iff b).1 (hd b (by simp))
    rw [valD_snoc, Lib.decDigits, dif_neg (by omega)]
    have e1 : (valD (c :: t) * 10 + (b.toNat - 48)) / 10 = valD (c :: t) := by omega
    have e2 : (valD (c :: t) * 10 + (b.toNat - 48)) % 10 = b.toNat - 48 := by omega
    rw [e1, e2, ih, digU b (hd b (by simp))]
theorem takeWhile_all (p : UInt8 → Bool) (l : Str) : ∀ b ∈ l.takeWhile p, p b = true := fun b hb => by
  induction l with
  | nil => simp at hb
  | cons x l ih =>
    rw [List.takeWhile_cons] at hb
    split at hb
    · rename_i hx
      rcases List.mem_cons.1 hb with rfl | hb
      · exact hx
      · exact ih hb
    · simp at hb
theorem takeWhile_head (p : UInt8 → Bool) (l : Str) (h : l.takeWhile p ≠ []) : (l.takeWhile p).head? = l.head? := by
  cases l with
  | nil => rfl
  | cons x l =>
    rw [List.takeWhile_cons] at h ⊢
    split
    · rfl
    · rename_i hx
      rw [if_neg hx] at h
      exact absurd rfl h

/-! ### Readers -/
theorem sign_back (c : UInt8) (s : Str) : s = (if (signP c s).1 then [c] else []) ++ (signP c s).2 := by
  unfold signP
  split
  · rename_i b t
    by_cases h : b = c
    · subst h; simp
    · simp [h]
  · rfl
theorem name_back (r : Rd) : r.s = r.name.1 ++ r.name.2.s := (List.takeWhile_append_dropWhile).symm
theorem name_no {r : Rd} (h : r.name.2.no = false) : r.no = false := (Bool.or_eq_false_iff.1 h).1
theorem must_back {c : UInt8} {r : Rd} (h : (r.must c).no = false) : r.no = false ∧ r.s = c :: (r.must c).s := by
  have h' := Bool.or_eq_false_iff.1 h
  refine ⟨h'.2, ?_⟩
  have h1 : (signP c r.s).1 = true := by simpa using h'.1
  have := sign_back c r.s
  rw [h1] at this
  exact this
theorem number_back {r : Rd} (h : r.number.2.no = false) : r.no = false ∧ r.s = Lib.itoa r.number.1 ++ r.number.2.s ∧ r.number.1 < 1000000000000000 := by
  unfold Rd.number at h ⊢
  simp only at h ⊢
  split at h
  · simp at h
  · rename_i hc
    rw [if_neg hc]
    have h' := Bool.or_eq_false_iff.1 h
    have hne : r.s.takeWhile isDig ≠ [] := by simpa using h'.2
    have hpos : 0 < (r.s.takeWhile isDig).length := List.length_pos_iff.2 hne
    have hall := takeWhile_all isDig r.s
    have hlen : (r.s.takeWhile isDig).length ≤ 15 := by
      apply Nat.le_of_not_lt
      exact fun hh => hc (.inl hh)
    refine ⟨h'.1, ?_, ?_⟩
    · simp only
      rw [Lib.itoa_nonneg, dec_val ((r.s.takeWhile isDig).length - 1) _ (by omega) hall fun h1 h2 => hc (.inr ⟨by omega, by rw [← takeWhile_head isDig r.s hne]; exact h2⟩), List.takeWhile_append_dropWhile]
    · simp only
      have := valD_lt _ _ rfl hall
      exact Nat.lt_of_lt_of_le this (Nat.pow_le_pow_right (by omega) hlen)
theorem vec_back {r : Rd} (h : r.vec.2.no = false) : r.no = false ∧ r.s = vecT r.vec.1 ++ r.vec.2.s := by
  have h1 : (((r.number.2.must 44).number).2).no = false := h
  obtain ⟨a1, a2, _⟩ := number_back h1
  obtain ⟨b1, b2⟩ := must_back a1
  obtain ⟨c1, c2, _⟩ := number_back b1
  refine ⟨c1, ?_⟩
  show r.s = (Lib.itoa (r.number.1 : Nat) ++ [44] ++ Lib.itoa ((r.number.2.must 44).number.1 : Nat)) ++ ((r.number.2.must 44).number).2.s
  rw [List.append_assoc, ← a2, c2]
  simp only [List.append_assoc]
  congr 1
theorem signedN_back (c : UInt8) : ∀ (f : Nat) (r : Rd), (Rd.signedN c f r).2.no = false → r.no = false ∧ r.s = signedT c (Rd.signedN c f r).1 ++ (Rd.signedN c f r).2.s
  | 0, r, h => ⟨h, by simp [Rd.signedN, signedT]⟩
  | f + 1, r, h => by
    unfold Rd.signedN at h ⊢
    split at h
    · rename_i hs
      rw [if_pos hs]
      simp only at h ⊢
      obtain ⟨h1, h2⟩ := signedN_back c f _ h
      have h3 := name_no h1
      refine ⟨h3, ?_⟩
      have h4 := sign_back c r.s
      have hs' : (signP c r.s).1 = true := hs
      rw [hs'] at h4
      have h5 := name_back (r.sign c).2
      have h6 : (r.sign c).2.s = (signP c r.s).2 := rfl
      rw [h4, ← h6, h5, h2]
      simp [signedT]
    · rename_i hs
      rw [if_neg hs]
      exact ⟨h, by simp [signedT]⟩
theorem signed_back {c : UInt8} {r : Rd} (h : (r.signed c).2.no = false) : r.no = false ∧ r.s = signedT c (r.signed c).1 ++ (r.signed c).2.s := signedN_back c _ r h
theorem signF_back (c : UInt8) (hc : c = 33) (r : Rd) : r.s = flagT (r.sign c).1 ++ (r.sign c).2.s := by
  subst hc
  have := sign_back 33 r.s
  exact this
theorem node_back {r : Rd} (h : r.node.2.no = false) : r.no = false ∧ r.s = nodeT r.node.1 ++ r.node.2.s := by
  obtain ⟨a, ha⟩ : ∃ a, a = r.name := ⟨_, rfl⟩
  obtain ⟨b, hb⟩ : ∃ b, b = (a.2.must 58).vec := ⟨_, rfl⟩
  obtain ⟨c, hc⟩ : ∃ c, c = b.2.signed 43 := ⟨_, rfl⟩
  obtain ⟨d, hd⟩ : ∃ d, d = c.2.signed 126 := ⟨_, rfl⟩
  obtain ⟨e, he⟩ : ∃ e, e = d.2.sign 33 := ⟨_, rfl⟩
  have hn : r.node = (⟨a.1, b.1, c.1, d.1, e.1⟩, e.2) := by
    unfold Rd.node
    simp only [← ha, ← hb, ← hc, ← hd, ← he]
  rw [hn] at h ⊢
  simp only at h ⊢
  have hdn : d.2.no = false := by rw [he] at h; exact h
  have es := signF_back 33 rfl d.2
  rw [← he] at es
  rw [hd] at hdn
  obtain ⟨d1, d2⟩ := signed_back hdn
  rw [hc] at d1
  obtain ⟨c1, c2⟩ := signed_back d1
  rw [hb] at c1
  obtain ⟨b1, b2⟩ := vec_back c1
  obtain ⟨a1, a2⟩ := must_back b1
  have hs := name_back r
  rw [← hd] at d2
  rw [← hc] at c2
  rw [← hb] at b2
  rw [← ha] at hs
  rw [ha] at a1
  refine ⟨name_no a1, ?_⟩
  rw [hs, a2, b2, c2, d2, es]
  simp [nodeT]
theorem place_back {r : Rd} (h : r.place.2.no = false) : r.no = false ∧ r.s = placeT r.place.1 ++ r.place.2.s := by
  have hc : (((r.name.2.must 62).name.2.must 58).vec.2).no = false := h
  obtain ⟨c1, c2⟩ := vec_back hc
  obtain ⟨b1, b2⟩ := must_back c1
  have b3 := name_no b1
  obtain ⟨a1, a2⟩ := must_back b3
  refine ⟨name_no a1, ?_⟩
  have e := signF_back 33 rfl ((r.name.2.must 62).name.2.must 58).vec.2
  show r.s = (r.name.1 ++ [62] ++ (r.name.2.must 62).name.1 ++ [58] ++ vecT ((r.name.2.must 62).name.2.must 58).vec.1 ++ flagT (((r.name.2.must 62).name.2.must 58).vec.2.sign 33).1) ++ (((r.name.2.must 62).name.2.must 58).vec.2.sign 33).2.s
  rw [List.append_assoc, ← e, List.append_assoc, ← c2, List.append_assoc]
  have b2' : (r.name.2.must 62).name.2.s = [58] ++ ((r.name.2.must 62).name.2.must 58).s := b2
  rw [← b2', List.append_assoc, ← name_back, List.append_assoc]
  have a2' : r.name.2.s = [62] ++ (r.name.2.must 62).s := a2
  rw [← a2', ← name_back]
theorem peersN_back : ∀ (f : Nat) (r : Rd), (Rd.peersN f r).2.no = false → r.no = false ∧ r.s = Lib.joinTail [44] ((Rd.peersN f r).1.map Lib.itoa) ++ (Rd.peersN f r).2.s
  | 0, r, h => ⟨h, by simp [Rd.peersN, Lib.joinTail]⟩
  | f + 1, r, h => by
    unfold Rd.peersN at h ⊢
    split at h
    · rename_i hs
      rw [if_pos hs]
      simp only at h ⊢
      obtain ⟨h1, h2⟩ := peersN_back f _ h
      obtain ⟨h3, h5, _⟩ := number_back h1
      refine ⟨h3, ?_⟩
      have h4 := sign_back 44 r.s
      have hs' : (signP 44 r.s).1 = true := hs
      rw [hs'] at h4
      have h6 : (r.sign 44).2.s = (signP 44 r.s).2 := rfl
      rw [h4, ← h6, h5, h2]
      simp [Lib.joinTail]
    · rename_i hs
      rw [if_neg hs]
      exact ⟨h, by simp [Lib.joinTail]⟩
theorem peers_back {r : Rd} (h : r.peers.2.no = false) : r.no = false ∧ r.s = peersT r.peers.1 ++ r.peers.2.s := by
  have h1 : (Rd.peersN r.number.2.s.length r.number.2).2.no = false := h
  obtain ⟨a1, a2⟩ := peersN_back _ _ h1
  obtain ⟨b1, b2, _⟩ := number_back a1
  refine ⟨b1, ?_⟩
  show r.s = Lib.join (List.map Lib.itoa ((r.number.1 : Int) :: (Rd.peersN r.number.2.s.length r.number.2).1)) [44] ++ (Rd.peersN r.number.2.s.length r.number.2).2.s
  rw [List.map_cons, Lib.join_cons, List.append_assoc, ← a2, ← b2]
theorem fin_back {r : Rd} (h : r.fin = true) : r.no = false ∧ r.s = [] := by
  unfold Rd.fin at h
  simpa using h

/-! ### Lines -/
theorem spl_ne (s : Str) : spl s ≠ [] := by
  cases s with
  | nil => simp [spl]
  | cons b t =>
    unfold spl
    split
    · simp
    · split <;> simp
theorem spl_join : ∀ s : Str, Lib.join (spl s) [32] = s
  | [] => rfl
  | b :: t => by
    have ih := spl_join t
    unfold spl
    by_cases hb : b = 32
    · subst hb
      rw [if_pos rfl]
      cases hs : spl t with
      | nil => exact absurd hs (spl_ne t)
      | cons x r =>
        rw [hs, Lib.join_cons] at ih
        rw [Lib.join_cons]
        simp only [Lib.joinTail, List.map_cons, List.flatten_cons, List.nil_append] at ih ⊢
        rw [List.append_assoc, ih]
        rfl
    · rw [if_neg hb]
      cases hs : spl t with
      | nil => exact absurd hs (spl_ne t)
      | cons x r =>
        rw [hs, Lib.join_cons] at ih
        simp only
        rw [Lib.join_cons, List.cons_append, ih]
theorem kind_back {a : Str} (h : kindM a ≠ 0) : verbsM.getD (kindM a - 1) [] = a ∧ kindM a ≤ 7 := by
  unfold kindM at h ⊢
  split at h
  · rename_i i hi
    obtain ⟨hlt, h1, _⟩ := List.findIdx?_eq_some_iff_getElem.1 hi
    have h1 : verbsM[i] = a := by simpa using h1
    have hl : verbsM.length = 7 := rfl
    refine ⟨?_, by omega⟩
    rw [Nat.add_sub_cancel, List.getD_eq_getElem?_getD, List.getElem?_eq_getElem hlt, h1]
    rfl
  · simp at h
theorem head_kind (k : Nat) (b : Str) : (headM k b).1.kind = k := by
  unfold headM
  split
  · rfl
  · split <;> rfl
theorem headT_of {a : Str} (h : kindM a ≠ 0) {r : RecM} (hr : r.kind = kindM a) : headT r = a := by
  obtain ⟨h1, h2⟩ := kind_back h
  unfold headT
  have e : r.kind.toNat - 1 = kindM a - 1 := by omega
  rw [if_pos (by omega), e]
  exact h1
theorem headM_node (b : Str) : headM 1 b = ({ zRec with kind := 1, node := (Rd.node ⟨b, false⟩).1 }, (Rd.node ⟨b, false⟩).2.fin) := rfl
theorem headM_gone (b : Str) : headM 2 b = ({ zRec with kind := 2, node := { zNode with name := (Rd.name ⟨b, false⟩).1 } }, (Rd.name ⟨b, false⟩).2.fin) := rfl
theorem headM_else {k : Nat} (h1 : k ≠ 1) (h2 : k ≠ 2) (b : Str) : headM k b = ({ zRec with kind := k, gang := (Rd.number ⟨b, false⟩).1 }, (Rd.number ⟨b, false⟩).2.fin) := by
  unfold headM
  rw [if_neg h1, if_neg h2]
theorem secT_node {r : RecM} (h : r.kind = 1) : secT r = nodeT r.node := by unfold secT; rw [if_pos h]
theorem secT_gone {r : RecM} (h : r.kind = 2) : secT r = r.node.name := by unfold secT; rw [if_neg (by omega), if_pos h]
theorem secT_else {r : RecM} (h1 : r.kind ≠ 1) (h2 : r.kind ≠ 2) : secT r = Lib.itoa r.gang := by unfold secT; rw [if_neg h1, if_neg h2]
theorem head_back {k : Nat} {b : Str} (h : (headM k b).2 = true) : secT (headM k b).1 = b := by
  by_cases h1 : k = 1
  · subst h1
    rw [headM_node] at h ⊢
    obtain ⟨n1, n2⟩ := fin_back h
    obtain ⟨_, e⟩ := node_back n1
    rw [secT_node rfl]
    rw [n2, List.append_nil] at e
    exact e.symm
  · by_cases h2 : k = 2
    · subst h2
      rw [headM_gone] at h ⊢
      obtain ⟨n1, n2⟩ := fin_back h
      have e := name_back ⟨b, false⟩
      rw [secT_gone rfl]
      rw [n2, List.append_nil] at e
      exact e.symm
    · rw [headM_else h1 h2] at h ⊢
      obtain ⟨n1, n2⟩ := fin_back h
      obtain ⟨_, e, _⟩ := number_back n1
      rw [secT_else (by simp only; omega) (by simp only; omega)]
      rw [n2, List.append_nil] at e
      exact e.symm
theorem secT_places (r : RecM) (x : List PlaceM) (y : List Int) : secT { r with places := x, peers := y } = secT r := rfl
theorem places_back : ∀ l : List Str, finsM l = true → (placesM l).map placeT = l
  | [], _ => rfl
  | x :: l, h => by
    unfold finsM at h
    rw [List.all_cons, Bool.and_eq_true] at h
    have ih := places_back l h.2
    obtain ⟨n1, n2⟩ := fin_back h.1
    obtain ⟨_, e⟩ := place_back n1
    rw [n2, List.append_nil] at e
    show placeT (Rd.place ⟨x, false⟩).1 :: (placesM l).map placeT = x :: l
    rw [ih, ← e]
theorem read_back {l : List Str} (h : (readM l).2 = true) : wordsT (readM l).1 = l := by
  match l with
  | [] => simp [readM] at h
  | [a] => simp [readM] at h
  | a :: b :: rest =>
    by_cases hk : kindM a = 0
    · have : readM (a :: b :: rest) = (zRec, false) := by simp only [readM, hk, if_true]
      rw [this] at h
      simp at h
    · have hkd := head_kind (kindM a) b
      have hsm : (headM (kindM a) b).1.peers = [] ∧ (headM (kindM a) b).1.places = [] := by
        unfold headM
        split
        · exact ⟨rfl, rfl⟩
        · split <;> exact ⟨rfl, rfl⟩
      have tl : ∀ (r : RecM) (is : Bool) (rest : List Str), r.kind = kindM a → r.places = [] → (tailM (kindM a) r is rest).2 = true → is = true ∧ wordsT (tailM (kindM a) r is rest).1 = frontT r ++ rest := fun r is rest hr hpl ht => by
        unfold tailM at ht ⊢
        split at ht
        · rename_i h3
          rw [if_pos h3]
          rw [Bool.and_eq_true] at ht
          have : rest = [] := by simpa using ht.2
          subst this
          refine ⟨ht.1, ?_⟩
          simp [wordsT, hpl]
        · rename_i h3
          rw [if_neg h3]
          simp only [Bool.and_eq_true] at ht
          refine ⟨ht.1, ?_⟩
          simp only [wordsT, places_back rest ht.2]
          rfl
      cases hp : peeredM (kindM a) with
      | false =>
        rw [readM_bare hk hp] at h ⊢
        obtain ⟨h1, h2⟩ := tl _ _ _ hkd hsm.2 h
        rw [h2]
        have hpi : peeredI (headM (kindM a) b).1.kind = false := by
          rw [hkd]
          unfold peeredM at hp
          unfold peeredI
          rw [Bool.or_eq_false_iff] at hp ⊢
          simp only [decide_eq_false_iff_not] at hp ⊢
          omega
        rw [frontT, headT_of hk hkd, head_back h1, hpi]
        simp
      | true =>
        cases rest with
        | nil => rw [readM_nil hk hp] at h; simp at h
        | cons p rest =>
          rw [readM_peer hk hp] at h ⊢
          obtain ⟨h1, h2⟩ := tl _ _ _ (by exact hkd) (by exact hsm.2) h
          rw [h2]
          have hpi : peeredI (headM (kindM a) b).1.kind = true := by
            rw [hkd]
            unfold peeredM at hp
            unfold peeredI
            rw [Bool.or_eq_true] at hp ⊢
            simp only [decide_eq_true_eq] at hp ⊢
            omega
          rw [Bool.and_eq_true] at h1
          obtain ⟨n1, n2⟩ := fin_back h1.1
          obtain ⟨_, e⟩ := peers_back n1
          rw [n2, List.append_nil] at e
          have e' : peersT (Rd.peers ⟨p, false⟩).1 = p := e.symm
          have hpi' : peeredI ({ (headM (kindM a) b).1 with peers := (Rd.peers ⟨p, false⟩).1 } : RecM).kind = true := hpi
          rw [frontT, headT_of hk (by exact hkd), hpi']
          have hs : secT { (headM (kindM a) b).1 with peers := (Rd.peers ⟨p, false⟩).1 } = b := (show _ = secT (headM (kindM a) b).1 from rfl).trans (head_back h1.2)
          rw [hs, if_pos rfl]
          simp only
          rw [e']
          rfl
/-- What is read, is what was written. -/
theorem parse_back {s : Str} (h : (parseM s).2 = 0) : textM (parseM s).1 = s := by
  unfold parseM at h ⊢
  simp only at h ⊢
  split at h
  · simp at h
  · rename_i h1
    rw [if_neg h1]
    split at h
    · rename_i h2
      exact absurd h h2
    · rename_i h2
      rw [if_neg h2]
      simp only
      have h3 : (readM (wordsM s)).2 = true := by simpa using h1
      unfold textM
      rw [read_back h3]
      unfold wordsM at h3 ⊢
      split
      · rename_i h4
        rw [if_pos h4] at h3
        simp [readM] at h3
      · exact spl_join s
theorem parse_zero {s : Str} (h : (parseM s).2 ≠ 0) : (parseM s).1 = zRec := by
  unfold parseM at h ⊢
  simp only at h ⊢
  split
  · rfl
  · rename_i h1
    rw [if_neg h1] at h
    split
    · rfl
    · rename_i h2
      rw [if_neg h2] at h
      exact absurd rfl h
end Go.Proofs.YthkgbajldkicfaaGreatDoor
