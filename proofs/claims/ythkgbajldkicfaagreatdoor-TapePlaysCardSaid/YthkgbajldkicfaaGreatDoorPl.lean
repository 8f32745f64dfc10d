/-
  Texts that are made of runes of one or two bytes, none of which is a line's end: the runes, and the text of the runes.
-/
import Derived.Test.YthkgbajldkicfaaGreatDoorRound
import Derived.Test.YthkgbajldkicfaaGreatDoorXMem3
namespace Go.Proofs.YthkgbajldkicfaaGreatDoor
set_option linter.unusedVariables false
set_option linter.unusedSimpArgs false
open Go Go.Jo
set_option maxRecDepth 100000

def enc2 (c : Nat) : Str := if c < 128 then [UInt8.ofNat c] else [UInt8.ofNat (192 + c / 64), UInt8.ofNat (128 + c % 64)]
def encL (cs : List Nat) : Str := cs.flatMap enc2
def cpOk (c : Nat) : Prop := c < 2048 ∧ c ≠ 10
theorem encL_cons (c : Nat) (cs : List Nat) : encL (c :: cs) = enc2 c ++ encL cs := rfl
theorem encL_append (a b : List Nat) : encL (a ++ b) = encL a ++ encL b := by simp [encL]
theorem enc2_len (c : Nat) : (enc2 c).length = if c < 128 then 1 else 2 := by unfold enc2; split <;> rfl
theorem get_app (a b : Str) (k : Nat) (h : k < b.length) : (⟨(a ++ b).toArray⟩ : ByteArray).get! (a.length + k) = b[k] := by
  rw [get_list _ _ (by simp; omega)]
  rw [List.getElem_append_right (by omega)]
  congr 1
  omega
theorem decode_enc (pre post : Str) (c : Nat) (h : c < 2048) : Utf8.decode ⟨(pre ++ (enc2 c ++ post)).toArray⟩ pre.length = (c, (enc2 c).length) := by
  by_cases hc : c < 128
  · have e : enc2 c = [UInt8.ofNat c] := by unfold enc2; rw [if_pos hc]
    rw [e]
    have g := get_app pre ([UInt8.ofNat c] ++ post) 0 (by simp)
    have hb : (UInt8.ofNat c).toNat = c := by rw [UInt8.toNat_ofNat']; omega
    unfold Utf8.decode
    simp only [g]
    have g0 : (([UInt8.ofNat c] ++ post)[0]'(by simp)) = UInt8.ofNat c := rfl
    rw [g0, hb, if_pos hc]
    rfl
  · have e : enc2 c = [UInt8.ofNat (192 + c / 64), UInt8.ofNat (128 + c % 64)] := by unfold enc2; rw [if_neg hc]
    rw [e]
    have g := get_app pre ([UInt8.ofNat (192 + c / 64), UInt8.ofNat (128 + c % 64)] ++ post) 0 (by simp)
    have g' := get_app pre ([UInt8.ofNat (192 + c / 64), UInt8.ofNat (128 + c % 64)] ++ post) 1 (by simp)
    have b0 : (UInt8.ofNat (192 + c / 64)).toNat = 192 + c / 64 := by rw [UInt8.toNat_ofNat']; omega
    have b1 : (UInt8.ofNat (128 + c % 64)).toNat = 128 + c % 64 := by rw [UInt8.toNat_ofNat']; omega
    have g0 : (([UInt8.ofNat (192 + c / 64), UInt8.ofNat (128 + c % 64)] ++ post)[0]'(by simp)) = UInt8.ofNat (192 + c / 64) := rfl
    have g1 : (([UInt8.ofNat (192 + c / 64), UInt8.ofNat (128 + c % 64)] ++ post)[1]'(by simp)) = UInt8.ofNat (128 + c % 64) := rfl
    unfold Utf8.decode
    simp only [g, g', g0, g1, b0, b1]
    have hsz : pre.length + 1 < (⟨(pre ++ ([UInt8.ofNat (192 + c / 64), UInt8.ofNat (128 + c % 64)] ++ post)).toArray⟩ : ByteArray).size := by rw [size_list]; simp
    rw [if_neg (by omega)]
    have e1 : ((192 + c / 64) / 32 == 6) = true := by rw [beq_iff_eq]; omega
    have e2 : ((128 + c % 64) / 64 == 2) = true := by rw [beq_iff_eq]; omega
    rw [e1, e2, decide_eq_true hsz]
    simp only [Bool.true_and, if_true]
    have e3 : (192 + c / 64) % 32 * 64 + (128 + c % 64) % 64 = c := by omega
    rw [e3, if_pos (by omega)]
    rfl
abbrev runesV (cs : List Nat) : List Value := cs.map fun (c : Nat) => Value.int .i32 (c : Int)
theorem runes_enc : ∀ (cs : List Nat) (pre : Str) (f : Nat) (acc : Array Value), (∀ c ∈ cs, c < 2048) → (encL cs).length ≤ f →
    Conv.runesFrom ⟨(pre ++ encL cs).toArray⟩ f pre.length acc = acc ++ (runesV cs).toArray
  | [], pre, f, acc, _, _ => by
    cases f with
    | zero => simp [Conv.runesFrom]
    | succ f =>
      unfold Conv.runesFrom
      rw [if_neg (by rw [size_list]; simp [encL])]
      simp
  | c :: cs, pre, f, acc, h, hf => by
    have hc := h c (by simp)
    have hl := enc2_len c
    rw [encL_cons, List.length_append] at hf
    cases f with
    | zero => split at hl <;> omega
    | succ f =>
      unfold Conv.runesFrom
      rw [encL_cons, if_pos (by rw [size_list]; simp; split at hl <;> omega), decode_enc pre (encL cs) c hc]
      simp only
      have e : pre ++ (enc2 c ++ encL cs) = (pre ++ enc2 c) ++ encL cs := by simp
      have e2 : pre.length + (enc2 c).length = (pre ++ enc2 c).length := by simp
      rw [e, e2, runes_enc cs (pre ++ enc2 c) f _ (fun d hd => h d (by simp [hd])) (by split at hl <;> omega)]
      simp
theorem encode_enc (c : Nat) (h : c < 2048) : Utf8.encode (c : Int) = ⟨(enc2 c).toArray⟩ := by
  unfold Utf8.encode Utf8.valid
  have hv : (decide ((0 : Int) ≤ (c : Int)) && decide ((c : Int) < 55296) || decide (57344 ≤ (c : Int)) && decide ((c : Int) ≤ 1114111)) = true := by
    rw [decide_eq_true (by omega), decide_eq_true (by omega)]
    rfl
  simp only [hv, if_true, Int.toNat_natCast]
  unfold enc2
  by_cases hc : c < 128
  · rw [if_pos hc, if_pos hc]
  · rw [if_neg hc, if_neg hc, if_pos h]
theorem bytes_enc : ∀ (cs : List Nat), (∀ c ∈ cs, c < 2048) → ∀ acc : Str, (cs.map fun (c : Nat) => (c : Int)).foldl (fun r n => r ++ Utf8.encode n) (⟨acc.toArray⟩ : ByteArray) = ⟨(acc ++ encL cs).toArray⟩
  | [], _, acc => by simp [encL]
  | c :: cs, h, acc => by
    rw [List.map_cons, List.foldl_cons, encode_enc c (h c (by simp)), ba_append, bytes_enc cs (fun d hd => h d (by simp [hd])), encL_cons]
    simp
theorem runesBytes_enc {cs : List Nat} (h : ∀ c ∈ cs, c < 2048) : runesBytes (cs.map fun (c : Nat) => (c : Int)) = ⟨(encL cs).toArray⟩ := bytes_enc cs h []

/-! ### Such texts -/
/-- What a text is made of. -/
def cp (s : Str) : List Nat := (runesM s).map (·.2)
theorem runesFrom_enc : ∀ (cs : List Nat) (pre : Str) (f : Nat), (∀ c ∈ cs, c < 2048) → (encL cs).length ≤ f → (runesFrom ⟨(pre ++ encL cs).toArray⟩ f pre.length).map (·.2) = cs
  | [], pre, f, _, _ => by
    rw [runesFrom_end _ _ _ (by rw [size_list]; simp [encL])]
    rfl
  | c :: cs, pre, f, h, hf => by
    have hc := h c (by simp)
    have hl := enc2_len c
    rw [encL_cons, List.length_append] at hf
    cases f with
    | zero => split at hl <;> omega
    | succ f =>
      rw [runesFrom_step _ _ _ (by rw [size_list]; simp [encL_cons]; split at hl <;> omega), encL_cons, decode_enc pre (encL cs) c hc]
      simp only [List.map_cons]
      have e : pre ++ (enc2 c ++ encL cs) = (pre ++ enc2 c) ++ encL cs := by simp
      have e2 : pre.length + (enc2 c).length = (pre ++ enc2 c).length := by simp
      rw [e, e2, runesFrom_enc cs (pre ++ enc2 c) f (fun d hd => h d (by simp [hd])) (by split at hl <;> omega)]
theorem cp_enc {cs : List Nat} (h : ∀ c ∈ cs, c < 2048) : cp (encL cs) = cs := runesFrom_enc cs [] _ h (Nat.le_refl _)
structure Plain (s : Str) : Prop where
  enc : encL (cp s) = s
  ok : ∀ c ∈ cp s, cpOk c
theorem plain_of {cs : List Nat} (h : ∀ c ∈ cs, cpOk c) : Plain (encL cs) := by
  have e := cp_enc (cs := cs) fun c hc => (h c hc).1
  exact ⟨by rw [e], by rw [e]; exact h⟩
theorem Plain.append {a b : Str} (ha : Plain a) (hb : Plain b) : Plain (a ++ b) := by
  rw [← ha.enc, ← hb.enc, ← encL_append]
  exact plain_of fun c hc => by
    rcases List.mem_append.1 hc with h | h
    · exact ha.ok c h
    · exact hb.ok c h
theorem plain_nil : Plain [] := plain_of (cs := []) (by simp)
theorem plain_low : ∀ {s : Str}, (∀ b ∈ s, b.toNat < 128 ∧ b.toNat ≠ 10) → Plain s
  | [], _ => plain_nil
  | b :: s, h => by
    have ih := plain_low (s := s) fun c hc => h c (by simp [hc])
    have hb := h b (by simp)
    have e : [b] = encL [b.toNat] := by
      show [b] = enc2 b.toNat ++ []
      unfold enc2
      rw [if_pos hb.1]
      simp
    have h1 : Plain [b] := by
      rw [e]
      exact plain_of fun c hc => by
        rw [List.mem_singleton] at hc
        subst hc
        exact ⟨by omega, hb.2⟩
    exact h1.append ih
theorem plain_flat {l : List Str} (h : ∀ x ∈ l, Plain x) : Plain l.flatten := by
  induction l with
  | nil => exact plain_nil
  | cons x l ih => exact (h x (by simp)).append (ih fun y hy => h y (by simp [hy]))
theorem plain_dig {s : Str} (h : ∀ b ∈ s, isDig b = true) : Plain s := plain_low fun b hb => by
  have := (isDig_iff b).1 (h b hb)
  omega
theorem plain_itoa {n : Int} (h : 0 ≤ n) : Plain (Lib.itoa n) := by
  obtain ⟨u, rfl⟩ := Int.eq_ofNat_of_zero_le h
  rw [Lib.itoa_nonneg]
  exact plain_dig (dec_dig u)
theorem plain_vec {v : VecM} (h : vecOk v) : Plain (vecT v) := ((plain_itoa h.1).append (plain_low (by decide))).append (plain_itoa h.2.2.1)
theorem plain_flag (b : Bool) : Plain (flagT b) := by cases b <;> exact plain_low (by decide)
theorem plain_signed (c : UInt8) (hc : c.toNat < 128 ∧ c.toNat ≠ 10) {l : List Str} (h : ∀ x ∈ l, Plain x) : Plain (signedT c l) := plain_flat fun x hx => by
  obtain ⟨y, hy, rfl⟩ := List.mem_map.1 hx
  have h1 : Plain [c] := plain_low (by simpa using hc)
  exact h1.append (h y hy)
theorem plain_join (c : UInt8) (hc : c.toNat < 128 ∧ c.toNat ≠ 10) {l : List Str} (h : ∀ x ∈ l, Plain x) : Plain (Lib.join l [c]) := by
  cases l with
  | nil => exact plain_nil
  | cons x l =>
    rw [Lib.join_cons]
    exact (h x (by simp)).append (plain_signed c hc fun y hy => h y (by simp [hy]))
/-- All names of a record are such texts. -/
structure NamesPlain (r : RecM) : Prop where
  name : Plain r.node.name
  marks : ∀ x ∈ r.node.marks, Plain x
  taints : ∀ x ∈ r.node.taints, Plain x
  places : ∀ p ∈ r.places, Plain p.pod ∧ Plain p.node
theorem plain_verb (k : Nat) : Plain (verbsM.getD k []) := by
  have h7 : ∀ k, k < 7 → ∀ b ∈ verbsM.getD k [], b.toNat < 128 ∧ b.toNat ≠ 10 := by decide
  by_cases hk : k < 7
  · exact plain_low (h7 k hk)
  · have : verbsM.getD k [] = [] := by rw [List.getD_eq_getElem?_getD, List.getElem?_eq_none (by simpa [verbsM] using hk)]; rfl
    rw [this]
    exact plain_nil
theorem plain_text {r : RecM} (h : RecOk r) (hn : NamesPlain r) : Plain (textM r) := by
  have hc : ((32 : UInt8).toNat < 128 ∧ (32 : UInt8).toNat ≠ 10) := by decide
  refine plain_join 32 hc fun x hx => ?_
  obtain ⟨_, n2, _⟩ := h.nodeAll
  unfold wordsT frontT at hx
  simp only [List.mem_append, List.mem_cons, List.not_mem_nil, or_false] at hx
  rcases hx with ((rfl | rfl) | hx) | hx
  · unfold headT
    split
    · exact plain_verb _
    · exact plain_nil
  · unfold secT
    split
    · exact (((((hn.name.append (plain_low (by decide))).append (plain_vec n2)).append (plain_signed 43 (by decide) hn.marks)).append (plain_signed 126 (by decide) hn.taints)).append (plain_flag _))
    · split
      · exact hn.name
      · exact plain_itoa h.small.2
  · split at hx
    · rename_i hp
      rw [List.mem_singleton] at hx
      subst hx
      exact plain_join 44 (by decide) fun y hy => by
        obtain ⟨n, hn, rfl⟩ := List.mem_map.1 hy
        exact plain_itoa ((h.peers hp).2 n hn).1
    · simp at hx
  · obtain ⟨p, hp, rfl⟩ := List.mem_map.1 hx
    have hq := hn.places p hp
    exact (((((hq.1.append (plain_low (by decide))).append hq.2).append (plain_low (by decide))).append (plain_vec (h.places p hp).need)).append (plain_flag _))
end Go.Proofs.YthkgbajldkicfaaGreatDoor
