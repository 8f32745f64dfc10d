/-
  The reader of words: what it reads.
-/
import Derived.Test.YthkgbajldkicfaaGreatDoorRd
namespace Go.Proofs.YthkgbajldkicfaaGreatDoor
set_option linter.unusedVariables false
set_option linter.unusedSimpArgs false
open Go Go.Jo
set_option maxRecDepth 100000

abbrev vecC (v : VecM) : List Value := [.int .i64 v.cpu, .int .i64 v.mem]
abbrev vecV (v : VecM) : Value := .agg #[.int .i64 v.cpu, .int .i64 v.mem]
theorem c_vec {w : World} {b : Nat} {r : Rd} (hb : w.heap[b]? = some (rdO r)) : RetT Tryz.prog F_line_reader_vec #[pt b] w b (rdO r.vec.2) (vecV r.vec.1) := by
  refine call_line_reader_vec ?_
  have h := St.startR hb
  unfold S_line_reader_vec
  refine st_alloc zv_api_Vec h ?_
  intro b1 w1 hb1 h
  refine st_callT en_line_reader_number (c_number (h.at 1 rfl)) h 1 rfl ?_
  intro w2 h
  rw [xbuild (v := vecV ⟨r.number.1, 0⟩) (fun w => by kernel_rfl)]
  refine st_alloc zv_api_Vec h ?_
  intro b2 w3 hb2 h
  refine st_store sz_api_Vec h 0 rfl rfl rfl rfl ?_
  intro w4 h
  refine st_callT en_line_reader_must (c_must (h.at 2 rfl) 44) h 2 rfl ?_
  intro w5 h
  refine st_callT en_line_reader_number (c_number (h.at 2 rfl)) h 2 rfl ?_
  intro w6 h
  simp only [go_sem]
  refine st_store sz_int h 0 rfl rfl rfl rfl ?_
  intro w7 h
  refine st_loadW ag_api_Vec sz_api_Vec h 0 rfl rfl ?_
  refine st_store sz_api_Vec h 1 rfl rfl rfl rfl ?_
  intro w8 h
  refine st_loadW ag_api_Vec sz_api_Vec h 1 rfl rfl ?_
  exact ⟨rfl, rfl, h.chg, h.at 2 rfl⟩

/-- A row of texts, as values. -/
abbrev strsL (l : List Str) : List Value := l.map fun s => S s
theorem own_cases {w : World} {B : Nat} {e : TypeId} {sz : Nat} {v : Value} {n : Nat} {xs : List Value} (h : w.ownsRow B e sz v n xs) : (v = .slice none 0 0 ∧ n = 0) ∨ ∃ g cap, v = .slice (some ⟨g, 0, none⟩) n cap ∧ n ≤ cap ∧ g < w.heap.size ∧ ∀ j, j < n * sz → w.cell? ⟨g, j, none⟩ = xs[j]? := by
  rcases h.2 with h1 | ⟨g, cap, cur, rfl, _, hg, hc, _⟩
  · exact .inl h1
  · exact .inr ⟨g, cap, rfl, hc, (Array.getElem?_eq_some_iff.1 hg).1, fun j hj => h.cellAt j hj⟩
theorem c_cloneS {w : World} {B : Nat} {v : Value} {l : List Str} (h : w.ownsRow B T_string 1 v l.length (strsL l)) (hl : l.length * 16 ≤ 140737488355328) : RetR Tryz.prog F_slices_Clone_string_string #[v] w T_string 1 l.length (strsL l) := by
  rcases own_cases h with ⟨rfl, hn⟩ | ⟨g, cap, rfl, hc, _, hcell⟩
  · have : l = [] := List.eq_nil_of_length_eq_zero hn
    subst this
    refine (Tryz.slices_Clone_string_nil 0 0 w).mono ?_
    rintro e w' ⟨rfl, rfl⟩
    exact ⟨_, rfl, Ext.refl _, World.ownsRow_nil _ _ _ _⟩
  · refine (Tryz.slices_Clone_string g 0 l.length cap (l.map fun s => ⟨s.toArray⟩) w (by simp) hl fun j hj => ?_).mono ?_
    · rw [List.length_map] at hj
      rw [Nat.zero_add, hcell j (by omega)]
      simp [hj]
    · rintro e w' ⟨v', rfl, h1, h2, h3⟩
      refine ⟨v', rfl, h3, ?_⟩
      have : ((l.map fun s => (⟨s.toArray⟩ : ByteArray)).take l.length).map Value.string = strsL l := by
        rw [List.take_of_length_le (by simp)]
        simp
      rw [← this]
      exact h1

/-- How much is left to read. -/
def rdLen (b : Nat) (w : World) : Nat := match w.heap[b]? with
  | some (.cells cs _ _) => match nthV cs.toList 0 with
    | some (.string s) => s.size
    | _ => 0
  | _ => 0
theorem rdLen_of {w : World} {b : Nat} {r : Rd} (h : w.heap[b]? = some (rdO r)) : rdLen b w = r.s.length := by
  unfold rdLen
  rw [h]
  exact size_list _
theorem signP_len (c : UInt8) (s : Str) : (signP c s).2.length + (if (signP c s).1 then 1 else 0) = s.length := by
  cases s with
  | nil => simp [signP]
  | cons b t =>
    by_cases h : b = c <;> simp [signP, h]
theorem sign_no {c : UInt8} {r : Rd} (h : (r.sign c).1 = false) : (r.sign c).2 = r := by
  have h : (signP c r.s).1 = false := h
  have : (signP c r.s).2 = r.s := by
    cases hs : r.s with
    | nil => rfl
    | cons a t =>
      rw [hs] at h
      by_cases e : a = c <;> simp [signP, e] at h ⊢
  unfold Rd.sign
  rw [this]
theorem name_len (r : Rd) : r.name.2.s.length ≤ r.s.length := by
  show (List.dropWhile _ _).length ≤ _
  exact (List.dropWhile_sublist _).length_le
theorem signedN_more (c : UInt8) : ∀ (f g : Nat) (r : Rd), r.s.length ≤ f → r.s.length ≤ g → Rd.signedN c f r = Rd.signedN c g r
  | 0, 0, _, _, _ => rfl
  | 0, g + 1, r, h, _ => by
    have : r.s = [] := List.eq_nil_of_length_eq_zero (by omega)
    simp [Rd.signedN, Rd.sign, this, signP]
  | f + 1, 0, r, _, h => by
    have : r.s = [] := List.eq_nil_of_length_eq_zero (by omega)
    simp [Rd.signedN, Rd.sign, this, signP]
  | f + 1, g + 1, r, hf, hg => by
    unfold Rd.signedN
    split
    · rename_i hs
      have h1 := signP_len c r.s
      have hs : (signP c r.s).1 = true := hs
      rw [hs] at h1
      have h2 := name_len (r.sign c).2
      have h3 : (r.sign c).2.s.length + 1 = r.s.length := h1
      simp only
      rw [signedN_more c f g _ (by omega) (by omega)]
    · rfl
set_option maxHeartbeats 1000000 in
theorem c_signed {w : World} {b : Nat} {r : Rd} (hb : w.heap[b]? = some (rdO r)) (c : UInt8) (hs : r.s.length ≤ 1000000) : RetTR Tryz.prog F_line_reader_signed #[pt b, S [c]] w b (rdO (r.signed c).2) T_string 1 (r.signed c).1.length (strsL (r.signed c).1) := by
  refine call_line_reader_signed ?_
  have h := (St.startR hb).row0 T_string 1
  unfold S_line_reader_signed
  refine ⟨fun u w2 => ∃ rd acc, acc.length + rd.s.length ≤ r.s.length ∧ (r.signed c).1 = acc ++ (rd.signed c).1 ∧ (r.signed c).2 = (rd.signed c).2 ∧ St [b] w [.row T_string 1 u acc.length (strsL acc), .blk b (rdO rd)] w2, fun _ w2 => rdLen b w2, ⟨r, [], by simp, rfl, rfl, h⟩, ?_⟩
  rintro - u w2 ⟨rd, acc, hl, h1, h2, h⟩
  have hm := rdLen_of (h.at 1 rfl)
  refine st_callT en_line_reader_sign (c_sign (h.at 1 rfl) c) h 1 rfl ?_
  intro w3 h
  have hlen := signP_len c rd.s
  refine xc_of ?_ ?_
  · intro hs1
    have hs1' : (signP c rd.s).1 = true := hs1
    rw [hs1', if_pos rfl] at hlen
    have hlen : (rd.sign c).2.s.length + 1 = rd.s.length := hlen
    refine st_callT en_line_reader_name (c_name (h.at 1 rfl)) h 1 rfl ?_
    intro w4 h
    have hn := name_len (rd.sign c).2
    refine st_buildS (cs := #[S (rd.sign c).2.name.1]) (e := T_string) (fun w => by kernel_rfl) h ?_
    intro bx w5 hbx h
    refine app_sl_string h 1 rfl [S (rd.sign c).2.name.1] rfl (news_blk (h.at 0 rfl)) (by simp [Value.oneCell']) (by omega) ?_
    intro v' w6 h
    have h := h.drop
    have hm6 := rdLen_of (h.at 1 rfl)
    have hsg : rd.signed c = ((rd.sign c).2.name.1 :: ((rd.sign c).2.name.2.signed c).1, ((rd.sign c).2.name.2.signed c).2) := by
      unfold Rd.signed
      rw [show rd.s.length = (rd.sign c).2.s.length + 1 by omega]
      conv => lhs; unfold Rd.signedN
      rw [if_pos hs1]
      simp only
      rw [signedN_more c (rd.sign c).2.s.length (rd.sign c).2.name.2.s.length _ (by omega) (Nat.le_refl _)]
    refine ⟨⟨(rd.sign c).2.name.2, acc ++ [(rd.sign c).2.name.1], by simp; omega, ?_, ?_, ?_⟩, by show rdLen b w6 < rdLen b w2; rw [hm, hm6]; omega⟩
    · rw [h1, hsg]; simp
    · rw [h2, hsg]
    · have : strsL (acc ++ [(rd.sign c).2.name.1]) = strsL acc ++ [S (rd.sign c).2.name.1] := by simp
      rw [this, List.length_append]
      exact h
  · intro hs1
    have hsg : rd.signed c = ([], rd) := by
      unfold Rd.signed
      cases hl : rd.s.length with
      | zero => rfl
      | succ n =>
        unfold Rd.signedN
        rw [if_neg (by rw [hs1]; simp)]
    have hrd : (rd.sign c).2 = rd := sign_no hs1
    rw [hsg] at h1 h2
    rw [List.append_nil] at h1
    rw [hrd] at h
    refine st_callR en_slices_Clone_string_string (c_cloneS (h.atR 0 rfl) (by omega)) h ?_
    intro v w4 h
    have hr := h.atR 0 rfl
    refine ⟨h.chg, ?_, ?_⟩
    · rw [h2]; exact h.at 2 rfl
    · rw [h1]
      exact ownsRow_base hr fun k hk => h.fresh 1 rfl k hk

abbrev intsL (l : List Int) : List Value := l.map fun n => .int .i64 n
theorem c_cloneI {w : World} {B : Nat} {v : Value} {l : List Int} (h : w.ownsRow B T_int 1 v l.length (intsL l)) (hl : l.length * 8 ≤ 140737488355328) : RetR Tryz.prog F_slices_Clone_int_int #[v] w T_int 1 l.length (intsL l) := by
  rcases own_cases h with ⟨rfl, hn⟩ | ⟨g, cap, rfl, hc, _, hcell⟩
  · have : l = [] := List.eq_nil_of_length_eq_zero hn
    subst this
    refine (Tryz.slices_Clone_int_nil 0 0 w).mono ?_
    rintro e w' ⟨rfl, rfl⟩
    exact ⟨_, rfl, Ext.refl _, World.ownsRow_nil _ _ _ _⟩
  · refine (Tryz.slices_Clone_int g 0 l.length cap l w (Nat.le_refl _) hl fun j hj => ?_).mono ?_
    · rw [Nat.zero_add, hcell j (by omega)]
      simp [hj]
    · rintro e w' ⟨v', rfl, h1, h2, h3⟩
      refine ⟨v', rfl, h3, ?_⟩
      rw [List.take_of_length_le (Nat.le_refl _)] at h1
      exact h1
theorem number_len (r : Rd) : r.number.2.s.length ≤ r.s.length := by
  unfold Rd.number
  simp only
  split
  · exact Nat.le_refl _
  · exact (List.dropWhile_sublist _).length_le
theorem peersN_more : ∀ (f g : Nat) (r : Rd), r.s.length ≤ f → r.s.length ≤ g → Rd.peersN f r = Rd.peersN g r
  | 0, 0, _, _, _ => rfl
  | 0, g + 1, r, h, _ => by
    have : r.s = [] := List.eq_nil_of_length_eq_zero (by omega)
    simp [Rd.peersN, Rd.sign, this, signP]
  | f + 1, 0, r, _, h => by
    have : r.s = [] := List.eq_nil_of_length_eq_zero (by omega)
    simp [Rd.peersN, Rd.sign, this, signP]
  | f + 1, g + 1, r, hf, hg => by
    unfold Rd.peersN
    split
    · rename_i hs
      have h1 := signP_len 44 r.s
      have hs : (signP 44 r.s).1 = true := hs
      rw [hs] at h1
      have h2 := number_len (r.sign 44).2
      have h3 : (r.sign 44).2.s.length + 1 = r.s.length := h1
      simp only
      rw [peersN_more f g _ (by omega) (by omega)]
    · rfl
def Rd.more (r : Rd) : List Int × Rd := Rd.peersN r.s.length r
set_option maxHeartbeats 1000000 in
theorem c_peers {w : World} {b : Nat} {r : Rd} (hb : w.heap[b]? = some (rdO r)) (hs : r.s.length ≤ 1000000) : RetTR Tryz.prog F_line_reader_peers #[pt b] w b (rdO r.peers.2) T_int 1 r.peers.1.length (intsL r.peers.1) := by
  refine call_line_reader_peers ?_
  have h := St.startR hb
  unfold S_line_reader_peers
  refine st_callT en_line_reader_number (c_number hb) h 0 rfl ?_
  intro w1 h
  refine st_buildR (cs := #[.int .i64 (r.number.1 : Nat)]) (e := T_int) (sz := 1) (fun w => by kernel_rfl) (by decide) rfl h ?_
  intro v0 w2 h
  have hr0 := number_len r
  refine ⟨fun u w2 => ∃ rd acc, acc.length + rd.s.length ≤ r.s.length + 1 ∧ r.peers.1 = acc ++ (Rd.more rd).1 ∧ r.peers.2 = (Rd.more rd).2 ∧ St [b] w [.row T_int 1 u acc.length (intsL acc), .blk b (rdO rd)] w2, fun _ w2 => rdLen b w2, ⟨r.number.2, [(r.number.1 : Int)], by simp; omega, rfl, rfl, h⟩, ?_⟩
  rintro - u w2 ⟨rd, acc, hl, h1, h2, h⟩
  have hm := rdLen_of (h.at 1 rfl)
  refine st_callT en_line_reader_sign (c_sign (h.at 1 rfl) 44) h 1 rfl ?_
  intro w3 h
  have hlen := signP_len 44 rd.s
  refine xc_of ?_ ?_
  · intro hs1
    have hs1' : (signP 44 rd.s).1 = true := hs1
    rw [hs1', if_pos rfl] at hlen
    have hlen : (rd.sign 44).2.s.length + 1 = rd.s.length := hlen
    refine st_callT en_line_reader_number (c_number (h.at 1 rfl)) h 1 rfl ?_
    intro w4 h
    have hn := number_len (rd.sign 44).2
    refine st_buildS (cs := #[.int .i64 ((rd.sign 44).2.number.1 : Nat)]) (e := T_int) (fun w => by kernel_rfl) h ?_
    intro bx w5 hbx h
    refine app_sl_int h 1 rfl [.int .i64 ((rd.sign 44).2.number.1 : Nat)] rfl (news_blk (h.at 0 rfl)) (by simp [Value.oneCell']) (by omega) ?_
    intro v' w6 h
    have h := h.drop
    have hm6 := rdLen_of (h.at 1 rfl)
    have hsg : Rd.more rd = (((rd.sign 44).2.number.1 : Int) :: (Rd.more (rd.sign 44).2.number.2).1, (Rd.more (rd.sign 44).2.number.2).2) := by
      unfold Rd.more
      rw [show rd.s.length = (rd.sign 44).2.s.length + 1 by omega]
      conv => lhs; unfold Rd.peersN
      rw [if_pos hs1]
      simp only
      rw [peersN_more (rd.sign 44).2.s.length (rd.sign 44).2.number.2.s.length _ (by omega) (Nat.le_refl _)]
    refine ⟨⟨(rd.sign 44).2.number.2, acc ++ [((rd.sign 44).2.number.1 : Int)], by simp; omega, ?_, ?_, ?_⟩, by show rdLen b w6 < rdLen b w2; rw [hm, hm6]; omega⟩
    · rw [h1, hsg]; simp
    · rw [h2, hsg]
    · have : intsL (acc ++ [((rd.sign 44).2.number.1 : Int)]) = intsL acc ++ [.int .i64 ((rd.sign 44).2.number.1 : Nat)] := by simp
      rw [this, List.length_append]
      exact h
  · intro hs1
    have hsg : Rd.more rd = ([], rd) := by
      unfold Rd.more
      cases hl : rd.s.length with
      | zero => rfl
      | succ n =>
        unfold Rd.peersN
        rw [if_neg (by rw [hs1]; simp)]
    have hrd : (rd.sign 44).2 = rd := sign_no hs1
    rw [hsg] at h1 h2
    rw [List.append_nil] at h1
    rw [hrd] at h
    refine st_callR en_slices_Clone_int_int (c_cloneI (h.atR 0 rfl) (by omega)) h ?_
    intro v w4 h
    have hr := h.atR 0 rfl
    refine ⟨h.chg, ?_, ?_⟩
    · rw [h2]; exact h.at 2 rfl
    · rw [h1]
      exact ownsRow_base hr fun k hk => h.fresh 1 rfl k hk

theorem must_len (c : UInt8) (r : Rd) : (r.must c).s.length ≤ r.s.length := by
  have := signP_len c r.s
  show (signP c r.s).2.length ≤ _
  omega
theorem sign_len (c : UInt8) (r : Rd) : (r.sign c).2.s.length ≤ r.s.length := must_len c r
theorem vec_len (r : Rd) : r.vec.2.s.length ≤ r.s.length := by
  have h1 := number_len r
  have h2 := must_len 44 r.number.2
  have h3 := number_len (r.number.2.must 44)
  show (Rd.number _).2.s.length ≤ _
  omega
theorem signedN_len (c : UInt8) : ∀ (f : Nat) (r : Rd), (Rd.signedN c f r).2.s.length ≤ r.s.length
  | 0, r => Nat.le_refl _
  | f + 1, r => by
    unfold Rd.signedN
    split
    · have h1 := sign_len c r
      have h2 := name_len (r.sign c).2
      have h3 := signedN_len c f (r.sign c).2.name.2
      simp only
      omega
    · exact Nat.le_refl _
theorem signed_len (c : UInt8) (r : Rd) : (r.signed c).2.s.length ≤ r.s.length := signedN_len c _ r
abbrev nodeC (name : Str) (v : VecM) (mv tv : Value) (cl : Bool) : List Value := [S name, .int .i64 v.cpu, .int .i64 v.mem, mv, tv, .bool cl]
abbrev nodeV (name : Str) (v : VecM) (mv tv : Value) (cl : Bool) : Value := .agg (nodeC name v mv tv cl).toArray
theorem flat_own {w : World} {B : Nat} {e : TypeId} {sz : Nat} {v : Value} {n : Nat} {xs : List Value} (h : w.ownsRow B e sz v n xs) : flat v = true := by
  rcases own_cases h with ⟨rfl, _⟩ | ⟨g, cap, rfl, _⟩ <;> rfl
theorem cells_own {w : World} {B : Nat} {e : TypeId} {sz : Nat} {v : Value} {n : Nat} {xs : List Value} (h : w.ownsRow B e sz v n xs) : v.cells = #[v] := by
  rcases own_cases h with ⟨rfl, _⟩ | ⟨g, cap, rfl, _⟩ <;> rfl
set_option maxHeartbeats 1000000 in
theorem c_node {w : World} {b : Nat} {r : Rd} (hb : w.heap[b]? = some (rdO r)) (hs : r.s.length ≤ 1000000) : Ret Tryz.prog F_line_reader_node #[pt b] w fun v w' => ∃ mv tv, v = nodeV r.node.1.name r.node.1.cap mv tv r.node.1.closed ∧
    St [b] w ([.row T_string 1 tv r.node.1.taints.length (strsL r.node.1.taints), .row T_string 1 mv r.node.1.marks.length (strsL r.node.1.marks)] ++ [.blk b (rdO r.node.2)]) w' := by
  refine call_line_reader_node ?_
  have h := St.startR hb
  unfold S_line_reader_node
  refine st_alloc zv_api_Node h ?_
  intro b1 w1 hb1 h
  refine st_callT en_line_reader_name (c_name (h.at 1 rfl)) h 1 rfl ?_
  intro w2 h
  try simp only [go_sem] at h
  rw [xbuild (v := nodeV r.name.1 ⟨0, 0⟩ (.slice none 0 0) (.slice none 0 0) false) (fun w => by kernel_rfl)]
  refine st_alloc zv_api_Node h ?_
  intro b2 w3 hb2 h
  refine st_store sz_api_Node h 0 rfl rfl rfl rfl ?_
  intro w4 h
  try simp only [go_sem] at h
  refine st_callT en_line_reader_must (c_must (h.at 2 rfl) 58) h 2 rfl ?_
  intro w5 h
  try simp only [go_sem] at h
  refine st_callT en_line_reader_vec (c_vec (h.at 2 rfl)) h 2 rfl ?_
  intro w6 h
  try simp only [go_sem] at h
  have hl1 := name_len r
  have hl2 := must_len 58 r.name.2
  have hl3 := vec_len (r.name.2.must 58)
  have hl4 := signed_len 43 (r.name.2.must 58).vec.2
  try simp only [go_sem]
  refine st_store sz_api_Vec h 0 rfl rfl rfl rfl ?_
  intro w7 h
  try simp only [go_sem] at h
  refine st_callTR en_line_reader_signed (c_signed (h.at 2 rfl) 43 (by omega)) h 2 rfl ?_
  intro mv w8 h
  try simp only [go_sem] at h
  try simp only [go_sem]
  have hm := h.atR 0 rfl
  refine st_storeC sz_sl_string h 1 rfl (cells_own hm) rfl (flat_own hm) ?_
  intro w9 h
  try simp only [go_sem] at h
  refine st_callTR en_line_reader_signed (c_signed (h.at 3 rfl) 126 (by omega)) h 3 rfl ?_
  intro tv w10 h
  try simp only [go_sem] at h
  try simp only [go_sem]
  have ht := h.atR 0 rfl
  refine st_storeC sz_sl_string h 2 rfl (cells_own ht) rfl (flat_own ht) ?_
  intro w11 h
  try simp only [go_sem] at h
  refine st_callT en_line_reader_sign (c_sign (h.at 4 rfl) 33) h 4 rfl ?_
  intro w12 h
  try simp only [go_sem] at h
  try simp only [go_sem]
  refine st_store sz_bool h 2 rfl rfl rfl rfl ?_
  intro w13 h
  try simp only [go_sem] at h
  refine st_loadW ag_api_Node sz_api_Node h 2 rfl rfl ?_
  refine st_store sz_api_Node h 3 rfl rfl rfl (by simp only [Value.cells, List.all_cons, List.all_nil, flat_own hm, flat_own ht]; rfl) ?_
  intro w14 h
  try simp only [go_sem] at h
  refine st_loadW ag_api_Node sz_api_Node h 3 rfl rfl ?_
  refine ⟨rfl, mv, tv, rfl, h.perm ?_⟩
  exact .cons_cons _ (.cons_cons _ (.cons _ (.cons _ (.refl _))))
end Go.Proofs.YthkgbajldkicfaaGreatDoor
