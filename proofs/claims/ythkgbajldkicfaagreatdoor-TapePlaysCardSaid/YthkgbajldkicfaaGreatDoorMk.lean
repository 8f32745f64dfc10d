/-
  Records made of numbers.
-/
import Derived.Test.YthkgbajldkicfaaGreatDoorLEi
import Derived.Test.YthkgbajldkicfaaGreatDoorTypes2
import Derived.Laws.Shifts
namespace Go.Proofs.YthkgbajldkicfaaGreatDoor
set_option linter.unusedVariables false
set_option linter.unusedSimpArgs false
open Go Go.Jo
set_option maxRecDepth 100000

theorem st_retR {w0 w : World} {L : List Res} {e : TypeId} {sz m : Nat} {v : Value} {xs : List Value} (h : St [] w0 L w) (n : Nat) (hn : L[n]? = some (.row e sz v m xs)) : Ext w0 w ∧ w.ownsRow w0.heap.size e sz v m xs :=
  ⟨h.ext, ownsRow_base (h.atR n hn) fun j hj => (h.low _ (List.mem_of_getElem? hn) j hj).resolve_left (by simp)⟩
theorem xshr {t : TypeId} {cx cy : Bool} {a b : Int} {k : IntKind} {w : World} {K : Value → World → Prop} (h0 : 0 ≤ b) (h1 : b ≤ 64) : XBin Tryz.prog .shr t cx cy (.int .i64 a) (.int k b) w K = K (.int .i64 (a / 2 ^ b.toNat)) w := xbin_v (by simp [eqGuard_shr, binOp_shr, shift_shr .i64 k a b h0 h1])
theorem wu64 {n : Int} (h0 : 0 ≤ n) (h1 : n < 18446744073709551616) : IntKind.u64.wrap n = n := by unfold IntKind.wrap; simp [IntKind.bits, IntKind.signed]; omega
theorem c_within2 {a n : Int} (w : World) (hn : 0 < n) (hn2 : n < 4611686018427387904) : RetV Tryz.prog F_joinerylaw2_within #[.int .i64 a, .int .i64 n] w (.int .i64 (withinM a n)) := by
  refine call_joinerylaw2_within ?_
  unfold S_joinerylaw2_within
  have h1 := Int.tmod_lt_of_pos a hn
  have h2 := Int.lt_tmod_of_pos a hn
  rw [xrem _ _ _ _ _ _ _ _ (by omega), xlss]
  refine xc_dec ?_ ?_
  · intro hlt
    rw [xadd, wi64 (by omega) (by omega), withinM, if_pos hlt]
    exact ⟨rfl, Ext.refl _⟩
  · intro hge
    rw [withinM, if_neg hge]
    exact ⟨rfl, Ext.refl _⟩
theorem c_within3 {a n : Int} (w : World) (hn : 0 < n) (hn2 : n < 4611686018427387904) : RetV Tryz.prog F_joinerylaw3_within #[.int .i64 a, .int .i64 n] w (.int .i64 (withinM a n)) := by
  refine call_joinerylaw3_within ?_
  unfold S_joinerylaw3_within
  have h1 := Int.tmod_lt_of_pos a hn
  have h2 := Int.lt_tmod_of_pos a hn
  rw [xrem _ _ _ _ _ _ _ _ (by omega), xlss]
  refine xc_dec ?_ ?_
  · intro hlt
    rw [xadd, wi64 (by omega) (by omega), withinM, if_pos hlt]
    exact ⟨rfl, Ext.refl _⟩
  · intro hge
    rw [withinM, if_neg hge]
    exact ⟨rfl, Ext.refl _⟩
/-- A number from 0 on, as a natural one. -/
theorem within_nat (a : Int) (n : Nat) (hn : 0 < n) : ∃ k : Nat, k < n ∧ withinM a (n : Int) = (k : Int) := by
  obtain ⟨h0, h1⟩ := within_lt a (n : Int) (by omega)
  exact ⟨(withinM a (n : Int)).toNat, by omega, by omega⟩

def names8 : List Str := [[97], [98], [206, 177], [207, 137, 57], [110, 49], [110, 50], [206, 178, 206, 179, 206, 180, 206, 181, 206, 182, 206, 183, 206, 184, 206, 185], [122, 122]]
def nameN (n : Int) : Str := names8.getD (withinM n 8).toNat []
theorem c_name2 (n : Int) (w : World) : RetV Tryz.prog F_joinerylaw2_Name #[.int .i64 n] w (S (nameN n)) := by
  refine call_joinerylaw2_Name ?_
  have h := St.start w
  unfold S_joinerylaw2_Name
  refine st_buildS (cs := (strsL names8).toArray) (e := T_string) (fun w => by kernel_rfl) h ?_
  intro bl w1 hbl h
  have h := h.asRow 0 (k := 8) (sz := 1) rfl (by decide) (by kernel_rfl)
  obtain ⟨k, hk, e⟩ := within_nat n 8 (by omega)
  have e : withinM n 8 = (k : Int) := e
  refine st_callV en_joinerylaw2_within (c_within2 (a := n) (n := 8) w1 (by omega) (by omega)) h ?_
  intro w2 h
  rw [e]
  have hl : names8.length = 8 := rfl
  have hx : names8[k]? = some (names8.getD k []) := by rw [List.getD_eq_getElem?_getD, List.getElem?_eq_getElem (by omega)]; rfl
  have hrow : Row w2 1 (.slice (some ⟨bl, 0, none⟩) 8 8) names8.length (strsL names8) := Row.of_own (h.atR 0 rfl)
  refine str_at hrow (by omega) hx ?_
  intro b0 o0 hc0
  refine ld_of ag_string hc0 ?_
  have e2 : nameN n = names8.getD k [] := by unfold nameN; rw [e, Int.toNat_natCast]
  rw [e2]
  exact ⟨rfl, h.ext⟩
def marks4 : List Str := [[98, 105, 103], [115, 115, 100], [119, 101, 115, 116], [206, 179]]
def bitN (n : Int) (i : Nat) : Bool := decide (withinM (n / 2 ^ i) 2 = 1)
def setN (n : Int) : List Str := ((List.range 4).filter (bitN n)).map fun i => marks4.getD i []
def setTo (n : Int) (k : Nat) : List Str := ((List.range k).filter (bitN n)).map fun i => marks4.getD i []
theorem setTo_yes {n : Int} {k : Nat} (h : bitN n k = true) : setTo n (k + 1) = setTo n k ++ [marks4.getD k []] := by simp [setTo, List.range_succ, List.filter_append, h]
theorem setTo_no {n : Int} {k : Nat} (h : bitN n k = false) : setTo n (k + 1) = setTo n k := by simp [setTo, List.range_succ, List.filter_append, h]
theorem setTo_len (n : Int) (k : Nat) : (setTo n k).length ≤ k := by
  unfold setTo
  rw [List.length_map]
  exact Nat.le_trans (List.length_filter_le _ _) (by simp)
theorem c_set2 (n : Int) (w : World) : RetR Tryz.prog F_joinerylaw2_Set #[.int .i64 n] w T_string 1 (setN n).length (strsL (setN n)) := by
  refine call_joinerylaw2_Set ?_
  have h := (St.start w).row0 T_string 1
  unfold S_joinerylaw2_Set
  refine st_buildS (cs := (strsL marks4).toArray) (e := T_string) (fun w => by kernel_rfl) h ?_
  intro bl w1 hbl h
  have h := h.asRow 0 (k := 4) (sz := 1) rfl (by decide) (by kernel_rfl)
  have h : St [] w [.row T_string 1 (.slice (some ⟨bl, 0, none⟩) 4 4) 4 (strsL marks4), .row T_string 1 nilV 0 (strsL (setTo n 0))] w1 := h
  refine ⟨fun u v w' => ∃ i : Nat, i ≤ 4 ∧ v = .int .i64 (i : Nat) ∧ St [] w [.row T_string 1 (.slice (some ⟨bl, 0, none⟩) 4 4) 4 (strsL marks4), .row T_string 1 u (setTo n i).length (strsL (setTo n i))] w', fun _ v _ => lenI 4 v, ⟨0, Nat.zero_le _, rfl, h⟩, ?_⟩
  rintro - u v w2 ⟨i, hi, rfl, h⟩
  rw [xlss]
  refine xc_dec ?_ ?_
  · intro hlt
    have hlt : i < 4 := by omega
    rw [xconv_int und_int und_uint, wu64 (by omega) (by omega), xshr (by omega) (by omega), Int.toNat_natCast]
    refine st_callV en_joinerylaw2_within (c_within2 (a := n / 2 ^ i) (n := 2) _ (by omega) (by omega)) h ?_
    intro w3 h
    rw [xeql]
    have hl := setTo_len n i
    refine xc_dec ?_ ?_
    · intro hb
      have hb : bitN n i = true := decide_eq_true hb
      have hx : marks4[i]? = some (marks4.getD i []) := by rw [List.getD_eq_getElem?_getD, List.getElem?_eq_getElem (show i < marks4.length from hlt)]; rfl
      have hrow : Row w3 1 (.slice (some ⟨bl, 0, none⟩) 4 4) marks4.length (strsL marks4) := Row.of_own (h.atR 0 rfl)
      refine str_at hrow hlt hx ?_
      intro b0 o0 hc0
      refine ld_of ag_string hc0 ?_
      refine st_buildS (cs := #[S (marks4.getD i [])]) (e := T_string) (fun w => by kernel_rfl) h ?_
      intro bx w4 hbx h
      refine app_sl_string h 2 rfl [S (marks4.getD i [])] rfl (news_blk (h.at 0 rfl)) (by simp [Value.oneCell']) (by omega) ?_
      intro v2 w5 h
      rw [xadd, wi64 (by omega) (by omega)]
      refine ⟨⟨i + 1, hlt, rfl, ?_⟩, lenI_succ hlt⟩
      have h := h.pick [1, 2] (by decide) rfl
      rw [setTo_yes hb]
      have e1 : strsL (setTo n i ++ [marks4.getD i []]) = strsL (setTo n i) ++ [S (marks4.getD i [])] := by simp
      have e2 : (setTo n i ++ [marks4.getD i []]).length = (setTo n i).length + 1 := by simp
      rw [e1, e2]
      exact h
    · intro hb
      have hb : bitN n i = false := decide_eq_false hb
      rw [xadd, wi64 (by omega) (by omega)]
      refine ⟨⟨i + 1, hlt, rfl, ?_⟩, lenI_succ hlt⟩
      rw [setTo_no hb]
      exact h
  · intro hge
    have hi : i = 4 := by omega
    subst hi
    exact st_retR h 1 rfl
theorem tdiv_i64 {a : Int} (ha : i64 a) {b : Int} (hb : 2 ≤ b) : -9223372036854775808 ≤ a.tdiv b ∧ a.tdiv b ≤ 4611686018427387904 := by
  have h1 : (a.tdiv b).natAbs = a.natAbs / b.natAbs := Int.natAbs_tdiv a b
  have h2 : a.natAbs / b.natAbs ≤ a.natAbs / 2 := Nat.div_le_div_left (by omega) (by omega)
  omega
theorem slice_own {w : World} {B : Nat} {e : TypeId} {sz : Nat} {v : Value} {n : Nat} {xs : List Value} (h : w.ownsRow B e sz v n xs) : ∃ a m c, v = .slice a m c := by
  rcases h.2 with ⟨rfl, _⟩ | ⟨g, cap, cur, rfl, _⟩
  · exact ⟨_, _, _, rfl⟩
  · exact ⟨_, _, _, rfl⟩
theorem xquoN {t : TypeId} {cx cy : Bool} {a b : Int} {w : World} {K : Value → World → Prop} (ha : i64 a) (hb : 2 ≤ b) : XBin Tryz.prog .quo t cx cy (.int .i64 a) (.int .i64 b) w K = K (.int .i64 (a.tdiv b)) w := by
  rw [xquo _ _ _ _ _ _ _ _ (by omega)]
  have h := tdiv_i64 ha hb
  rw [wi64 h.1 (by omega)]
def nodeN (name n : Int) : NodeM := ⟨nameN name, ⟨withinM n 12, withinM (n.tdiv 12) 12⟩, setN (n.tdiv 144), if withinM (n.tdiv 23) 3 = 0 then setN (n.tdiv 31) else [], decide (withinM (n.tdiv 17) 9 = 0)⟩
set_option maxHeartbeats 1000000 in
theorem c_node3 (name n : Int) (hn : i64 n) (w : World) : Ret Tryz.prog F_joinerylaw3_Node #[.int .i64 name, .int .i64 n] w fun v w' => ∃ mv tv, v = nodeAt (nodeN name n) mv tv ∧ St [] w [.row T_string 1 mv (nodeN name n).marks.length (strsL (nodeN name n).marks), .row T_string 1 tv (nodeN name n).taints.length (strsL (nodeN name n).taints)] w' := by
  refine call_joinerylaw3_Node ?_
  have h := St.start w
  unfold S_joinerylaw3_Node
  refine st_alloc zv_api_Node h ?_
  intro b4 w1 hb4 h
  try simp only [go_sem] at h
  refine st_callV en_joinerylaw2_Name (c_name2 name _) h ?_
  intro w2 h
  refine st_callV en_joinerylaw3_within (c_within3 (a := n) (n := 12) _ (by omega) (by omega)) h ?_
  intro w3 h
  rw [xquoN hn (by omega)]
  refine st_callV en_joinerylaw3_within (c_within3 (a := n.tdiv 12) (n := 12) _ (by omega) (by omega)) h ?_
  intro w4 h
  rw [xbuild (v := vecV ⟨withinM n 12, withinM (n.tdiv 12) 12⟩) (fun w => by kernel_rfl), xquoN hn (by omega)]
  refine st_callR en_joinerylaw2_Set (c_set2 (n.tdiv 144) _) h ?_
  intro mv w5 h
  have hm := h.atR 0 rfl
  rw [xquoN hn (by omega)]
  refine st_callV en_joinerylaw3_within (c_within3 (a := n.tdiv 17) (n := 9) _ (by omega) (by omega)) h ?_
  intro w6 h
  rw [xeql]
  obtain ⟨ma, mn, mc, rfl⟩ := slice_own hm
  rw [xbuild (v := nodeV (nameN name) ⟨withinM n 12, withinM (n.tdiv 12) 12⟩ (.slice ma mn mc) nilV (decide (withinM (n.tdiv 17) 9 = 0))) (fun w => by kernel_rfl)]
  refine st_alloc zv_api_Node h ?_
  intro b5 w7 hb5 h
  try simp only [go_sem] at h
  refine st_store sz_api_Node h 0 rfl rfl rfl rfl ?_
  intro w8 h
  try simp only [go_sem] at h
  rw [xquoN hn (by omega)]
  refine st_callV en_joinerylaw3_within (c_within3 (a := n.tdiv 23) (n := 3) _ (by omega) (by omega)) h ?_
  intro w9 h
  rw [xeql]
  refine xc_dec ?_ ?_
  · intro h0
    rw [xquoN hn (by omega)]
    refine st_callR en_joinerylaw2_Set (c_set2 (n.tdiv 31) _) h ?_
    intro tv w10 h
    have ht := h.atR 0 rfl
    simp only [go_sem]
    refine st_storeC sz_sl_string h 1 rfl (cells_own ht) rfl (flat_own ht) ?_
    intro w11 h
    try simp only [go_sem] at h
    refine st_loadW ag_api_Node sz_api_Node h 1 rfl rfl ?_
    refine st_store sz_api_Node h 3 rfl rfl rfl (by simp only [Value.cells, List.all_cons, List.all_nil, flat_own ht]; rfl) ?_
    intro w12 h
    try simp only [go_sem] at h
    refine st_loadW ag_api_Node sz_api_Node h 3 rfl rfl ?_
    refine ⟨rfl, .slice ma mn mc, tv, ?_, ?_⟩
    · unfold nodeN; rw [if_pos h0]
    · have e : (nodeN name n).taints = setN (n.tdiv 31) := by unfold nodeN; rw [if_pos h0]
      rw [e]
      exact h.pick [2, 0] (by decide) rfl
  · intro h0
    refine st_loadW ag_api_Node sz_api_Node h 0 rfl rfl ?_
    refine st_store sz_api_Node h 2 rfl rfl rfl rfl ?_
    intro w12 h
    try simp only [go_sem] at h
    refine st_loadW ag_api_Node sz_api_Node h 2 rfl rfl ?_
    refine ⟨rfl, .slice ma mn mc, nilV, ?_, ?_⟩
    · unfold nodeN; rw [if_neg h0]
    · have e : (nodeN name n).taints = [] := by unfold nodeN; rw [if_neg h0]
      rw [e]
      have h := h.row0 T_string 1
      exact h.pick [2, 0] (by decide) rfl
def peersTo (n : Int) : Nat → List Int
  | 0 => []
  | i + 1 => if bitN n (i + 1) = true ∨ i = 3 ∧ peersTo n i = [] then peersTo n i ++ [((i + 1 : Nat) : Int)] else peersTo n i
def peersN (n : Int) : List Int := peersTo n 4
theorem peersTo_len (n : Int) : ∀ k, (peersTo n k).length ≤ k
  | 0 => Nat.le_refl _
  | k + 1 => by
    have := peersTo_len n k
    unfold peersTo
    split
    · simp; omega
    · omega
theorem c_peersN (n : Int) (w : World) : RetR Tryz.prog F_joinerylaw4_Peers #[.int .i64 n] w T_int 1 (peersN n).length (intsL (peersN n)) := by
  refine call_joinerylaw4_Peers ?_
  have h := (St.start w).row0 T_int 1
  unfold S_joinerylaw4_Peers
  have h : St [] w [.row T_int 1 nilV (peersTo n 0).length (intsL (peersTo n 0))] w := h
  refine ⟨fun u v w' => ∃ i : Nat, i ≤ 4 ∧ v = .int .i64 ((i + 1 : Nat) : Int) ∧ St [] w [.row T_int 1 u (peersTo n i).length (intsL (peersTo n i))] w', fun _ v _ => lenI 5 v, ⟨0, Nat.zero_le _, rfl, h⟩, ?_⟩
  rintro - u v w2 ⟨i, hi, rfl, h⟩
  rw [xleq]
  refine xc_dec ?_ ?_
  · intro hlt
    have hlt : i < 4 := by omega
    have hl := peersTo_len n i
    rw [xconv_int und_int und_uint, wu64 (by omega) (by omega), xshr (by omega) (by omega), Int.toNat_natCast]
    refine st_callV en_joinerylaw4_within (c_within4 (a := n / 2 ^ (i + 1)) (n := 2) _ (by omega) (by omega)) h ?_
    intro w3 h
    rw [xeql]
    have hbd : decide (withinM (n / 2 ^ (i + 1)) 2 = 1) = bitN n (i + 1) := rfl
    rw [hbd]
    have fin : ∀ {w4 : World} {c : Bool}, c = decide (bitN n (i + 1) = true ∨ i = 3 ∧ peersTo n i = []) → St [] w [.row T_int 1 u (peersTo n i).length (intsL (peersTo n i))] w4 → XC (.bool c) (XBuildS Tryz.prog T_sl_int 1 #[(0, .int .i64 ((i + 1 : Nat) : Int))] w4 fun v26 w10 => XB Tryz.prog .append #[T_sl_int, T_sl_int] T_sl_int #[u, v26] w10 fun v27 w11 =>
        XBin Tryz.prog .add T_int false true (.int .i64 ((i + 1 : Nat) : Int)) (.int .i64 1) w11 fun v8 w12 => (∃ i : Nat, i ≤ 4 ∧ v8 = .int .i64 ((i + 1 : Nat) : Int) ∧ St [] w [.row T_int 1 v27 (peersTo n i).length (intsL (peersTo n i))] w12) ∧ lenI 5 v8 < lenI 5 (.int .i64 ((i + 1 : Nat) : Int)))
        (XBin Tryz.prog .add T_int false true (.int .i64 ((i + 1 : Nat) : Int)) (.int .i64 1) w4 fun v8 w12 => (∃ i : Nat, i ≤ 4 ∧ v8 = .int .i64 ((i + 1 : Nat) : Int) ∧ St [] w [.row T_int 1 u (peersTo n i).length (intsL (peersTo n i))] w12) ∧ lenI 5 v8 < lenI 5 (.int .i64 ((i + 1 : Nat) : Int))) := fun hc h => by
      subst hc
      refine xc_dec ?_ ?_
      · intro hy
        refine st_buildS (cs := #[.int .i64 ((i + 1 : Nat) : Int)]) (e := T_int) (fun w => by kernel_rfl) h ?_
        intro bx w5 hbx h
        refine app_sl_int h 1 rfl [.int .i64 ((i + 1 : Nat) : Int)] rfl (news_blk (h.at 0 rfl)) (by simp [Value.oneCell']) (by omega) ?_
        intro v2 w6 h
        rw [xadd, wi64 (by omega) (by omega)]
        refine ⟨⟨i + 1, hlt, rfl, ?_⟩, lenI_succ (by omega)⟩
        have h := h.pick [1] (by decide) rfl
        have e0 : peersTo n (i + 1) = peersTo n i ++ [((i + 1 : Nat) : Int)] := by
          conv => lhs; unfold peersTo
          rw [if_pos hy]
        have e1 : intsL (peersTo n i ++ [((i + 1 : Nat) : Int)]) = intsL (peersTo n i) ++ [.int .i64 ((i + 1 : Nat) : Int)] := by simp
        have e2 : (peersTo n i ++ [((i + 1 : Nat) : Int)]).length = (peersTo n i).length + 1 := by simp
        rw [e0, e1, e2]
        exact h
      · intro hy
        rw [xadd, wi64 (by omega) (by omega)]
        refine ⟨⟨i + 1, hlt, rfl, ?_⟩, lenI_succ (by omega)⟩
        have e0 : peersTo n (i + 1) = peersTo n i := by
          conv => lhs; unfold peersTo
          rw [if_neg hy]
        rw [e0]
        exact h
    cases hb : bitN n (i + 1) with
    | true =>
      refine ⟨fun u18 w' => u18 = undef ∧ St [] w [.row T_int 1 u (peersTo n i).length (intsL (peersTo n i))] w', ?_, ?_⟩
      · rintro - u18 w7 ⟨rfl, h⟩
        refine ⟨fun _ w' => St [] w [.row T_int 1 u (peersTo n i).length (intsL (peersTo n i))] w', fun _ u21 w8 h => ?_, ?_⟩
        · refine ⟨fun _ w' => St [] w [.row T_int 1 u (peersTo n i).length (intsL (peersTo n i))] w', fun _ u22 w9 h => ?_, ?_⟩
          · rw [xpick_true]
            exact fin (by rw [hb]; simp) h
          · rw [xg_tf]; exact h
        · rw [xg_undef]; exact h
      · rw [xg_tf]; exact ⟨rfl, h⟩
    | false =>
      refine ⟨fun u18 w' => u18 = .bool (decide (i = 3)) ∧ St [] w [.row T_int 1 u (peersTo n i).length (intsL (peersTo n i))] w', ?_, ?_⟩
      · rintro - u18 w7 ⟨rfl, h⟩
        refine ⟨fun u21 w' => (i = 3 → u21 = .bool (decide (peersTo n i = []))) ∧ St [] w [.row T_int 1 u (peersTo n i).length (intsL (peersTo n i))] w', ?_, ?_⟩
        · rintro - u21 w8 ⟨h21, h⟩
          refine ⟨fun u22 w' => u22 = .bool (decide (i = 3 ∧ peersTo n i = [])) ∧ St [] w [.row T_int 1 u (peersTo n i).length (intsL (peersTo n i))] w', ?_, ?_⟩
          · rintro - u22 w9 ⟨rfl, h⟩
            rw [xpick_false]
            exact fin (by rw [hb]; simp) h
          · rw [xg_same]
            by_cases h3 : i = 3
            · rw [decide_eq_true h3, xpick_true, h21 h3]
              exact ⟨by simp [h3], h⟩
            · rw [decide_eq_false h3, xpick_false]
              exact ⟨by simp [h3], h⟩
        · by_cases h3 : i = 3
          · rw [decide_eq_true h3, xg_same]
            refine (Row.of_own (h.atR 0 rfl)).len und_sl_int ?_
            rw [xeql]
            refine ⟨fun _ => ?_, h⟩
            have : decide (((peersTo n i).length : Int) = 0) = decide (peersTo n i = []) := decide_eq_decide.2 (by rw [← List.length_eq_zero_iff]; omega)
            rw [this]
          · rw [decide_eq_false h3, xg_ft]
            exact ⟨fun e => absurd e h3, h⟩
      · rw [xg_same, xeql]
        have : decide (((i + 1 : Nat) : Int) = 4) = decide (i = 3) := decide_eq_decide.2 (by omega)
        rw [this]
        exact ⟨rfl, h⟩
  · intro hge
    have hi : i = 4 := by omega
    subst hi
    exact st_retR h 0 rfl
end Go.Proofs.YthkgbajldkicfaaGreatDoor
