/-
  Words, kinds, places.
-/
import Derived.Test.YthkgbajldkicfaaGreatDoorRd2
import Derived.Lib.SplitLaws
import Derived.Lib.AppendIntMem
namespace Go.Proofs.YthkgbajldkicfaaGreatDoor
set_option linter.unusedVariables false
set_option linter.unusedSimpArgs false
open Go Go.Jo
set_option maxRecDepth 100000

/-! ### What is laid -/
structure EnvP (w : World) : Prop where
  space : Lib.TabIs Tryz.prog w "strings.asciiSpace" .u8 Lib.asciiSpaceTab
  pow : Lib.TabIs Tryz.prog w "internal/strconv.uint64pow10" .u64 Lib.pow10Tab
  most : ∃ m, w.cell? ⟨G_MaxLen, 0, none⟩ = some (.int .i64 m)
theorem EnvP.mono {w w' : World} (h : EnvP w) (e : Ext w w') : EnvP w' := by
  refine ⟨?_, ?_, ?_⟩
  · exact (Lib.tabBelow_of_tabIs h.space) w' e
  · exact (Lib.tabBelow_of_tabIs h.pow) w' e
  · obtain ⟨m, hm⟩ := h.most
    exact ⟨m, cell_ext e hm⟩

/-! ### Words -/
theorem splitK_spl : ∀ (s : Str) (k : Nat), s.count 32 ≤ k → Lib.splitK [32] 0 k s = spl s
  | [], 0, _ => rfl
  | [], k + 1, _ => rfl
  | b :: t, 0, h => by
    have hb : ¬ b = 32 := fun e => by subst e; simp at h
    have ih := splitK_spl t 0 (by rw [List.count_cons] at h; omega)
    unfold spl
    rw [if_neg hb, ← ih]
    rfl
  | b :: t, k + 1, h => by
    by_cases hb : b = 32
    · subst hb
      have ih := splitK_spl t k (by simp at h; omega)
      have hi : Lib.index (32 :: t) [32] = 0 := by simp [Lib.index, List.isPrefixOf]
      unfold Lib.splitK spl
      rw [hi]
      simp [ih]
    · have hc : t.count 32 ≤ k + 1 := by
        have : List.count 32 (b :: t) = List.count 32 t := by rw [List.count_cons]; simp [hb]
        omega
      have ih := splitK_spl t (k + 1) hc
      have hp : ([32] : Str).isPrefixOf (b :: t) = false := by
        have : ¬ (32 : UInt8) = b := fun e => hb e.symm
        simp [List.isPrefixOf, this]
      have hi : Lib.index (b :: t) [32] = if Lib.index t [32] == -1 then -1 else Lib.index t [32] + 1 := by
        rw [Lib.index, hp]
        simp
      have hge := Lib.index_ge t [32]
      unfold spl
      rw [if_neg hb, ← ih]
      unfold Lib.splitK
      rw [hi]
      by_cases hm : Lib.index t [32] = -1
      · simp [hm]
      · have h1 : ¬ (Lib.index t [32] == -1) = true := by simpa using hm
        rw [if_neg h1, if_neg h1]
        have h2 : ¬ (Lib.index t [32] + 1 == -1) = true := by
          rw [beq_iff_eq]
          omega
        rw [if_neg h2]
        have h3 : (Lib.index t [32] + 1).toNat = (Lib.index t [32]).toNat + 1 := by omega
        rw [h3]
        simp [List.take_succ_cons]
theorem spl_length : ∀ s : Str, (spl s).length = s.count 32 + 1
  | [] => rfl
  | b :: t => by
    have ih := spl_length t
    unfold spl
    by_cases hb : b = 32
    · subst hb
      rw [if_pos rfl, List.length_cons, ih]
      simp
    · have hc : List.count 32 (b :: t) = List.count 32 t := by rw [List.count_cons]; simp [hb]
      rw [if_neg hb, hc, ← ih]
      cases hs : spl t with
      | nil => rw [hs] at ih; cases ih
      | cons x r => rfl
theorem c_split (s : Str) (w : World) (he : EnvP w) (hs : s.length < 4294967281) : RetR Tryz.prog F_strings_Split #[S s, S [32]] w T_string 1 (spl s).length (strsL (spl s)) := by
  obtain ⟨m, hm⟩ := he.most
  refine (Tryz.strings_Split ⟨s.toArray⟩ ⟨#[32]⟩ m w (by rw [size_list]; exact hs) hm (by decide)).mono ?_
  rintro e w' ⟨rfl, rfl⟩
  have h1 : (Lib.splitB ⟨#[32]⟩ 0 (Lib.countB ⟨s.toArray⟩ ⟨#[32]⟩) ⟨s.toArray⟩).map (·.data.toList) = spl s := by
    rw [Lib.splitB_data]
    exact splitK_spl s _ (by
      have := Lib.count_one 32 s
      show _ ≤ Lib.count s [32]
      rw [this]
      exact Nat.le_refl _)
  have h2 : (Lib.splitB ⟨#[32]⟩ 0 (Lib.countB ⟨s.toArray⟩ ⟨#[32]⟩) ⟨s.toArray⟩).map Value.string = strsL (spl s) := by
    rw [← h1]
    unfold strsL
    rw [List.map_map]
    refine List.map_congr_left fun x _ => ?_
    simp
  have h3 : Lib.countB ⟨s.toArray⟩ ⟨#[32]⟩ + 1 = (spl s).length := by
    rw [spl_length, ← Lib.count_one 32 s]
  refine ⟨_, rfl, ext_alloc _ _, ?_⟩
  rw [h2, h3]
  have := World.ownsRow_lit (base := w.heap.size) (e := T_string) (size := 1) w (strsL (spl s)).toArray (spl s).length (Nat.le_refl _) (by have := List.count_le_length (a := 32) (l := s); rw [spl_length]; simp only [maxLen]; omega) (by simp)
  simpa using this

abbrev bas (l : List Str) : List ByteArray := l.map fun s => ⟨s.toArray⟩
theorem bas_getD (l : List Str) (j : Nat) (h : j < l.length) : some (Value.string ((bas l).getD j ByteArray.empty)) = (strsL l)[j]? := by
  simp [h]
theorem c_contains {w : World} {v : Value} {l : List Str} (h : Row w 1 v l.length (strsL l)) (hl : l.length ≤ 9223372036854775807) (x : Str) : RetV Tryz.prog F_slices_Contains_string_string #[v, S x] w (.bool (decide (x ∈ l))) := by
  obtain ⟨_, a, cap, rfl, hc, h⟩ := h
  have key : Lib.containsS (bas l) ⟨x.toArray⟩ = decide (x ∈ l) := by
    rw [Bool.eq_iff_iff, Lib.containsS_iff, decide_eq_true_eq]
    simp only [List.mem_map]
    constructor
    · rintro ⟨y, hy, e⟩
      have : y = x := by
        injection e with e
        exact List.toArray_inj e
      exact this ▸ hy
    · intro hx
      exact ⟨x, hx, rfl⟩
  rcases h with h | ⟨b, o, rfl, h⟩
  · have : l = [] := List.eq_nil_of_length_eq_zero h
    subst this
    refine (Tryz.slices_Contains_string_empty a cap _ w).mono ?_
    rintro e w' ⟨rfl, rfl⟩
    exact ⟨_, rfl, by simp, Ext.refl _⟩
  · refine (Tryz.slices_Contains_string b o l.length cap (bas l) ⟨x.toArray⟩ w (by simp) hl fun j hj => ?_).mono ?_
    · have hj : j < l.length := by simpa using hj
      rw [h j (by omega), bas_getD l j hj]
    · rintro e w' ⟨rfl, rfl⟩
      refine ⟨_, rfl, ?_, Ext.refl _⟩
      rw [List.take_of_length_le (by simp), key]
def idxM (l : List Str) (x : Str) : Int := match l.findIdx? (· = x) with
  | some i => i
  | none => -1
theorem idxFromS_eq (x : Str) : ∀ (l : List Str) (i : Nat), Lib.idxFromS (bas l) ⟨x.toArray⟩ i = match l.findIdx? (· = x) with | some k => ((i + k : Nat) : Int) | none => -1
  | [], i => rfl
  | y :: l, i => by
    have ih := idxFromS_eq x l (i + 1)
    simp only [List.map_cons, Lib.idxFromS, List.findIdx?_cons]
    by_cases h : y = x
    · subst h; simp
    · have h' : ¬ (⟨y.toArray⟩ : ByteArray) = ⟨x.toArray⟩ := fun e => h (by injection e with e; exact List.toArray_inj e)
      simp only [h, h', if_false, decide_false]
      rw [ih]
      cases hl : l.findIdx? (· = x) with
      | none => simp
      | some k =>
        simp only [Option.map_some]
        congr 1
        omega
theorem c_index {w : World} {v : Value} {l : List Str} (h : Row w 1 v l.length (strsL l)) (hl : l.length ≤ 9223372036854775807) (x : Str) : RetV Tryz.prog F_slices_Index_string_string #[v, S x] w (.int .i64 (idxM l x)) := by
  obtain ⟨_, a, cap, rfl, hc, h⟩ := h
  have key : Lib.idxOfS (bas l) ⟨x.toArray⟩ = idxM l x := by
    unfold Lib.idxOfS idxM
    rw [idxFromS_eq]
    cases l.findIdx? (· = x) <;> simp
  rcases h with h | ⟨b, o, rfl, h⟩
  · have : l = [] := List.eq_nil_of_length_eq_zero h
    subst this
    refine (Tryz.slices_Index_string_empty a cap _ w).mono ?_
    rintro e w' ⟨rfl, rfl⟩
    exact ⟨_, rfl, rfl, Ext.refl _⟩
  · refine (Tryz.slices_Index_string b o l.length cap (bas l) ⟨x.toArray⟩ w (by simp) hl fun j hj => ?_).mono ?_
    · have hj : j < l.length := by simpa using hj
      rw [h j (by omega), bas_getD l j hj]
    · rintro e w' ⟨rfl, rfl⟩
      refine ⟨_, rfl, ?_, Ext.refl _⟩
      rw [List.take_of_length_le (by simp), key]
theorem c_verbs (w : World) (he : EnvP w) : RetR Tryz.prog F_strings_Fields #[S [110, 111, 100, 101, 32, 103, 111, 110, 101, 32, 112, 114, 101, 112, 97, 114, 101, 32, 99, 111, 109, 109, 105, 116, 32, 97, 98, 111, 114, 116, 32, 114, 101, 108, 101, 97, 115, 101, 32, 103, 97, 110, 103]] w T_string 1 7 (strsL verbsM) := by
  have hf : Lib.fields ([110, 111, 100, 101, 32, 103, 111, 110, 101, 32, 112, 114, 101, 112, 97, 114, 101, 32, 99, 111, 109, 109, 105, 116, 32, 97, 98, 111, 114, 116, 32, 114, 101, 108, 101, 97, 115, 101, 32, 103, 97, 110, 103] : Str) = verbsM := by decide
  refine (Tryz.strings_Fields_laid _ w (by decide) ?_ he.space).mono ?_
  · intro j b hj
    have : ∀ b ∈ ([110, 111, 100, 101, 32, 103, 111, 110, 101, 32, 112, 114, 101, 112, 97, 114, 101, 32, 99, 111, 109, 109, 105, 116, 32, 97, 98, 111, 114, 116, 32, 114, 101, 108, 101, 97, 115, 101, 32, 103, 97, 110, 103] : Str), b.toNat < 128 := by decide
    exact this b (List.mem_of_getElem? hj)
  · rintro e w' ⟨rfl, rfl⟩
    refine ⟨_, rfl, ext_alloc _ _, ?_⟩
    rw [toList_S, hf]
    exact World.ownsRow_lit (base := w.heap.size) (e := T_string) (size := 1) w (strsL verbsM).toArray 7 (Nat.le_refl _) (by decide) rfl
theorem kind_idx (s : Str) : idxM verbsM s + 1 = (kindM s : Int) := by
  unfold idxM kindM
  cases verbsM.findIdx? (· = s) <;> simp
theorem kindM_le (s : Str) : kindM s ≤ 7 := by
  unfold kindM
  cases h : verbsM.findIdx? (· = s) with
  | none => simp
  | some i =>
    have := (List.findIdx?_eq_some_iff_getElem.1 h).1
    have : i < 7 := this
    simp only
    omega
theorem c_kind (s : Str) (w : World) (he : EnvP w) : RetV Tryz.prog F_line_kind #[S s] w (.int .i64 (kindM s : Nat)) := by
  refine call_line_kind ?_
  have h := St.start w
  unfold S_line_kind
  refine st_callR en_strings_Fields (c_verbs w he) h ?_
  intro v w1 h
  refine st_callV en_slices_Index_string_string (c_index (l := verbsM) (Row.of_own (h.atR 0 rfl)) (by decide) s) h ?_
  intro w2 h
  rw [xadd, kind_idx]
  have := kindM_le s
  rw [wi64 (by omega) (by omega)]
  exact ⟨rfl, h.chg.ext⟩
theorem c_words (s : Str) (w : World) (he : EnvP w) (hs : s.length < 4294967281) : RetR Tryz.prog F_line_words #[S s] w T_string 1 (wordsM s).length (strsL (wordsM s)) := by
  refine call_line_words ?_
  have h := St.start w
  unfold S_line_words
  refine st_callR en_strings_Split (c_split s w he hs) h ?_
  intro v w1 h
  have hl : (spl s).length ≤ 9223372036854775807 := by
    have := List.count_le_length (a := 32) (l := s)
    rw [spl_length]
    omega
  refine st_callV en_slices_Contains_string_string (c_contains (Row.of_own (h.atR 0 rfl)) hl []) h ?_
  intro w2 h
  refine xc_dec ?_ ?_
  · intro hc
    rw [wordsM, if_pos hc]
    exact ⟨h.chg.ext, World.ownsRow_nil _ _ _ _⟩
  · intro hc
    rw [wordsM, if_neg hc]
    refine ⟨h.chg.ext, ownsRow_base (h.atR 0 rfl) fun k hk => ?_⟩
    exact (h.low _ List.mem_cons_self k hk).resolve_left (by simp)

abbrev placeC (p : PlaceM) : List Value := [S p.pod, S p.node, .int .i64 p.need.cpu, .int .i64 p.need.mem, .bool p.alone]
abbrev placeV (p : PlaceM) : Value := .agg (placeC p).toArray
set_option maxHeartbeats 1000000 in
theorem c_place {w : World} {b : Nat} {r : Rd} (hb : w.heap[b]? = some (rdO r)) : RetT Tryz.prog F_line_reader_place #[pt b] w b (rdO r.place.2) (placeV r.place.1) := by
  refine call_line_reader_place ?_
  have h := St.startR hb
  unfold S_line_reader_place
  refine st_alloc zv_api_Place h ?_
  intro b1 w1 hb1 h
  try simp only [go_sem] at h
  refine st_callT en_line_reader_name (c_name (h.at 1 rfl)) h 1 rfl ?_
  intro w2 h
  try simp only [go_sem] at h
  rw [xbuild (v := placeV ⟨r.name.1, [], ⟨0, 0⟩, false⟩) (fun w => by kernel_rfl)]
  refine st_alloc zv_api_Place h ?_
  intro b2 w3 hb2 h
  try simp only [go_sem] at h
  refine st_store sz_api_Place h 0 rfl rfl rfl rfl ?_
  intro w4 h
  try simp only [go_sem] at h
  refine st_callT en_line_reader_must (c_must (h.at 2 rfl) 62) h 2 rfl ?_
  intro w5 h
  try simp only [go_sem] at h
  refine st_callT en_line_reader_name (c_name (h.at 2 rfl)) h 2 rfl ?_
  intro w6 h
  try simp only [go_sem] at h
  try simp only [go_sem]
  refine st_store sz_string h 0 rfl rfl rfl rfl ?_
  intro w7 h
  try simp only [go_sem] at h
  refine st_callT en_line_reader_must (c_must (h.at 2 rfl) 58) h 2 rfl ?_
  intro w8 h
  try simp only [go_sem] at h
  refine st_callT en_line_reader_vec (c_vec (h.at 2 rfl)) h 2 rfl ?_
  intro w9 h
  try simp only [go_sem] at h
  try simp only [go_sem]
  refine st_store sz_api_Vec h 0 rfl rfl rfl rfl ?_
  intro w10 h
  try simp only [go_sem] at h
  refine st_callT en_line_reader_sign (c_sign (h.at 2 rfl) 33) h 2 rfl ?_
  intro w11 h
  try simp only [go_sem] at h
  try simp only [go_sem]
  refine st_store sz_bool h 0 rfl rfl rfl rfl ?_
  intro w12 h
  try simp only [go_sem] at h
  refine st_loadW ag_api_Place sz_api_Place h 0 rfl rfl ?_
  refine st_store sz_api_Place h 1 rfl rfl rfl rfl ?_
  intro w13 h
  try simp only [go_sem] at h
  refine st_loadW ag_api_Place sz_api_Place h 1 rfl rfl ?_
  exact ⟨rfl, rfl, h.chg, h.at 2 rfl⟩
end Go.Proofs.YthkgbajldkicfaaGreatDoor
