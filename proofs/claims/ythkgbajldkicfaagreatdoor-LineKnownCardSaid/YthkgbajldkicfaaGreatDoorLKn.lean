/-
  The law LineKnown, walked.
-/
import Derived.Test.YthkgbajldkicfaaGreatDoorKn
namespace Go.Proofs.YthkgbajldkicfaaGreatDoor
open Go Go.Jo
set_option maxRecDepth 100000

def linesK : List Str := [[110, 111, 100, 101, 32, 110, 49, 58, 52, 44, 56, 43, 98, 105, 103, 43, 115, 115, 100, 126, 206, 179, 33], [103, 111, 110, 101, 32, 207, 137, 57], [112, 114, 101, 112, 97, 114, 101, 32, 49, 50, 32, 49, 44, 51, 32, 112, 97, 62, 110, 49, 58, 50, 44, 48, 33, 32, 112, 98, 62, 206, 177, 58, 48, 44, 49], [103, 97, 110, 103, 32, 57, 57, 57, 57, 57, 57, 32, 49, 44, 50, 44, 51, 44, 52], [97, 98, 111, 114, 116, 32, 49], [114, 101, 108, 101, 97, 115, 101, 32, 51, 48], [110, 111, 100, 101, 32, 110, 49, 58, 52, 44, 56], [99, 111, 109, 109, 105, 116, 32, 48], [99, 111, 109, 109, 105, 116, 32, 48, 49], [99, 111, 109, 109, 105, 116, 32, 49, 32, 50], [99, 111, 109, 109, 105, 116], [103, 97, 110, 103, 32, 49], [103, 97, 110, 103, 32, 49, 32, 50, 44, 49], [103, 97, 110, 103, 32, 49, 32, 53], [103, 97, 110, 103, 32, 49, 32, 49, 44], [112, 114, 101, 112, 97, 114, 101, 32, 49, 32, 49], [112, 114, 101, 112, 97, 114, 101, 32, 49, 32, 49, 32, 112, 97, 62, 110, 58, 49, 44, 49, 32, 112, 97, 62, 109, 58, 48, 44, 48], [110, 111, 100, 101, 32, 78, 58, 49, 44, 49], [110, 111, 100, 101, 32, 110, 58, 49], [110, 111, 100, 101, 32, 110, 58, 49, 44, 49, 43, 98, 43, 97], [110, 111, 100, 101, 32, 110, 58, 49, 44, 49, 126], [110, 111, 100, 101, 32, 110, 58, 49, 44, 49, 33, 120], [103, 111, 110, 101, 32, 32, 97], [103, 111, 110, 101, 32, 97, 32, 98], [110, 111, 100, 101, 32, 110, 58, 49, 48, 57, 57, 53, 49, 49, 54, 50, 55, 55, 55, 55, 44, 48], [110, 111, 100, 101, 32, 110, 58, 49, 48, 48, 48, 48, 48, 48, 48, 48, 48, 48, 48, 48, 48, 48, 48, 44, 48], [112, 114, 101, 112, 97, 114, 101, 32, 49, 32, 49, 32, 112, 97, 62, 58, 49, 44, 49], [67, 111, 109, 109, 105, 116, 32, 49], [103, 111, 110, 101, 32, 97, 58], [99, 111, 109, 109, 105, 116, 32, 49, 48, 48, 48, 48, 48, 48]]
def wantK : List Str := [[], [], [], [], [], [], [], [97, 114, 103], [102, 111, 114, 109], [102, 111, 114, 109], [102, 111, 114, 109], [102, 111, 114, 109], [97, 114, 103], [97, 114, 103], [102, 111, 114, 109], [108, 111, 110, 103], [116, 119, 105, 99, 101], [110, 97, 109, 101], [102, 111, 114, 109], [110, 97, 109, 101], [102, 111, 114, 109], [102, 111, 114, 109], [102, 111, 114, 109], [102, 111, 114, 109], [97, 114, 103], [102, 111, 114, 109], [102, 111, 114, 109], [102, 111, 114, 109], [102, 111, 114, 109], [97, 114, 103]]
/-- A check of what RecTiny asks. -/
def i64B (n : Int) : Bool := decide (-9223372036854775808 ≤ n ∧ n ≤ 9223372036854775807)
def shortB (s : Str) : Bool := decide (s.length ≤ 10000)
def tinyB (r : RecM) : Bool := i64B r.gang && decide (r.peers.length ≤ 10000) && r.peers.all i64B && decide (r.places.length ≤ 10000) && r.places.all (fun p => shortB p.pod && shortB p.node && i64B p.need.cpu && i64B p.need.mem) && shortB r.node.name && i64B r.node.cap.cpu && i64B r.node.cap.mem && decide (r.node.marks.length ≤ 10000) && r.node.marks.all shortB && decide (r.node.taints.length ≤ 10000) && r.node.taints.all shortB
theorem tiny_of {r : RecM} (h : tinyB r = true) : RecTiny r := by
  simp only [tinyB, i64B, shortB, Bool.and_eq_true, decide_eq_true_eq, List.all_eq_true] at h
  obtain ⟨⟨⟨⟨⟨⟨⟨⟨⟨⟨⟨h1, h2⟩, h3⟩, h4⟩, h5⟩, h6⟩, h7⟩, h8⟩, h9⟩, h10⟩, h11⟩, h12⟩ := h
  exact ⟨h1, h2, h3, h4, fun p hp => ⟨(h5 p hp).1.1.1, (h5 p hp).1.1.2, (h5 p hp).1.2, (h5 p hp).2⟩, h6, ⟨h7, h8⟩, h9, h10, h11, h12⟩
def okK (i : Nat) : Bool :=
  let s := linesK.getD i []
  let t := wantK.getD i []
  decide (s.length ≤ 900000) && (if t = [] then decide ((parseM s).2 = 0) && decide (textM (parseM s).1 = s) && tinyB (parseM s).1 else decide (errT (parseM s).2 = t) && decide ((parseM s).1.kind = 0))
theorem okK_all : ∀ i, i < 30 → okK i = true := by decide +kernel
set_option maxHeartbeats 2000000 in
theorem c_LineKnown {w : World} (he : EnvP w) (a : Int) : RetV Tryz.prog F_joinerylaw4_LineKnown #[.int .i64 a] w (.bool true) := by
  refine call_joinerylaw4_LineKnown ?_
  have h := St.start w
  unfold S_joinerylaw4_LineKnown
  refine st_callV en_joinerylaw4_known (c_known he) h ?_
  intro w1 h
  simp only [go_sem, Bool.not_true]
  refine st_buildS (cs := (strsL linesK).toArray) (e := T_string) (fun w => by kernel_rfl) h ?_
  intro bl w2 hbl h
  have h := h.asRow 0 (k := 30) (sz := 1) rfl (by decide) (by kernel_rfl)
  refine st_buildS (cs := (strsL wantK).toArray) (e := T_string) (fun w => by kernel_rfl) h ?_
  intro bw w3 hbw h
  have h := h.asRow 0 (k := 30) (sz := 1) rfl (by decide) (by kernel_rfl)
  have h : St [] w [.row T_string 1 (.slice (some ⟨bw, 0, none⟩) 30 30) 30 (strsL wantK), .row T_string 1 (.slice (some ⟨bl, 0, none⟩) 30 30) 30 (strsL linesK)] w3 := h
  obtain ⟨hk0, hk1⟩ := within_lt a 30 (by omega)
  rw [len_sl_string]
  refine st_callV en_joinerylaw4_within (c_within4 (a := a) (n := 30) w3 (by omega) (by omega)) h ?_
  intro w4 h
  obtain ⟨i, hi⟩ : ∃ i : Nat, withinM a 30 = (i : Int) := ⟨(withinM a 30).toNat, by omega⟩
  rw [hi] at hk1 ⊢
  have hi30 : i < 30 := by omega
  have hok := okK_all i hi30
  have hlk : linesK.length = 30 := rfl
  have hwk : wantK.length = 30 := rfl
  have hx : linesK[i]? = some (linesK.getD i []) := by rw [List.getD_eq_getElem?_getD, List.getElem?_eq_getElem (by omega)]; rfl
  have hy : wantK[i]? = some (wantK.getD i []) := by rw [List.getD_eq_getElem?_getD, List.getElem?_eq_getElem (by omega)]; rfl
  unfold okK at hok
  generalize linesK.getD i [] = s at hx hok
  generalize wantK.getD i [] = t at hy hok
  simp only [Bool.and_eq_true, decide_eq_true_eq] at hok
  have rowL : ∀ {L : List Res} {w' : World} {q : Res}, St [] w (q :: .row T_string 1 (.slice (some ⟨bl, 0, none⟩) 30 30) 30 (strsL linesK) :: L) w' → Row w' 1 (.slice (some ⟨bl, 0, none⟩) 30 30) linesK.length (strsL linesK) := fun h => Row.of_own (h.atR 1 rfl)
  refine str_at (rowL h) (by omega) hx ?_
  intro b0 o0 hc0
  refine ld_of ag_string hc0 ?_
  refine xparse h (he.mono h.ext) hok.1 ?_
  intro rv w5 hat e5 h
  obtain ⟨pv, lv, mv, tv, rfl, hf⟩ := hat.parts
  have eb := h.ext
  have oL := h.atR 1 rfl
  have oW := h.atR 0 rfl
  have he5 := he.mono eb
  have h := St.start w5
  simp only [go_sem]
  refine st_alloc zv_api_Record h ?_
  intro br w6 hbr h
  try simp only [go_sem] at h
  refine st_store sz_api_Record h 0 rfl rfl rfl (hf.all _) ?_
  intro w7 h
  try simp only [go_sem] at h
  have cellL : ∀ w', Ext w5 w' → w'.cell? ⟨bl, 0 + ((i : Int)).toNat * 1, none⟩ = some (S s) := fun w' e => by
    refine cell_ext e ?_
    rw [Int.toNat_natCast, Nat.zero_add, Nat.mul_one, oL.cellAt i (by omega)]
    simp [hx]
  have cellW : ∀ w', Ext w5 w' → w'.cell? ⟨bw, 0 + ((i : Int)).toNat * 1, none⟩ = some (S t) := fun w' e => by
    refine cell_ext e ?_
    rw [Int.toNat_natCast, Nat.zero_add, Nat.mul_one, oW.cellAt i (by omega)]
    simp [hy]
  rw [idx_sl_string (by omega) (by omega)]
  refine ld_of ag_string (cellW _ h.ext) ?_
  have h := h.step (Ext.drew _)
  have e7 := h.ext
  rw [xseql]
  refine xc_dec ?_ ?_
  · intro ht
    have hok := hok.2
    rw [if_pos ht] at hok
    simp only [Bool.and_eq_true, decide_eq_true_eq] at hok
    have htx := hok.1.2
    refine ⟨Ext, Ext, preExt, .bool true, fun _ => ?_, recV (parseM s).1 pv lv mv tv, ?_, S s, ?_, .slice (some ⟨bl, 0, none⟩) 30 30, ?_, .int .i64 (i : Nat), ?_, .pointer (some ⟨bl, 0 + ((i : Int)).toNat * 1, none⟩), ?_, S s, ?_, .bool (decide (s = s)), ?_, .bool (decide (s = s)), fun _ => ?_, fun w8 e8 => ?_⟩
    · first | (rw [decide_eq_true hok.1.1]; exact ⟨rfl, by trivial⟩) | (rw [xeql, decide_eq_true hok.1.1]; exact ⟨rfl, rfl⟩)
    · rw [xg_same]
      intro w8 e8
      exact st_loadW ag_api_Record sz_api_Record (h.step e8) 0 rfl rfl ⟨rfl, Ext.refl _⟩
    · rw [xg_same]
      intro w8 e8
      have hat' := (hat.mono (e7.trans e8))
      have key := c_text (he5.mono (e7.trans e8)) hat' (tiny_of hok.2)
      rw [htx] at key
      exact xcall_of (en_line_Text _) key fun _ _ hq => hq
    · rw [xg_same]; intro _; exact ⟨by trivial, by trivial⟩
    · rw [xg_same]; intro _; exact ⟨by trivial, by trivial⟩
    · rw [xg_same]
      intro w8
      rw [idx_sl_string (by omega) (by omega)]
      exact ⟨by trivial, by trivial⟩
    · rw [xg_same]
      intro w8 e8
      exact ld_of ag_string (cellL w8 (e7.trans e8)) ⟨rfl, Ext.refl _⟩
    · rw [xg_same]
      intro w8
      rw [xseql]
      exact ⟨rfl, rfl⟩
    · rw [xpick_true]; exact ⟨rfl, by trivial⟩
    · exact ⟨by simp, eb.trans (h.step e8).ext⟩
  · intro ht
    have hok := hok.2
    rw [if_neg ht] at hok
    simp only [Bool.and_eq_true, decide_eq_true_eq] at hok
    refine ⟨Ext, Ext, preExt, S (errT (parseM s).2), fun w8 e8 => ?_, .pointer (some ⟨bw, 0 + ((i : Int)).toNat * 1, none⟩), fun w8 => ?_, S t, fun w8 e8 => ?_, .bool true, fun w8 => ?_, .pointer (some ⟨br, 0, none⟩), ?_, .int .i64 (parseM s).1.kind, ?_, .bool true, ?_, .bool true, fun _ => ?_, fun w8 e8 => ?_⟩
    · exact xcall_of (en_api_Errno_Error _) (c_error _ _) fun _ _ hq => hq
    · rw [idx_sl_string (by omega) (by omega)]
      exact ⟨by trivial, by trivial⟩
    · exact ld_of ag_string (cellW w8 (e7.trans e8)) ⟨rfl, Ext.refl _⟩
    · rw [xseql, decide_eq_true hok.1]; exact ⟨rfl, rfl⟩
    · rw [xg_same]; intro _; first | exact ⟨by trivial, by trivial⟩ | (simp only [go_sem]; done) | (simp only [go_sem]; exact ⟨by trivial, by trivial⟩)
    · rw [xg_same]
      intro w8 e8
      exact st_load ag_int (h.step e8) 0 rfl rfl ⟨rfl, Ext.refl _⟩
    · rw [xg_same]
      intro w8
      rw [xeql, decide_eq_true hok.2]; exact ⟨rfl, rfl⟩
    · rw [xpick_true]; exact ⟨rfl, by trivial⟩
    · exact ⟨rfl, eb.trans (h.step e8).ext⟩
end Go.Proofs.YthkgbajldkicfaaGreatDoor
