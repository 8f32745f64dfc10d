/-
  A record's line: its parts.
-/
import Derived.Test.YthkgbajldkicfaaGreatDoorPrs
import Derived.Lib.ItoaLen
namespace Go.Proofs.YthkgbajldkicfaaGreatDoor
set_option linter.unusedVariables false
set_option linter.unusedSimpArgs false
open Go Go.Jo
set_option maxRecDepth 100000

abbrev i64 (n : Int) : Prop := -9223372036854775808 ≤ n ∧ n ≤ 9223372036854775807
theorem ext_grown (w : World) (k : Nat) (os : Array Obj) : Ext w (Sort.grow (w.drewN k) os) :=
  ⟨rfl, rfl, rfl, by simp [World.drewN], fun j hj => by
    rw [Sort.heap_grow_old _ _ (by simpa [World.drewN] using hj)]
    rfl⟩
theorem c_itoa {w : World} (he : EnvP w) {n : Int} (hn : i64 n) : RetV Tryz.prog F_strconv_Itoa #[.int .i64 n] w (S (Lib.itoa n)) := by
  refine (Tryz.strconv_Itoa n hn.1 hn.2 w he.pow).mono ?_
  rintro e w' ⟨rfl, k, os, rfl⟩
  exact ⟨_, rfl, rfl, ext_grown w k os⟩
def vecT (v : VecM) : Str := Lib.itoa v.cpu ++ [44] ++ Lib.itoa v.mem
theorem vecT_len {v : VecM} (h : i64 v.cpu ∧ i64 v.mem) : (vecT v).length ≤ 43 := by
  have h1 := Lib.itoa_length_le v.cpu h.1.1 h.1.2
  have h2 := Lib.itoa_length_le v.mem h.2.1 h.2.2
  simp [vecT]
  omega
theorem c_vecT {w : World} (he : EnvP w) {v : VecM} (hv : i64 v.cpu ∧ i64 v.mem) : RetV Tryz.prog F_line_vec #[vecV v] w (S (vecT v)) := by
  refine call_line_vec ?_
  have h := St.start w
  unfold S_line_vec
  have h1 := Lib.itoa_length_le v.cpu hv.1.1 hv.1.2
  have h2 := Lib.itoa_length_le v.mem hv.2.1 hv.2.2
  refine st_box h ?_
  intro b w1 hb h
  try simp only [go_sem] at h
  have h := h.step (Ext.drew _)
  have e1 := h.ext
  refine ⟨Ext, Ext, preExt, .pointer (some ⟨b, 0, none⟩), fun _ => ?_, .int .i64 v.cpu, fun w2 e2 => ?_, S (Lib.itoa v.cpu), fun w2 e2 => ?_, S (Lib.itoa v.cpu ++ [44]), fun w2 => ?_, .pointer (some ⟨b, 1, none⟩), fun _ => ?_, .int .i64 v.mem, fun w2 e2 => ?_, S (Lib.itoa v.mem), fun w2 e2 => ?_, S (vecT v), fun w2 => ?_, fun w2 e2 => ?_⟩
  · simp only [go_sem]; exact ⟨by trivial, by trivial⟩
  · exact st_load ag_int (h.step e2) 0 rfl rfl ⟨rfl, Ext.refl _⟩
  · exact xcall_of (en_strconv_Itoa _) (c_itoa (he.mono (e1.trans e2)) hv.1) fun _ _ hq => hq
  · rw [xcat _ _ _ _ _ _ _ (by simp; omega)]; exact ⟨rfl, rfl⟩
  · simp only [go_sem]; exact ⟨by trivial, by trivial⟩
  · exact st_load ag_int (h.step e2) 0 rfl rfl ⟨rfl, Ext.refl _⟩
  · exact xcall_of (en_strconv_Itoa _) (c_itoa (he.mono (e1.trans e2)) hv.2) fun _ _ hq => hq
  · rw [xcat _ _ _ _ _ _ _ (by simp; omega)]; exact ⟨rfl, rfl⟩
  · exact ⟨rfl, e1.trans e2⟩
def flagT (b : Bool) : Str := if b then [33] else []
theorem c_flag (b : Bool) (w : World) : RetV Tryz.prog F_line_flag #[.bool b] w (S (flagT b)) := by
  refine call_line_flag ?_
  unfold S_line_flag
  cases b
  · rw [xc_false]; exact ⟨rfl, Ext.refl _⟩
  · rw [xc_true]; exact ⟨rfl, Ext.refl _⟩
def signedT (c : UInt8) (l : List Str) : Str := (l.map fun x => c :: x).flatten
theorem flat_le {l : List Str} {m : Nat} (h : ∀ x ∈ l, x.length ≤ m) : ∀ c : UInt8, (signedT c l).length ≤ l.length * (m + 1) := fun c => by
  induction l with
  | nil => simp [signedT]
  | cons x l ih =>
    have h1 := h x (by simp)
    have h2 := ih fun y hy => h y (by simp [hy])
    simp only [signedT, List.map_cons, List.flatten_cons, List.length_append, List.length_cons] at h2 ⊢
    rw [Nat.add_mul]
    omega
theorem signedT_snoc (c : UInt8) (l : List Str) (x : Str) : signedT c (l ++ [x]) = signedT c l ++ (c :: x) := by simp [signedT]
theorem c_signedT {w : World} {p1 : Value} {l : List Str} (c : UInt8) (hp : Row w 1 p1 l.length (strsL l)) (hl : l.length ≤ 1000000) (hs : ∀ x ∈ l, x.length ≤ 1000000) : RetV Tryz.prog F_line_signed #[S [c], p1] w (S (signedT c l)) := by
  refine call_line_signed ?_
  have h := St.start w
  unfold S_line_signed
  refine hp.len und_sl_string ?_
  refine ⟨fun u v w2 => ∃ i, i ≤ l.length ∧ u = S (signedT c (l.take i)) ∧ v = .int .i64 (i : Nat) ∧ St [] w [] w2, fun _ v _ => match v with | .int _ n => l.length - n.toNat | _ => 0, ⟨0, Nat.zero_le _, rfl, rfl, h⟩, ?_⟩
  rintro - u v w2 ⟨i, hi, rfl, rfl, h⟩
  rw [xlss]
  refine xc_dec ?_ ?_
  · intro hlt
    have hlt : i < l.length := by omega
    obtain ⟨x, hx⟩ : ∃ x, l[i]? = some x := ⟨_, List.getElem?_eq_getElem hlt⟩
    have hge : l[i] = x := by
      rw [List.getElem?_eq_getElem hlt] at hx
      injection hx
    have hxs := hs x (List.mem_of_getElem? hx)
    have hb := flat_le (l := l.take i) (m := 1000000) (fun y hy => hs y (List.mem_of_mem_take hy)) c
    have hb2 : (l.take i).length * (1000000 + 1) ≤ 1000000 * 1000001 := Nat.mul_le_mul (by rw [List.length_take]; omega) (by omega)
    refine str_at (hp.mono h.ext) hlt hx ?_
    intro b0 o0 hc0
    refine ld_of ag_string hc0 ?_
    rw [xcat _ _ _ _ _ _ _ (by simp; omega), xcat _ _ _ _ _ _ _ (by simp; omega), xadd, wi64 (by omega) (by omega)]
    refine ⟨⟨i + 1, hlt, ?_, rfl, h⟩, ?_⟩
    · rw [List.take_succ_eq_append_getElem hlt, hge, signedT_snoc]
      rfl
    · show l.length - (((i : Int) + 1)).toNat < l.length - ((i : Int)).toNat
      omega
  · intro hge
    have hi : i = l.length := by omega
    subst hi
    rw [List.take_length]
    exact ⟨rfl, h.ext⟩
end Go.Proofs.YthkgbajldkicfaaGreatDoor
