/-
  Errors' words; numbers from 0 on; what is known.
-/
import Derived.Test.YthkgbajldkicfaaGreatDoorTxt3
import Derived.Test.YthkgbajldkicfaaGreatDoorS3
namespace Go.Proofs.YthkgbajldkicfaaGreatDoor
set_option linter.unusedVariables false
set_option linter.unusedSimpArgs false
open Go Go.Jo
set_option maxRecDepth 100000

def errT (e : Int) : Str :=
  if e ≤ 4 then (if e = 0 then [111, 107] else if e = 1 then [110, 97, 109, 101] else if e = 2 then [97, 114, 103] else if e = 3 then [108, 111, 110, 103] else if e = 4 then [116, 119, 105, 99, 101] else [101, 114, 114, 111, 114])
  else if e = 5 then [110, 111, 110, 101] else if e = 6 then [114, 111, 111, 109] else if e = 7 then [115, 116, 97, 116, 101] else if e = 8 then [102, 111, 114, 109] else if e = 9 then [100, 111, 119, 110] else [101, 114, 114, 111, 114]
theorem c_error (e : Int) (w : World) : RetV Tryz.prog F_api_Errno_Error #[.int .i64 e] w (S (errT e)) := by
  refine call_api_Errno_Error ?_
  have h := St.start w
  unfold S_api_Errno_Error
  rw [xleq]
  refine xc_dec ?_ ?_
  · intro h4
    have hc : RetV Tryz.prog F_api_early #[.int .i64 e] w (S (errT e)) := by
      refine call_api_early ?_
      unfold S_api_early
      rw [errT, if_pos h4]
      rw [xeql]
      refine xc_dec (fun h => by rw [if_pos h]; exact ⟨rfl, Ext.refl _⟩) fun h0 => ?_
      rw [if_neg h0, xeql]
      refine xc_dec (fun h => by rw [if_pos h]; exact ⟨rfl, Ext.refl _⟩) fun h1 => ?_
      rw [if_neg h1, xeql]
      refine xc_dec (fun h => by rw [if_pos h]; exact ⟨rfl, Ext.refl _⟩) fun h2 => ?_
      rw [if_neg h2, xeql]
      refine xc_dec (fun h => by rw [if_pos h]; exact ⟨rfl, Ext.refl _⟩) fun h3 => ?_
      rw [if_neg h3, xeql]
      refine xc_dec (fun h => by rw [if_pos h]; exact ⟨rfl, Ext.refl _⟩) fun h4 => ?_
      rw [if_neg h4]
      exact ⟨rfl, Ext.refl _⟩
    refine st_callV en_api_early hc h ?_
    intro w1 h
    exact ⟨rfl, h.ext⟩
  · intro h4
    have hc : RetV Tryz.prog F_api_late #[.int .i64 e] w (S (errT e)) := by
      refine call_api_late ?_
      unfold S_api_late
      rw [errT, if_neg h4]
      rw [xeql]
      refine xc_dec (fun h => by rw [if_pos h]; exact ⟨rfl, Ext.refl _⟩) fun h0 => ?_
      rw [if_neg h0, xeql]
      refine xc_dec (fun h => by rw [if_pos h]; exact ⟨rfl, Ext.refl _⟩) fun h1 => ?_
      rw [if_neg h1, xeql]
      refine xc_dec (fun h => by rw [if_pos h]; exact ⟨rfl, Ext.refl _⟩) fun h2 => ?_
      rw [if_neg h2, xeql]
      refine xc_dec (fun h => by rw [if_pos h]; exact ⟨rfl, Ext.refl _⟩) fun h3 => ?_
      rw [if_neg h3, xeql]
      refine xc_dec (fun h => by rw [if_pos h]; exact ⟨rfl, Ext.refl _⟩) fun h4 => ?_
      rw [if_neg h4]
      exact ⟨rfl, Ext.refl _⟩
    refine st_callV en_api_late hc h ?_
    intro w1 h
    exact ⟨rfl, h.ext⟩

/-- A number from 0 to n - 1. -/
def withinM (a n : Int) : Int := if a.tmod n < 0 then a.tmod n + n else a.tmod n
theorem within_lt (a n : Int) (hn : 0 < n) : 0 ≤ withinM a n ∧ withinM a n < n := by
  have h1 := Int.tmod_lt_of_pos a hn
  have h2 := Int.lt_tmod_of_pos a hn
  unfold withinM
  split <;> omega
theorem c_within4 {a n : Int} (w : World) (hn : 0 < n) (hn2 : n < 4611686018427387904) : RetV Tryz.prog F_joinerylaw4_within #[.int .i64 a, .int .i64 n] w (.int .i64 (withinM a n)) := by
  refine call_joinerylaw4_within ?_
  unfold S_joinerylaw4_within
  have h1 := Int.tmod_lt_of_pos a hn
  have h2 := Int.lt_tmod_of_pos a hn
  rw [xrem _ _ _ _ _ _ _ _ (by omega), xlss]
  refine xc_dec ?_ ?_
  · intro hlt
    rw [xadd, wi64 (by omega) (by omega), withinM, if_pos hlt]
    exact ⟨rfl, Ext.refl _⟩
  · intro hge
    rw [withinM, if_neg hge]
    exact ⟨rfl, Ext.refl _⟩

abbrev nilV : Value := .slice none 0 0
theorem at_bare (w : World) (r : RecM) (h1 : r.peers = []) (h2 : r.places = []) (h3 : r.node.marks = []) (h4 : r.node.taints = []) : RecAt w r (recV r nilV nilV nilV nilV) :=
  ⟨nilV, nilV, nilV, nilV, rfl, by rw [h1]; exact Row.nil _ _, by rw [h2]; exact Row.nil _ _, by rw [h3]; exact Row.nil _ _, by rw [h4]; exact Row.nil _ _⟩
theorem RecAt.parts {w : World} {r : RecM} {v : Value} (h : RecAt w r v) : ∃ pv lv mv tv, v = recV r pv lv mv tv ∧ Flats pv lv mv tv := by
  obtain ⟨pv, lv, mv, tv, rfl, h1, h2, h3, h4⟩ := h
  exact ⟨pv, lv, mv, tv, rfl, h1.flat.1, h2.flat.1, h3.flat.1, h4.flat.1⟩
theorem xparse {x : List Nat} {w0 w : World} {L : List Res} {s : Str} {K : Value → World → Prop} (h : St x w0 L w) (he : EnvP w) (hs : s.length ≤ 900000) (hk : ∀ rv w', RecAt w' (parseM s).1 rv → Ext w w' → St x w0 L w' → K (.tuple #[rv, .int .i64 (parseM s).2]) w') : XCall Tryz.prog F_line_Parse #[S s] w K :=
  xcall_of (en_line_Parse _) (c_parse s he hs) fun _ w' ⟨rv, hv, hat, e⟩ => hv ▸ hk rv w' hat e (h.step e)
abbrev commit7 : Str := [99, 111, 109, 109, 105, 116, 32, 55]
abbrev rec47 : RecM := { zRec with kind := 4, gang := 7 }
theorem tiny_bare (k g : Int) (hg : i64 g) : RecTiny { zRec with kind := k, gang := g } :=
  ⟨hg, by simp [zRec], by simp [zRec], by simp [zRec], by simp [zRec], by simp [zRec, zNode], by show i64 0 ∧ i64 0; decide, by simp [zRec, zNode], by simp [zRec, zNode], by simp [zRec, zNode], by simp [zRec, zNode]⟩
set_option maxHeartbeats 1000000 in
theorem c_known {w : World} (he : EnvP w) : RetV Tryz.prog F_joinerylaw4_known #[] w (.bool true) := by
  refine call_joinerylaw4_known ?_
  have h := St.start w
  unfold S_joinerylaw4_known
  have p1 : parseM [] = (zRec, 8) := by decide +kernel
  have p2 : parseM commit7 = (rec47, 0) := by decide +kernel
  have t2 : textM rec47 = commit7 := by decide +kernel
  refine xparse (s := []) h he (by simp) ?_
  intro rv1 w1 hat1 e1 h
  rw [p1] at hat1 ⊢
  obtain ⟨pv, lv, mv, tv, rfl, hf⟩ := hat1.parts
  simp only [go_sem]
  refine st_alloc zv_api_Record h ?_
  intro b1 w2 hb1 h
  try simp only [go_sem] at h
  refine st_store sz_api_Record h 0 rfl rfl rfl (hf.all _) ?_
  intro w3 h
  try simp only [go_sem] at h
  refine xparse (s := commit7) h (he.mono h.ext) (by simp) ?_
  intro rv2 w4 hat2 e2 h
  rw [p2] at hat2 ⊢
  obtain ⟨pv2, lv2, mv2, tv2, rfl, hf2⟩ := hat2.parts
  simp only [go_sem]
  refine st_alloc zv_api_Record h ?_
  intro b2 w5 hb2 h
  try simp only [go_sem] at h
  refine st_store sz_api_Record h 0 rfl rfl rfl (hf2.all _) ?_
  intro w6 h
  try simp only [go_sem] at h
  refine and_st h true ?_ ?_
  · intro _ J hJ
    exact hJ _ h
  intro w7 h
  refine and_st h true ?_ ?_
  · intro _ J hJ
    simp only [go_sem]
    refine st_load ag_int h 0 rfl rfl ?_
    rw [xeql]
    exact hJ _ h
  intro w8 h
  refine and_st h true ?_ ?_
  · intro _ J hJ
    simp only [go_sem]
    refine st_load ag_int h 0 rfl rfl ?_
    rw [xeql]
    exact hJ _ h
  intro w9 h
  refine and_st h true ?_ ?_
  · intro _ J hJ
    rw [xbuild (v := recV rec47 nilV nilV nilV nilV) (fun w => by kernel_rfl)]
    refine st_callV en_line_Text (c_text (he.mono h.ext) (at_bare _ rec47 rfl rfl rfl rfl) (tiny_bare 4 7 (by decide))) h ?_
    intro w10 h
    rw [t2, xseql]
    exact hJ _ h
  intro w10 h
  exact ⟨rfl, h.ext⟩
end Go.Proofs.YthkgbajldkicfaaGreatDoor
