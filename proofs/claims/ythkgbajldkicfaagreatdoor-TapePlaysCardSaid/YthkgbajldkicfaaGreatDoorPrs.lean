/-
  A line is parsed.
-/
import Derived.Test.YthkgbajldkicfaaGreatDoorChk4
namespace Go.Proofs.YthkgbajldkicfaaGreatDoor
set_option linter.unusedVariables false
set_option linter.unusedSimpArgs false
open Go Go.Jo
set_option maxRecDepth 100000

theorem name_small (r : Rd) : r.name.1.length ≤ r.s.length := (List.takeWhile_sublist _).length_le
theorem signedN_small (c : UInt8) : ∀ (f : Nat) (r : Rd), (Rd.signedN c f r).1.length ≤ f ∧ ∀ x ∈ (Rd.signedN c f r).1, x.length ≤ r.s.length
  | 0, r => by simp [Rd.signedN]
  | f + 1, r => by
    unfold Rd.signedN
    split
    · have ih := signedN_small c f (r.sign c).2.name.2
      have h1 := sign_len c r
      have h2 := name_small (r.sign c).2
      have h3 := name_len (r.sign c).2
      refine ⟨by simp only [List.length_cons]; omega, fun x hx => ?_⟩
      rcases List.mem_cons.1 hx with rfl | hx
      · omega
      · have := ih.2 x hx
        omega
    · simp
theorem peersN_small : ∀ (f : Nat) (r : Rd), (Rd.peersN f r).1.length ≤ f
  | 0, r => by simp [Rd.peersN]
  | f + 1, r => by
    unfold Rd.peersN
    split
    · have ih := peersN_small f (r.sign 44).2.number.2
      simp only [List.length_cons]
      omega
    · simp
theorem node_small (r : Rd) (h : r.s.length ≤ 1000000) : NodeSmall r.node.1 := by
  have h1 := name_small r
  have h2 := name_len r
  have h3 := must_len 58 r.name.2
  have h4 := vec_len (r.name.2.must 58)
  have h5 := signedN_small 43 (r.name.2.must 58).vec.2.s.length (r.name.2.must 58).vec.2
  have h6 := signed_len 43 (r.name.2.must 58).vec.2
  have h7 := signedN_small 126 ((r.name.2.must 58).vec.2.signed 43).2.s.length ((r.name.2.must 58).vec.2.signed 43).2
  refine ⟨by show r.name.1.length ≤ _; omega, ?_, fun x hx => ?_, ?_, fun x hx => ?_⟩
  · show (Rd.signedN 43 _ _).1.length ≤ _
    exact Nat.le_trans h5.1 (by omega)
  · have := h5.2 x hx
    omega
  · show (Rd.signedN 126 _ _).1.length ≤ _
    exact Nat.le_trans h7.1 (by omega)
  · have := h7.2 x hx
    omega
theorem zNode_small : NodeSmall zNode := ⟨by simp [zNode], by simp [zNode], by simp [zNode], by simp [zNode], by simp [zNode]⟩
theorem zRec_small : RecSmall zRec := ⟨by simp [zRec], by simp [zRec], by simp [zRec], zNode_small⟩
theorem head_small (k : Nat) (s : Str) (h : s.length ≤ 1000000) : (headM k s).1.peers = [] ∧ (headM k s).1.places = [] ∧ NodeSmall (headM k s).1.node := by
  unfold headM
  split
  · exact ⟨rfl, rfl, node_small _ h⟩
  · split
    · refine ⟨rfl, rfl, ?_⟩
      have := name_small ⟨s, false⟩
      exact ⟨Nat.le_trans this h, by simp [zNode], by simp [zNode], by simp [zNode], by simp [zNode]⟩
    · exact ⟨rfl, rfl, zNode_small⟩
theorem place_small (s : Str) (h : s.length ≤ 1000000) : (Rd.place ⟨s, false⟩).1.pod.length ≤ 1000000 ∧ (Rd.place ⟨s, false⟩).1.node.length ≤ 1000000 := by
  have h1 := name_small ⟨s, false⟩
  have h2 := name_len ⟨s, false⟩
  have h3 := must_len 62 (Rd.name ⟨s, false⟩).2
  have h4 := name_small ((Rd.name ⟨s, false⟩).2.must 62)
  refine ⟨Nat.le_trans h1 h, ?_⟩
  show ((Rd.name ⟨s, false⟩).2.must 62).name.1.length ≤ _
  have : (⟨s, false⟩ : Rd).s.length = s.length := rfl
  omega
theorem tail_small (k : Nat) (r : RecM) (is : Bool) (rest : List Str) (hr : RecSmall r) (hl : rest.length ≤ 1000000) (hs : ∀ x ∈ rest, x.length ≤ 1000000) : RecSmall (tailM k r is rest).1 := by
  unfold tailM
  split
  · exact hr
  · refine ⟨hr.peers, by simp [placesM]; exact hl, fun p hp => ?_, hr.node⟩
    obtain ⟨x, hx, rfl⟩ := List.mem_map.1 hp
    exact place_small x (hs x hx)
theorem read_small (l : List Str) (hl : l.length ≤ 1000000) (hs : ∀ x ∈ l, x.length ≤ 900000) : RecSmall (readM l).1 := by
  match l with
  | [] => exact zRec_small
  | [a] => exact zRec_small
  | a :: b :: rest =>
    have hb : b.length ≤ 900000 := hs b (by simp)
    obtain ⟨h1, h2, h3⟩ := head_small (kindM a) b (by omega)
    have hh : RecSmall (headM (kindM a) b).1 := ⟨by rw [h1]; simp, by rw [h2]; simp, by rw [h2]; simp, h3⟩
    by_cases hk : kindM a = 0
    · have : readM (a :: b :: rest) = (zRec, false) := by simp only [readM, hk, if_true]
      rw [this]
      exact zRec_small
    · cases hp : peeredM (kindM a) with
      | false =>
        rw [readM_bare hk hp]
        exact tail_small _ _ _ _ hh (by simp at hl; omega) fun x hx => Nat.le_trans (hs x (by simp [hx])) (by omega)
      | true =>
        cases rest with
        | nil => rw [readM_nil hk hp]; exact hh
        | cons p rest =>
          rw [readM_peer hk hp]
          refine tail_small _ _ _ _ ⟨?_, by rw [h2]; simp, by rw [h2]; simp, h3⟩ (by simp at hl; omega) fun x hx => Nat.le_trans (hs x (by simp [hx])) (by omega)
          have hp' := hs p (by simp)
          have h4 := number_len ⟨p, false⟩
          have h5 := peersN_small (Rd.number ⟨p, false⟩).2.s.length (Rd.number ⟨p, false⟩).2
          have h6 : (⟨p, false⟩ : Rd).s.length = p.length := rfl
          show (_ :: (Rd.peersN _ _).1).length ≤ _
          simp only [List.length_cons]
          omega
set_option maxHeartbeats 1000000 in
theorem c_parseO {w : World} (s : Str) (he : EnvP w) (hs : s.length ≤ 900000) : Ret Tryz.prog F_line_Parse #[S s] w fun v w' => ∃ pv lv mv tv, v = .tuple #[recV (parseM s).1 pv lv mv tv, .int .i64 (parseM s).2] ∧ St [] w (recR (parseM s).1 pv lv mv tv) w' := by
  refine call_line_Parse ?_
  have h := St.start w
  unfold S_line_Parse
  have hw := words_small s
  refine st_alloc zv_api_Record h ?_
  intro b1 w1 hb1 h
  try simp only [go_sem] at h
  have e1 := h.ext
  refine st_callR en_line_words (c_words s w1 (he.mono e1) (by omega)) h ?_
  intro v0 w2 h
  have e2 := h.ext
  have hsm := read_small (wordsM s) (by omega) fun x hx => Nat.le_trans (hw.2 x hx) hs
  refine st_callE en_line_read (c_read (he.mono e2) (Row.of_own (h.atR 0 rfl)) (by omega) fun x hx => Nat.le_trans (hw.2 x hx) (by omega)) h ?_
  rintro v w3 ⟨pv, lv, mv, tv, rfl, k⟩ mg
  have h := mg _ k
  have fl : Flats pv lv mv tv := st_flats (r := (readM (wordsM s)).1) h fun q hq => List.mem_append_left _ hq
  have hat : ∀ {L : List Res} {w' : World}, St [] w (recR (readM (wordsM s)).1 pv lv mv tv ++ L) w' → RecAt w' (readM (wordsM s)).1 (recV (readM (wordsM s)).1 pv lv mv tv) := fun {L w'} h =>
    ⟨pv, lv, mv, tv, rfl, Row.of_own (h.atR 0 rfl), Row.of_own (h.atR 1 rfl), Row.of_own (h.atR 2 rfl), Row.of_own (h.atR 3 rfl)⟩
  have hz : ∀ {L : List Res} {w' : World}, St [] w L w' → St [] w (recR zRec (.slice none 0 0) (.slice none 0 0) (.slice none 0 0) (.slice none 0 0)) w' := fun h => (((h.nil.row0 T_string 1).row0 T_string 1).row0 T_api_Place 5).row0 T_int 1
  simp only [go_sem]
  refine st_alloc zv_api_Record h ?_
  intro b4 w4 hb4 h
  refine st_store sz_api_Record h 0 rfl rfl rfl (fl.all _) ?_
  intro w5 h
  try simp only [go_sem] at h
  have h : St [] w (.blk b4 (recO (readM (wordsM s)).1 pv lv mv tv) :: (recR (readM (wordsM s)).1 pv lv mv tv ++ [.row T_string 1 v0 (wordsM s).length (strsL (wordsM s)), .blk b1 (recO zRec (.slice none 0 0) (.slice none 0 0) (.slice none 0 0) (.slice none 0 0))])) w5 := h
  refine xc_of ?_ ?_
  · intro hn
    have hn : (readM (wordsM s)).2 = false := by simpa using hn
    rw [xbuild (v := recV zRec (.slice none 0 0) (.slice none 0 0) (.slice none 0 0) (.slice none 0 0)) (fun w => by kernel_rfl)]
    refine put_rec h 6 rfl ⟨rfl, rfl, rfl, rfl⟩ fun w6 h => ?_
    have hp : parseM s = (zRec, 8) := by rw [parseM, if_pos hn]
    rw [hp]
    exact ⟨_, _, _, _, rfl, hz h⟩
  · intro hn
    have hn : (readM (wordsM s)).2 = true := by simpa using hn
    refine st_loadW ag_api_Record sz_api_Record h 0 rfl rfl ?_
    refine st_callV en_line_Check (c_check (hat h.drop) hsm) h ?_
    intro w6 h
    rw [xneq]
    refine xc_dec ?_ ?_
    · intro hc
      rw [xbuild (v := recV zRec (.slice none 0 0) (.slice none 0 0) (.slice none 0 0) (.slice none 0 0)) (fun w => by kernel_rfl)]
      refine put_rec h 6 rfl ⟨rfl, rfl, rfl, rfl⟩ fun w7 h => ?_
      have hp : parseM s = (zRec, checkM (readM (wordsM s)).1) := by rw [parseM, if_neg (by rw [hn]; simp), if_pos hc]
      rw [hp]
      exact ⟨_, _, _, _, rfl, hz h⟩
    · intro hc
      have hp : parseM s = ((readM (wordsM s)).1, 0) := by rw [parseM, if_neg (by rw [hn]; simp), if_neg hc]
      refine st_loadW ag_api_Record sz_api_Record h 0 rfl rfl ?_
      refine st_store sz_api_Record h 6 rfl rfl rfl (fl.all _) ?_
      intro w7 h
      try simp only [go_sem] at h
      refine st_loadW ag_api_Record sz_api_Record h 6 rfl rfl ?_
      rw [hp]
      exact ⟨rfl, _, _, _, _, rfl, h.pick [1, 2, 3, 4] (by decide) rfl⟩
theorem recR_at {x : List Nat} {w0 w : World} {r : RecM} {pv lv mv tv : Value} {L : List Res} (h : St x w0 (recR r pv lv mv tv ++ L) w) : RecAt w r (recV r pv lv mv tv) :=
  ⟨pv, lv, mv, tv, rfl, Row.of_own (h.atR 0 rfl), Row.of_own (h.atR 1 rfl), Row.of_own (h.atR 2 rfl), Row.of_own (h.atR 3 rfl)⟩
end Go.Proofs.YthkgbajldkicfaaGreatDoor
