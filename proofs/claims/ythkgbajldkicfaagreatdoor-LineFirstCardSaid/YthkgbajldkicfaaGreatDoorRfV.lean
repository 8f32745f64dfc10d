/-
  The document's own reader: rows of names, sizes, nodes, places, numbers.
-/
import Derived.Test.YthkgbajldkicfaaGreatDoorRfN
namespace Go.Proofs.YthkgbajldkicfaaGreatDoor
set_option linter.unusedVariables false
set_option linter.unusedSimpArgs false
open Go Go.Jo
set_option maxRecDepth 100000

theorem St.mod {x : List Nat} {w0 w w' : World} {q : Nat} {o : Obj} {L : List Res} (h : St x w0 (.blk q o :: L) w) (hc : Chg [q] w w') : St (ownsL L) w' L w' := by
  refine ⟨Chg.refl _ _, fun p hp k hk => .inl (mem_ownsL.2 ⟨p, hp, hk⟩), (List.pairwise_cons.1 h.nd).2, fun p hp => Res.holds_keep (h.has p (List.mem_cons_of_mem _ hp)) fun k hk => hc.keep k (Res.holds_lt (h.has p (List.mem_cons_of_mem _ hp)) hk) fun hm => ?_⟩
  have hm : k = q := by simpa using hm
  subst hm
  rcases (List.pairwise_cons.1 h.nd).1 p hp with e | e
  · cases e
  · exact e hk.symm
theorem Rl.back {x y : Rd} {r r' : RR} (h : Rl x r) (h' : Rl y r') (m : x.no = true → y.no = true) : r'.bad = false → r.bad = false := fun e => by
  cases hb : r.bad
  · rfl
  · have := m (h.no.trans hb)
    rw [h'.no, e] at this
    cases this
theorem Rl.fin {y : Rd} {r : RR} (h : Rl y r) : y.fin = (!r.bad && decide (r.p = r.s.length)) := by
  unfold Rd.fin
  have hle := h.le
  rw [h.no]
  cases hb : r.bad
  · rw [h.rest hb]
    have : (r.s.drop r.p).isEmpty = decide (r.p = r.s.length) := by
      rw [Bool.eq_iff_iff, List.isEmpty_iff, List.drop_eq_nil_iff, decide_eq_true_eq]
      omega
    rw [this]
  · rfl
theorem Rl.start {s : Str} (hs : s.length ≤ 1000000) : Rl ⟨s, false⟩ ⟨s, 0, false⟩ := ⟨Nat.zero_le _, hs, rfl, fun _ => rfl⟩
theorem number_no (x : Rd) (h : x.no = true) : x.number.2.no = true := by
  obtain ⟨s, no⟩ := x
  have h : no = true := h
  subst h
  exact num_bad
theorem nameNo (x : Rd) (h : x.no = true) : x.name.2.no = true := by simp [Rd.name, h]
theorem must_no (c : UInt8) (x : Rd) (h : x.no = true) : (x.must c).no = true := by simp [Rd.must, h]
theorem signedN_no (c : UInt8) : ∀ (f : Nat) (x : Rd), x.no = true → (Rd.signedN c f x).2.no = true
  | 0, x, h => h
  | f + 1, x, h => by
    unfold Rd.signedN
    split
    · exact signedN_no c f _ (nameNo _ h)
    · exact h
theorem signed_no (c : UInt8) (x : Rd) (h : x.no = true) : (x.signed c).2.no = true := signedN_no c _ x h
theorem signed_step {c : UInt8} {x : Rd} (h : (x.sign c).1 = true) : x.signed c = ((x.sign c).2.name.1 :: ((x.sign c).2.name.2.signed c).1, ((x.sign c).2.name.2.signed c).2) := by
  have hlen := signP_len c x.s
  have h' : (signP c x.s).1 = true := h
  rw [h', if_pos rfl] at hlen
  have hlen : (x.sign c).2.s.length + 1 = x.s.length := hlen
  have hn := name_len (x.sign c).2
  unfold Rd.signed
  rw [show x.s.length = (x.sign c).2.s.length + 1 by omega]
  conv => lhs; unfold Rd.signedN
  rw [if_pos h]
  simp only
  rw [signedN_more c (x.sign c).2.s.length (x.sign c).2.name.2.s.length _ (by omega) (Nat.le_refl _)]
theorem signed_stop {c : UInt8} {x : Rd} (h : (x.sign c).1 = false) : x.signed c = ([], x) := by
  unfold Rd.signed
  cases hl : x.s.length with
  | zero => rfl
  | succ n =>
    unfold Rd.signedN
    rw [if_neg (by rw [h]; simp)]
set_option maxHeartbeats 1000000 in
theorem c_fRow {w : World} {b : Nat} {x : Rd} {r : RR} (c : UInt8) (hb : w.heap[b]? = some (rfO r)) (hr : Rl x r) :
    Ret Tryz.prog F_joineryref4_Reader_row #[pt b, .int .u8 (c.toNat : Int)] w fun v w' => ∃ (l : List Str) (p : Nat) (bad : Bool), Rl (x.signed c).2 ⟨r.s, p, bad⟩ ∧ (bad = false → l = (x.signed c).1) ∧ l.length ≤ p ∧ St [b] w [.row T_string 1 v l.length (strsL l), .blk b (rfO ⟨r.s, p, bad⟩)] w' := by
  refine call_joineryref4_Reader_row ?_
  have h := (St.startR hb).row0 T_string 1
  unfold S_joineryref4_Reader_row
  refine ⟨fun u w2 => ∃ (y : Rd) (acc : List Str) (p : Nat) (bad : Bool), acc.length ≤ p ∧ Rl y ⟨r.s, p, bad⟩ ∧ (bad = false → (x.signed c).1 = acc ++ (y.signed c).1) ∧ (x.signed c).2 = (y.signed c).2 ∧ St [b] w [.row T_string 1 u acc.length (strsL acc), .blk b (rfO ⟨r.s, p, bad⟩)] w2, fun _ w2 => r.s.length - rfP b w2, ⟨x, [], r.p, r.bad, Nat.zero_le _, hr, fun _ => rfl, rfl, h⟩, ?_⟩
  clear h
  rintro - u w2 ⟨y, acc, p, bad, hl, hy, h1, h2, h⟩
  have hpos : rfP b w2 = p := rfP_of (h.at 1 rfl)
  have hle := hy.le
  have hfew := hy.few
  have h := h.pick [1, 0] (by decide) rfl
  refine st_callA (A := [.blk b (rfO ⟨r.s, p, bad⟩)]) (L := [.row T_string 1 u acc.length (strsL acc)]) en_joineryref4_Reader_sign h (fun k => c_fSign c (k.at 0 rfl) hy) ?_
  rintro v w3 ⟨t, p2, rfl, hl2, ht, hp, hp0, k⟩ mg
  have h := mg _ k
  refine xc_of ?_ ?_
  · intro e
    subst e
    obtain ⟨hp, hbad⟩ := hp rfl
    have hbad : bad = false := hbad
    subst hbad
    have hst := (ht rfl).symm
    refine st_callA (A := [.blk b (rfO ⟨r.s, p2, false⟩)]) (L := [.row T_string 1 u acc.length (strsL acc)]) en_joineryref4_Reader_Name h (fun k => c_fName (k.at 0 rfl) hl2) ?_
    rintro v w4 ⟨t2, p3, bad3, rfl, ht2, hl3, he3, hp3, k⟩ mg
    have h := mg _ k
    refine st_buildS (cs := #[S t2]) (e := T_string) (fun w => by kernel_rfl) h ?_
    intro bx w5 hbx h
    have hp3 : p2 ≤ p3 := hp3
    have hp : p2 = p + 1 := hp
    have hl3' : p3 ≤ r.s.length := hl3.le
    refine app_sl_string h 2 rfl [S t2] rfl (news_blk (h.at 0 rfl)) (by simp [Value.oneCell']) (by simp only at hfew hle; omega) ?_
    intro v' w6 h
    have h := h.pick [2, 1] (by decide) rfl
    have hpos6 : rfP b w6 = p3 := rfP_of (h.at 1 rfl)
    have hsg := signed_step hst
    refine ⟨⟨(y.sign c).2.name.2, acc ++ [t2], p3, bad3, by simp; omega, hl3, fun hh => ?_, ?_, ?_⟩, by show r.s.length - rfP b w6 < r.s.length - rfP b w2; rw [hpos6, hpos]; omega⟩
    · rw [h1 rfl, hsg, he3 hh]; simp
    · rw [h2, hsg]
    · have : strsL (acc ++ [t2]) = strsL acc ++ [S t2] := by simp
      rw [this, List.length_append]
      exact h
  · intro e
    subst e
    have hp0 : p2 = p := hp0 rfl
    subst hp0
    have h := h.pick [1, 0] (by decide) rfl
    cases bad
    · have hst := (ht rfl).symm
      have hsg := signed_stop hst
      rw [sign_no hst] at hl2
      rw [hsg] at h1 h2
      refine ⟨acc, p2, false, by rw [h2]; exact hl2, fun _ => by rw [h1 rfl, List.append_nil], hl, h⟩
    · refine ⟨acc, p2, true, ⟨hle, hfew, ?_, nofun⟩, nofun, hl, h⟩
      rw [h2]
      exact signed_no c y hy.no
theorem c_fVec {w : World} {b : Nat} {x : Rd} {r : RR} (hb : w.heap[b]? = some (rfO r)) (hr : Rl x r) :
    Ret Tryz.prog F_joineryref4_Reader_Vec #[pt b, .int .i64 999999999999999] w fun v w' => ∃ (u : VecM) (p : Nat) (bad : Bool), v = vecV u ∧ Rl x.vec.2 ⟨r.s, p, bad⟩ ∧ (bad = false → u = x.vec.1) ∧ St [b] w [.blk b (rfO ⟨r.s, p, bad⟩)] w' := by
  refine call_joineryref4_Reader_Vec ?_
  have h := St.startR hb
  unfold S_joineryref4_Reader_Vec
  refine st_alloc zv_api_Vec h ?_
  intro q4 w1 _ h
  have h := h.pick [1, 0] (by decide) rfl
  refine st_callA (A := [.blk b (rfO r)]) en_joineryref4_Reader_Number h (fun k => c_fNumber (k.at 0 rfl) hr) ?_
  rintro v w2 ⟨n1, p1, b1, rfl, hn1, hl1, he1, _, k⟩ mg
  have h := mg _ k
  rw [xbuild (v := vecV ⟨n1, 0⟩) (fun w => by kernel_rfl)]
  refine st_alloc zv_api_Vec h ?_
  intro q5 w3 _ h
  refine st_store sz_api_Vec h 0 rfl rfl rfl rfl ?_
  intro w4 h
  try simp only [go_sem] at h
  have h := h.pick [1, 0, 2] (by decide) rfl
  refine st_callA (A := [.blk b (rfO ⟨r.s, p1, b1⟩)]) en_joineryref4_Reader_Must h (fun k => c_fMust 44 (k.at 0 rfl) hl1) ?_
  rintro v w5 ⟨p2, b2, rfl, hl2, k⟩ mg
  have h := mg _ k
  refine st_callA (A := [.blk b (rfO ⟨r.s, p2, b2⟩)]) en_joineryref4_Reader_Number h (fun k => c_fNumber (k.at 0 rfl) hl2) ?_
  rintro v w6 ⟨n2, p3, b3, rfl, hn2, hl3, he3, _, k⟩ mg
  have h := mg _ k
  rw [fld_api_Vec_Mem]
  refine st_store sz_int h 1 rfl rfl rfl rfl ?_
  intro w7 h
  try simp only [go_sem] at h
  refine st_loadW ag_api_Vec sz_api_Vec h 1 rfl rfl ?_
  refine st_store sz_api_Vec h 2 rfl rfl rfl rfl ?_
  intro w8 h
  try simp only [go_sem] at h
  refine st_loadW ag_api_Vec sz_api_Vec h 2 rfl rfl ⟨rfl, ?_⟩
  refine ⟨⟨n1, n2⟩, p3, b3, rfl, hl3, fun hh => ?_, h.pick [0] (by decide) rfl⟩
  have hb2 : b2 = false := hl2.back hl3 (number_no _) hh
  have hb1 : b1 = false := hl1.back hl2 (must_no 44 _) hb2
  rw [he1 hb1, he3 hh]
  rfl
end Go.Proofs.YthkgbajldkicfaaGreatDoor
