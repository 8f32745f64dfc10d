/-
  Tapes: synced, crashed; their records.
-/
import Derived.Test.YthkgbajldkicfaaGreatDoorTp2
namespace Go.Proofs.YthkgbajldkicfaaGreatDoor
set_option linter.unusedVariables false
set_option linter.unusedSimpArgs false
open Go Go.Jo
set_option maxRecDepth 100000

set_option maxHeartbeats 1000000 in
theorem c_doSync {w : World} {b n : Nat} {v : Value} {ls : List Str} (h : St (ownsL (tapeR b v ls n)) w (tapeR b v ls n) w) :
    Ret Tryz.prog F_tape_Tape_do #[pt b, .iface T_tape_sync (.agg #[])] w fun u w' => u = .tuple #[] ∧ St (ownsL (tapeR b v ls n)) w (tapeR b v ls ls.length) w' := by
  refine call_tape_Tape_do ?_
  unfold S_tape_Tape_do
  refine xta_of (r := .tuple #[.agg #[S []], .bool false]) (by kernel_rfl) ?_
  rw [xe21, xe20, xc_false]
  refine xta_of (r := .tuple #[.agg #[], .bool true]) (by kernel_rfl) ?_
  rw [xe21, xe20, xc_true]
  refine st_alloc zv_tape_sync h ?_
  intro b5 w1 hb5 h
  refine st_store sz_tape_sync h 0 rfl rfl rfl rfl ?_
  intro w2 h
  rw [xnil_ptr, fld_tape_Tape_lines]
  refine st_load ag_int h 1 rfl rfl ?_
  rw [xnil_ptr, fld_tape_Tape_lasting]
  refine st_store sz_int h 1 rfl rfl rfl rfl ?_
  intro w3 h
  try simp only [go_sem] at h
  exact ⟨rfl, h.pick [1, 2] (by decide) rfl⟩
def crashN (k : Int) (l n : Nat) : Nat := n + min k.toNat (l - n)
theorem crashN_le (k : Int) {l n : Nat} (h : n ≤ l) : n ≤ crashN k l n ∧ crashN k l n ≤ l := by unfold crashN; omega
set_option maxHeartbeats 4000000 in
theorem c_doCrash {w : World} {b n : Nat} {v : Value} {ls : List Str} (k : Int) (h : St (ownsL (tapeR b v ls n)) w (tapeR b v ls n) w) (hls : ∀ s ∈ ls, LineOk s) (hlen : (textC ls).length ≤ 1000000000) (hn : n ≤ ls.length) (hll : ls.length ≤ 1000000) :
    Ret Tryz.prog F_tape_Tape_do #[pt b, .iface T_tape_crash (.agg #[.int .i64 k])] w fun u w' => u = .tuple #[] ∧ ∃ v', St (ownsL (tapeR b v ls n)) w (tapeR b v' (ls.take (crashN k ls.length n)) (crashN k ls.length n)) w' := by
  refine call_tape_Tape_do ?_
  unfold S_tape_Tape_do
  obtain ⟨m1, m2⟩ := crashN_le k hn
  generalize hm : crashN k ls.length n = m at *
  refine xta_of (r := .tuple #[.agg #[S []], .bool false]) (by kernel_rfl) ?_
  rw [xe21, xe20, xc_false]
  refine xta_of (r := .tuple #[.agg #[], .bool false]) (by kernel_rfl) ?_
  rw [xe21, xe20, xc_false]
  refine xta_of (r := .tuple #[.agg #[.int .i64 k], .bool true]) (by kernel_rfl) ?_
  rw [xe21, xe20, xc_true]
  refine st_alloc zv_tape_crash h ?_
  intro b6 w1 hb6 h
  try simp only [go_sem] at h
  refine st_store sz_tape_crash h 0 rfl rfl rfl rfl ?_
  intro w2 h
  try simp only [go_sem] at h
  have h := h.step (Ext.drew _)
  refine ⟨Ext, Ext, preExt, pt b, fun w3 => xnil_drawn rfl ⟨_, rfl⟩, .pointer (some ⟨b, 2, none⟩), fun w3 => ?_, .int .i64 (n : Int), fun w3 e3 => ?_, .pointer (some ⟨b6, 0, none⟩), fun w3 => ?_, .int .i64 k, fun w3 e3 => ?_, .int .i64 (max k 0), fun w3 => ?_, pt b, fun w3 => xnil_drawn rfl ⟨_, rfl⟩, .pointer (some ⟨b, 1, none⟩), fun w3 => ?_, .int .i64 (ls.length : Int), fun w3 e3 => ?_,
    pt b, fun w3 => xnil_drawn rfl ⟨_, rfl⟩, .pointer (some ⟨b, 2, none⟩), fun w3 => ?_, .int .i64 (n : Int), fun w3 e3 => ?_, .int .i64 ((ls.length : Int) - n), fun w3 => ?_, .int .i64 (min (max k 0) ((ls.length : Int) - n)), fun w3 => ?_, .int .i64 (m : Int), fun w3 => ?_, pt b, fun w3 => xnil_drawn rfl ⟨_, rfl⟩, .pointer (some ⟨b, 1, none⟩), fun w3 => ?_, fun w3 e3 => ?_⟩
  · rw [fld_tape_Tape_lasting]; exact ⟨rfl, rfl⟩
  · exact st_load ag_int (h.step e3) 1 rfl rfl ⟨rfl, Ext.refl _⟩
  · rw [fld_tape_crash_keep]; exact ⟨rfl, rfl⟩
  · exact st_load ag_int (h.step e3) 0 rfl rfl ⟨rfl, Ext.refl _⟩
  · rw [xmax]; exact ⟨rfl, rfl⟩
  · rw [fld_tape_Tape_lines]; exact ⟨rfl, rfl⟩
  · exact st_load ag_int (h.step e3) 1 rfl rfl ⟨rfl, Ext.refl _⟩
  · rw [fld_tape_Tape_lasting]; exact ⟨rfl, rfl⟩
  · exact st_load ag_int (h.step e3) 1 rfl rfl ⟨rfl, Ext.refl _⟩
  · rw [xsub, wi64 (by omega) (by omega)]; exact ⟨rfl, rfl⟩
  · rw [xmin]; exact ⟨rfl, rfl⟩
  · have e : (n : Int) + min (max k 0) ((ls.length : Int) - n) = (m : Int) := by rw [← hm]; unfold crashN; omega
    rw [xadd, e, wi64 (by omega) (by omega)]; exact ⟨rfl, rfl⟩
  · rw [fld_tape_Tape_lines]; exact ⟨rfl, rfl⟩
  have h := h.step e3
  refine st_store sz_int h 1 rfl rfl rfl rfl ?_
  intro w4 h
  try simp only [go_sem] at h
  rw [xnil_ptr, fld_tape_Tape_lines]
  refine st_load ag_int h 1 rfl rfl ?_
  rw [xnil_ptr, fld_tape_Tape_lasting]
  refine st_store sz_int h 1 rfl rfl rfl rfl ?_
  intro w5 h
  try simp only [go_sem] at h
  have h := h.step (Ext.drew _)
  have hv := h.atR 2 rfl
  obtain ⟨a, mm, cap, rfl⟩ := slice_own hv
  have hmm : mm = (textC ls).length := by
    rcases hv.2 with ⟨h1, h2⟩ | ⟨g, cap', cur, h1, _⟩
    · injection h1 with _ h1 _; omega
    · injection h1
  subst hmm
  have hcap : (textC ls).length ≤ cap := by
    rcases hv.2 with ⟨h1, h2⟩ | ⟨g, cap', cur, h1, _, _, h2, _⟩
    · omega
    · injection h1 with _ _ h3; omega
  have htl : (textC (ls.take m)).length ≤ (textC ls).length := by rw [textC_split ls m]; simp
  have hbT : ∀ {w' : World}, Ext w5.drew w' → w'.heap[b]? = some (tapeO (.slice a (textC ls).length cap) m m) := fun e => (h.step e).at 1 rfl
  refine ⟨Ext, Ext, preExt, pt b, fun w3 => xnil_drawn rfl ⟨_, rfl⟩, .pointer (some ⟨b, 0, none⟩), fun w3 => ?_, .slice a (textC ls).length cap, fun w3 e3 => ?_, pt b, fun w3 => xnil_drawn rfl ⟨_, rfl⟩, .pointer (some ⟨b, 1, none⟩), fun w3 => ?_, .int .i64 (m : Int), fun w3 e3 => ?_, .int .i64 ((textC (ls.take m)).length : Nat), fun w3 e3 => ?_, .slice a (textC (ls.take m)).length cap, fun w3 => ?_, pt b, fun w3 => xnil_drawn rfl ⟨_, rfl⟩, .pointer (some ⟨b, 0, none⟩), fun w3 => ?_, fun w3 e3 => ?_⟩
  · rw [fld_tape_Tape_text]; exact ⟨rfl, rfl⟩
  · exact st_load ag_sl_int32 (h.step e3) 1 rfl rfl ⟨rfl, Ext.refl _⟩
  · rw [fld_tape_Tape_lines]; exact ⟨rfl, rfl⟩
  · exact st_load ag_int (h.step e3) 1 rfl rfl ⟨rfl, Ext.refl _⟩
  · exact xcall_of (en_tape_Tape_end _) (c_tend (hbT e3) (Row.of_own ((h.step e3).atR 2 rfl)) hls hlen m2 hll) fun _ _ hq => hq
  · exact xslice_upto und_sl_int32 sz_int32 htl hcap ⟨rfl, rfl⟩
  · rw [fld_tape_Tape_text]; exact ⟨rfl, rfl⟩
  have h := h.step e3
  refine st_store sz_sl_int32 h 1 rfl rfl rfl rfl ?_
  intro w6 h
  try simp only [go_sem] at h
  refine ⟨rfl, .slice a (textC (ls.take m)).length cap, ?_⟩
  have hv6 := h.atR 2 rfl
  have hv7 := own_take hv6 htl
  have e7 : (runesV (textC ls)).take ((textC (ls.take m)).length * 1) = runesV (textC (ls.take m)) := by
    rw [Nat.mul_one, ← List.map_take]
    congr 1
    conv => lhs; rw [textC_split ls m]
    rw [List.take_left']
    rfl
  rw [e7] at hv7
  have h := h.turn (n := 2) (r' := .row T_int32 1 (.slice a (textC (ls.take m)).length cap) (textC (ls.take m)).length (runesV (textC (ls.take m)))) rfl (Chg.refl _ _) hv7 fun k hk => .inl (by cases a <;> exact hk)
  have h := h.pick [1, 2] (by decide) rfl
  have e8 : (ls.take m).length = m := by rw [List.length_take]; omega
  unfold tapeR
  rw [e8]
  exact h
theorem c_writeT {w : World} {b n : Nat} {v rv : Value} {ls : List Str} {r : RecM} (he : EnvP w) (h : St (ownsL (tapeR b v ls n)) w (tapeR b v ls n) w) (hr : RecAt w r rv) (hk : RecOk r) (hs : LineOk (textM r)) (hl : (textC ls).length ≤ 900000000) (hll : ls.length ≤ 100000) :
    Ret Tryz.prog F_tape_Tape_Write #[pt b, rv] w fun u w' => u = .tuple #[] ∧ ∃ v', St (ownsL (tapeR b v ls n)) w (tapeR b v' (ls ++ [textM r]) n) w' := by
  obtain ⟨pv, lv, mv, tv, rfl, h1, h2, h3, h4⟩ := hr
  have hat : RecAt w r (recV r pv lv mv tv) := ⟨pv, lv, mv, tv, rfl, h1, h2, h3, h4⟩
  have htl := text_len hk
  have hfl : Flats pv lv mv tv := ⟨h1.flat.1, h2.flat.1, h3.flat.1, h4.flat.1⟩
  refine call_tape_Tape_Write ?_
  unfold S_tape_Tape_Write
  rw [xbox]
  have e1 : Ext w (w.alloc (.cells (recV r pv lv mv tv).cells T_api_Record)) := ext_alloc w _
  have h := h.new (.cells (recV r pv lv mv tv).cells T_api_Record)
  refine st_loadW ag_api_Record sz_api_Record h 0 rfl rfl ?_
  refine st_callV en_line_Text (c_text (he.mono e1) (hat.mono e1) (tiny_ok hk)) h ?_
  intro w2 h
  rw [xbuild (v := .agg #[S (textM r)]) (fun w => by kernel_rfl)]
  refine xmki_of (r := .iface T_tape_write (.agg #[S (textM r)])) (by kernel_rfl) ?_
  have h : St (ownsL (tapeR b v ls n)) w (tapeR b v ls n ++ []) w2 := h.pick [1, 2] (by decide) rfl
  refine st_callA en_tape_Tape_do h (fun k => c_doWrite k hs (by omega) (by omega)) ?_
  rintro u w3 ⟨rfl, v', k⟩ mg
  have h := mg _ k
  rw [List.append_nil] at h
  exact ⟨rfl, v', h⟩
theorem c_syncT {w : World} {b n : Nat} {v : Value} {ls : List Str} (h : St (ownsL (tapeR b v ls n)) w (tapeR b v ls n) w) :
    Ret Tryz.prog F_tape_Tape_Sync #[pt b] w fun u w' => u = .tuple #[] ∧ St (ownsL (tapeR b v ls n)) w (tapeR b v ls ls.length) w' := by
  refine call_tape_Tape_Sync ?_
  unfold S_tape_Tape_Sync
  rw [xbuild (v := .agg #[]) (fun w => by kernel_rfl)]
  refine xmki_of (r := .iface T_tape_sync (.agg #[])) (by kernel_rfl) ?_
  exact xcall_of (en_tape_Tape_do _) (c_doSync h) fun _ _ hq => ⟨rfl, hq.2⟩
theorem c_crashT {w : World} {b n : Nat} {v : Value} {ls : List Str} (k : Int) (h : St (ownsL (tapeR b v ls n)) w (tapeR b v ls n) w) (hls : ∀ s ∈ ls, LineOk s) (hlen : (textC ls).length ≤ 1000000000) (hn : n ≤ ls.length) (hll : ls.length ≤ 1000000) :
    Ret Tryz.prog F_tape_Tape_Crash #[pt b, .int .i64 k] w fun u w' => u = .tuple #[] ∧ ∃ v', St (ownsL (tapeR b v ls n)) w (tapeR b v' (ls.take (crashN k ls.length n)) (crashN k ls.length n)) w' := by
  refine call_tape_Tape_Crash ?_
  unfold S_tape_Tape_Crash
  rw [xbuild (v := .agg #[.int .i64 k]) (fun w => by kernel_rfl)]
  refine xmki_of (r := .iface T_tape_crash (.agg #[.int .i64 k])) (by kernel_rfl) ?_
  exact xcall_of (en_tape_Tape_do _) (c_doCrash k h hls hlen hn hll) fun _ _ hq => ⟨rfl, hq.2⟩
end Go.Proofs.YthkgbajldkicfaaGreatDoor
