/-
  The types of this translation as the shallow forms meet them. Conditions: none.
-/
import Derived.Test.YthkgbajldkicfaaGreatDoorProg
import Derived.Test.YthkgbajldkicfaaGreatDoorXMem
namespace Go.Proofs.YthkgbajldkicfaaGreatDoor
set_option linter.unusedVariables false
set_option linter.unusedSimpArgs false
open Go Go.Jo
set_option maxRecDepth 100000
theorem mixed : Tryz.prog.follows .mixedOrders = true := by kernel_rfl
abbrev G_MaxLen : Nat := 3
/-! ### string -/
abbrev T_string : TypeId := 9
theorem sz_string (w : World) : (sizeOf 9).run Tryz.prog w = .ok 1 w := by kernel_rfl
theorem ag_string (w : World) : (isAgg 9).run Tryz.prog w = .ok false w := by kernel_rfl
theorem und_string : Tryz.prog.underlying 9 = some .string := Tryz.underlying9
@[go_sem] theorem len_string (ty : TypeId) (l : List UInt8) (w : World) (K : Value → World → Prop) : XB Tryz.prog .len #[9] ty #[S l] w K = K (.int .i64 l.length) w := xlen_string Tryz.underlying9 l w K
/-! ### []int -/
abbrev T_sl_int : TypeId := 22
theorem sz_sl_int (w : World) : (sizeOf 22).run Tryz.prog w = .ok 1 w := by kernel_rfl
theorem ag_sl_int (w : World) : (isAgg 22).run Tryz.prog w = .ok false w := by kernel_rfl
theorem und_sl_int : Tryz.prog.underlying 22 = some (.slice 3) := Tryz.underlying22
theorem inf_sl_int : ∃ i, Tryz.prog.info? 3 = some i ∧ i.zero = some (.int .i64 0) ∧ i.size = 1 ∧ i.bytes = 8 := ⟨(Tryz.prog.info? 3).getD default, by kernel_rfl, by kernel_rfl, by kernel_rfl, by kernel_rfl⟩
theorem app_sl_int {x : List Nat} {w0 w : World} {L : List Res} {ty : TypeId} {K : Value → World → Prop} (h : St x w0 L w) (n : Nat) {v : Value} {m : Nat} {xs : List Value} (hn : L[n]? = some (.row 3 1 v m xs)) {a : Addr} {k c : Nat} (news : List Value) (hl : news.length = k * 1) (hnews : ∀ j u, news[j]? = some u → w.cell? (a.add j) = some u) (h1 : ∀ u ∈ news, u.oneCell' = true) (hb : (m + k) * 8 ≤ 140737488355328)
    (hk : ∀ v' w', St x w0 (L.set n (.row 3 1 v' (m + k) (xs ++ news))) w' → K v' w') : XB Tryz.prog .append #[22, 22] ty #[v, .slice (some a) k c] w K := by
  obtain ⟨i, h1i, h2i, h3i, h4i⟩ := inf_sl_int
  exact st_append und_sl_int h1i h2i h3i h4i rfl (by omega) h n hn news hl hnews h1 (by simp only [maxLen]; omega) hb hk
@[go_sem] theorem len_sl_int (ty : TypeId) (a : Option Addr) (n c : Nat) (w : World) (K : Value → World → Prop) : XB Tryz.prog .len #[22] ty #[.slice a n c] w K = K (.int .i64 n) w := xlen_slice Tryz.underlying22 a n c w K
/-! ### []string -/
abbrev T_sl_string : TypeId := 27
theorem sz_sl_string (w : World) : (sizeOf 27).run Tryz.prog w = .ok 1 w := by kernel_rfl
theorem ag_sl_string (w : World) : (isAgg 27).run Tryz.prog w = .ok false w := by kernel_rfl
theorem und_sl_string : Tryz.prog.underlying 27 = some (.slice 9) := Tryz.underlying27
theorem inf_sl_string : ∃ i, Tryz.prog.info? 9 = some i ∧ i.zero = some (.string ⟨#[]⟩) ∧ i.size = 1 ∧ i.bytes = 16 := ⟨(Tryz.prog.info? 9).getD default, by kernel_rfl, by kernel_rfl, by kernel_rfl, by kernel_rfl⟩
theorem app_sl_string {x : List Nat} {w0 w : World} {L : List Res} {ty : TypeId} {K : Value → World → Prop} (h : St x w0 L w) (n : Nat) {v : Value} {m : Nat} {xs : List Value} (hn : L[n]? = some (.row 9 1 v m xs)) {a : Addr} {k c : Nat} (news : List Value) (hl : news.length = k * 1) (hnews : ∀ j u, news[j]? = some u → w.cell? (a.add j) = some u) (h1 : ∀ u ∈ news, u.oneCell' = true) (hb : (m + k) * 16 ≤ 140737488355328)
    (hk : ∀ v' w', St x w0 (L.set n (.row 9 1 v' (m + k) (xs ++ news))) w' → K v' w') : XB Tryz.prog .append #[27, 27] ty #[v, .slice (some a) k c] w K := by
  obtain ⟨i, h1i, h2i, h3i, h4i⟩ := inf_sl_string
  exact st_append und_sl_string h1i h2i h3i h4i rfl (by omega) h n hn news hl hnews h1 (by simp only [maxLen]; omega) hb hk
@[go_sem] theorem len_sl_string (ty : TypeId) (a : Option Addr) (n c : Nat) (w : World) (K : Value → World → Prop) : XB Tryz.prog .len #[27] ty #[.slice a n c] w K = K (.int .i64 n) w := xlen_slice Tryz.underlying27 a n c w K
theorem idx_sl_string {b o len cap : Nat} {k : IntKind} {i : Int} (h0 : 0 ≤ i) (h1 : i < len) (w : World) (K : Value → World → Prop) : XIdx Tryz.prog 27 (.slice (some ⟨b, o, none⟩) len cap) (.int k i) w K = K (.pointer (some ⟨b, o + i.toNat * 1, none⟩)) w := xidx Tryz.underlying27 (fun _ => by kernel_rfl) h0 h1 w K
/-! ### []uint8 -/
theorem und_sl_uint8 : Tryz.prog.underlying 43 = some (.slice 5) := Tryz.underlying43
@[go_sem] theorem len_sl_uint8 (ty : TypeId) (a : Option Addr) (n c : Nat) (w : World) (K : Value → World → Prop) : XB Tryz.prog .len #[43] ty #[.slice a n c] w K = K (.int .i64 n) w := xlen_slice Tryz.underlying43 a n c w K
/-! ### []int32 -/
abbrev T_sl_int32 : TypeId := 94
theorem sz_sl_int32 (w : World) : (sizeOf 94).run Tryz.prog w = .ok 1 w := by kernel_rfl
theorem ag_sl_int32 (w : World) : (isAgg 94).run Tryz.prog w = .ok false w := by kernel_rfl
theorem und_sl_int32 : Tryz.prog.underlying 94 = some (.slice 21) := Tryz.underlying94
theorem inf_sl_int32 : ∃ i, Tryz.prog.info? 21 = some i ∧ i.zero = some (.int .i32 0) ∧ i.size = 1 ∧ i.bytes = 4 := ⟨(Tryz.prog.info? 21).getD default, by kernel_rfl, by kernel_rfl, by kernel_rfl, by kernel_rfl⟩
theorem app_sl_int32 {x : List Nat} {w0 w : World} {L : List Res} {ty : TypeId} {K : Value → World → Prop} (h : St x w0 L w) (n : Nat) {v : Value} {m : Nat} {xs : List Value} (hn : L[n]? = some (.row 21 1 v m xs)) {a : Addr} {k c : Nat} (news : List Value) (hl : news.length = k * 1) (hnews : ∀ j u, news[j]? = some u → w.cell? (a.add j) = some u) (h1 : ∀ u ∈ news, u.oneCell' = true) (hb : (m + k) * 4 ≤ 140737488355328)
    (hk : ∀ v' w', St x w0 (L.set n (.row 21 1 v' (m + k) (xs ++ news))) w' → K v' w') : XB Tryz.prog .append #[94, 94] ty #[v, .slice (some a) k c] w K := by
  obtain ⟨i, h1i, h2i, h3i, h4i⟩ := inf_sl_int32
  exact st_append und_sl_int32 h1i h2i h3i h4i rfl (by omega) h n hn news hl hnews h1 (by simp only [maxLen]; omega) hb hk
@[go_sem] theorem len_sl_int32 (ty : TypeId) (a : Option Addr) (n c : Nat) (w : World) (K : Value → World → Prop) : XB Tryz.prog .len #[94] ty #[.slice a n c] w K = K (.int .i64 n) w := xlen_slice Tryz.underlying94 a n c w K
/-! ### []bool -/
@[go_sem] theorem len_sl_bool (ty : TypeId) (a : Option Addr) (n c : Nat) (w : World) (K : Value → World → Prop) : XB Tryz.prog .len #[74] ty #[.slice a n c] w K = K (.int .i64 n) w := xlen_slice Tryz.underlying74 a n c w K
/-! ### []api.Place -/
abbrev T_sl_api_Place : TypeId := 24
theorem sz_sl_api_Place (w : World) : (sizeOf 24).run Tryz.prog w = .ok 1 w := by kernel_rfl
theorem ag_sl_api_Place (w : World) : (isAgg 24).run Tryz.prog w = .ok false w := by kernel_rfl
theorem und_sl_api_Place : Tryz.prog.underlying 24 = some (.slice 45) := Tryz.underlying24
theorem inf_sl_api_Place : ∃ i, Tryz.prog.info? 45 = some i ∧ i.zero = some (.agg #[.string ⟨#[]⟩, .string ⟨#[]⟩, .int .i64 0, .int .i64 0, .bool false]) ∧ i.size = 5 ∧ i.bytes = 56 := ⟨(Tryz.prog.info? 45).getD default, by kernel_rfl, by kernel_rfl, by kernel_rfl, by kernel_rfl⟩
theorem app_sl_api_Place {x : List Nat} {w0 w : World} {L : List Res} {ty : TypeId} {K : Value → World → Prop} (h : St x w0 L w) (n : Nat) {v : Value} {m : Nat} {xs : List Value} (hn : L[n]? = some (.row 45 5 v m xs)) {a : Addr} {k c : Nat} (news : List Value) (hl : news.length = k * 5) (hnews : ∀ j u, news[j]? = some u → w.cell? (a.add j) = some u) (h1 : ∀ u ∈ news, u.oneCell' = true) (hb : (m + k) * 56 ≤ 140737488355328)
    (hk : ∀ v' w', St x w0 (L.set n (.row 45 5 v' (m + k) (xs ++ news))) w' → K v' w') : XB Tryz.prog .append #[24, 24] ty #[v, .slice (some a) k c] w K := by
  obtain ⟨i, h1i, h2i, h3i, h4i⟩ := inf_sl_api_Place
  exact st_append und_sl_api_Place h1i h2i h3i h4i rfl (by omega) h n hn news hl hnews h1 (by simp only [maxLen]; omega) hb hk
@[go_sem] theorem len_sl_api_Place (ty : TypeId) (a : Option Addr) (n c : Nat) (w : World) (K : Value → World → Prop) : XB Tryz.prog .len #[24] ty #[.slice a n c] w K = K (.int .i64 n) w := xlen_slice Tryz.underlying24 a n c w K
/-! ### []api.Record -/
abbrev T_sl_api_Record : TypeId := 54
theorem und_sl_api_Record : Tryz.prog.underlying 54 = some (.slice 31) := Tryz.underlying54
theorem inf_sl_api_Record : ∃ i, Tryz.prog.info? 31 = some i ∧ i.zero = some (.agg #[.int .i64 0, .int .i64 0, .slice none 0 0, .slice none 0 0, .string ⟨#[]⟩, .int .i64 0, .int .i64 0, .slice none 0 0, .slice none 0 0, .bool false]) ∧ i.size = 10 ∧ i.bytes = 152 := ⟨(Tryz.prog.info? 31).getD default, by kernel_rfl, by kernel_rfl, by kernel_rfl, by kernel_rfl⟩
theorem app_sl_api_Record {x : List Nat} {w0 w : World} {L : List Res} {ty : TypeId} {K : Value → World → Prop} (h : St x w0 L w) (n : Nat) {v : Value} {m : Nat} {xs : List Value} (hn : L[n]? = some (.row 31 10 v m xs)) {a : Addr} {k c : Nat} (news : List Value) (hl : news.length = k * 10) (hnews : ∀ j u, news[j]? = some u → w.cell? (a.add j) = some u) (h1 : ∀ u ∈ news, u.oneCell' = true) (hb : (m + k) * 152 ≤ 140737488355328)
    (hk : ∀ v' w', St x w0 (L.set n (.row 31 10 v' (m + k) (xs ++ news))) w' → K v' w') : XB Tryz.prog .append #[54, 54] ty #[v, .slice (some a) k c] w K := by
  obtain ⟨i, h1i, h2i, h3i, h4i⟩ := inf_sl_api_Record
  exact st_append und_sl_api_Record h1i h2i h3i h4i rfl (by omega) h n hn news hl hnews h1 (by simp only [maxLen]; omega) hb hk
@[go_sem] theorem len_sl_api_Record (ty : TypeId) (a : Option Addr) (n c : Nat) (w : World) (K : Value → World → Prop) : XB Tryz.prog .len #[54] ty #[.slice a n c] w K = K (.int .i64 n) w := xlen_slice Tryz.underlying54 a n c w K
/-! ### api.Vec -/
abbrev T_api_Vec : TypeId := 26
theorem sz_api_Vec (w : World) : (sizeOf 26).run Tryz.prog w = .ok 2 w := by kernel_rfl
theorem ag_api_Vec (w : World) : (isAgg 26).run Tryz.prog w = .ok true w := by kernel_rfl
theorem flds_api_Vec : Tryz.prog.fieldsOf 26 = #[{ name := "Cpu", type := 3, offset := 0, embedded := false, tag := "", pkgPath := "", byteOffset := 0 }, { name := "Mem", type := 3, offset := 1, embedded := false, tag := "", pkgPath := "", byteOffset := 8 }] := by kernel_rfl
theorem usd_api_Vec : Tryz.prog.underlying 26 = some (.struct (Tryz.prog.fieldsOf 26)) := by kernel_rfl
theorem egt_api_Vec : Tryz.prog.eqGuardType Tryz.prog.depth 26 = false := by kernel_rfl
theorem sih_api_Vec : Tryz.prog.stoodInHeld 26 = false := by kernel_rfl
@[go_sem] theorem fld_api_Vec_Cpu (b o : Nat) (w : World) (K : Value → World → Prop) : XFld Tryz.prog 26 (.pointer (some ⟨b, o, none⟩)) 0 w K = K (.pointer (some ⟨b, o + 0, none⟩)) w := xfld Tryz.underlying26 0 0 0 rfl (fun _ => by kernel_rfl) b o w K
@[go_sem] theorem fld_api_Vec_Mem (b o : Nat) (w : World) (K : Value → World → Prop) : XFld Tryz.prog 26 (.pointer (some ⟨b, o, none⟩)) 1 w K = K (.pointer (some ⟨b, o + 1, none⟩)) w := xfld Tryz.underlying26 1 0 1 rfl (fun _ => by kernel_rfl) b o w K
theorem zv_api_Vec (w : World) : (zeroValue 26).run Tryz.prog w = .ok (.agg #[.int .i64 0, .int .i64 0]) w := by kernel_rfl
/-! ### api.Place -/
abbrev T_api_Place : TypeId := 45
theorem sz_api_Place (w : World) : (sizeOf 45).run Tryz.prog w = .ok 5 w := by kernel_rfl
theorem ag_api_Place (w : World) : (isAgg 45).run Tryz.prog w = .ok true w := by kernel_rfl
theorem flds_api_Place : Tryz.prog.fieldsOf 45 = #[{ name := "Pod", type := 9, offset := 0, embedded := false, tag := "", pkgPath := "", byteOffset := 0 }, { name := "Node", type := 9, offset := 1, embedded := false, tag := "", pkgPath := "", byteOffset := 16 }, { name := "Need", type := 26, offset := 2, embedded := false, tag := "", pkgPath := "", byteOffset := 32 }, { name := "Alone", type := 4, offset := 4, embedded := false, tag := "", pkgPath := "", byteOffset := 48 }] := by kernel_rfl
theorem usd_api_Place : Tryz.prog.underlying 45 = some (.struct (Tryz.prog.fieldsOf 45)) := by kernel_rfl
theorem egt_api_Place : Tryz.prog.eqGuardType Tryz.prog.depth 45 = false := by kernel_rfl
theorem sih_api_Place : Tryz.prog.stoodInHeld 45 = false := by kernel_rfl
@[go_sem] theorem fld_api_Place_Pod (b o : Nat) (w : World) (K : Value → World → Prop) : XFld Tryz.prog 45 (.pointer (some ⟨b, o, none⟩)) 0 w K = K (.pointer (some ⟨b, o + 0, none⟩)) w := xfld Tryz.underlying45 0 0 0 rfl (fun _ => by kernel_rfl) b o w K
@[go_sem] theorem fld_api_Place_Node (b o : Nat) (w : World) (K : Value → World → Prop) : XFld Tryz.prog 45 (.pointer (some ⟨b, o, none⟩)) 1 w K = K (.pointer (some ⟨b, o + 1, none⟩)) w := xfld Tryz.underlying45 1 0 1 rfl (fun _ => by kernel_rfl) b o w K
@[go_sem] theorem fld_api_Place_Need (b o : Nat) (w : World) (K : Value → World → Prop) : XFld Tryz.prog 45 (.pointer (some ⟨b, o, none⟩)) 2 w K = K (.pointer (some ⟨b, o + 2, none⟩)) w := xfld Tryz.underlying45 2 1 2 rfl (fun _ => by kernel_rfl) b o w K
@[go_sem] theorem fld_api_Place_Alone (b o : Nat) (w : World) (K : Value → World → Prop) : XFld Tryz.prog 45 (.pointer (some ⟨b, o, none⟩)) 3 w K = K (.pointer (some ⟨b, o + 4, none⟩)) w := xfld Tryz.underlying45 3 0 4 rfl (fun _ => by kernel_rfl) b o w K
theorem zv_api_Place (w : World) : (zeroValue 45).run Tryz.prog w = .ok (.agg #[.string ⟨#[]⟩, .string ⟨#[]⟩, .int .i64 0, .int .i64 0, .bool false]) w := by kernel_rfl
/-! ### api.Node -/
abbrev T_api_Node : TypeId := 29
theorem sz_api_Node (w : World) : (sizeOf 29).run Tryz.prog w = .ok 6 w := by kernel_rfl
theorem ag_api_Node (w : World) : (isAgg 29).run Tryz.prog w = .ok true w := by kernel_rfl
@[go_sem] theorem fld_api_Node_Name (b o : Nat) (w : World) (K : Value → World → Prop) : XFld Tryz.prog 29 (.pointer (some ⟨b, o, none⟩)) 0 w K = K (.pointer (some ⟨b, o + 0, none⟩)) w := xfld Tryz.underlying29 0 0 0 rfl (fun _ => by kernel_rfl) b o w K
@[go_sem] theorem fld_api_Node_Cap (b o : Nat) (w : World) (K : Value → World → Prop) : XFld Tryz.prog 29 (.pointer (some ⟨b, o, none⟩)) 1 w K = K (.pointer (some ⟨b, o + 1, none⟩)) w := xfld Tryz.underlying29 1 1 1 rfl (fun _ => by kernel_rfl) b o w K
@[go_sem] theorem fld_api_Node_Marks (b o : Nat) (w : World) (K : Value → World → Prop) : XFld Tryz.prog 29 (.pointer (some ⟨b, o, none⟩)) 2 w K = K (.pointer (some ⟨b, o + 3, none⟩)) w := xfld Tryz.underlying29 2 0 3 rfl (fun _ => by kernel_rfl) b o w K
@[go_sem] theorem fld_api_Node_Taints (b o : Nat) (w : World) (K : Value → World → Prop) : XFld Tryz.prog 29 (.pointer (some ⟨b, o, none⟩)) 3 w K = K (.pointer (some ⟨b, o + 4, none⟩)) w := xfld Tryz.underlying29 3 0 4 rfl (fun _ => by kernel_rfl) b o w K
@[go_sem] theorem fld_api_Node_Closed (b o : Nat) (w : World) (K : Value → World → Prop) : XFld Tryz.prog 29 (.pointer (some ⟨b, o, none⟩)) 4 w K = K (.pointer (some ⟨b, o + 5, none⟩)) w := xfld Tryz.underlying29 4 0 5 rfl (fun _ => by kernel_rfl) b o w K
theorem zv_api_Node (w : World) : (zeroValue 29).run Tryz.prog w = .ok (.agg #[.string ⟨#[]⟩, .int .i64 0, .int .i64 0, .slice none 0 0, .slice none 0 0, .bool false]) w := by kernel_rfl
/-! ### api.Record -/
abbrev T_api_Record : TypeId := 31
theorem sz_api_Record (w : World) : (sizeOf 31).run Tryz.prog w = .ok 10 w := by kernel_rfl
theorem ag_api_Record (w : World) : (isAgg 31).run Tryz.prog w = .ok true w := by kernel_rfl
@[go_sem] theorem fld_api_Record_Kind (b o : Nat) (w : World) (K : Value → World → Prop) : XFld Tryz.prog 31 (.pointer (some ⟨b, o, none⟩)) 0 w K = K (.pointer (some ⟨b, o + 0, none⟩)) w := xfld Tryz.underlying31 0 0 0 rfl (fun _ => by kernel_rfl) b o w K
@[go_sem] theorem fld_api_Record_Gang (b o : Nat) (w : World) (K : Value → World → Prop) : XFld Tryz.prog 31 (.pointer (some ⟨b, o, none⟩)) 1 w K = K (.pointer (some ⟨b, o + 1, none⟩)) w := xfld Tryz.underlying31 1 0 1 rfl (fun _ => by kernel_rfl) b o w K
@[go_sem] theorem fld_api_Record_Peers (b o : Nat) (w : World) (K : Value → World → Prop) : XFld Tryz.prog 31 (.pointer (some ⟨b, o, none⟩)) 2 w K = K (.pointer (some ⟨b, o + 2, none⟩)) w := xfld Tryz.underlying31 2 0 2 rfl (fun _ => by kernel_rfl) b o w K
@[go_sem] theorem fld_api_Record_Places (b o : Nat) (w : World) (K : Value → World → Prop) : XFld Tryz.prog 31 (.pointer (some ⟨b, o, none⟩)) 3 w K = K (.pointer (some ⟨b, o + 3, none⟩)) w := xfld Tryz.underlying31 3 0 3 rfl (fun _ => by kernel_rfl) b o w K
@[go_sem] theorem fld_api_Record_Node (b o : Nat) (w : World) (K : Value → World → Prop) : XFld Tryz.prog 31 (.pointer (some ⟨b, o, none⟩)) 4 w K = K (.pointer (some ⟨b, o + 4, none⟩)) w := xfld Tryz.underlying31 4 5 4 rfl (fun _ => by kernel_rfl) b o w K
theorem zv_api_Record (w : World) : (zeroValue 31).run Tryz.prog w = .ok (.agg #[.int .i64 0, .int .i64 0, .slice none 0 0, .slice none 0 0, .string ⟨#[]⟩, .int .i64 0, .int .i64 0, .slice none 0 0, .slice none 0 0, .bool false]) w := by kernel_rfl
/-! ### api.Errno -/
/-! ### int -/
abbrev T_int : TypeId := 3
theorem sz_int (w : World) : (sizeOf 3).run Tryz.prog w = .ok 1 w := by kernel_rfl
theorem ag_int (w : World) : (isAgg 3).run Tryz.prog w = .ok false w := by kernel_rfl
theorem und_int : Tryz.prog.underlying 3 = some (.int .i64) := Tryz.underlying3
/-! ### bool -/
abbrev T_bool : TypeId := 4
theorem sz_bool (w : World) : (sizeOf 4).run Tryz.prog w = .ok 1 w := by kernel_rfl
theorem ag_bool (w : World) : (isAgg 4).run Tryz.prog w = .ok false w := by kernel_rfl
/-! ### uint8 -/
abbrev T_uint8 : TypeId := 5
theorem und_uint8 : Tryz.prog.underlying 5 = some (.int .u8) := Tryz.underlying5
/-! ### int32 -/
abbrev T_int32 : TypeId := 21
theorem sz_int32 (w : World) : (sizeOf 21).run Tryz.prog w = .ok 1 w := by kernel_rfl
theorem ag_int32 (w : World) : (isAgg 21).run Tryz.prog w = .ok false w := by kernel_rfl
theorem und_int32 : Tryz.prog.underlying 21 = some (.int .i32) := Tryz.underlying21
/-! ### line.reader -/
abbrev T_line_reader : TypeId := 125
@[go_sem] theorem fld_line_reader_s (b o : Nat) (w : World) (K : Value → World → Prop) : XFld Tryz.prog 125 (.pointer (some ⟨b, o, none⟩)) 0 w K = K (.pointer (some ⟨b, o + 0, none⟩)) w := xfld Tryz.underlying125 0 0 0 rfl (fun _ => by kernel_rfl) b o w K
@[go_sem] theorem fld_line_reader_no (b o : Nat) (w : World) (K : Value → World → Prop) : XFld Tryz.prog 125 (.pointer (some ⟨b, o, none⟩)) 1 w K = K (.pointer (some ⟨b, o + 1, none⟩)) w := xfld Tryz.underlying125 1 0 1 rfl (fun _ => by kernel_rfl) b o w K
/-! ### *line.reader -/
/-! ### joineryref4.Reader -/
abbrev T_joineryref4_Reader : TypeId := 166
@[go_sem] theorem fld_joineryref4_Reader_S (b o : Nat) (w : World) (K : Value → World → Prop) : XFld Tryz.prog 166 (.pointer (some ⟨b, o, none⟩)) 0 w K = K (.pointer (some ⟨b, o + 0, none⟩)) w := xfld Tryz.underlying166 0 0 0 rfl (fun _ => by kernel_rfl) b o w K
@[go_sem] theorem fld_joineryref4_Reader_P (b o : Nat) (w : World) (K : Value → World → Prop) : XFld Tryz.prog 166 (.pointer (some ⟨b, o, none⟩)) 1 w K = K (.pointer (some ⟨b, o + 1, none⟩)) w := xfld Tryz.underlying166 1 0 1 rfl (fun _ => by kernel_rfl) b o w K
@[go_sem] theorem fld_joineryref4_Reader_Bad (b o : Nat) (w : World) (K : Value → World → Prop) : XFld Tryz.prog 166 (.pointer (some ⟨b, o, none⟩)) 2 w K = K (.pointer (some ⟨b, o + 2, none⟩)) w := xfld Tryz.underlying166 2 0 2 rfl (fun _ => by kernel_rfl) b o w K
/-! ### *joineryref4.Reader -/
/-! ### joineryref9.Tape -/
abbrev T_joineryref9_Tape : TypeId := 69
@[go_sem] theorem fld_joineryref9_Tape_L (b o : Nat) (w : World) (K : Value → World → Prop) : XFld Tryz.prog 69 (.pointer (some ⟨b, o, none⟩)) 0 w K = K (.pointer (some ⟨b, o + 0, none⟩)) w := xfld Tryz.underlying69 0 0 0 rfl (fun _ => by kernel_rfl) b o w K
@[go_sem] theorem fld_joineryref9_Tape_N (b o : Nat) (w : World) (K : Value → World → Prop) : XFld Tryz.prog 69 (.pointer (some ⟨b, o, none⟩)) 1 w K = K (.pointer (some ⟨b, o + 1, none⟩)) w := xfld Tryz.underlying69 1 0 1 rfl (fun _ => by kernel_rfl) b o w K
/-! ### *joineryref9.Tape -/
/-! ### tape.Tape -/
abbrev T_tape_Tape : TypeId := 96
@[go_sem] theorem fld_tape_Tape_text (b o : Nat) (w : World) (K : Value → World → Prop) : XFld Tryz.prog 96 (.pointer (some ⟨b, o, none⟩)) 0 w K = K (.pointer (some ⟨b, o + 0, none⟩)) w := xfld Tryz.underlying96 0 0 0 rfl (fun _ => by kernel_rfl) b o w K
@[go_sem] theorem fld_tape_Tape_lines (b o : Nat) (w : World) (K : Value → World → Prop) : XFld Tryz.prog 96 (.pointer (some ⟨b, o, none⟩)) 1 w K = K (.pointer (some ⟨b, o + 1, none⟩)) w := xfld Tryz.underlying96 1 0 1 rfl (fun _ => by kernel_rfl) b o w K
@[go_sem] theorem fld_tape_Tape_lasting (b o : Nat) (w : World) (K : Value → World → Prop) : XFld Tryz.prog 96 (.pointer (some ⟨b, o, none⟩)) 2 w K = K (.pointer (some ⟨b, o + 2, none⟩)) w := xfld Tryz.underlying96 2 0 2 rfl (fun _ => by kernel_rfl) b o w K
/-! ### *tape.Tape -/
/-! ### []joinerylaw9.Call -/
abbrev T_sl_joinerylaw9_Call : TypeId := 58
theorem und_sl_joinerylaw9_Call : Tryz.prog.underlying 58 = some (.slice 60) := Tryz.underlying58
@[go_sem] theorem len_sl_joinerylaw9_Call (ty : TypeId) (a : Option Addr) (n c : Nat) (w : World) (K : Value → World → Prop) : XB Tryz.prog .len #[58] ty #[.slice a n c] w K = K (.int .i64 n) w := xlen_slice Tryz.underlying58 a n c w K
/-! ### joinerylaw9.Call -/
abbrev T_joinerylaw9_Call : TypeId := 60
theorem sz_joinerylaw9_Call (w : World) : (sizeOf 60).run Tryz.prog w = .ok 3 w := by kernel_rfl
theorem ag_joinerylaw9_Call (w : World) : (isAgg 60).run Tryz.prog w = .ok true w := by kernel_rfl
theorem flds_joinerylaw9_Call : Tryz.prog.fieldsOf 60 = #[{ name := "Kind", type := 3, offset := 0, embedded := false, tag := "", pkgPath := "", byteOffset := 0 }, { name := "N", type := 3, offset := 1, embedded := false, tag := "", pkgPath := "", byteOffset := 8 }, { name := "Ns", type := 22, offset := 2, embedded := false, tag := "", pkgPath := "", byteOffset := 16 }] := by kernel_rfl
theorem usd_joinerylaw9_Call : Tryz.prog.underlying 60 = some (.struct (Tryz.prog.fieldsOf 60)) := by kernel_rfl
@[go_sem] theorem fld_joinerylaw9_Call_Kind (b o : Nat) (w : World) (K : Value → World → Prop) : XFld Tryz.prog 60 (.pointer (some ⟨b, o, none⟩)) 0 w K = K (.pointer (some ⟨b, o + 0, none⟩)) w := xfld Tryz.underlying60 0 0 0 rfl (fun _ => by kernel_rfl) b o w K
@[go_sem] theorem fld_joinerylaw9_Call_N (b o : Nat) (w : World) (K : Value → World → Prop) : XFld Tryz.prog 60 (.pointer (some ⟨b, o, none⟩)) 1 w K = K (.pointer (some ⟨b, o + 1, none⟩)) w := xfld Tryz.underlying60 1 0 1 rfl (fun _ => by kernel_rfl) b o w K
@[go_sem] theorem fld_joinerylaw9_Call_Ns (b o : Nat) (w : World) (K : Value → World → Prop) : XFld Tryz.prog 60 (.pointer (some ⟨b, o, none⟩)) 2 w K = K (.pointer (some ⟨b, o + 2, none⟩)) w := xfld Tryz.underlying60 2 0 2 rfl (fun _ => by kernel_rfl) b o w K
theorem zv_joinerylaw9_Call (w : World) : (zeroValue 60).run Tryz.prog w = .ok (.agg #[.int .i64 0, .int .i64 0, .slice none 0 0]) w := by kernel_rfl
/-! ### interface {} -/
/-! ### tape.write -/
abbrev T_tape_write : TypeId := 99
theorem sz_tape_write (w : World) : (sizeOf 99).run Tryz.prog w = .ok 1 w := by kernel_rfl
@[go_sem] theorem fld_tape_write_line (b o : Nat) (w : World) (K : Value → World → Prop) : XFld Tryz.prog 99 (.pointer (some ⟨b, o, none⟩)) 0 w K = K (.pointer (some ⟨b, o + 0, none⟩)) w := xfld Tryz.underlying99 0 0 0 rfl (fun _ => by kernel_rfl) b o w K
theorem zv_tape_write (w : World) : (zeroValue 99).run Tryz.prog w = .ok (.agg #[.string ⟨#[]⟩]) w := by kernel_rfl
/-! ### tape.crash -/
abbrev T_tape_crash : TypeId := 106
theorem sz_tape_crash (w : World) : (sizeOf 106).run Tryz.prog w = .ok 1 w := by kernel_rfl
@[go_sem] theorem fld_tape_crash_keep (b o : Nat) (w : World) (K : Value → World → Prop) : XFld Tryz.prog 106 (.pointer (some ⟨b, o, none⟩)) 0 w K = K (.pointer (some ⟨b, o + 0, none⟩)) w := xfld Tryz.underlying106 0 0 0 rfl (fun _ => by kernel_rfl) b o w K
theorem zv_tape_crash (w : World) : (zeroValue 106).run Tryz.prog w = .ok (.agg #[.int .i64 0]) w := by kernel_rfl
/-! ### strings.Builder -/
@[go_sem] theorem fld_strings_Builder_addr (b o : Nat) (w : World) (K : Value → World → Prop) : XFld Tryz.prog 117 (.pointer (some ⟨b, o, none⟩)) 0 w K = K (.pointer (some ⟨b, o + 0, none⟩)) w := xfld Tryz.underlying117 0 0 0 rfl (fun _ => by kernel_rfl) b o w K
@[go_sem] theorem fld_strings_Builder_buf (b o : Nat) (w : World) (K : Value → World → Prop) : XFld Tryz.prog 117 (.pointer (some ⟨b, o, none⟩)) 1 w K = K (.pointer (some ⟨b, o + 1, none⟩)) w := xfld Tryz.underlying117 1 0 1 rfl (fun _ => by kernel_rfl) b o w K
/-! ### *strings.Builder -/
end Go.Proofs.YthkgbajldkicfaaGreatDoor
