/-
  Shallow forms: line. Each is the precondition of a Go function, computed over its code; that both are one is checked by the kernel.
-/
import Derived.Test.YthkgbajldkicfaaGreatDoorTypes
namespace Go.Proofs.YthkgbajldkicfaaGreatDoor
set_option linter.unusedVariables false
set_option linter.unusedSimpArgs false
open Go Go.Jo
set_option linter.unusedVariables false
set_option maxRecDepth 100000
/-- joinery/line.kind -/
def S_line_kind (P : Program) (p0 : Value) (w : World) (R : Value → World → Prop) : Prop :=
 XCall P 43 #[(Value.string ⟨#[110, 111, 100, 101, 32, 103, 111, 110, 101, 32, 112, 114, 101, 112, 97, 114, 101, 32, 99, 111, 109, 109, 105, 116, 32, 97, 98, 111, 114, 116, 32, 114, 101, 108, 101, 97, 115, 101, 32, 103, 97, 110, 103]⟩)] w fun v3 w1 =>
 XCall P 123 #[v3, p0] w1 fun v5 w2 =>
 XBin P .add 3 false true v5 (Value.int .i64 1) w2 fun v6 w3 =>
 R v6 w3
noncomputable def C_line_kind : Code := (Tryz.f86.body).getD .skip
noncomputable def an_line_kind : An := (.seq none (.reg []) (.seq none (.reg []) .leaf))
theorem S_line_kind_eq (P : Program) (p0 : Value) (w : World) (R : Value → World → Prop) : WPf P C_line_kind Tryz.f86.results.toList an_line_kind #[p0] w R = S_line_kind P p0 w R := by kernel_rfl
theorem ok_line_kind : okC Tryz.f86.ntmps C_line_kind an_line_kind = true := by kernel_rfl
theorem call_line_kind {p0 w R} (h : S_line_kind Tryz.prog p0 w R) : Ret Tryz.prog 86 #[p0] w R :=
  Ret_of_WPf mixed Tryz.func86 (by kernel_rfl) (Nat.le_of_ble_eq_true (by kernel_rfl)) ok_line_kind ((S_line_kind_eq ..).symm ▸ h)

/-- joinery/line.gangs -/
def S_line_gangs (P : Program) (p0 : Value) (w : World) (R : Value → World → Prop) : Prop :=
 XBin P .geq 3 false true p0 (Value.int .i64 3) w fun v4 w1 =>
 ∃ J1 : Value → World → Prop, (∀ (_jk1 : Env) (u7 : Value) (w2 : World), J1 u7 w2 →
 XPick v4 u7 (Value.bool false) fun q1 =>
 R q1 w2) ∧
 XG v4 true (
 XBin P .leq 3 false true p0 (Value.int .i64 7) w1 fun v7 w3 =>
 J1 v7 w3) (J1 undef w1)
noncomputable def C_line_gangs : Code := (Tryz.f107.body).getD .skip
noncomputable def an_line_gangs : An := (.seq none (.reg []) (.seq none (.reg [[7]]) .leaf))
theorem S_line_gangs_eq (P : Program) (p0 : Value) (w : World) (R : Value → World → Prop) : WPf P C_line_gangs Tryz.f107.results.toList an_line_gangs #[p0] w R = S_line_gangs P p0 w R := by kernel_rfl
theorem ok_line_gangs : okC Tryz.f107.ntmps C_line_gangs an_line_gangs = true := by kernel_rfl
theorem call_line_gangs {p0 w R} (h : S_line_gangs Tryz.prog p0 w R) : Ret Tryz.prog 107 #[p0] w R :=
  Ret_of_WPf mixed Tryz.func107 (by kernel_rfl) (Nat.le_of_ble_eq_true (by kernel_rfl)) ok_line_gangs ((S_line_gangs_eq ..).symm ▸ h)

/-- joinery/line.peered -/
def S_line_peered (P : Program) (p0 : Value) (w : World) (R : Value → World → Prop) : Prop :=
 XBin P .eql 3 false true p0 (Value.int .i64 3) w fun v4 w1 =>
 ∃ J1 : Value → World → Prop, (∀ (_jk1 : Env) (u7 : Value) (w2 : World), J1 u7 w2 →
 XPick v4 (Value.bool true) u7 fun q1 =>
 R q1 w2) ∧
 XG v4 false (
 XBin P .eql 3 false true p0 (Value.int .i64 7) w1 fun v7 w3 =>
 J1 v7 w3) (J1 undef w1)
noncomputable def C_line_peered : Code := (Tryz.f48.body).getD .skip
noncomputable def an_line_peered : An := (.seq none (.reg []) (.seq none (.reg [[7]]) .leaf))
theorem S_line_peered_eq (P : Program) (p0 : Value) (w : World) (R : Value → World → Prop) : WPf P C_line_peered Tryz.f48.results.toList an_line_peered #[p0] w R = S_line_peered P p0 w R := by kernel_rfl
theorem ok_line_peered : okC Tryz.f48.ntmps C_line_peered an_line_peered = true := by kernel_rfl
theorem call_line_peered {p0 w R} (h : S_line_peered Tryz.prog p0 w R) : Ret Tryz.prog 48 #[p0] w R :=
  Ret_of_WPf mixed Tryz.func48 (by kernel_rfl) (Nat.le_of_ble_eq_true (by kernel_rfl)) ok_line_peered ((S_line_peered_eq ..).symm ▸ h)

/-- joinery/line.bare -/
def S_line_bare (P : Program) (p0 : Value) (w : World) (R : Value → World → Prop) : Prop :=
 XBox P 29 p0 w fun v1 w1 =>
 XFld P 29 v1 1 w1 fun v3 w2 =>
 XLoad P 26 v3 w2 fun v4 w3 =>
 XBuild P 26 #[] w3 fun v5 w4 =>
 XBin P .eql 26 false false v4 v5 w4 fun v6 w5 =>
 ∃ J1 : Value → World → Prop, (∀ (_jk1 : Env) (u15 : Value) (w6 : World), J1 u15 w6 →
 XPick v6 u15 (Value.bool false) fun q1 =>
 ∃ J2 : Value → World → Prop, (∀ (_jk2 : Env) (u20 : Value) (w7 : World), J2 u20 w7 →
 XPick q1 u20 (Value.bool false) fun q2 =>
 R q2 w7) ∧
 XG q1 true (
 XFld P 29 v1 4 w6 fun v18 w8 =>
 XLoad P 4 v18 w8 fun v19 w9 =>
 XUn P .not v19 w9 fun v20 w10 =>
 J2 v20 w10) (J2 undef w6)) ∧
 XG v6 true (
 XFld P 29 v1 2 w5 fun v8 w11 =>
 XLoad P 27 v8 w11 fun v9 w12 =>
 XB P .len #[27] 3 #[v9] w12 fun v10 w13 =>
 XFld P 29 v1 3 w13 fun v11 w14 =>
 XLoad P 27 v11 w14 fun v12 w15 =>
 XB P .len #[27] 3 #[v12] w15 fun v13 w16 =>
 XBin P .add 3 false false v10 v13 w16 fun v14 w17 =>
 XBin P .eql 3 false true v14 (Value.int .i64 0) w17 fun v15 w18 =>
 J1 v15 w18) (J1 undef w5)
noncomputable def C_line_bare : Code := (Tryz.f108.body).getD .skip
noncomputable def an_line_bare : An := (.seq none (.reg []) (.seq none (.reg [[15], [20]]) .leaf))
theorem S_line_bare_eq (P : Program) (p0 : Value) (w : World) (R : Value → World → Prop) : WPf P C_line_bare Tryz.f108.results.toList an_line_bare #[p0] w R = S_line_bare P p0 w R := by kernel_rfl
theorem ok_line_bare : okC Tryz.f108.ntmps C_line_bare an_line_bare = true := by kernel_rfl
theorem call_line_bare {p0 w R} (h : S_line_bare Tryz.prog p0 w R) : Ret Tryz.prog 108 #[p0] w R :=
  Ret_of_WPf mixed Tryz.func108 (by kernel_rfl) (Nat.le_of_ble_eq_true (by kernel_rfl)) ok_line_bare ((S_line_bare_eq ..).symm ▸ h)

/-- joinery/line.more -/
def S_line_more (P : Program) (p0 : Value) (w : World) (R : Value → World → Prop) : Prop :=
 XBox P 31 p0 w fun v1 w1 =>
 ∃ J1 : World → Prop, (∀ (_jk1 : Env) (w2 : World), J1 w2 →
 XFld P 31 v1 4 w2 fun v36 w3 =>
 XLoad P 29 v36 w3 fun v37 w4 =>
 XCall P 108 #[v37] w4 fun v38 w5 =>
 XUn P .not v38 w5 fun v39 w6 =>
 ∃ J2 : Value → World → Prop, (∀ (_jk2 : Env) (u44 : Value) (w7 : World), J2 u44 w7 →
 ∃ J3 : Value → World → Prop, (∀ (_jk3 : Env) (u48 : Value) (w8 : World), J3 u48 w8 →
 ∃ J4 : Value → World → Prop, (∀ (_jk4 : Env) (u49 : Value) (w9 : World), J4 u49 w9 →
 XPick v39 (Value.bool true) u49 fun q1 =>
 R q1 w9) ∧
 XG v39 false (
 XPick u44 u48 (Value.bool false) fun q2 =>
 J4 q2 w8) (J4 undef w8)) ∧
 XG u44 true (
 XFld P 31 v1 4 w7 fun v45 w10 =>
 XFld P 29 v45 0 w10 fun v46 w11 =>
 XLoad P 9 v46 w11 fun v47 w12 =>
 XBin P .neq 9 false true v47 (Value.string ⟨#[]⟩) w12 fun v48 w13 =>
 J3 v48 w13) (J3 undef w7)) ∧
 XG v39 false (
 XFld P 31 v1 0 w6 fun v41 w14 =>
 XLoad P 3 v41 w14 fun v42 w15 =>
 XBin P .neq 3 false true v42 (Value.int .i64 2) w15 fun v43 w16 =>
 J2 v43 w16) (J2 undef w6)) ∧
 ∃ J5 : Value → World → Prop, (∀ (_jk5 : Env) (u3 : Value) (w17 : World), J5 u3 w17 →
 XC u3 (
 R (Value.bool true) w17) (
 XFld P 31 v1 0 w17 fun v33 w18 =>
 XLoad P 3 v33 w18 fun v34 w19 =>
 XBin P .eql 3 false true v34 (Value.int .i64 1) w19 fun v35 w20 =>
 XC v35 (
 R (Value.bool false) w20) (
 J1 w20))) ∧
 XFld P 31 v1 0 w1 fun v4 w21 =>
 XLoad P 3 v4 w21 fun v5 w22 =>
 XCall P 107 #[v5] w22 fun v6 w23 =>
 XUn P .not v6 w23 fun v7 w24 =>
 ∃ J6 : Value → World → Prop, (∀ (_jk6 : Env) (u11 : Value) (w25 : World), J6 u11 w25 →
 XPick v7 u11 (Value.bool false) fun q3 =>
 XC q3 (
 J5 q3 w25) (
 XFld P 31 v1 0 w25 fun v13 w26 =>
 XLoad P 3 v13 w26 fun v14 w27 =>
 XCall P 48 #[v14] w27 fun v15 w28 =>
 XUn P .not v15 w28 fun v16 w29 =>
 ∃ J7 : Value → World → Prop, (∀ (_jk7 : Env) (u21 : Value) (w30 : World), J7 u21 w30 →
 XPick v16 u21 (Value.bool false) fun q4 =>
 XC q4 (
 J5 q4 w30) (
 XFld P 31 v1 0 w30 fun v23 w31 =>
 XLoad P 3 v23 w31 fun v24 w32 =>
 XBin P .neq 3 false true v24 (Value.int .i64 3) w32 fun v25 w33 =>
 ∃ J8 : Value → World → Prop, (∀ (_jk8 : Env) (u30 : Value) (w34 : World), J8 u30 w34 →
 XPick v25 u30 (Value.bool false) fun q5 =>
 J5 q5 w34) ∧
 XG v25 true (
 XFld P 31 v1 3 w33 fun v27 w35 =>
 XLoad P 24 v27 w35 fun v28 w36 =>
 XB P .len #[24] 3 #[v28] w36 fun v29 w37 =>
 XBin P .gtr 3 false true v29 (Value.int .i64 0) w37 fun v30 w38 =>
 J8 v30 w38) (J8 undef w33))) ∧
 XG v16 true (
 XFld P 31 v1 2 w29 fun v18 w39 =>
 XLoad P 22 v18 w39 fun v19 w40 =>
 XB P .len #[22] 3 #[v19] w40 fun v20 w41 =>
 XBin P .gtr 3 false true v20 (Value.int .i64 0) w41 fun v21 w42 =>
 J7 v21 w42) (J7 undef w29))) ∧
 XG v7 true (
 XFld P 31 v1 1 w24 fun v9 w43 =>
 XLoad P 3 v9 w43 fun v10 w44 =>
 XBin P .neq 3 false true v10 (Value.int .i64 0) w44 fun v11 w45 =>
 J6 v11 w45) (J6 undef w24)
noncomputable def C_line_more : Code := (Tryz.f57.body).getD .skip
noncomputable def an_line_more : An := (.seq none (.reg []) (.seq (some []) (.block none (.seq (some [3]) (.seq none (.reg [[11]]) (.cond .leaf (.seq none (.reg [[21]]) (.cond .leaf (.reg [[30]]))))) (.cond (.seq none (.reg []) .leaf) (.seq none (.reg []) (.cond (.seq none (.reg []) .leaf) .leaf))))) (.seq none (.reg [[44], [48], [49]]) .leaf)))
theorem S_line_more_eq (P : Program) (p0 : Value) (w : World) (R : Value → World → Prop) : WPf P C_line_more Tryz.f57.results.toList an_line_more #[p0] w R = S_line_more P p0 w R := by kernel_rfl
theorem ok_line_more : okC Tryz.f57.ntmps C_line_more an_line_more = true := by kernel_rfl
theorem call_line_more {p0 w R} (h : S_line_more Tryz.prog p0 w R) : Ret Tryz.prog 57 #[p0] w R :=
  Ret_of_WPf mixed Tryz.func57 (by kernel_rfl) (Nat.le_of_ble_eq_true (by kernel_rfl)) ok_line_more ((S_line_more_eq ..).symm ▸ h)

/-- joinery/line.rising -/
def S_line_rising (P : Program) (p0 : Value) (w : World) (R : Value → World → Prop) : Prop :=
 XB P .len #[22] 3 #[p0] w fun v6 w1 =>
 ∃ (I1 : Value → World → Prop) (m1 : Value → World → Nat), I1 (Value.int .i64 0) w1 ∧ ∀ (_jk1 : Env) (u7 : Value) (w2 : World), I1 u7 w2 →
 XBin P .lss 3 false false u7 v6 w2 fun v8 w3 =>
 XC v8 (
 XIdx P 22 p0 u7 w3 fun v10 w4 =>
 XLoad P 3 v10 w4 fun v11 w5 =>
 XBin P .lss 3 false true v11 (Value.int .i64 1) w5 fun v13 w6 =>
 ∃ J1 : Value → World → Prop, (∀ (_jk2 : Env) (u16 : Value) (w7 : World), J1 u16 w7 →
 XPick v13 (Value.bool true) u16 fun q1 =>
 ∃ J2 : Value → World → Prop, (∀ (_jk3 : Env) (u21 : Value) (w8 : World), J2 u21 w8 →
 ∃ J3 : Value → World → Prop, (∀ (_jk4 : Env) (u28 : Value) (w9 : World), J3 u28 w9 →
 ∃ J4 : Value → World → Prop, (∀ (_jk5 : Env) (u29 : Value) (w10 : World), J4 u29 w10 →
 XPick q1 (Value.bool true) u29 fun q2 =>
 XC q2 (
 R (Value.bool false) w10) (
 XBin P .add 3 false true u7 (Value.int .i64 1) w10 fun v31 w11 =>
 I1 v31 w11 ∧ m1 v31 w11 < m1 u7 w2)) ∧
 XG q1 false (
 XPick u21 u28 (Value.bool false) fun q3 =>
 J4 q3 w9) (J4 undef w9)) ∧
 XG u21 true (
 XBin P .sub 3 false true u7 (Value.int .i64 1) w8 fun v24 w12 =>
 XIdx P 22 p0 v24 w12 fun v25 w13 =>
 XLoad P 3 v25 w13 fun v26 w14 =>
 XBin P .geq 3 false false v26 v11 w14 fun v28 w15 =>
 J3 v28 w15) (J3 undef w8)) ∧
 XG q1 false (
 XBin P .gtr 3 false true u7 (Value.int .i64 0) w7 fun v20 w16 =>
 J2 v20 w16) (J2 undef w7)) ∧
 XG v13 false (
 XBin P .gtr 3 false true v11 (Value.int .i64 4) w6 fun v16 w17 =>
 J1 v16 w17) (J1 undef w6)) (
 XB P .len #[22] 3 #[p0] w3 fun v33 w18 =>
 XBin P .gtr 3 false true v33 (Value.int .i64 0) w18 fun v34 w19 =>
 R v34 w19)
noncomputable def C_line_rising : Code := (Tryz.f60.body).getD .skip
noncomputable def an_line_rising : An := (.seq none (.reg []) (.seq none (.seq none (.reg []) (.block none (.loop [7] (.seq none (.reg []) (.seq none (.cond .leaf .leaf) (.seq none (.block none (.seq none (.reg []) (.seq none (.reg [[16], [21], [28], [29]]) (.cond (.seq none (.reg []) .leaf) .leaf)))) (.reg []))))))) (.seq none (.reg []) .leaf)))
theorem S_line_rising_eq (P : Program) (p0 : Value) (w : World) (R : Value → World → Prop) : WPf P C_line_rising Tryz.f60.results.toList an_line_rising #[p0] w R = S_line_rising P p0 w R := by kernel_rfl
theorem ok_line_rising : okC Tryz.f60.ntmps C_line_rising an_line_rising = true := by kernel_rfl
theorem call_line_rising {p0 w R} (h : S_line_rising Tryz.prog p0 w R) : Ret Tryz.prog 60 #[p0] w R :=
  Ret_of_WPf mixed Tryz.func60 (by kernel_rfl) (Nat.le_of_ble_eq_true (by kernel_rfl)) ok_line_rising ((S_line_rising_eq ..).symm ▸ h)

/-- joinery/line.size -/
def S_line_size (P : Program) (p0 : Value) (w : World) (R : Value → World → Prop) : Prop :=
 XBox P 26 p0 w fun v1 w1 =>
 XFld P 26 v1 0 w1 fun v3 w2 =>
 XLoad P 3 v3 w2 fun v4 w3 =>
 XBin P .geq 3 false true v4 (Value.int .i64 0) w3 fun v5 w4 =>
 ∃ J1 : Value → World → Prop, (∀ (_jk1 : Env) (u9 : Value) (w5 : World), J1 u9 w5 →
 XPick v5 u9 (Value.bool false) fun q1 =>
 ∃ J2 : Value → World → Prop, (∀ (_jk2 : Env) (u14 : Value) (w6 : World), J2 u14 w6 →
 XPick q1 u14 (Value.bool false) fun q2 =>
 ∃ J3 : Value → World → Prop, (∀ (_jk3 : Env) (u19 : Value) (w7 : World), J3 u19 w7 →
 XPick q2 u19 (Value.bool false) fun q3 =>
 R q3 w7) ∧
 XG q2 true (
 XFld P 26 v1 1 w6 fun v17 w8 =>
 XLoad P 3 v17 w8 fun v18 w9 =>
 XBin P .leq 3 false true v18 (Value.int .i64 1099511627776) w9 fun v19 w10 =>
 J3 v19 w10) (J3 undef w6)) ∧
 XG q1 true (
 XFld P 26 v1 1 w5 fun v12 w11 =>
 XLoad P 3 v12 w11 fun v13 w12 =>
 XBin P .geq 3 false true v13 (Value.int .i64 0) w12 fun v14 w13 =>
 J2 v14 w13) (J2 undef w5)) ∧
 XG v5 true (
 XFld P 26 v1 0 w4 fun v7 w14 =>
 XLoad P 3 v7 w14 fun v8 w15 =>
 XBin P .leq 3 false true v8 (Value.int .i64 1099511627776) w15 fun v9 w16 =>
 J1 v9 w16) (J1 undef w4)
noncomputable def C_line_size : Code := (Tryz.f114.body).getD .skip
noncomputable def an_line_size : An := (.seq none (.reg []) (.seq none (.reg [[9], [14], [19]]) .leaf))
theorem S_line_size_eq (P : Program) (p0 : Value) (w : World) (R : Value → World → Prop) : WPf P C_line_size Tryz.f114.results.toList an_line_size #[p0] w R = S_line_size P p0 w R := by kernel_rfl
theorem ok_line_size : okC Tryz.f114.ntmps C_line_size an_line_size = true := by kernel_rfl
theorem call_line_size {p0 w R} (h : S_line_size Tryz.prog p0 w R) : Ret Tryz.prog 114 #[p0] w R :=
  Ret_of_WPf mixed Tryz.func114 (by kernel_rfl) (Nat.le_of_ble_eq_true (by kernel_rfl)) ok_line_size ((S_line_size_eq ..).symm ▸ h)

/-- joinery/line.places -/
def S_line_places (P : Program) (p0 : Value) (w : World) (R : Value → World → Prop) : Prop :=
 XB P .len #[24] 3 #[p0] w fun v7 w1 =>
 XBin P .lss 3 false true v7 (Value.int .i64 1) w1 fun v8 w2 =>
 ∃ J1 : Value → World → Prop, (∀ (_jk1 : Env) (u12 : Value) (w3 : World), J1 u12 w3 →
 XPick v8 (Value.bool true) u12 fun q1 =>
 XC q1 (
 R (Value.int .i64 3) w3) (
 XB P .len #[24] 3 #[p0] w3 fun v15 w4 =>
 ∃ (I1 : Value → Value → World → Prop) (m1 : Value → Value → World → Nat), I1 (Value.slice none 0 0) (Value.int .i64 0) w4 ∧ ∀ (_jk2 : Env) (u3_pods u16 : Value) (w5 : World), I1 u3_pods u16 w5 →
 XBin P .lss 3 false false u16 v15 w5 fun v17 w6 =>
 XC v17 (
 XIdx P 24 p0 u16 w6 fun v18 w7 =>
 XLoad P 45 v18 w7 fun v19 w8 =>
 XAlloc P 45 w8 fun v5 w9 =>
 XStore P 45 v5 v19 w9 fun w10 =>
 XFld P 45 v5 0 w10 fun v21 w11 =>
 XLoad P 9 v21 w11 fun v22 w12 =>
 XCall P 59 #[v22] w12 fun v23 w13 =>
 XUn P .not v23 w13 fun v24 w14 =>
 ∃ J2 : Value → World → Prop, (∀ (_jk3 : Env) (u29 : Value) (w15 : World), J2 u29 w15 →
 XPick v24 (Value.bool true) u29 fun q2 =>
 XC q2 (
 R (Value.int .i64 1) w15) (
 XFld P 45 v5 2 w15 fun v32 w16 =>
 XLoad P 26 v32 w16 fun v33 w17 =>
 XCall P 114 #[v33] w17 fun v34 w18 =>
 XUn P .not v34 w18 fun v35 w19 =>
 XC v35 (
 R (Value.int .i64 2) w19) (
 XFld P 45 v5 0 w19 fun v37 w20 =>
 XLoad P 9 v37 w20 fun v38 w21 =>
 XBuildS P 27 1 #[(0, v38)] w21 fun v39 w22 =>
 XB P .append #[27, 27] 27 #[u3_pods, v39] w22 fun v40 w23 =>
 XBin P .add 3 false true u16 (Value.int .i64 1) w23 fun v41 w24 =>
 I1 v40 v41 w24 ∧ m1 v40 v41 w24 < m1 u3_pods u16 w5))) ∧
 XG v24 false (
 XFld P 45 v5 1 w14 fun v26 w25 =>
 XLoad P 9 v26 w25 fun v27 w26 =>
 XCall P 59 #[v27] w26 fun v28 w27 =>
 XUn P .not v28 w27 fun v29 w28 =>
 J2 v29 w28) (J2 undef w14)) (
 XCall P 115 #[u3_pods] w6 fun v43 w29 =>
 XCall P 116 #[u3_pods] w29 fun v45 w30 =>
 XB P .len #[27] 3 #[v45] w30 fun v46 w31 =>
 XB P .len #[24] 3 #[p0] w31 fun v48 w32 =>
 XBin P .lss 3 false false v46 v48 w32 fun v49 w33 =>
 XC v49 (
 R (Value.int .i64 4) w33) (
 R (Value.int .i64 0) w33)))) ∧
 XG v8 false (
 XB P .len #[24] 3 #[p0] w2 fun v11 w34 =>
 XBin P .gtr 3 false true v11 (Value.int .i64 8) w34 fun v12 w35 =>
 J1 v12 w35) (J1 undef w2)
noncomputable def C_line_places : Code := (Tryz.f61.body).getD .skip
noncomputable def an_line_places : An := (.seq none (.reg []) (.seq none (.seq none (.reg [[12]]) (.cond (.seq none (.reg []) .leaf) .leaf)) (.seq none (.reg []) (.seq none (.seq none (.reg []) (.block none (.loop [3, 16] (.seq none (.reg []) (.seq none (.cond .leaf .leaf) (.seq none (.block none (.seq none (.reg []) (.seq none (.block none (.seq none (.reg [[29]]) (.cond (.seq none (.reg []) .leaf) (.seq none (.reg []) (.cond (.seq none (.reg []) .leaf) .leaf))))) (.reg [])))) (.reg []))))))) (.seq none (.reg []) (.seq none (.seq none (.reg []) (.cond (.seq none (.reg []) .leaf) .leaf)) (.seq none (.reg []) .leaf)))))))
theorem S_line_places_eq (P : Program) (p0 : Value) (w : World) (R : Value → World → Prop) : WPf P C_line_places Tryz.f61.results.toList an_line_places #[p0] w R = S_line_places P p0 w R := by kernel_rfl
theorem ok_line_places : okC Tryz.f61.ntmps C_line_places an_line_places = true := by kernel_rfl
theorem call_line_places {p0 w R} (h : S_line_places Tryz.prog p0 w R) : Ret Tryz.prog 61 #[p0] w R :=
  Ret_of_WPf mixed Tryz.func61 (by kernel_rfl) (Nat.le_of_ble_eq_true (by kernel_rfl)) ok_line_places ((S_line_places_eq ..).symm ▸ h)

/-- joinery/line.Check -/
def S_line_Check (P : Program) (p0 : Value) (w : World) (R : Value → World → Prop) : Prop :=
 XBox P 31 p0 w fun v1 w1 =>
 XFld P 31 v1 0 w1 fun v3 w2 =>
 XLoad P 3 v3 w2 fun v4 w3 =>
 XBin P .lss 3 false true v4 (Value.int .i64 1) w3 fun v5 w4 =>
 ∃ J1 : Value → World → Prop, (∀ (_jk1 : Env) (u9 : Value) (w5 : World), J1 u9 w5 →
 XPick v5 (Value.bool true) u9 fun q1 =>
 ∃ J2 : Value → World → Prop, (∀ (_jk2 : Env) (u13 : Value) (w6 : World), J2 u13 w6 →
 XPick q1 (Value.bool true) u13 fun q2 =>
 XC q2 (
 R (Value.int .i64 2) w6) (
 XFld P 31 v1 0 w6 fun v16 w7 =>
 XLoad P 3 v16 w7 fun v17 w8 =>
 XBin P .eql 3 false true v17 (Value.int .i64 1) w8 fun v18 w9 =>
 XC v18 (
 XFld P 31 v1 4 w9 fun v19 w10 =>
 XLoad P 29 v19 w10 fun v20 w11 =>
 XCall P 58 #[v20] w11 fun v21 w12 =>
 R v21 w12) (
 XFld P 31 v1 0 w9 fun v23 w13 =>
 XLoad P 3 v23 w13 fun v24 w14 =>
 XBin P .eql 3 false true v24 (Value.int .i64 2) w14 fun v25 w15 =>
 ∃ J3 : Value → World → Prop, (∀ (_jk3 : Env) (u31 : Value) (w16 : World), J3 u31 w16 →
 XPick v25 u31 (Value.bool false) fun q3 =>
 XC q3 (
 R (Value.int .i64 1) w16) (
 XFld P 31 v1 0 w16 fun v34 w17 =>
 XLoad P 3 v34 w17 fun v35 w18 =>
 XBin P .eql 3 false true v35 (Value.int .i64 2) w18 fun v36 w19 =>
 XC v36 (
 R (Value.int .i64 0) w19) (
 ∃ J4 : Value → World → Prop, (∀ (_jk4 : Env) (u37 : Value) (w20 : World), J4 u37 w20 →
 XC u37 (
 R (Value.int .i64 2) w20) (
 XFld P 31 v1 0 w20 fun v56 w21 =>
 XLoad P 3 v56 w21 fun v57 w22 =>
 XBin P .eql 3 false true v57 (Value.int .i64 3) w22 fun v58 w23 =>
 XC v58 (
 XFld P 31 v1 3 w23 fun v59 w24 =>
 XLoad P 24 v59 w24 fun v60 w25 =>
 XCall P 61 #[v60] w25 fun v61 w26 =>
 R v61 w26) (
 R (Value.int .i64 0) w23))) ∧
 XFld P 31 v1 1 w19 fun v38 w27 =>
 XLoad P 3 v38 w27 fun v39 w28 =>
 XBin P .lss 3 false true v39 (Value.int .i64 1) w28 fun v40 w29 =>
 ∃ J5 : Value → World → Prop, (∀ (_jk5 : Env) (u44 : Value) (w30 : World), J5 u44 w30 →
 XPick v40 (Value.bool true) u44 fun q4 =>
 XC q4 (
 J4 q4 w30) (
 XFld P 31 v1 0 w30 fun v46 w31 =>
 XLoad P 3 v46 w31 fun v47 w32 =>
 XCall P 48 #[v47] w32 fun v48 w33 =>
 ∃ J6 : Value → World → Prop, (∀ (_jk6 : Env) (u53 : Value) (w34 : World), J6 u53 w34 →
 XPick v48 u53 (Value.bool false) fun q5 =>
 J4 q5 w34) ∧
 XG v48 true (
 XFld P 31 v1 2 w33 fun v50 w35 =>
 XLoad P 22 v50 w35 fun v51 w36 =>
 XCall P 60 #[v51] w36 fun v52 w37 =>
 XUn P .not v52 w37 fun v53 w38 =>
 J6 v53 w38) (J6 undef w33))) ∧
 XG v40 false (
 XFld P 31 v1 1 w29 fun v42 w39 =>
 XLoad P 3 v42 w39 fun v43 w40 =>
 XBin P .gtr 3 false true v43 (Value.int .i64 999999) w40 fun v44 w41 =>
 J5 v44 w41) (J5 undef w29)))) ∧
 XG v25 true (
 XFld P 31 v1 4 w15 fun v27 w42 =>
 XFld P 29 v27 0 w42 fun v28 w43 =>
 XLoad P 9 v28 w43 fun v29 w44 =>
 XCall P 59 #[v29] w44 fun v30 w45 =>
 XUn P .not v30 w45 fun v31 w46 =>
 J3 v31 w46) (J3 undef w15)))) ∧
 XG q1 false (
 XLoad P 31 v1 w5 fun v12 w47 =>
 XCall P 57 #[v12] w47 fun v13 w48 =>
 J2 v13 w48) (J2 undef w5)) ∧
 XG v5 false (
 XFld P 31 v1 0 w4 fun v7 w49 =>
 XLoad P 3 v7 w49 fun v8 w50 =>
 XBin P .gtr 3 false true v8 (Value.int .i64 7) w50 fun v9 w51 =>
 J1 v9 w51) (J1 undef w4)
noncomputable def C_line_Check : Code := (Tryz.f22.body).getD .skip
noncomputable def an_line_Check : An := (.seq none (.reg []) (.seq none (.seq none (.reg [[9], [13]]) (.cond (.seq none (.reg []) .leaf) .leaf)) (.seq none (.block none (.seq none (.reg []) (.cond (.seq none (.reg []) .leaf) (.seq none (.reg [[31]]) (.cond (.seq none (.reg []) .leaf) (.seq none (.reg []) (.cond (.seq none (.reg []) .leaf) (.seq (some [37]) (.seq none (.reg [[44]]) (.cond .leaf (.reg [[53]]))) (.cond (.seq none (.reg []) .leaf) (.seq none (.reg []) (.cond (.seq none (.reg []) .leaf) .leaf))))))))))) (.seq none (.reg []) .leaf))))
theorem S_line_Check_eq (P : Program) (p0 : Value) (w : World) (R : Value → World → Prop) : WPf P C_line_Check Tryz.f22.results.toList an_line_Check #[p0] w R = S_line_Check P p0 w R := by kernel_rfl
theorem ok_line_Check : okC Tryz.f22.ntmps C_line_Check an_line_Check = true := by kernel_rfl
theorem call_line_Check {p0 w R} (h : S_line_Check Tryz.prog p0 w R) : Ret Tryz.prog 22 #[p0] w R :=
  Ret_of_WPf mixed Tryz.func22 (by kernel_rfl) (Nat.le_of_ble_eq_true (by kernel_rfl)) ok_line_Check ((S_line_Check_eq ..).symm ▸ h)

/-- joinery/line.vec -/
def S_line_vec (P : Program) (p0 : Value) (w : World) (R : Value → World → Prop) : Prop :=
 XBox P 26 p0 w fun v1 w1 =>
 ∃ E1 FE1 : World → World → Prop, Pre E1 FE1 ∧
 ∃ d3_1 : Value, (∀ w2 : World, XFld P 26 v1 0 w2 fun v3 w4 =>
 v3 = d3_1 ∧ w4 = w2) ∧
 ∃ d4_1 : Value, (∀ w5 : World, E1 w1.drew w5 → XLoad P 3 d3_1 w5 fun v4 w7 =>
 v4 = d4_1 ∧ FE1 w5 w7) ∧
 ∃ d5_1 : Value, (∀ w8 : World, E1 w1.drew w8 → XCall P 47 #[d4_1] w8 fun v5 w10 =>
 v5 = d5_1 ∧ FE1 w8 w10) ∧
 ∃ d6_1 : Value, (∀ w11 : World, XBin P .add 9 false true d5_1 (Value.string ⟨#[44]⟩) w11 fun v6 w13 =>
 v6 = d6_1 ∧ w13 = w11) ∧
 ∃ d7_1 : Value, (∀ w14 : World, XFld P 26 v1 1 w14 fun v7 w16 =>
 v7 = d7_1 ∧ w16 = w14) ∧
 ∃ d8_1 : Value, (∀ w17 : World, E1 w1.drew w17 → XLoad P 3 d7_1 w17 fun v8 w19 =>
 v8 = d8_1 ∧ FE1 w17 w19) ∧
 ∃ d9_1 : Value, (∀ w20 : World, E1 w1.drew w20 → XCall P 47 #[d8_1] w20 fun v9 w22 =>
 v9 = d9_1 ∧ FE1 w20 w22) ∧
 ∃ d10_1 : Value, (∀ w23 : World, XBin P .add 9 false false d6_1 d9_1 w23 fun v10 w25 =>
 v10 = d10_1 ∧ w25 = w23) ∧
 ∀ w26 : World, FE1 w1.drew w26 →
 R d10_1 w26
noncomputable def C_line_vec : Code := (Tryz.f44.body).getD .skip
noncomputable def an_line_vec : An := (.seq none (.reg []) (.seq none (.draw [0, 1, 1, 0, 0, 1, 1, 0, 2]) .leaf))
theorem S_line_vec_eq (P : Program) (p0 : Value) (w : World) (R : Value → World → Prop) : WPf P C_line_vec Tryz.f44.results.toList an_line_vec #[p0] w R = S_line_vec P p0 w R := by kernel_rfl
theorem ok_line_vec : okC Tryz.f44.ntmps C_line_vec an_line_vec = true := by kernel_rfl
theorem call_line_vec {p0 w R} (h : S_line_vec Tryz.prog p0 w R) : Ret Tryz.prog 44 #[p0] w R :=
  Ret_of_WPf mixed Tryz.func44 (by kernel_rfl) (Nat.le_of_ble_eq_true (by kernel_rfl)) ok_line_vec ((S_line_vec_eq ..).symm ▸ h)

/-- joinery/line.flag -/
def S_line_flag (P : Program) (p0 : Value) (w : World) (R : Value → World → Prop) : Prop :=
 XC p0 (
 R (Value.string ⟨#[33]⟩) w) (
 R (Value.string ⟨#[]⟩) w)
noncomputable def C_line_flag : Code := (Tryz.f46.body).getD .skip
noncomputable def an_line_flag : An := (.seq none (.reg []) (.seq none (.seq none (.reg []) (.cond (.seq none (.reg []) .leaf) .leaf)) (.seq none (.reg []) .leaf)))
theorem S_line_flag_eq (P : Program) (p0 : Value) (w : World) (R : Value → World → Prop) : WPf P C_line_flag Tryz.f46.results.toList an_line_flag #[p0] w R = S_line_flag P p0 w R := by kernel_rfl
theorem ok_line_flag : okC Tryz.f46.ntmps C_line_flag an_line_flag = true := by kernel_rfl
theorem call_line_flag {p0 w R} (h : S_line_flag Tryz.prog p0 w R) : Ret Tryz.prog 46 #[p0] w R :=
  Ret_of_WPf mixed Tryz.func46 (by kernel_rfl) (Nat.le_of_ble_eq_true (by kernel_rfl)) ok_line_flag ((S_line_flag_eq ..).symm ▸ h)

/-- joinery/line.signed -/
def S_line_signed (P : Program) (p0 p1 : Value) (w : World) (R : Value → World → Prop) : Prop :=
 XB P .len #[27] 3 #[p1] w fun v9 w1 =>
 ∃ (I1 : Value → Value → World → Prop) (m1 : Value → Value → World → Nat), I1 (Value.string ⟨#[]⟩) (Value.int .i64 0) w1 ∧ ∀ (_jk1 : Env) (u5_s u10 : Value) (w2 : World), I1 u5_s u10 w2 →
 XBin P .lss 3 false false u10 v9 w2 fun v11 w3 =>
 XC v11 (
 XIdx P 27 p1 u10 w3 fun v12 w4 =>
 XLoad P 9 v12 w4 fun v13 w5 =>
 XBin P .add 9 false false p0 v13 w5 fun v17 w6 =>
 XBin P .add 9 false false u5_s v17 w6 fun v18 w7 =>
 XBin P .add 3 false true u10 (Value.int .i64 1) w7 fun v19 w8 =>
 I1 v18 v19 w8 ∧ m1 v18 v19 w8 < m1 u5_s u10 w2) (
 R u5_s w3)
noncomputable def C_line_signed : Code := (Tryz.f45.body).getD .skip
noncomputable def an_line_signed : An := (.seq none (.reg []) (.seq none (.reg []) (.seq none (.seq none (.reg []) (.block none (.loop [5, 10] (.seq none (.reg []) (.seq none (.cond .leaf .leaf) (.seq none (.block none (.seq none (.reg []) (.reg []))) (.reg []))))))) (.seq none (.reg []) .leaf))))
theorem S_line_signed_eq (P : Program) (p0 p1 : Value) (w : World) (R : Value → World → Prop) : WPf P C_line_signed Tryz.f45.results.toList an_line_signed #[p0, p1] w R = S_line_signed P p0 p1 w R := by kernel_rfl
theorem ok_line_signed : okC Tryz.f45.ntmps C_line_signed an_line_signed = true := by kernel_rfl
theorem call_line_signed {p0 p1 w R} (h : S_line_signed Tryz.prog p0 p1 w R) : Ret Tryz.prog 45 #[p0, p1] w R :=
  Ret_of_WPf mixed Tryz.func45 (by kernel_rfl) (Nat.le_of_ble_eq_true (by kernel_rfl)) ok_line_signed ((S_line_signed_eq ..).symm ▸ h)

/-- joinery/line.Text -/
def S_line_Text (P : Program) (p0 : Value) (w : World) (R : Value → World → Prop) : Prop :=
 XBox P 31 p0 w fun v1 w1 =>
 XBuildS P 27 1 #[(0, (Value.string ⟨#[]⟩))] w1 fun v11 w2 =>
 ∃ J1 : World → Prop, (∀ (_jk1 : Env) (w3 : World), J1 w3 →
 XFld P 31 v1 4 w3 fun v31 w4 =>
 XLoad P 29 v31 w4 fun v32 w5 =>
 XAlloc P 29 w5 fun v5 w6 =>
 XStore P 29 v5 v32 w6 fun w7 =>
 ∃ J2 : Value → World → Prop, (∀ (_jk2 : Env) (u3_l : Value) (w8 : World), J2 u3_l w8 →
 ∃ J3 : Value → World → Prop, (∀ (_jk3 : Env) (u3_l_2 : Value) (w9 : World), J3 u3_l_2 w9 →
 XFld P 31 v1 3 w9 fun v95 w10 =>
 XLoad P 24 v95 w10 fun v96 w11 =>
 XB P .len #[24] 3 #[v96] w11 fun v97 w12 =>
 ∃ (I1 : Value → Value → World → Prop) (m1 : Value → Value → World → Nat), I1 u3_l_2 (Value.int .i64 0) w12 ∧ ∀ (_jk4 : Env) (u3_l_3 u98 : Value) (w13 : World), I1 u3_l_3 u98 w13 →
 XBin P .lss 3 false false u98 v97 w13 fun v99 w14 =>
 XC v99 (
 XIdx P 24 v96 u98 w14 fun v100 w15 =>
 XLoad P 45 v100 w15 fun v101 w16 =>
 XAlloc P 45 w16 fun v10 w17 =>
 XStore P 45 v10 v101 w17 fun w18 =>
 ∃ E1 FE1 : World → World → Prop, Pre E1 FE1 ∧
 ∃ d103_1 : Value, (∀ w19 : World, XFld P 45 v10 0 w19 fun v103 w21 =>
 v103 = d103_1 ∧ w21 = w19) ∧
 ∃ d104_1 : Value, (∀ w22 : World, E1 w18.drew w22 → XLoad P 9 d103_1 w22 fun v104 w24 =>
 v104 = d104_1 ∧ FE1 w22 w24) ∧
 ∃ d105_1 : Value, (∀ w25 : World, XBin P .add 9 false true d104_1 (Value.string ⟨#[62]⟩) w25 fun v105 w27 =>
 v105 = d105_1 ∧ w27 = w25) ∧
 ∃ d106_1 : Value, (∀ w28 : World, XFld P 45 v10 1 w28 fun v106 w30 =>
 v106 = d106_1 ∧ w30 = w28) ∧
 ∃ d107_1 : Value, (∀ w31 : World, E1 w18.drew w31 → XLoad P 9 d106_1 w31 fun v107 w33 =>
 v107 = d107_1 ∧ FE1 w31 w33) ∧
 ∃ d108_1 : Value, (∀ w34 : World, XBin P .add 9 false false d105_1 d107_1 w34 fun v108 w36 =>
 v108 = d108_1 ∧ w36 = w34) ∧
 ∃ d109_1 : Value, (∀ w37 : World, XBin P .add 9 false true d108_1 (Value.string ⟨#[58]⟩) w37 fun v109 w39 =>
 v109 = d109_1 ∧ w39 = w37) ∧
 ∃ d110_1 : Value, (∀ w40 : World, XFld P 45 v10 2 w40 fun v110 w42 =>
 v110 = d110_1 ∧ w42 = w40) ∧
 ∃ d111_1 : Value, (∀ w43 : World, E1 w18.drew w43 → XLoad P 26 d110_1 w43 fun v111 w45 =>
 v111 = d111_1 ∧ FE1 w43 w45) ∧
 ∃ d112_1 : Value, (∀ w46 : World, E1 w18.drew w46 → XCall P 44 #[d111_1] w46 fun v112 w48 =>
 v112 = d112_1 ∧ FE1 w46 w48) ∧
 ∃ d113_1 : Value, (∀ w49 : World, XBin P .add 9 false false d109_1 d112_1 w49 fun v113 w51 =>
 v113 = d113_1 ∧ w51 = w49) ∧
 ∃ d114_1 : Value, (∀ w52 : World, XFld P 45 v10 3 w52 fun v114 w54 =>
 v114 = d114_1 ∧ w54 = w52) ∧
 ∃ d115_1 : Value, (∀ w55 : World, E1 w18.drew w55 → XLoad P 4 d114_1 w55 fun v115 w57 =>
 v115 = d115_1 ∧ FE1 w55 w57) ∧
 ∃ d116_1 : Value, (∀ w58 : World, E1 w18.drew w58 → XCall P 46 #[d115_1] w58 fun v116 w60 =>
 v116 = d116_1 ∧ FE1 w58 w60) ∧
 ∃ d117_1 : Value, (∀ w61 : World, XBin P .add 9 false false d113_1 d116_1 w61 fun v117 w63 =>
 v117 = d117_1 ∧ w63 = w61) ∧
 ∀ w64 : World, FE1 w18.drew w64 →
 XBuildS P 27 1 #[(0, d117_1)] w64 fun v118 w65 =>
 XB P .append #[27, 27] 27 #[u3_l_3, v118] w65 fun v119 w66 =>
 XBin P .add 3 false true u98 (Value.int .i64 1) w66 fun v120 w67 =>
 I1 v119 v120 w67 ∧ m1 v119 v120 w67 < m1 u3_l_3 u98 w13) (
 XCall P 49 #[u3_l_3, (Value.string ⟨#[32]⟩)] w14 fun v122 w68 =>
 R v122 w68)) ∧
 XFld P 31 v1 0 w8 fun v74 w69 =>
 XLoad P 3 v74 w69 fun v75 w70 =>
 XCall P 48 #[v75] w70 fun v76 w71 =>
 XC v76 (
 XFld P 31 v1 2 w71 fun v77 w72 =>
 XLoad P 22 v77 w72 fun v78 w73 =>
 XB P .len #[22] 3 #[v78] w73 fun v79 w74 =>
 ∃ (I2 : Value → Value → World → Prop) (m2 : Value → Value → World → Nat), I2 (Value.slice none 0 0) (Value.int .i64 0) w74 ∧ ∀ (_jk5 : Env) (u6_peers u80 : Value) (w75 : World), I2 u6_peers u80 w75 →
 XBin P .lss 3 false false u80 v79 w75 fun v81 w76 =>
 XC v81 (
 XIdx P 22 v78 u80 w76 fun v82 w77 =>
 XLoad P 3 v82 w77 fun v83 w78 =>
 XCall P 47 #[v83] w78 fun v86 w79 =>
 XBuildS P 27 1 #[(0, v86)] w79 fun v87 w80 =>
 XB P .append #[27, 27] 27 #[u6_peers, v87] w80 fun v88 w81 =>
 XBin P .add 3 false true u80 (Value.int .i64 1) w81 fun v89 w82 =>
 I2 v88 v89 w82 ∧ m2 v88 v89 w82 < m2 u6_peers u80 w75) (
 XCall P 49 #[u6_peers, (Value.string ⟨#[44]⟩)] w76 fun v92 w83 =>
 XBuildS P 27 1 #[(0, v92)] w83 fun v93 w84 =>
 XB P .append #[27, 27] 27 #[u3_l, v93] w84 fun v94 w85 =>
 J3 v94 w85)) (
 J3 u3_l w71)) ∧
 XFld P 31 v1 0 w7 fun v40 w86 =>
 XLoad P 3 v40 w86 fun v41 w87 =>
 XBin P .eql 3 false true v41 (Value.int .i64 1) w87 fun v42 w88 =>
 XC v42 (
 ∃ E2 FE2 : World → World → Prop, Pre E2 FE2 ∧
 ∃ d44_1 : Value, (∀ w89 : World, XFld P 29 v5 0 w89 fun v44 w91 =>
 v44 = d44_1 ∧ w91 = w89) ∧
 ∃ d45_1 : Value, (∀ w92 : World, E2 w88.drew w92 → XLoad P 9 d44_1 w92 fun v45 w94 =>
 v45 = d45_1 ∧ FE2 w92 w94) ∧
 ∃ d46_1 : Value, (∀ w95 : World, XBin P .add 9 false true d45_1 (Value.string ⟨#[58]⟩) w95 fun v46 w97 =>
 v46 = d46_1 ∧ w97 = w95) ∧
 ∃ d47_1 : Value, (∀ w98 : World, XFld P 29 v5 1 w98 fun v47 w100 =>
 v47 = d47_1 ∧ w100 = w98) ∧
 ∃ d48_1 : Value, (∀ w101 : World, E2 w88.drew w101 → XLoad P 26 d47_1 w101 fun v48 w103 =>
 v48 = d48_1 ∧ FE2 w101 w103) ∧
 ∃ d49_1 : Value, (∀ w104 : World, E2 w88.drew w104 → XCall P 44 #[d48_1] w104 fun v49 w106 =>
 v49 = d49_1 ∧ FE2 w104 w106) ∧
 ∃ d50_1 : Value, (∀ w107 : World, XBin P .add 9 false false d46_1 d49_1 w107 fun v50 w109 =>
 v50 = d50_1 ∧ w109 = w107) ∧
 ∃ d51_1 : Value, (∀ w110 : World, XFld P 29 v5 2 w110 fun v51 w112 =>
 v51 = d51_1 ∧ w112 = w110) ∧
 ∃ d52_1 : Value, (∀ w113 : World, E2 w88.drew w113 → XLoad P 27 d51_1 w113 fun v52 w115 =>
 v52 = d52_1 ∧ FE2 w113 w115) ∧
 ∃ d53_1 : Value, (∀ w116 : World, E2 w88.drew w116 → XCall P 45 #[(Value.string ⟨#[43]⟩), d52_1] w116 fun v53 w118 =>
 v53 = d53_1 ∧ FE2 w116 w118) ∧
 ∃ d54_1 : Value, (∀ w119 : World, XBin P .add 9 false false d50_1 d53_1 w119 fun v54 w121 =>
 v54 = d54_1 ∧ w121 = w119) ∧
 ∃ d55_1 : Value, (∀ w122 : World, XFld P 29 v5 3 w122 fun v55 w124 =>
 v55 = d55_1 ∧ w124 = w122) ∧
 ∃ d56_1 : Value, (∀ w125 : World, E2 w88.drew w125 → XLoad P 27 d55_1 w125 fun v56 w127 =>
 v56 = d56_1 ∧ FE2 w125 w127) ∧
 ∃ d57_1 : Value, (∀ w128 : World, E2 w88.drew w128 → XCall P 45 #[(Value.string ⟨#[126]⟩), d56_1] w128 fun v57 w130 =>
 v57 = d57_1 ∧ FE2 w128 w130) ∧
 ∃ d58_1 : Value, (∀ w131 : World, XBin P .add 9 false false d54_1 d57_1 w131 fun v58 w133 =>
 v58 = d58_1 ∧ w133 = w131) ∧
 ∃ d59_1 : Value, (∀ w134 : World, XFld P 29 v5 4 w134 fun v59 w136 =>
 v59 = d59_1 ∧ w136 = w134) ∧
 ∃ d60_1 : Value, (∀ w137 : World, E2 w88.drew w137 → XLoad P 4 d59_1 w137 fun v60 w139 =>
 v60 = d60_1 ∧ FE2 w137 w139) ∧
 ∃ d61_1 : Value, (∀ w140 : World, E2 w88.drew w140 → XCall P 46 #[d60_1] w140 fun v61 w142 =>
 v61 = d61_1 ∧ FE2 w140 w142) ∧
 ∃ d62_1 : Value, (∀ w143 : World, XBin P .add 9 false false d58_1 d61_1 w143 fun v62 w145 =>
 v62 = d62_1 ∧ w145 = w143) ∧
 ∀ w146 : World, FE2 w88.drew w146 →
 XBuildS P 27 1 #[(0, d62_1)] w146 fun v63 w147 =>
 XB P .append #[27, 27] 27 #[v11, v63] w147 fun v64 w148 =>
 J2 v64 w148) (
 XFld P 31 v1 0 w88 fun v66 w149 =>
 XLoad P 3 v66 w149 fun v67 w150 =>
 XBin P .eql 3 false true v67 (Value.int .i64 2) w150 fun v68 w151 =>
 XC v68 (
 XFld P 29 v5 0 w151 fun v70 w152 =>
 XLoad P 9 v70 w152 fun v71 w153 =>
 XBuildS P 27 1 #[(0, v71)] w153 fun v72 w154 =>
 XB P .append #[27, 27] 27 #[v11, v72] w154 fun v73 w155 =>
 J2 v73 w155) (
 XFld P 31 v1 1 w151 fun v34 w156 =>
 XLoad P 3 v34 w156 fun v35 w157 =>
 XCall P 47 #[v35] w157 fun v36 w158 =>
 XBuildS P 27 1 #[(0, v36)] w158 fun v37 w159 =>
 XB P .append #[27, 27] 27 #[v11, v37] w159 fun v38 w160 =>
 J2 v38 w160))) ∧
 XCall P 43 #[(Value.string ⟨#[110, 111, 100, 101, 32, 103, 111, 110, 101, 32, 112, 114, 101, 112, 97, 114, 101, 32, 99, 111, 109, 109, 105, 116, 32, 97, 98, 111, 114, 116, 32, 114, 101, 108, 101, 97, 115, 101, 32, 103, 97, 110, 103]⟩)] w2 fun v12 w161 =>
 XFld P 31 v1 0 w161 fun v13 w162 =>
 XLoad P 3 v13 w162 fun v14 w163 =>
 XBin P .geq 3 false true v14 (Value.int .i64 1) w163 fun v15 w164 =>
 ∃ J4 : Value → World → Prop, (∀ (_jk6 : Env) (u21 : Value) (w165 : World), J4 u21 w165 →
 XPick v15 u21 (Value.bool false) fun q1 =>
 XC q1 (
 XFld P 31 v1 0 w165 fun v25 w166 =>
 XLoad P 3 v25 w166 fun v26 w167 =>
 XBin P .sub 3 false true v26 (Value.int .i64 1) w167 fun v27 w168 =>
 XIdx P 27 v12 v27 w168 fun v28 w169 =>
 XLoad P 9 v28 w169 fun v29 w170 =>
 XIdx P 27 v11 (Value.int .i64 0) w170 fun v30 w171 =>
 XStore P 9 v30 v29 w171 fun w172 =>
 J1 w172) (
 J1 w165)) ∧
 XG v15 true (
 XFld P 31 v1 0 w164 fun v17 w173 =>
 XLoad P 3 v17 w173 fun v18 w174 =>
 XB P .len #[27] 3 #[v12] w174 fun v20 w175 =>
 XBin P .leq 3 false false v18 v20 w175 fun v21 w176 =>
 J4 v21 w176) (J4 undef w164)
noncomputable def C_line_Text : Code := (Tryz.f17.body).getD .skip
noncomputable def an_line_Text : An := (.seq none (.reg []) (.seq none (.reg []) (.seq (some []) (.seq none (.reg []) (.seq none (.reg [[21]]) (.cond (.reg []) .leaf))) (.seq none (.reg []) (.seq (some [3]) (.block none (.seq none (.reg []) (.cond (.draw [0, 0, 1, 0, 0, 1, 1, 0, 0, 1, 1, 0, 0, 1, 1, 0, 0, 1, 1, 0, 2, 2, 2]) (.seq none (.reg []) (.cond (.reg []) (.reg [])))))) (.seq (some [3]) (.seq none (.reg []) (.cond (.seq none (.reg []) (.seq none (.seq none (.reg []) (.block none (.loop [6, 80] (.seq none (.reg []) (.seq none (.cond .leaf .leaf) (.seq none (.block none (.seq none (.reg []) (.reg []))) (.reg []))))))) (.reg []))) .leaf)) (.seq none (.seq none (.reg []) (.block none (.loop [3, 98] (.seq none (.reg []) (.seq none (.cond .leaf .leaf) (.seq none (.block none (.seq none (.reg []) (.draw [0, 0, 1, 0, 0, 1, 0, 0, 0, 1, 1, 0, 0, 1, 1, 0, 2, 2, 2]))) (.reg []))))))) (.seq none (.reg []) .leaf))))))))
theorem S_line_Text_eq (P : Program) (p0 : Value) (w : World) (R : Value → World → Prop) : WPf P C_line_Text Tryz.f17.results.toList an_line_Text #[p0] w R = S_line_Text P p0 w R := by kernel_rfl
theorem ok_line_Text : okC Tryz.f17.ntmps C_line_Text an_line_Text = true := by kernel_rfl
theorem call_line_Text {p0 w R} (h : S_line_Text Tryz.prog p0 w R) : Ret Tryz.prog 17 #[p0] w R :=
  Ret_of_WPf mixed Tryz.func17 (by kernel_rfl) (Nat.le_of_ble_eq_true (by kernel_rfl)) ok_line_Text ((S_line_Text_eq ..).symm ▸ h)

/-- joinery/line.parting -/
def S_line_parting (P : Program) (p0 : Value) (w : World) (R : Value → World → Prop) : Prop :=
 XRange P 9 (Value.string ⟨#[32, 58, 44, 43, 126, 33, 62, 64]⟩) w fun v5 w1 =>
 ∃ (I1 : World → Prop) (m1 : World → Nat), I1 w1 ∧ ∀ (_jk1 : Env) (w2 : World), I1 w2 →
 XNext P v5 true 0 w2 fun v6 w3 =>
 XExt P v6 0 w3 fun v7 w4 =>
 XC v7 (
 XExt P v6 2 w4 fun v8 w5 =>
 XBin P .eql 21 false false v8 p0 w5 fun v11 w6 =>
 XC v11 (
 R (Value.bool true) w6) (
 I1 w6 ∧ m1 w6 < m1 w2)) (
 R (Value.bool false) w4)
noncomputable def C_line_parting : Code := (Tryz.f128.body).getD .skip
noncomputable def an_line_parting : An := (.seq none (.reg []) (.seq none (.seq none (.reg []) (.block none (.loop [] (.seq none (.reg []) (.seq none (.cond .leaf .leaf) (.block none (.seq none (.reg []) (.seq none (.reg []) (.cond (.seq none (.reg []) .leaf) .leaf))))))))) (.seq none (.reg []) .leaf)))
theorem S_line_parting_eq (P : Program) (p0 : Value) (w : World) (R : Value → World → Prop) : WPf P C_line_parting Tryz.f128.results.toList an_line_parting #[p0] w R = S_line_parting P p0 w R := by kernel_rfl
theorem ok_line_parting : okC Tryz.f128.ntmps C_line_parting an_line_parting = true := by kernel_rfl
theorem call_line_parting {p0 w R} (h : S_line_parting Tryz.prog p0 w R) : Ret Tryz.prog 128 #[p0] w R :=
  Ret_of_WPf mixed Tryz.func128 (by kernel_rfl) (Nat.le_of_ble_eq_true (by kernel_rfl)) ok_line_parting ((S_line_parting_eq ..).symm ▸ h)

/-- (*joinery/line.reader).name -/
def S_line_reader_name (P : Program) (p0 : Value) (w : World) (R : Value → World → Prop) : Prop :=
 XNil p0 fun q1 =>
 XFld P 125 q1 0 w fun v9 w1 =>
 XLoad P 9 v9 w1 fun v10 w2 =>
 XB P .len #[9] 3 #[v10] w2 fun v11 w3 =>
 ∃ J1 : Value → World → Prop, (∀ (_jk1 : Env) (u3_end : Value) (w4 : World), J1 u3_end w4 →
 XNil p0 fun q2 =>
 XFld P 125 q2 0 w4 fun v26 w5 =>
 XLoad P 9 v26 w5 fun v27 w6 =>
 XSlice P 9 v27 none (some u3_end) none w6 fun v29 w7 =>
 XNil p0 fun q3 =>
 XFld P 125 q3 0 w7 fun v33 w8 =>
 XLoad P 9 v33 w8 fun v34 w9 =>
 XSlice P 9 v34 (some u3_end) none none w9 fun v36 w10 =>
 XNil p0 fun q4 =>
 XFld P 125 q4 0 w10 fun v38 w11 =>
 XStore P 9 v38 v36 w11 fun w12 =>
 XNil p0 fun q5 =>
 XFld P 125 q5 1 w12 fun v42 w13 =>
 XLoad P 4 v42 w13 fun v43 w14 =>
 ∃ J2 : Value → World → Prop, (∀ (_jk2 : Env) (u46 : Value) (w15 : World), J2 u46 w15 →
 XPick v43 (Value.bool true) u46 fun q6 =>
 XNil p0 fun q7 =>
 XFld P 125 q7 1 w15 fun v49 w16 =>
 XStore P 4 v49 q6 w16 fun w17 =>
 R v29 w17) ∧
 XG v43 false (
 XBin P .eql 9 false true v29 (Value.string ⟨#[]⟩) w14 fun v46 w18 =>
 J2 v46 w18) (J2 undef w14)) ∧
 XNil p0 fun q8 =>
 XFld P 125 q8 0 w3 fun v14 w19 =>
 XLoad P 9 v14 w19 fun v15 w20 =>
 XRange P 9 v15 w20 fun v16 w21 =>
 ∃ (I1 : Value → World → Prop) (m1 : Value → World → Nat), I1 v11 w21 ∧ ∀ (_jk3 : Env) (u3_end_2 : Value) (w22 : World), I1 u3_end_2 w22 →
 XNext P v16 true 0 w22 fun v17 w23 =>
 XExt P v17 0 w23 fun v18 w24 =>
 XC v18 (
 XExt P v17 1 w24 fun v19 w25 =>
 XExt P v17 2 w25 fun v20 w26 =>
 XCall P 128 #[v20] w26 fun v22 w27 =>
 XC v22 (
 J1 v19 w27) (
 I1 u3_end_2 w27 ∧ m1 u3_end_2 w27 < m1 u3_end_2 w22)) (
 J1 u3_end_2 w24)
noncomputable def C_line_reader_name : Code := (Tryz.f88.body).getD .skip
noncomputable def an_line_reader_name : An := (.seq none (.reg []) (.seq none (.reg []) (.seq (some [3]) (.seq none (.reg []) (.block none (.loop [3] (.seq none (.reg []) (.seq none (.cond .leaf .leaf) (.block none (.seq none (.reg []) (.seq none (.reg []) (.cond (.seq none (.reg []) .leaf) .leaf))))))))) (.seq none (.reg []) (.seq none (.reg []) (.seq none (.reg [[46]]) (.seq none (.reg []) .leaf)))))))
theorem S_line_reader_name_eq (P : Program) (p0 : Value) (w : World) (R : Value → World → Prop) : WPf P C_line_reader_name Tryz.f88.results.toList an_line_reader_name #[p0] w R = S_line_reader_name P p0 w R := by kernel_rfl
theorem ok_line_reader_name : okC Tryz.f88.ntmps C_line_reader_name an_line_reader_name = true := by kernel_rfl
theorem call_line_reader_name {p0 w R} (h : S_line_reader_name Tryz.prog p0 w R) : Ret Tryz.prog 88 #[p0] w R :=
  Ret_of_WPf mixed Tryz.func88 (by kernel_rfl) (Nat.le_of_ble_eq_true (by kernel_rfl)) ok_line_reader_name ((S_line_reader_name_eq ..).symm ▸ h)

/-- (*joinery/line.reader).sign -/
def S_line_reader_sign (P : Program) (p0 p1 : Value) (w : World) (R : Value → World → Prop) : Prop :=
 XNil p0 fun q1 =>
 XFld P 125 q1 0 w fun v10 w1 =>
 XLoad P 9 v10 w1 fun v11 w2 =>
 XCall P 151 #[v11, p1] w2 fun v13 w3 =>
 XExt P v13 0 w3 fun v14 w4 =>
 XExt P v13 1 w4 fun v15 w5 =>
 XNil p0 fun q2 =>
 XFld P 125 q2 0 w5 fun v19 w6 =>
 XStore P 9 v19 v14 w6 fun w7 =>
 R v15 w7
noncomputable def C_line_reader_sign : Code := (Tryz.f127.body).getD .skip
noncomputable def an_line_reader_sign : An := (.seq none (.reg []) (.seq none (.reg []) (.seq none (.reg []) (.seq none (.reg []) .leaf))))
theorem S_line_reader_sign_eq (P : Program) (p0 p1 : Value) (w : World) (R : Value → World → Prop) : WPf P C_line_reader_sign Tryz.f127.results.toList an_line_reader_sign #[p0, p1] w R = S_line_reader_sign P p0 p1 w R := by kernel_rfl
theorem ok_line_reader_sign : okC Tryz.f127.ntmps C_line_reader_sign an_line_reader_sign = true := by kernel_rfl
theorem call_line_reader_sign {p0 p1 w R} (h : S_line_reader_sign Tryz.prog p0 p1 w R) : Ret Tryz.prog 127 #[p0, p1] w R :=
  Ret_of_WPf mixed Tryz.func127 (by kernel_rfl) (Nat.le_of_ble_eq_true (by kernel_rfl)) ok_line_reader_sign ((S_line_reader_sign_eq ..).symm ▸ h)

/-- (*joinery/line.reader).must -/
def S_line_reader_must (P : Program) (p0 p1 : Value) (w : World) (R : Value → World → Prop) : Prop :=
 XCall P 127 #[p0, p1] w fun v7 w1 =>
 XUn P .not v7 w1 fun v8 w2 =>
 ∃ J1 : Value → World → Prop, (∀ (_jk1 : Env) (u13 : Value) (w3 : World), J1 u13 w3 →
 XPick v8 (Value.bool true) u13 fun q1 =>
 XNil p0 fun q2 =>
 XFld P 125 q2 1 w3 fun v16 w4 =>
 XStore P 4 v16 q1 w4 fun w5 =>
 R (.tuple #[]) w5) ∧
 XG v8 false (
 XNil p0 fun q3 =>
 XFld P 125 q3 1 w2 fun v12 w6 =>
 XLoad P 4 v12 w6 fun v13 w7 =>
 J1 v13 w7) (J1 undef w2)
noncomputable def C_line_reader_must : Code := (Tryz.f124.body).getD .skip
noncomputable def an_line_reader_must : An := (.reg [[13]])
theorem S_line_reader_must_eq (P : Program) (p0 p1 : Value) (w : World) (R : Value → World → Prop) : WPf P C_line_reader_must Tryz.f124.results.toList an_line_reader_must #[p0, p1] w R = S_line_reader_must P p0 p1 w R := by kernel_rfl
theorem ok_line_reader_must : okC Tryz.f124.ntmps C_line_reader_must an_line_reader_must = true := by kernel_rfl
theorem call_line_reader_must {p0 p1 w R} (h : S_line_reader_must Tryz.prog p0 p1 w R) : Ret Tryz.prog 124 #[p0, p1] w R :=
  Ret_of_WPf mixed Tryz.func124 (by kernel_rfl) (Nat.le_of_ble_eq_true (by kernel_rfl)) ok_line_reader_must ((S_line_reader_must_eq ..).symm ▸ h)

/-- (*joinery/line.reader).number -/
def S_line_reader_number (P : Program) (p0 : Value) (w : World) (R : Value → World → Prop) : Prop :=
 ∃ J1 : Value → Value → World → Prop, (∀ (_jk1 : Env) (u3_n u4_digits : Value) (w1 : World), J1 u3_n u4_digits w1 →
 XNil p0 fun q1 =>
 XFld P 125 q1 1 w1 fun v49 w2 =>
 XLoad P 4 v49 w2 fun v50 w3 =>
 ∃ J2 : Value → World → Prop, (∀ (_jk2 : Env) (u53 : Value) (w4 : World), J2 u53 w4 →
 XPick v50 (Value.bool true) u53 fun q2 =>
 XNil p0 fun q3 =>
 XFld P 125 q3 1 w4 fun v56 w5 =>
 XStore P 4 v56 q2 w5 fun w6 =>
 XNil p0 fun q4 =>
 XFld P 125 q4 0 w6 fun v60 w7 =>
 XLoad P 9 v60 w7 fun v61 w8 =>
 XSlice P 9 v61 (some u4_digits) none none w8 fun v63 w9 =>
 XNil p0 fun q5 =>
 XFld P 125 q5 0 w9 fun v65 w10 =>
 XStore P 9 v65 v63 w10 fun w11 =>
 R u3_n w11) ∧
 XG v50 false (
 XBin P .eql 3 false true u4_digits (Value.int .i64 0) w3 fun v53 w12 =>
 J2 v53 w12) (J2 undef w3)) ∧
 XNil p0 fun q6 =>
 XFld P 125 q6 0 w fun v9 w13 =>
 XLoad P 9 v9 w13 fun v10 w14 =>
 XRange P 9 v10 w14 fun v11 w15 =>
 ∃ (I1 : Value → Value → World → Prop) (m1 : Value → Value → World → Nat), I1 (Value.int .i64 0) (Value.int .i64 0) w15 ∧ ∀ (_jk3 : Env) (u3_n_2 u4_digits_2 : Value) (w16 : World), I1 u3_n_2 u4_digits_2 w16 →
 XNext P v11 true 0 w16 fun v12 w17 =>
 XExt P v12 0 w17 fun v13 w18 =>
 XC v13 (
 XExt P v12 2 w18 fun v14 w19 =>
 XBin P .lss 21 false true v14 (Value.int .i32 48) w19 fun v16 w20 =>
 ∃ J3 : Value → World → Prop, (∀ (_jk4 : Env) (u19 : Value) (w21 : World), J3 u19 w21 →
 XPick v16 (Value.bool true) u19 fun q7 =>
 XC q7 (
 J1 u3_n_2 u4_digits_2 w21) (
 XBin P .add 3 false true u4_digits_2 (Value.int .i64 1) w21 fun v22 w22 =>
 XBin P .mul 3 false true u3_n_2 (Value.int .i64 10) w22 fun v24 w23 =>
 XBin P .sub 21 false true v14 (Value.int .i32 48) w23 fun v26 w24 =>
 XConv P 21 3 v26 w24 fun v27 w25 =>
 XBin P .add 3 false false v24 v27 w25 fun v28 w26 =>
 XBin P .gtr 3 false true v22 (Value.int .i64 15) w26 fun v30 w27 =>
 ∃ J4 : Value → World → Prop, (∀ (_jk5 : Env) (u34 : Value) (w28 : World), J4 u34 w28 →
 ∃ J5 : Value → World → Prop, (∀ (_jk6 : Env) (u40 : Value) (w29 : World), J5 u40 w29 →
 ∃ J6 : Value → World → Prop, (∀ (_jk7 : Env) (u41 : Value) (w30 : World), J6 u41 w30 →
 XPick v30 (Value.bool true) u41 fun q8 =>
 XC q8 (
 XNil p0 fun q9 =>
 XFld P 125 q9 1 w30 fun v45 w31 =>
 XStore P 4 v45 (Value.bool true) w31 fun w32 =>
 R (Value.int .i64 0) w32) (
 I1 v28 v22 w30 ∧ m1 v28 v22 w30 < m1 u3_n_2 u4_digits_2 w16)) ∧
 XG v30 false (
 XPick u34 u40 (Value.bool false) fun q10 =>
 J6 q10 w29) (J6 undef w29)) ∧
 XG u34 true (
 XNil p0 fun q11 =>
 XFld P 125 q11 0 w28 fun v37 w33 =>
 XLoad P 9 v37 w33 fun v38 w34 =>
 XIx P 9 v38 (Value.int .i64 0) w34 fun v39 w35 =>
 XBin P .eql 5 false true v39 (Value.int .u8 48) w35 fun v40 w36 =>
 J5 v40 w36) (J5 undef w28)) ∧
 XG v30 false (
 XBin P .gtr 3 false true v22 (Value.int .i64 1) w27 fun v33 w37 =>
 J4 v33 w37) (J4 undef w27))) ∧
 XG v16 false (
 XBin P .gtr 21 false true v14 (Value.int .i32 57) w20 fun v19 w38 =>
 J3 v19 w38) (J3 undef w20)) (
 J1 u3_n_2 u4_digits_2 w18)
noncomputable def C_line_reader_number : Code := (Tryz.f89.body).getD .skip
noncomputable def an_line_reader_number : An := (.seq none (.reg []) (.seq none (.reg []) (.seq (some [3, 4]) (.seq none (.reg []) (.block none (.loop [3, 4] (.seq none (.reg []) (.seq none (.cond .leaf .leaf) (.block none (.seq none (.reg []) (.seq none (.seq none (.reg [[19]]) (.cond .leaf .leaf)) (.seq none (.reg []) (.seq none (.reg []) (.seq none (.reg [[34], [40], [41]]) (.cond (.seq none (.reg []) (.seq none (.reg []) .leaf)) .leaf)))))))))))) (.seq none (.reg [[53]]) (.seq none (.reg []) (.seq none (.reg []) .leaf))))))
theorem S_line_reader_number_eq (P : Program) (p0 : Value) (w : World) (R : Value → World → Prop) : WPf P C_line_reader_number Tryz.f89.results.toList an_line_reader_number #[p0] w R = S_line_reader_number P p0 w R := by kernel_rfl
theorem ok_line_reader_number : okC Tryz.f89.ntmps C_line_reader_number an_line_reader_number = true := by kernel_rfl
theorem call_line_reader_number {p0 w R} (h : S_line_reader_number Tryz.prog p0 w R) : Ret Tryz.prog 89 #[p0] w R :=
  Ret_of_WPf mixed Tryz.func89 (by kernel_rfl) (Nat.le_of_ble_eq_true (by kernel_rfl)) ok_line_reader_number ((S_line_reader_number_eq ..).symm ▸ h)

/-- (*joinery/line.reader).vec -/
def S_line_reader_vec (P : Program) (p0 : Value) (w : World) (R : Value → World → Prop) : Prop :=
 XAlloc P 26 w fun v2 w1 =>
 XCall P 89 #[p0] w1 fun v5 w2 =>
 XBuild P 26 #[(0, v5)] w2 fun v6 w3 =>
 XAlloc P 26 w3 fun v3 w4 =>
 XStore P 26 v3 v6 w4 fun w5 =>
 XCall P 124 #[p0, (Value.string ⟨#[44]⟩)] w5 fun v8 w6 =>
 XCall P 89 #[p0] w6 fun v10 w7 =>
 XFld P 26 v3 1 w7 fun v11 w8 =>
 XStore P 3 v11 v10 w8 fun w9 =>
 XLoad P 26 v3 w9 fun v12 w10 =>
 XStore P 26 v2 v12 w10 fun w11 =>
 XLoad P 26 v2 w11 fun r1 w12 => w12 = w11 ∧ R r1 w11
noncomputable def C_line_reader_vec : Code := (Tryz.f125.body).getD .skip
noncomputable def an_line_reader_vec : An := (.seq none (.reg []) (.seq none (.reg []) (.seq none (.reg []) (.seq none (.reg []) (.seq none (.reg []) .leaf)))))
theorem S_line_reader_vec_eq (P : Program) (p0 : Value) (w : World) (R : Value → World → Prop) : WPf P C_line_reader_vec Tryz.f125.results.toList an_line_reader_vec #[p0] w R = S_line_reader_vec P p0 w R := by kernel_rfl
theorem ok_line_reader_vec : okC Tryz.f125.ntmps C_line_reader_vec an_line_reader_vec = true := by kernel_rfl
theorem call_line_reader_vec {p0 w R} (h : S_line_reader_vec Tryz.prog p0 w R) : Ret Tryz.prog 125 #[p0] w R :=
  Ret_of_WPf mixed Tryz.func125 (by kernel_rfl) (Nat.le_of_ble_eq_true (by kernel_rfl)) ok_line_reader_vec ((S_line_reader_vec_eq ..).symm ▸ h)

/-- (*joinery/line.reader).signed -/
def S_line_reader_signed (P : Program) (p0 p1 : Value) (w : World) (R : Value → World → Prop) : Prop :=
 ∃ (I1 : Value → World → Prop) (m1 : Value → World → Nat), I1 (Value.slice none 0 0) w ∧ ∀ (_jk1 : Env) (u5_l : Value) (w1 : World), I1 u5_l w1 →
 XCall P 127 #[p0, p1] w1 fun v8 w2 =>
 XC v8 (
 XCall P 88 #[p0] w2 fun v11 w3 =>
 XBuildS P 27 1 #[(0, v11)] w3 fun v12 w4 =>
 XB P .append #[27, 27] 27 #[u5_l, v12] w4 fun v13 w5 =>
 I1 v13 w5 ∧ m1 v13 w5 < m1 u5_l w1) (
 XCall P 150 #[u5_l] w2 fun v15 w6 =>
 R v15 w6)
noncomputable def C_line_reader_signed : Code := (Tryz.f126.body).getD .skip
noncomputable def an_line_reader_signed : An := (.seq none (.reg []) (.seq none (.reg []) (.seq none (.block none (.loop [5] (.seq none (.seq none (.reg []) (.cond .leaf .leaf)) (.block none (.reg []))))) (.seq none (.reg []) .leaf))))
theorem S_line_reader_signed_eq (P : Program) (p0 p1 : Value) (w : World) (R : Value → World → Prop) : WPf P C_line_reader_signed Tryz.f126.results.toList an_line_reader_signed #[p0, p1] w R = S_line_reader_signed P p0 p1 w R := by kernel_rfl
theorem ok_line_reader_signed : okC Tryz.f126.ntmps C_line_reader_signed an_line_reader_signed = true := by kernel_rfl
theorem call_line_reader_signed {p0 p1 w R} (h : S_line_reader_signed Tryz.prog p0 p1 w R) : Ret Tryz.prog 126 #[p0, p1] w R :=
  Ret_of_WPf mixed Tryz.func126 (by kernel_rfl) (Nat.le_of_ble_eq_true (by kernel_rfl)) ok_line_reader_signed ((S_line_reader_signed_eq ..).symm ▸ h)

/-- (*joinery/line.reader).node -/
def S_line_reader_node (P : Program) (p0 : Value) (w : World) (R : Value → World → Prop) : Prop :=
 XAlloc P 29 w fun v2 w1 =>
 XCall P 88 #[p0] w1 fun v5 w2 =>
 XBuild P 29 #[(0, v5)] w2 fun v6 w3 =>
 XAlloc P 29 w3 fun v3 w4 =>
 XStore P 29 v3 v6 w4 fun w5 =>
 XCall P 124 #[p0, (Value.string ⟨#[58]⟩)] w5 fun v8 w6 =>
 XCall P 125 #[p0] w6 fun v10 w7 =>
 XFld P 29 v3 1 w7 fun v11 w8 =>
 XStore P 26 v11 v10 w8 fun w9 =>
 XCall P 126 #[p0, (Value.string ⟨#[43]⟩)] w9 fun v13 w10 =>
 XFld P 29 v3 2 w10 fun v14 w11 =>
 XStore P 27 v14 v13 w11 fun w12 =>
 XCall P 126 #[p0, (Value.string ⟨#[126]⟩)] w12 fun v16 w13 =>
 XFld P 29 v3 3 w13 fun v17 w14 =>
 XStore P 27 v17 v16 w14 fun w15 =>
 XCall P 127 #[p0, (Value.string ⟨#[33]⟩)] w15 fun v19 w16 =>
 XFld P 29 v3 4 w16 fun v20 w17 =>
 XStore P 4 v20 v19 w17 fun w18 =>
 XLoad P 29 v3 w18 fun v21 w19 =>
 XStore P 29 v2 v21 w19 fun w20 =>
 XLoad P 29 v2 w20 fun r1 w21 => w21 = w20 ∧ R r1 w20
noncomputable def C_line_reader_node : Code := (Tryz.f87.body).getD .skip
noncomputable def an_line_reader_node : An := (.seq none (.reg []) (.seq none (.reg []) (.seq none (.reg []) (.seq none (.reg []) (.seq none (.reg []) (.seq none (.reg []) (.seq none (.reg []) (.seq none (.reg []) .leaf))))))))
theorem S_line_reader_node_eq (P : Program) (p0 : Value) (w : World) (R : Value → World → Prop) : WPf P C_line_reader_node Tryz.f87.results.toList an_line_reader_node #[p0] w R = S_line_reader_node P p0 w R := by kernel_rfl
theorem ok_line_reader_node : okC Tryz.f87.ntmps C_line_reader_node an_line_reader_node = true := by kernel_rfl
theorem call_line_reader_node {p0 w R} (h : S_line_reader_node Tryz.prog p0 w R) : Ret Tryz.prog 87 #[p0] w R :=
  Ret_of_WPf mixed Tryz.func87 (by kernel_rfl) (Nat.le_of_ble_eq_true (by kernel_rfl)) ok_line_reader_node ((S_line_reader_node_eq ..).symm ▸ h)

/-- (*joinery/line.reader).place -/
def S_line_reader_place (P : Program) (p0 : Value) (w : World) (R : Value → World → Prop) : Prop :=
 XAlloc P 45 w fun v2 w1 =>
 XCall P 88 #[p0] w1 fun v5 w2 =>
 XBuild P 45 #[(0, v5)] w2 fun v6 w3 =>
 XAlloc P 45 w3 fun v3 w4 =>
 XStore P 45 v3 v6 w4 fun w5 =>
 XCall P 124 #[p0, (Value.string ⟨#[62]⟩)] w5 fun v8 w6 =>
 XCall P 88 #[p0] w6 fun v10 w7 =>
 XFld P 45 v3 1 w7 fun v11 w8 =>
 XStore P 9 v11 v10 w8 fun w9 =>
 XCall P 124 #[p0, (Value.string ⟨#[58]⟩)] w9 fun v13 w10 =>
 XCall P 125 #[p0] w10 fun v15 w11 =>
 XFld P 45 v3 2 w11 fun v16 w12 =>
 XStore P 26 v16 v15 w12 fun w13 =>
 XCall P 127 #[p0, (Value.string ⟨#[33]⟩)] w13 fun v18 w14 =>
 XFld P 45 v3 3 w14 fun v19 w15 =>
 XStore P 4 v19 v18 w15 fun w16 =>
 XLoad P 45 v3 w16 fun v20 w17 =>
 XStore P 45 v2 v20 w17 fun w18 =>
 XLoad P 45 v2 w18 fun r1 w19 => w19 = w18 ∧ R r1 w18
noncomputable def C_line_reader_place : Code := (Tryz.f92.body).getD .skip
noncomputable def an_line_reader_place : An := (.seq none (.reg []) (.seq none (.reg []) (.seq none (.reg []) (.seq none (.reg []) (.seq none (.reg []) (.seq none (.reg []) (.seq none (.reg []) (.seq none (.reg []) .leaf))))))))
theorem S_line_reader_place_eq (P : Program) (p0 : Value) (w : World) (R : Value → World → Prop) : WPf P C_line_reader_place Tryz.f92.results.toList an_line_reader_place #[p0] w R = S_line_reader_place P p0 w R := by kernel_rfl
theorem ok_line_reader_place : okC Tryz.f92.ntmps C_line_reader_place an_line_reader_place = true := by kernel_rfl
theorem call_line_reader_place {p0 w R} (h : S_line_reader_place Tryz.prog p0 w R) : Ret Tryz.prog 92 #[p0] w R :=
  Ret_of_WPf mixed Tryz.func92 (by kernel_rfl) (Nat.le_of_ble_eq_true (by kernel_rfl)) ok_line_reader_place ((S_line_reader_place_eq ..).symm ▸ h)

/-- (*joinery/line.reader).peers -/
def S_line_reader_peers (P : Program) (p0 : Value) (w : World) (R : Value → World → Prop) : Prop :=
 XCall P 89 #[p0] w fun v5 w1 =>
 XBuildS P 22 1 #[(0, v5)] w1 fun v6 w2 =>
 ∃ (I1 : Value → World → Prop) (m1 : Value → World → Nat), I1 v6 w2 ∧ ∀ (_jk1 : Env) (u3_l : Value) (w3 : World), I1 u3_l w3 →
 XCall P 127 #[p0, (Value.string ⟨#[44]⟩)] w3 fun v8 w4 =>
 XC v8 (
 XCall P 89 #[p0] w4 fun v11 w5 =>
 XBuildS P 22 1 #[(0, v11)] w5 fun v12 w6 =>
 XB P .append #[22, 22] 22 #[u3_l, v12] w6 fun v13 w7 =>
 I1 v13 w7 ∧ m1 v13 w7 < m1 u3_l w3) (
 XCall P 129 #[u3_l] w4 fun v15 w8 =>
 R v15 w8)
noncomputable def C_line_reader_peers : Code := (Tryz.f91.body).getD .skip
noncomputable def an_line_reader_peers : An := (.seq none (.reg []) (.seq none (.reg []) (.seq none (.block none (.loop [3] (.seq none (.seq none (.reg []) (.cond .leaf .leaf)) (.block none (.reg []))))) (.seq none (.reg []) .leaf))))
theorem S_line_reader_peers_eq (P : Program) (p0 : Value) (w : World) (R : Value → World → Prop) : WPf P C_line_reader_peers Tryz.f91.results.toList an_line_reader_peers #[p0] w R = S_line_reader_peers P p0 w R := by kernel_rfl
theorem ok_line_reader_peers : okC Tryz.f91.ntmps C_line_reader_peers an_line_reader_peers = true := by kernel_rfl
theorem call_line_reader_peers {p0 w R} (h : S_line_reader_peers Tryz.prog p0 w R) : Ret Tryz.prog 91 #[p0] w R :=
  Ret_of_WPf mixed Tryz.func91 (by kernel_rfl) (Nat.le_of_ble_eq_true (by kernel_rfl)) ok_line_reader_peers ((S_line_reader_peers_eq ..).symm ▸ h)

/-- (*joinery/line.reader).end -/
def S_line_reader_end (P : Program) (p0 : Value) (w : World) (R : Value → World → Prop) : Prop :=
 XNil p0 fun q1 =>
 XFld P 125 q1 1 w fun v5 w1 =>
 XLoad P 4 v5 w1 fun v6 w2 =>
 XUn P .not v6 w2 fun v7 w3 =>
 ∃ J1 : Value → World → Prop, (∀ (_jk1 : Env) (u13 : Value) (w4 : World), J1 u13 w4 →
 XPick v7 u13 (Value.bool false) fun q2 =>
 R q2 w4) ∧
 XG v7 true (
 XNil p0 fun q3 =>
 XFld P 125 q3 0 w3 fun v11 w5 =>
 XLoad P 9 v11 w5 fun v12 w6 =>
 XBin P .eql 9 false true v12 (Value.string ⟨#[]⟩) w6 fun v13 w7 =>
 J1 v13 w7) (J1 undef w3)
noncomputable def C_line_reader_end : Code := (Tryz.f90.body).getD .skip
noncomputable def an_line_reader_end : An := (.seq none (.reg []) (.seq none (.reg [[13]]) .leaf))
theorem S_line_reader_end_eq (P : Program) (p0 : Value) (w : World) (R : Value → World → Prop) : WPf P C_line_reader_end Tryz.f90.results.toList an_line_reader_end #[p0] w R = S_line_reader_end P p0 w R := by kernel_rfl
theorem ok_line_reader_end : okC Tryz.f90.ntmps C_line_reader_end an_line_reader_end = true := by kernel_rfl
theorem call_line_reader_end {p0 w R} (h : S_line_reader_end Tryz.prog p0 w R) : Ret Tryz.prog 90 #[p0] w R :=
  Ret_of_WPf mixed Tryz.func90 (by kernel_rfl) (Nat.le_of_ble_eq_true (by kernel_rfl)) ok_line_reader_end ((S_line_reader_end_eq ..).symm ▸ h)

/-- joinery/line.words -/
def S_line_words (P : Program) (p0 : Value) (w : World) (R : Value → World → Prop) : Prop :=
 XCall P 94 #[p0, (Value.string ⟨#[32]⟩)] w fun v5 w1 =>
 XCall P 95 #[v5, (Value.string ⟨#[]⟩)] w1 fun v7 w2 =>
 XC v7 (
 R (Value.slice none 0 0) w2) (
 R v5 w2)
noncomputable def C_line_words : Code := (Tryz.f51.body).getD .skip
noncomputable def an_line_words : An := (.seq none (.reg []) (.seq none (.reg []) (.seq none (.seq none (.reg []) (.cond (.seq none (.reg []) .leaf) .leaf)) (.seq none (.reg []) .leaf))))
theorem S_line_words_eq (P : Program) (p0 : Value) (w : World) (R : Value → World → Prop) : WPf P C_line_words Tryz.f51.results.toList an_line_words #[p0] w R = S_line_words P p0 w R := by kernel_rfl
theorem ok_line_words : okC Tryz.f51.ntmps C_line_words an_line_words = true := by kernel_rfl
theorem call_line_words {p0 w R} (h : S_line_words Tryz.prog p0 w R) : Ret Tryz.prog 51 #[p0] w R :=
  Ret_of_WPf mixed Tryz.func51 (by kernel_rfl) (Nat.le_of_ble_eq_true (by kernel_rfl)) ok_line_words ((S_line_words_eq ..).symm ▸ h)

/-- joinery/line.read -/
def S_line_read (P : Program) (p0 : Value) (w : World) (R : Value → World → Prop) : Prop :=
 XAlloc P 31 w fun v2 w1 =>
 XB P .len #[27] 3 #[p0] w1 fun v9 w2 =>
 XBin P .lss 3 false true v9 (Value.int .i64 2) w2 fun v10 w3 =>
 XC v10 (
 XLoad P 31 v2 w3 fun v11 w4 =>
 XStore P 31 v2 v11 w4 fun w5 =>
 XLoad P 31 v2 w5 fun r1 w6 => w6 = w5 ∧ R (.tuple #[r1, (Value.bool false)]) w5) (
 XIdx P 27 p0 (Value.int .i64 0) w3 fun v13 w7 =>
 XLoad P 9 v13 w7 fun v14 w8 =>
 XCall P 86 #[v14] w8 fun v15 w9 =>
 XFld P 31 v2 0 w9 fun v16 w10 =>
 XStore P 3 v16 v15 w10 fun w11 =>
 XIdx P 27 p0 (Value.int .i64 1) w11 fun v18 w12 =>
 XLoad P 9 v18 w12 fun v19 w13 =>
 XBuild P 125 #[(0, v19)] w13 fun v20 w14 =>
 XBox P 125 v20 w14 fun v21 w15 =>
 XSlice P 27 p0 (some (Value.int .i64 2)) none none w15 fun v23 w16 =>
 ∃ J1 : World → Prop, (∀ (_jk1 : Env) (w17 : World), J1 w17 →
 XCall P 90 #[v21] w17 fun v48 w18 =>
 ∃ J2 : Value → Value → World → Prop, (∀ (_jk2 : Env) (u3_is u5_rest : Value) (w19 : World), J2 u3_is u5_rest w19 →
 XFld P 31 v2 0 w19 fun v71 w20 =>
 XLoad P 3 v71 w20 fun v72 w21 =>
 XBin P .neq 3 false true v72 (Value.int .i64 3) w21 fun v73 w22 =>
 XC v73 (
 XLoad P 31 v2 w22 fun v74 w23 =>
 ∃ J3 : Value → World → Prop, (∀ (_jk3 : Env) (u79 : Value) (w24 : World), J3 u79 w24 →
 XPick u3_is u79 (Value.bool false) fun q1 =>
 XStore P 31 v2 v74 w24 fun w25 =>
 XLoad P 31 v2 w25 fun r2 w26 => w26 = w25 ∧ R (.tuple #[r2, q1]) w25) ∧
 XG u3_is true (
 XB P .len #[27] 3 #[u5_rest] w23 fun v78 w27 =>
 XBin P .eql 3 false true v78 (Value.int .i64 0) w27 fun v79 w28 =>
 J3 v79 w28) (J3 undef w23)) (
 XB P .len #[27] 3 #[u5_rest] w22 fun v82 w29 =>
 ∃ (I1 : Value → Value → World → Prop) (m1 : Value → Value → World → Nat), I1 u3_is (Value.int .i64 0) w29 ∧ ∀ (_jk4 : Env) (u3_is_2 u83 : Value) (w30 : World), I1 u3_is_2 u83 w30 →
 XBin P .lss 3 false false u83 v82 w30 fun v84 w31 =>
 XC v84 (
 XIdx P 27 u5_rest u83 w31 fun v85 w32 =>
 XLoad P 9 v85 w32 fun v86 w33 =>
 XBuild P 125 #[(0, v86)] w33 fun v88 w34 =>
 XBox P 125 v88 w34 fun v89 w35 =>
 ∃ E1 FE1 : World → World → Prop, Pre E1 FE1 ∧
 ∃ d90_1 : Value, (∀ w36 : World, XFld P 31 v2 3 w36 fun v90 w38 =>
 v90 = d90_1 ∧ w38 = w36) ∧
 ∃ d91_1 : Value, (∀ w39 : World, E1 w35.drew w39 → XLoad P 24 d90_1 w39 fun v91 w41 =>
 v91 = d91_1 ∧ FE1 w39 w41) ∧
 ∀ w42 : World, FE1 w35.drew w42 →
 XCall P 92 #[v89] w42 fun v93 w43 =>
 E1 w42 w43 ∧
 ∀ w44 : World, FE1 w43 w44 →
 XBuildS P 24 1 #[(0, v93)] w44 fun v94 w45 =>
 E1 w44 w45 ∧
 ∀ w46 : World, FE1 w45 w46 →
 XB P .append #[24, 24] 24 #[d91_1, v94] w46 fun v95 w47 =>
 ∃ d96_1 : Value, (∀ w48 : World, XFld P 31 v2 3 w48 fun v96 w50 =>
 v96 = d96_1 ∧ w50 = w48) ∧
 XStore P 24 d96_1 v95 w47 fun w51 =>
 XCall P 90 #[v89] w51 fun v98 w52 =>
 ∃ J4 : Value → World → Prop, (∀ (_jk5 : Env) (u100 : Value) (w53 : World), J4 u100 w53 →
 XPick v98 u100 (Value.bool false) fun q2 =>
 XBin P .add 3 false true u83 (Value.int .i64 1) w53 fun v102 w54 =>
 I1 q2 v102 w54 ∧ m1 q2 v102 w54 < m1 u3_is_2 u83 w30) ∧
 XG v98 true (
 J4 u3_is_2 w52) (J4 undef w52)) (
 XFld P 31 v2 3 w31 fun v103 w55 =>
 XLoad P 24 v103 w55 fun v104 w56 =>
 XCall P 93 #[v104] w56 fun v105 w57 =>
 XFld P 31 v2 3 w57 fun v106 w58 =>
 XStore P 24 v106 v105 w58 fun w59 =>
 XLoad P 31 v2 w59 fun v107 w60 =>
 XStore P 31 v2 v107 w60 fun w61 =>
 XLoad P 31 v2 w61 fun r3 w62 => w62 = w61 ∧ R (.tuple #[r3, u3_is_2]) w61))) ∧
 XFld P 31 v2 0 w18 fun v49 w63 =>
 XLoad P 3 v49 w63 fun v50 w64 =>
 XCall P 48 #[v50] w64 fun v51 w65 =>
 XC v51 (
 XB P .len #[27] 3 #[v23] w65 fun v53 w66 =>
 XBin P .eql 3 false true v53 (Value.int .i64 0) w66 fun v54 w67 =>
 XC v54 (
 XLoad P 31 v2 w67 fun v55 w68 =>
 XStore P 31 v2 v55 w68 fun w69 =>
 XLoad P 31 v2 w69 fun r4 w70 => w70 = w69 ∧ R (.tuple #[r4, (Value.bool false)]) w69) (
 XIdx P 27 v23 (Value.int .i64 0) w67 fun v57 w71 =>
 XLoad P 9 v57 w71 fun v58 w72 =>
 XBuild P 125 #[(0, v58)] w72 fun v59 w73 =>
 XBox P 125 v59 w73 fun v60 w74 =>
 ∃ E2 FE2 : World → World → Prop, Pre E2 FE2 ∧
 ∃ d64_1 : Value, (∀ w75 : World, XSlice P 27 v23 (some (Value.int .i64 1)) none none w75 fun v64 w77 =>
 v64 = d64_1 ∧ w77 = w75) ∧
 XCall P 91 #[v60] w74.drew fun v62 w78 =>
 ∃ d65_1 : Value, (∀ w79 : World, XFld P 31 v2 2 w79 fun v65 w81 =>
 v65 = d65_1 ∧ w81 = w79) ∧
 XStore P 22 d65_1 v62 w78 fun w82 =>
 XCall P 90 #[v60] w82 fun v67 w83 =>
 ∃ J5 : Value → World → Prop, (∀ (_jk6 : Env) (u69 : Value) (w84 : World), J5 u69 w84 →
 XPick v67 u69 (Value.bool false) fun q3 =>
 J2 q3 d64_1 w84) ∧
 XG v67 true (
 J5 v48 w83) (J5 undef w83))) (
 J2 v48 v23 w65)) ∧
 XFld P 31 v2 0 w16 fun v28 w85 =>
 XLoad P 3 v28 w85 fun v29 w86 =>
 XBin P .eql 3 false true v29 (Value.int .i64 0) w86 fun v30 w87 =>
 XC v30 (
 XLoad P 31 v2 w87 fun v31 w88 =>
 XStore P 31 v2 v31 w88 fun w89 =>
 XLoad P 31 v2 w89 fun r5 w90 => w90 = w89 ∧ R (.tuple #[r5, (Value.bool false)]) w89) (
 XFld P 31 v2 0 w87 fun v33 w91 =>
 XLoad P 3 v33 w91 fun v34 w92 =>
 XBin P .eql 3 false true v34 (Value.int .i64 1) w92 fun v35 w93 =>
 XC v35 (
 XCall P 87 #[v21] w93 fun v37 w94 =>
 XFld P 31 v2 4 w94 fun v38 w95 =>
 XStore P 29 v38 v37 w95 fun w96 =>
 J1 w96) (
 XFld P 31 v2 0 w93 fun v40 w97 =>
 XLoad P 3 v40 w97 fun v41 w98 =>
 XBin P .eql 3 false true v41 (Value.int .i64 2) w98 fun v42 w99 =>
 XC v42 (
 XCall P 88 #[v21] w99 fun v44 w100 =>
 XFld P 31 v2 4 w100 fun v45 w101 =>
 XFld P 29 v45 0 w101 fun v46 w102 =>
 XStore P 9 v46 v44 w102 fun w103 =>
 J1 w103) (
 XCall P 89 #[v21] w99 fun v25 w104 =>
 XFld P 31 v2 1 w104 fun v26 w105 =>
 XStore P 3 v26 v25 w105 fun w106 =>
 J1 w106))))
noncomputable def C_line_read : Code := (Tryz.f50.body).getD .skip
noncomputable def an_line_read : An := (.seq none (.reg []) (.seq none (.seq none (.reg []) (.cond (.seq none (.reg []) .leaf) .leaf)) (.seq none (.reg []) (.seq none (.reg []) (.seq none (.reg []) (.seq (some []) (.block none (.seq none (.reg []) (.cond (.seq none (.reg []) .leaf) (.seq none (.reg []) (.cond (.reg []) (.seq none (.reg []) (.cond (.reg []) (.reg [])))))))) (.seq none (.reg []) (.seq (some [3, 5]) (.seq none (.reg []) (.cond (.seq none (.seq none (.reg []) (.cond (.seq none (.reg []) .leaf) .leaf)) (.seq none (.reg []) (.seq none (.draw [0, 2, 0, 0, 0, 2, 2]) (.reg [[69]])))) .leaf)) (.seq none (.seq none (.reg []) (.cond (.seq none (.reg [[79]]) .leaf) .leaf)) (.seq none (.seq none (.reg []) (.block none (.loop [3, 83] (.seq none (.reg []) (.seq none (.cond .leaf .leaf) (.seq none (.block none (.seq none (.reg []) (.seq none (.reg []) (.seq none (.draw [0, 1, 0, 2, 2, 2, 0, 2]) (.reg [[100]]))))) (.reg []))))))) (.seq none (.reg []) (.seq none (.reg []) .leaf))))))))))))
theorem S_line_read_eq (P : Program) (p0 : Value) (w : World) (R : Value → World → Prop) : WPf P C_line_read Tryz.f50.results.toList an_line_read #[p0] w R = S_line_read P p0 w R := by kernel_rfl
theorem ok_line_read : okC Tryz.f50.ntmps C_line_read an_line_read = true := by kernel_rfl
theorem call_line_read {p0 w R} (h : S_line_read Tryz.prog p0 w R) : Ret Tryz.prog 50 #[p0] w R :=
  Ret_of_WPf mixed Tryz.func50 (by kernel_rfl) (Nat.le_of_ble_eq_true (by kernel_rfl)) ok_line_read ((S_line_read_eq ..).symm ▸ h)

/-- joinery/line.Parse -/
def S_line_Parse (P : Program) (p0 : Value) (w : World) (R : Value → World → Prop) : Prop :=
 XAlloc P 31 w fun v2 w1 =>
 XCall P 51 #[p0] w1 fun v9 w2 =>
 XCall P 50 #[v9] w2 fun v10 w3 =>
 XExt P v10 0 w3 fun v11 w4 =>
 XExt P v10 1 w4 fun v12 w5 =>
 XAlloc P 31 w5 fun v4 w6 =>
 XStore P 31 v4 v11 w6 fun w7 =>
 XUn P .not v12 w7 fun v14 w8 =>
 XC v14 (
 XBuild P 31 #[] w8 fun v15 w9 =>
 XStore P 31 v2 v15 w9 fun w10 =>
 XLoad P 31 v2 w10 fun r1 w11 => w11 = w10 ∧ R (.tuple #[r1, (Value.int .i64 8)]) w10) (
 XLoad P 31 v4 w8 fun v16 w12 =>
 XCall P 22 #[v16] w12 fun v17 w13 =>
 XBin P .neq 35 false true v17 (Value.int .i64 0) w13 fun v19 w14 =>
 XC v19 (
 XBuild P 31 #[] w14 fun v20 w15 =>
 XStore P 31 v2 v20 w15 fun w16 =>
 XLoad P 31 v2 w16 fun r2 w17 => w17 = w16 ∧ R (.tuple #[r2, v17]) w16) (
 XLoad P 31 v4 w14 fun v22 w18 =>
 XStore P 31 v2 v22 w18 fun w19 =>
 XLoad P 31 v2 w19 fun r3 w20 => w20 = w19 ∧ R (.tuple #[r3, (Value.int .i64 0)]) w19))
noncomputable def C_line_Parse : Code := (Tryz.f19.body).getD .skip
noncomputable def an_line_Parse : An := (.seq none (.reg []) (.seq none (.reg []) (.seq none (.seq none (.reg []) (.cond (.seq none (.reg []) .leaf) .leaf)) (.seq none (.seq none (.reg []) (.seq none (.reg []) (.cond (.seq none (.reg []) .leaf) .leaf))) (.seq none (.reg []) .leaf)))))
theorem S_line_Parse_eq (P : Program) (p0 : Value) (w : World) (R : Value → World → Prop) : WPf P C_line_Parse Tryz.f19.results.toList an_line_Parse #[p0] w R = S_line_Parse P p0 w R := by kernel_rfl
theorem ok_line_Parse : okC Tryz.f19.ntmps C_line_Parse an_line_Parse = true := by kernel_rfl
theorem call_line_Parse {p0 w R} (h : S_line_Parse Tryz.prog p0 w R) : Ret Tryz.prog 19 #[p0] w R :=
  Ret_of_WPf mixed Tryz.func19 (by kernel_rfl) (Nat.le_of_ble_eq_true (by kernel_rfl)) ok_line_Parse ((S_line_Parse_eq ..).symm ▸ h)

/-- joinery/mark.letter -/
def S_mark_letter (P : Program) (p0 : Value) (w : World) (R : Value → World → Prop) : Prop :=
 XBin P .geq 21 false true p0 (Value.int .i32 97) w fun v4 w1 =>
 ∃ J1 : Value → World → Prop, (∀ (_jk1 : Env) (u7 : Value) (w2 : World), J1 u7 w2 →
 XPick v4 u7 (Value.bool false) fun q1 =>
 ∃ J2 : Value → World → Prop, (∀ (_jk2 : Env) (u12 : Value) (w3 : World), J2 u12 w3 →
 ∃ J3 : Value → World → Prop, (∀ (_jk3 : Env) (u14 : Value) (w4 : World), J3 u14 w4 →
 ∃ J4 : Value → World → Prop, (∀ (_jk4 : Env) (u15 : Value) (w5 : World), J4 u15 w5 →
 XPick q1 (Value.bool true) u15 fun q2 =>
 R q2 w5) ∧
 XG q1 false (
 XPick u12 u14 (Value.bool false) fun q3 =>
 J4 q3 w4) (J4 undef w4)) ∧
 XG u12 true (
 XBin P .leq 21 false true p0 (Value.int .i32 969) w3 fun v14 w6 =>
 J3 v14 w6) (J3 undef w3)) ∧
 XG q1 false (
 XBin P .geq 21 false true p0 (Value.int .i32 945) w2 fun v11 w7 =>
 J2 v11 w7) (J2 undef w2)) ∧
 XG v4 true (
 XBin P .leq 21 false true p0 (Value.int .i32 122) w1 fun v7 w8 =>
 J1 v7 w8) (J1 undef w1)
noncomputable def C_mark_letter : Code := (Tryz.f111.body).getD .skip
noncomputable def an_mark_letter : An := (.seq none (.reg []) (.seq none (.reg [[7], [12], [14], [15]]) .leaf))
theorem S_mark_letter_eq (P : Program) (p0 : Value) (w : World) (R : Value → World → Prop) : WPf P C_mark_letter Tryz.f111.results.toList an_mark_letter #[p0] w R = S_mark_letter P p0 w R := by kernel_rfl
theorem ok_mark_letter : okC Tryz.f111.ntmps C_mark_letter an_mark_letter = true := by kernel_rfl
theorem call_mark_letter {p0 w R} (h : S_mark_letter Tryz.prog p0 w R) : Ret Tryz.prog 111 #[p0] w R :=
  Ret_of_WPf mixed Tryz.func111 (by kernel_rfl) (Nat.le_of_ble_eq_true (by kernel_rfl)) ok_mark_letter ((S_mark_letter_eq ..).symm ▸ h)

/-- joinery/mark.digit -/
def S_mark_digit (P : Program) (p0 : Value) (w : World) (R : Value → World → Prop) : Prop :=
 XBin P .geq 21 false true p0 (Value.int .i32 48) w fun v4 w1 =>
 ∃ J1 : Value → World → Prop, (∀ (_jk1 : Env) (u7 : Value) (w2 : World), J1 u7 w2 →
 XPick v4 u7 (Value.bool false) fun q1 =>
 R q1 w2) ∧
 XG v4 true (
 XBin P .leq 21 false true p0 (Value.int .i32 57) w1 fun v7 w3 =>
 J1 v7 w3) (J1 undef w1)
noncomputable def C_mark_digit : Code := (Tryz.f112.body).getD .skip
noncomputable def an_mark_digit : An := (.seq none (.reg []) (.seq none (.reg [[7]]) .leaf))
theorem S_mark_digit_eq (P : Program) (p0 : Value) (w : World) (R : Value → World → Prop) : WPf P C_mark_digit Tryz.f112.results.toList an_mark_digit #[p0] w R = S_mark_digit P p0 w R := by kernel_rfl
theorem ok_mark_digit : okC Tryz.f112.ntmps C_mark_digit an_mark_digit = true := by kernel_rfl
theorem call_mark_digit {p0 w R} (h : S_mark_digit Tryz.prog p0 w R) : Ret Tryz.prog 112 #[p0] w R :=
  Ret_of_WPf mixed Tryz.func112 (by kernel_rfl) (Nat.le_of_ble_eq_true (by kernel_rfl)) ok_mark_digit ((S_mark_digit_eq ..).symm ▸ h)

/-- joinery/mark.Name -/
def S_mark_Name (P : Program) (p0 : Value) (w : World) (R : Value → World → Prop) : Prop :=
 XRange P 9 p0 w fun v6 w1 =>
 ∃ (I1 : World → Prop) (m1 : World → Nat), I1 w1 ∧ ∀ (_jk1 : Env) (w2 : World), I1 w2 →
 XNext P v6 true 0 w2 fun v7 w3 =>
 XExt P v7 0 w3 fun v8 w4 =>
 XC v8 (
 XExt P v7 1 w4 fun v9 w5 =>
 XExt P v7 2 w5 fun v10 w6 =>
 XCall P 111 #[v10] w6 fun v12 w7 =>
 XUn P .not v12 w7 fun v13 w8 =>
 ∃ J1 : Value → World → Prop, (∀ (_jk2 : Env) (u18 : Value) (w9 : World), J1 u18 w9 →
 ∃ J2 : Value → World → Prop, (∀ (_jk3 : Env) (u20 : Value) (w10 : World), J2 u20 w10 →
 ∃ J3 : Value → World → Prop, (∀ (_jk4 : Env) (u21 : Value) (w11 : World), J3 u21 w11 →
 XPick v13 u21 (Value.bool false) fun q1 =>
 XC q1 (
 R (Value.bool false) w11) (
 I1 w11 ∧ m1 w11 < m1 w2)) ∧
 XG v13 true (
 XPick u18 (Value.bool true) u20 fun q2 =>
 J3 q2 w10) (J3 undef w10)) ∧
 XG u18 false (
 XBin P .eql 3 false true v9 (Value.int .i64 0) w9 fun v20 w12 =>
 J2 v20 w12) (J2 undef w9)) ∧
 XG v13 true (
 XCall P 112 #[v10] w8 fun v16 w13 =>
 XUn P .not v16 w13 fun v17 w14 =>
 J1 v17 w14) (J1 undef w8)) (
 XBin P .neq 9 false true p0 (Value.string ⟨#[]⟩) w4 fun v24 w15 =>
 ∃ J4 : Value → World → Prop, (∀ (_jk5 : Env) (u28 : Value) (w16 : World), J4 u28 w16 →
 XPick v24 u28 (Value.bool false) fun q3 =>
 R q3 w16) ∧
 XG v24 true (
 XCall P 113 #[p0] w15 fun v27 w17 =>
 XBin P .leq 3 false true v27 (Value.int .i64 8) w17 fun v28 w18 =>
 J4 v28 w18) (J4 undef w15))
noncomputable def C_mark_Name : Code := (Tryz.f59.body).getD .skip
noncomputable def an_mark_Name : An := (.seq none (.reg []) (.seq none (.seq none (.reg []) (.block none (.loop [] (.seq none (.reg []) (.seq none (.cond .leaf .leaf) (.block none (.seq none (.reg []) (.seq none (.reg [[18], [20], [21]]) (.cond (.seq none (.reg []) .leaf) .leaf))))))))) (.seq none (.reg [[28]]) .leaf)))
theorem S_mark_Name_eq (P : Program) (p0 : Value) (w : World) (R : Value → World → Prop) : WPf P C_mark_Name Tryz.f59.results.toList an_mark_Name #[p0] w R = S_mark_Name P p0 w R := by kernel_rfl
theorem ok_mark_Name : okC Tryz.f59.ntmps C_mark_Name an_mark_Name = true := by kernel_rfl
theorem call_mark_Name {p0 w R} (h : S_mark_Name Tryz.prog p0 w R) : Ret Tryz.prog 59 #[p0] w R :=
  Ret_of_WPf mixed Tryz.func59 (by kernel_rfl) (Nat.le_of_ble_eq_true (by kernel_rfl)) ok_mark_Name ((S_mark_Name_eq ..).symm ▸ h)

/-- joinery/mark.Runes -/
def S_mark_Runes (P : Program) (p0 : Value) (w : World) (R : Value → World → Prop) : Prop :=
 XRange P 9 p0 w fun v5 w1 =>
 ∃ (I1 : Value → World → Prop) (m1 : Value → World → Nat), I1 (Value.int .i64 0) w1 ∧ ∀ (_jk1 : Env) (u3_n : Value) (w2 : World), I1 u3_n w2 →
 XNext P v5 true 0 w2 fun v6 w3 =>
 XExt P v6 0 w3 fun v7 w4 =>
 XC v7 (
 XBin P .add 3 false true u3_n (Value.int .i64 1) w4 fun v9 w5 =>
 I1 v9 w5 ∧ m1 v9 w5 < m1 u3_n w2) (
 R u3_n w4)
noncomputable def C_mark_Runes : Code := (Tryz.f113.body).getD .skip
noncomputable def an_mark_Runes : An := (.seq none (.reg []) (.seq none (.reg []) (.seq none (.seq none (.reg []) (.block none (.loop [3] (.seq none (.reg []) (.seq none (.cond .leaf .leaf) (.block none (.reg []))))))) (.seq none (.reg []) .leaf))))
theorem S_mark_Runes_eq (P : Program) (p0 : Value) (w : World) (R : Value → World → Prop) : WPf P C_mark_Runes Tryz.f113.results.toList an_mark_Runes #[p0] w R = S_mark_Runes P p0 w R := by kernel_rfl
theorem ok_mark_Runes : okC Tryz.f113.ntmps C_mark_Runes an_mark_Runes = true := by kernel_rfl
theorem call_mark_Runes {p0 w R} (h : S_mark_Runes Tryz.prog p0 w R) : Ret Tryz.prog 113 #[p0] w R :=
  Ret_of_WPf mixed Tryz.func113 (by kernel_rfl) (Nat.le_of_ble_eq_true (by kernel_rfl)) ok_mark_Runes ((S_mark_Runes_eq ..).symm ▸ h)

/-- joinery/mark.Set -/
def S_mark_Set (P : Program) (p0 : Value) (w : World) (R : Value → World → Prop) : Prop :=
 XB P .len #[27] 3 #[p0] w fun v6 w1 =>
 ∃ (I1 : Value → World → Prop) (m1 : Value → World → Nat), I1 (Value.int .i64 0) w1 ∧ ∀ (_jk1 : Env) (u7 : Value) (w2 : World), I1 u7 w2 →
 XBin P .lss 3 false false u7 v6 w2 fun v8 w3 =>
 XC v8 (
 XIdx P 27 p0 u7 w3 fun v10 w4 =>
 XLoad P 9 v10 w4 fun v11 w5 =>
 XCall P 59 #[v11] w5 fun v13 w6 =>
 XUn P .not v13 w6 fun v14 w7 =>
 ∃ J1 : Value → World → Prop, (∀ (_jk2 : Env) (u18 : Value) (w8 : World), J1 u18 w8 →
 ∃ J2 : Value → World → Prop, (∀ (_jk3 : Env) (u25 : Value) (w9 : World), J2 u25 w9 →
 ∃ J3 : Value → World → Prop, (∀ (_jk4 : Env) (u26 : Value) (w10 : World), J3 u26 w10 →
 XPick v14 (Value.bool true) u26 fun q1 =>
 XC q1 (
 R (Value.bool false) w10) (
 XBin P .add 3 false true u7 (Value.int .i64 1) w10 fun v28 w11 =>
 I1 v28 w11 ∧ m1 v28 w11 < m1 u7 w2)) ∧
 XG v14 false (
 XPick u18 u25 (Value.bool false) fun q2 =>
 J3 q2 w9) (J3 undef w9)) ∧
 XG u18 true (
 XBin P .sub 3 false true u7 (Value.int .i64 1) w8 fun v21 w12 =>
 XIdx P 27 p0 v21 w12 fun v22 w13 =>
 XLoad P 9 v22 w13 fun v23 w14 =>
 XBin P .geq 9 false false v23 v11 w14 fun v25 w15 =>
 J2 v25 w15) (J2 undef w8)) ∧
 XG v14 false (
 XBin P .gtr 3 false true u7 (Value.int .i64 0) w7 fun v17 w16 =>
 J1 v17 w16) (J1 undef w7)) (
 XB P .len #[27] 3 #[p0] w3 fun v30 w17 =>
 XBin P .leq 3 false true v30 (Value.int .i64 4) w17 fun v31 w18 =>
 R v31 w18)
noncomputable def C_mark_Set : Code := (Tryz.f110.body).getD .skip
noncomputable def an_mark_Set : An := (.seq none (.reg []) (.seq none (.seq none (.reg []) (.block none (.loop [7] (.seq none (.reg []) (.seq none (.cond .leaf .leaf) (.seq none (.block none (.seq none (.reg []) (.seq none (.reg [[18], [25], [26]]) (.cond (.seq none (.reg []) .leaf) .leaf)))) (.reg []))))))) (.seq none (.reg []) .leaf)))
theorem S_mark_Set_eq (P : Program) (p0 : Value) (w : World) (R : Value → World → Prop) : WPf P C_mark_Set Tryz.f110.results.toList an_mark_Set #[p0] w R = S_mark_Set P p0 w R := by kernel_rfl
theorem ok_mark_Set : okC Tryz.f110.ntmps C_mark_Set an_mark_Set = true := by kernel_rfl
theorem call_mark_Set {p0 w R} (h : S_mark_Set Tryz.prog p0 w R) : Ret Tryz.prog 110 #[p0] w R :=
  Ret_of_WPf mixed Tryz.func110 (by kernel_rfl) (Nat.le_of_ble_eq_true (by kernel_rfl)) ok_mark_Set ((S_mark_Set_eq ..).symm ▸ h)

/-- joinery/spec.part -/
def S_spec_part (P : Program) (p0 : Value) (w : World) (R : Value → World → Prop) : Prop :=
 XBin P .geq 3 false true p0 (Value.int .i64 0) w fun v4 w1 =>
 ∃ J1 : Value → World → Prop, (∀ (_jk1 : Env) (u7 : Value) (w2 : World), J1 u7 w2 →
 XPick v4 u7 (Value.bool false) fun q1 =>
 R q1 w2) ∧
 XG v4 true (
 XBin P .leq 3 false true p0 (Value.int .i64 1099511627776) w1 fun v7 w3 =>
 J1 v7 w3) (J1 undef w1)
noncomputable def C_spec_part : Code := (Tryz.f139.body).getD .skip
noncomputable def an_spec_part : An := (.seq none (.reg []) (.seq none (.reg [[7]]) .leaf))
theorem S_spec_part_eq (P : Program) (p0 : Value) (w : World) (R : Value → World → Prop) : WPf P C_spec_part Tryz.f139.results.toList an_spec_part #[p0] w R = S_spec_part P p0 w R := by kernel_rfl
theorem ok_spec_part : okC Tryz.f139.ntmps C_spec_part an_spec_part = true := by kernel_rfl
theorem call_spec_part {p0 w R} (h : S_spec_part Tryz.prog p0 w R) : Ret Tryz.prog 139 #[p0] w R :=
  Ret_of_WPf mixed Tryz.func139 (by kernel_rfl) (Nat.le_of_ble_eq_true (by kernel_rfl)) ok_spec_part ((S_spec_part_eq ..).symm ▸ h)

/-- joinery/spec.room -/
def S_spec_room (P : Program) (p0 : Value) (w : World) (R : Value → World → Prop) : Prop :=
 XBox P 26 p0 w fun v1 w1 =>
 XFld P 26 v1 0 w1 fun v3 w2 =>
 XLoad P 3 v3 w2 fun v4 w3 =>
 XCall P 139 #[v4] w3 fun v5 w4 =>
 ∃ J1 : Value → World → Prop, (∀ (_jk1 : Env) (u9 : Value) (w5 : World), J1 u9 w5 →
 XPick v5 u9 (Value.bool false) fun q1 =>
 R q1 w5) ∧
 XG v5 true (
 XFld P 26 v1 1 w4 fun v7 w6 =>
 XLoad P 3 v7 w6 fun v8 w7 =>
 XCall P 139 #[v8] w7 fun v9 w8 =>
 J1 v9 w8) (J1 undef w4)
noncomputable def C_spec_room : Code := (Tryz.f109.body).getD .skip
noncomputable def an_spec_room : An := (.seq none (.reg []) (.seq none (.reg [[9]]) .leaf))
theorem S_spec_room_eq (P : Program) (p0 : Value) (w : World) (R : Value → World → Prop) : WPf P C_spec_room Tryz.f109.results.toList an_spec_room #[p0] w R = S_spec_room P p0 w R := by kernel_rfl
theorem ok_spec_room : okC Tryz.f109.ntmps C_spec_room an_spec_room = true := by kernel_rfl
theorem call_spec_room {p0 w R} (h : S_spec_room Tryz.prog p0 w R) : Ret Tryz.prog 109 #[p0] w R :=
  Ret_of_WPf mixed Tryz.func109 (by kernel_rfl) (Nat.le_of_ble_eq_true (by kernel_rfl)) ok_spec_room ((S_spec_room_eq ..).symm ▸ h)

/-- joinery/spec.Node -/
def S_spec_Node (P : Program) (p0 : Value) (w : World) (R : Value → World → Prop) : Prop :=
 XBox P 29 p0 w fun v1 w1 =>
 XFld P 29 v1 0 w1 fun v4 w2 =>
 XLoad P 9 v4 w2 fun v5 w3 =>
 XCall P 59 #[v5] w3 fun v6 w4 =>
 XUn P .not v6 w4 fun v7 w5 =>
 XC v7 (
 R (Value.int .i64 1) w5) (
 XFld P 29 v1 1 w5 fun v9 w6 =>
 XLoad P 26 v9 w6 fun v10 w7 =>
 XCall P 109 #[v10] w7 fun v11 w8 =>
 XUn P .not v11 w8 fun v12 w9 =>
 XC v12 (
 R (Value.int .i64 2) w9) (
 XFld P 29 v1 2 w9 fun v14 w10 =>
 XLoad P 27 v14 w10 fun v15 w11 =>
 XCall P 110 #[v15] w11 fun v16 w12 =>
 XUn P .not v16 w12 fun v17 w13 =>
 ∃ J1 : Value → World → Prop, (∀ (_jk1 : Env) (u22 : Value) (w14 : World), J1 u22 w14 →
 XPick v17 (Value.bool true) u22 fun q1 =>
 XC q1 (
 R (Value.int .i64 1) w14) (
 R (Value.int .i64 0) w14)) ∧
 XG v17 false (
 XFld P 29 v1 3 w13 fun v19 w15 =>
 XLoad P 27 v19 w15 fun v20 w16 =>
 XCall P 110 #[v20] w16 fun v21 w17 =>
 XUn P .not v21 w17 fun v22 w18 =>
 J1 v22 w18) (J1 undef w13)))
noncomputable def C_spec_Node : Code := (Tryz.f58.body).getD .skip
noncomputable def an_spec_Node : An := (.seq none (.reg []) (.seq none (.block none (.seq none (.reg []) (.cond (.seq none (.reg []) .leaf) (.seq none (.reg []) (.cond (.seq none (.reg []) .leaf) (.seq none (.reg [[22]]) (.cond (.seq none (.reg []) .leaf) .leaf))))))) (.seq none (.reg []) .leaf)))
theorem S_spec_Node_eq (P : Program) (p0 : Value) (w : World) (R : Value → World → Prop) : WPf P C_spec_Node Tryz.f58.results.toList an_spec_Node #[p0] w R = S_spec_Node P p0 w R := by kernel_rfl
theorem ok_spec_Node : okC Tryz.f58.ntmps C_spec_Node an_spec_Node = true := by kernel_rfl
theorem call_spec_Node {p0 w R} (h : S_spec_Node Tryz.prog p0 w R) : Ret Tryz.prog 58 #[p0] w R :=
  Ret_of_WPf mixed Tryz.func58 (by kernel_rfl) (Nat.le_of_ble_eq_true (by kernel_rfl)) ok_spec_Node ((S_spec_Node_eq ..).symm ▸ h)

/-- slices.Clone[[]joinery/api.Place,joinery/api.Place] -/
def S_slices_Clone_api_Place_api_Place (P : Program) (p0 : Value) (w : World) (R : Value → World → Prop) : Prop :=
 XBin P .eql 24 false true p0 (Value.slice none 0 0) w fun v4 w1 =>
 XC v4 (
 R (Value.slice none 0 0) w1) (
 XBuildS P 24 0 #[] w1 fun v5 w2 =>
 XB P .append #[24, 24] 24 #[v5, p0] w2 fun v7 w3 =>
 R v7 w3)
noncomputable def C_slices_Clone_api_Place_api_Place : Code := (Tryz.f93.body).getD .skip
noncomputable def an_slices_Clone_api_Place_api_Place : An := (.seq none (.reg []) (.seq none (.seq none (.reg []) (.cond (.seq none (.reg []) .leaf) .leaf)) (.seq none (.reg []) .leaf)))
theorem S_slices_Clone_api_Place_api_Place_eq (P : Program) (p0 : Value) (w : World) (R : Value → World → Prop) : WPf P C_slices_Clone_api_Place_api_Place Tryz.f93.results.toList an_slices_Clone_api_Place_api_Place #[p0] w R = S_slices_Clone_api_Place_api_Place P p0 w R := by kernel_rfl
theorem ok_slices_Clone_api_Place_api_Place : okC Tryz.f93.ntmps C_slices_Clone_api_Place_api_Place an_slices_Clone_api_Place_api_Place = true := by kernel_rfl
theorem call_slices_Clone_api_Place_api_Place {p0 w R} (h : S_slices_Clone_api_Place_api_Place Tryz.prog p0 w R) : Ret Tryz.prog 93 #[p0] w R :=
  Ret_of_WPf mixed Tryz.func93 (by kernel_rfl) (Nat.le_of_ble_eq_true (by kernel_rfl)) ok_slices_Clone_api_Place_api_Place ((S_slices_Clone_api_Place_api_Place_eq ..).symm ▸ h)

abbrev F_line_kind : FuncId := 86
theorem en_line_kind (args : Array Value) (w : World) : (callFunc 86 args).run Tryz.prog w = .ok (.enter 86 args) w := by kernel_rfl
abbrev F_line_gangs : FuncId := 107
theorem en_line_gangs (args : Array Value) (w : World) : (callFunc 107 args).run Tryz.prog w = .ok (.enter 107 args) w := by kernel_rfl
abbrev F_line_peered : FuncId := 48
theorem en_line_peered (args : Array Value) (w : World) : (callFunc 48 args).run Tryz.prog w = .ok (.enter 48 args) w := by kernel_rfl
abbrev F_line_bare : FuncId := 108
theorem en_line_bare (args : Array Value) (w : World) : (callFunc 108 args).run Tryz.prog w = .ok (.enter 108 args) w := by kernel_rfl
abbrev F_line_more : FuncId := 57
theorem en_line_more (args : Array Value) (w : World) : (callFunc 57 args).run Tryz.prog w = .ok (.enter 57 args) w := by kernel_rfl
abbrev F_line_rising : FuncId := 60
theorem en_line_rising (args : Array Value) (w : World) : (callFunc 60 args).run Tryz.prog w = .ok (.enter 60 args) w := by kernel_rfl
abbrev F_line_size : FuncId := 114
theorem en_line_size (args : Array Value) (w : World) : (callFunc 114 args).run Tryz.prog w = .ok (.enter 114 args) w := by kernel_rfl
abbrev F_line_places : FuncId := 61
theorem en_line_places (args : Array Value) (w : World) : (callFunc 61 args).run Tryz.prog w = .ok (.enter 61 args) w := by kernel_rfl
abbrev F_line_Check : FuncId := 22
theorem en_line_Check (args : Array Value) (w : World) : (callFunc 22 args).run Tryz.prog w = .ok (.enter 22 args) w := by kernel_rfl
abbrev F_line_vec : FuncId := 44
theorem en_line_vec (args : Array Value) (w : World) : (callFunc 44 args).run Tryz.prog w = .ok (.enter 44 args) w := by kernel_rfl
abbrev F_line_flag : FuncId := 46
theorem en_line_flag (args : Array Value) (w : World) : (callFunc 46 args).run Tryz.prog w = .ok (.enter 46 args) w := by kernel_rfl
abbrev F_line_signed : FuncId := 45
theorem en_line_signed (args : Array Value) (w : World) : (callFunc 45 args).run Tryz.prog w = .ok (.enter 45 args) w := by kernel_rfl
abbrev F_line_Text : FuncId := 17
theorem en_line_Text (args : Array Value) (w : World) : (callFunc 17 args).run Tryz.prog w = .ok (.enter 17 args) w := by kernel_rfl
abbrev F_line_parting : FuncId := 128
theorem en_line_parting (args : Array Value) (w : World) : (callFunc 128 args).run Tryz.prog w = .ok (.enter 128 args) w := by kernel_rfl
abbrev F_line_reader_name : FuncId := 88
theorem en_line_reader_name (args : Array Value) (w : World) : (callFunc 88 args).run Tryz.prog w = .ok (.enter 88 args) w := by kernel_rfl
abbrev F_line_reader_sign : FuncId := 127
theorem en_line_reader_sign (args : Array Value) (w : World) : (callFunc 127 args).run Tryz.prog w = .ok (.enter 127 args) w := by kernel_rfl
abbrev F_line_reader_must : FuncId := 124
theorem en_line_reader_must (args : Array Value) (w : World) : (callFunc 124 args).run Tryz.prog w = .ok (.enter 124 args) w := by kernel_rfl
abbrev F_line_reader_number : FuncId := 89
theorem en_line_reader_number (args : Array Value) (w : World) : (callFunc 89 args).run Tryz.prog w = .ok (.enter 89 args) w := by kernel_rfl
abbrev F_line_reader_vec : FuncId := 125
theorem en_line_reader_vec (args : Array Value) (w : World) : (callFunc 125 args).run Tryz.prog w = .ok (.enter 125 args) w := by kernel_rfl
abbrev F_line_reader_signed : FuncId := 126
theorem en_line_reader_signed (args : Array Value) (w : World) : (callFunc 126 args).run Tryz.prog w = .ok (.enter 126 args) w := by kernel_rfl
abbrev F_line_reader_node : FuncId := 87
theorem en_line_reader_node (args : Array Value) (w : World) : (callFunc 87 args).run Tryz.prog w = .ok (.enter 87 args) w := by kernel_rfl
abbrev F_line_reader_place : FuncId := 92
theorem en_line_reader_place (args : Array Value) (w : World) : (callFunc 92 args).run Tryz.prog w = .ok (.enter 92 args) w := by kernel_rfl
abbrev F_line_reader_peers : FuncId := 91
theorem en_line_reader_peers (args : Array Value) (w : World) : (callFunc 91 args).run Tryz.prog w = .ok (.enter 91 args) w := by kernel_rfl
abbrev F_line_reader_end : FuncId := 90
theorem en_line_reader_end (args : Array Value) (w : World) : (callFunc 90 args).run Tryz.prog w = .ok (.enter 90 args) w := by kernel_rfl
abbrev F_line_words : FuncId := 51
theorem en_line_words (args : Array Value) (w : World) : (callFunc 51 args).run Tryz.prog w = .ok (.enter 51 args) w := by kernel_rfl
abbrev F_line_read : FuncId := 50
theorem en_line_read (args : Array Value) (w : World) : (callFunc 50 args).run Tryz.prog w = .ok (.enter 50 args) w := by kernel_rfl
abbrev F_line_Parse : FuncId := 19
theorem en_line_Parse (args : Array Value) (w : World) : (callFunc 19 args).run Tryz.prog w = .ok (.enter 19 args) w := by kernel_rfl
abbrev F_mark_letter : FuncId := 111
theorem en_mark_letter (args : Array Value) (w : World) : (callFunc 111 args).run Tryz.prog w = .ok (.enter 111 args) w := by kernel_rfl
abbrev F_mark_digit : FuncId := 112
theorem en_mark_digit (args : Array Value) (w : World) : (callFunc 112 args).run Tryz.prog w = .ok (.enter 112 args) w := by kernel_rfl
abbrev F_mark_Name : FuncId := 59
theorem en_mark_Name (args : Array Value) (w : World) : (callFunc 59 args).run Tryz.prog w = .ok (.enter 59 args) w := by kernel_rfl
abbrev F_mark_Runes : FuncId := 113
theorem en_mark_Runes (args : Array Value) (w : World) : (callFunc 113 args).run Tryz.prog w = .ok (.enter 113 args) w := by kernel_rfl
abbrev F_mark_Set : FuncId := 110
theorem en_mark_Set (args : Array Value) (w : World) : (callFunc 110 args).run Tryz.prog w = .ok (.enter 110 args) w := by kernel_rfl
abbrev F_spec_part : FuncId := 139
theorem en_spec_part (args : Array Value) (w : World) : (callFunc 139 args).run Tryz.prog w = .ok (.enter 139 args) w := by kernel_rfl
abbrev F_spec_room : FuncId := 109
theorem en_spec_room (args : Array Value) (w : World) : (callFunc 109 args).run Tryz.prog w = .ok (.enter 109 args) w := by kernel_rfl
abbrev F_spec_Node : FuncId := 58
theorem en_spec_Node (args : Array Value) (w : World) : (callFunc 58 args).run Tryz.prog w = .ok (.enter 58 args) w := by kernel_rfl
abbrev F_slices_Clone_api_Place_api_Place : FuncId := 93
theorem en_slices_Clone_api_Place_api_Place (args : Array Value) (w : World) : (callFunc 93 args).run Tryz.prog w = .ok (.enter 93 args) w := by kernel_rfl
abbrev F_strings_CutPrefix : FuncId := 151
theorem en_strings_CutPrefix (args : Array Value) (w : World) : (callFunc 151 args).run Tryz.prog w = .ok (.enter 151 args) w := by kernel_rfl
abbrev F_strings_Split : FuncId := 94
theorem en_strings_Split (args : Array Value) (w : World) : (callFunc 94 args).run Tryz.prog w = .ok (.enter 94 args) w := by kernel_rfl
abbrev F_strings_Fields : FuncId := 43
theorem en_strings_Fields (args : Array Value) (w : World) : (callFunc 43 args).run Tryz.prog w = .ok (.enter 43 args) w := by kernel_rfl
abbrev F_strings_Join : FuncId := 49
theorem en_strings_Join (args : Array Value) (w : World) : (callFunc 49 args).run Tryz.prog w = .ok (.enter 49 args) w := by kernel_rfl
abbrev F_strconv_Itoa : FuncId := 47
theorem en_strconv_Itoa (args : Array Value) (w : World) : (callFunc 47 args).run Tryz.prog w = .ok (.enter 47 args) w := by kernel_rfl
abbrev F_slices_Index_string_string : FuncId := 123
theorem en_slices_Index_string_string (args : Array Value) (w : World) : (callFunc 123 args).run Tryz.prog w = .ok (.enter 123 args) w := by kernel_rfl
abbrev F_slices_Contains_string_string : FuncId := 95
theorem en_slices_Contains_string_string (args : Array Value) (w : World) : (callFunc 95 args).run Tryz.prog w = .ok (.enter 95 args) w := by kernel_rfl
abbrev F_slices_Clone_int_int : FuncId := 129
theorem en_slices_Clone_int_int (args : Array Value) (w : World) : (callFunc 129 args).run Tryz.prog w = .ok (.enter 129 args) w := by kernel_rfl
abbrev F_slices_Clone_string_string : FuncId := 150
theorem en_slices_Clone_string_string (args : Array Value) (w : World) : (callFunc 150 args).run Tryz.prog w = .ok (.enter 150 args) w := by kernel_rfl
abbrev F_slices_Sort_string_string : FuncId := 115
theorem en_slices_Sort_string_string (args : Array Value) (w : World) : (callFunc 115 args).run Tryz.prog w = .ok (.enter 115 args) w := by kernel_rfl
abbrev F_slices_Compact_string_string : FuncId := 116
theorem en_slices_Compact_string_string (args : Array Value) (w : World) : (callFunc 116 args).run Tryz.prog w = .ok (.enter 116 args) w := by kernel_rfl

end Go.Proofs.YthkgbajldkicfaaGreatDoor
