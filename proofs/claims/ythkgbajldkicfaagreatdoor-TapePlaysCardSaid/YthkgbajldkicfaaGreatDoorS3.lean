/-
  Shallow forms: the laws of lines. Each is the precondition of a Go function, computed over its code; that both are one is checked by the kernel.
-/
import Derived.Test.YthkgbajldkicfaaGreatDoorTypes
namespace Go.Proofs.YthkgbajldkicfaaGreatDoor
set_option linter.unusedVariables false
set_option linter.unusedSimpArgs false
open Go Go.Jo
set_option linter.unusedVariables false
set_option maxRecDepth 100000
/-- joinery/joinerylaw2.within -/
def S_joinerylaw2_within (P : Program) (p0 p1 : Value) (w : World) (R : Value → World → Prop) : Prop :=
 XBin P .rem 3 false false p0 p1 w fun v8 w1 =>
 XBin P .lss 3 false true v8 (Value.int .i64 0) w1 fun v10 w2 =>
 XC v10 (
 XBin P .add 3 false false v8 p1 w2 fun v13 w3 =>
 R v13 w3) (
 R v8 w2)
noncomputable def C_joinerylaw2_within : Code := (Tryz.f79.body).getD .skip
noncomputable def an_joinerylaw2_within : An := (.seq none (.reg []) (.seq none (.reg []) (.seq none (.seq none (.reg []) (.cond (.reg []) .leaf)) (.seq none (.reg []) .leaf))))
theorem S_joinerylaw2_within_eq (P : Program) (p0 p1 : Value) (w : World) (R : Value → World → Prop) : WPf P C_joinerylaw2_within Tryz.f79.results.toList an_joinerylaw2_within #[p0, p1] w R = S_joinerylaw2_within P p0 p1 w R := by kernel_rfl
theorem ok_joinerylaw2_within : okC Tryz.f79.ntmps C_joinerylaw2_within an_joinerylaw2_within = true := by kernel_rfl
theorem call_joinerylaw2_within {p0 p1 w R} (h : S_joinerylaw2_within Tryz.prog p0 p1 w R) : Ret Tryz.prog 79 #[p0, p1] w R :=
  Ret_of_WPf mixed Tryz.func79 (by kernel_rfl) (Nat.le_of_ble_eq_true (by kernel_rfl)) ok_joinerylaw2_within ((S_joinerylaw2_within_eq ..).symm ▸ h)

/-- joinery/joinerylaw2.Name -/
def S_joinerylaw2_Name (P : Program) (p0 : Value) (w : World) (R : Value → World → Prop) : Prop :=
 XBuildS P 27 8 #[(0, (Value.string ⟨#[97]⟩)), (1, (Value.string ⟨#[98]⟩)), (2, (Value.string ⟨#[206, 177]⟩)), (3, (Value.string ⟨#[207, 137, 57]⟩)), (4, (Value.string ⟨#[110, 49]⟩)), (5, (Value.string ⟨#[110, 50]⟩)), (6, (Value.string ⟨#[206, 178, 206, 179, 206, 180, 206, 181, 206, 182, 206, 183, 206, 184, 206, 185]⟩)), (7, (Value.string ⟨#[122, 122]⟩))] w fun v3 w1 =>
 XCall P 79 #[p0, (Value.int .i64 8)] w1 fun v5 w2 =>
 XIdx P 27 v3 v5 w2 fun v6 w3 =>
 XLoad P 9 v6 w3 fun v7 w4 =>
 R v7 w4
noncomputable def C_joinerylaw2_Name : Code := (Tryz.f41.body).getD .skip
noncomputable def an_joinerylaw2_Name : An := (.seq none (.reg []) (.seq none (.reg []) .leaf))
theorem S_joinerylaw2_Name_eq (P : Program) (p0 : Value) (w : World) (R : Value → World → Prop) : WPf P C_joinerylaw2_Name Tryz.f41.results.toList an_joinerylaw2_Name #[p0] w R = S_joinerylaw2_Name P p0 w R := by kernel_rfl
theorem ok_joinerylaw2_Name : okC Tryz.f41.ntmps C_joinerylaw2_Name an_joinerylaw2_Name = true := by kernel_rfl
theorem call_joinerylaw2_Name {p0 w R} (h : S_joinerylaw2_Name Tryz.prog p0 w R) : Ret Tryz.prog 41 #[p0] w R :=
  Ret_of_WPf mixed Tryz.func41 (by kernel_rfl) (Nat.le_of_ble_eq_true (by kernel_rfl)) ok_joinerylaw2_Name ((S_joinerylaw2_Name_eq ..).symm ▸ h)

/-- joinery/joinerylaw2.Set -/
def S_joinerylaw2_Set (P : Program) (p0 : Value) (w : World) (R : Value → World → Prop) : Prop :=
 XBuildS P 27 4 #[(0, (Value.string ⟨#[98, 105, 103]⟩)), (1, (Value.string ⟨#[115, 115, 100]⟩)), (2, (Value.string ⟨#[119, 101, 115, 116]⟩)), (3, (Value.string ⟨#[206, 179]⟩))] w fun v6 w1 =>
 ∃ (I1 : Value → Value → World → Prop) (m1 : Value → Value → World → Nat), I1 (Value.slice none 0 0) (Value.int .i64 0) w1 ∧ ∀ (_jk1 : Env) (u4_out u5_i : Value) (w2 : World), I1 u4_out u5_i w2 →
 XBin P .lss 3 false true u5_i (Value.int .i64 4) w2 fun v8 w3 =>
 XC v8 (
 XConv P 3 111 u5_i w3 fun v13 w4 =>
 XBin P .shr 3 false false p0 v13 w4 fun v14 w5 =>
 XCall P 79 #[v14, (Value.int .i64 2)] w5 fun v15 w6 =>
 XBin P .eql 3 false true v15 (Value.int .i64 1) w6 fun v16 w7 =>
 XC v16 (
 XIdx P 27 v6 u5_i w7 fun v20 w8 =>
 XLoad P 9 v20 w8 fun v21 w9 =>
 XBuildS P 27 1 #[(0, v21)] w9 fun v22 w10 =>
 XB P .append #[27, 27] 27 #[u4_out, v22] w10 fun v23 w11 =>
 XBin P .add 3 false true u5_i (Value.int .i64 1) w11 fun v10 w12 =>
 I1 v23 v10 w12 ∧ m1 v23 v10 w12 < m1 u4_out u5_i w2) (
 XBin P .add 3 false true u5_i (Value.int .i64 1) w7 fun v10_2 w13 =>
 I1 u4_out v10_2 w13 ∧ m1 u4_out v10_2 w13 < m1 u4_out u5_i w2)) (
 R u4_out w3)
noncomputable def C_joinerylaw2_Set : Code := (Tryz.f78.body).getD .skip
noncomputable def an_joinerylaw2_Set : An := (.seq none (.reg []) (.seq none (.reg []) (.seq none (.reg []) (.seq none (.seq none (.reg []) (.block none (.loop [4, 5] (.seq none (.seq none (.reg []) (.cond .leaf .leaf)) (.seq none (.block none (.seq none (.reg []) (.cond (.reg []) .leaf))) (.reg [])))))) (.seq none (.reg []) .leaf)))))
theorem S_joinerylaw2_Set_eq (P : Program) (p0 : Value) (w : World) (R : Value → World → Prop) : WPf P C_joinerylaw2_Set Tryz.f78.results.toList an_joinerylaw2_Set #[p0] w R = S_joinerylaw2_Set P p0 w R := by kernel_rfl
theorem ok_joinerylaw2_Set : okC Tryz.f78.ntmps C_joinerylaw2_Set an_joinerylaw2_Set = true := by kernel_rfl
theorem call_joinerylaw2_Set {p0 w R} (h : S_joinerylaw2_Set Tryz.prog p0 w R) : Ret Tryz.prog 78 #[p0] w R :=
  Ret_of_WPf mixed Tryz.func78 (by kernel_rfl) (Nat.le_of_ble_eq_true (by kernel_rfl)) ok_joinerylaw2_Set ((S_joinerylaw2_Set_eq ..).symm ▸ h)

/-- joinery/joinerylaw3.within -/
def S_joinerylaw3_within (P : Program) (p0 p1 : Value) (w : World) (R : Value → World → Prop) : Prop :=
 XBin P .rem 3 false false p0 p1 w fun v8 w1 =>
 XBin P .lss 3 false true v8 (Value.int .i64 0) w1 fun v10 w2 =>
 XC v10 (
 XBin P .add 3 false false v8 p1 w2 fun v13 w3 =>
 R v13 w3) (
 R v8 w2)
noncomputable def C_joinerylaw3_within : Code := (Tryz.f77.body).getD .skip
noncomputable def an_joinerylaw3_within : An := (.seq none (.reg []) (.seq none (.reg []) (.seq none (.seq none (.reg []) (.cond (.reg []) .leaf)) (.seq none (.reg []) .leaf))))
theorem S_joinerylaw3_within_eq (P : Program) (p0 p1 : Value) (w : World) (R : Value → World → Prop) : WPf P C_joinerylaw3_within Tryz.f77.results.toList an_joinerylaw3_within #[p0, p1] w R = S_joinerylaw3_within P p0 p1 w R := by kernel_rfl
theorem ok_joinerylaw3_within : okC Tryz.f77.ntmps C_joinerylaw3_within an_joinerylaw3_within = true := by kernel_rfl
theorem call_joinerylaw3_within {p0 p1 w R} (h : S_joinerylaw3_within Tryz.prog p0 p1 w R) : Ret Tryz.prog 77 #[p0, p1] w R :=
  Ret_of_WPf mixed Tryz.func77 (by kernel_rfl) (Nat.le_of_ble_eq_true (by kernel_rfl)) ok_joinerylaw3_within ((S_joinerylaw3_within_eq ..).symm ▸ h)

/-- joinery/joinerylaw3.Node -/
def S_joinerylaw3_Node (P : Program) (p0 p1 : Value) (w : World) (R : Value → World → Prop) : Prop :=
 XAlloc P 29 w fun v4 w1 =>
 XCall P 41 #[p0] w1 fun v7 w2 =>
 XCall P 77 #[p1, (Value.int .i64 12)] w2 fun v9 w3 =>
 XBin P .quo 3 false true p1 (Value.int .i64 12) w3 fun v11 w4 =>
 XCall P 77 #[v11, (Value.int .i64 12)] w4 fun v12 w5 =>
 XBuild P 26 #[(0, v9), (1, v12)] w5 fun v13 w6 =>
 XBin P .quo 3 false true p1 (Value.int .i64 144) w6 fun v15 w7 =>
 XCall P 78 #[v15] w7 fun v16 w8 =>
 XBin P .quo 3 false true p1 (Value.int .i64 17) w8 fun v18 w9 =>
 XCall P 77 #[v18, (Value.int .i64 9)] w9 fun v19 w10 =>
 XBin P .eql 3 false true v19 (Value.int .i64 0) w10 fun v20 w11 =>
 XBuild P 29 #[(0, v7), (1, v13), (2, v16), (4, v20)] w11 fun v21 w12 =>
 XAlloc P 29 w12 fun v5 w13 =>
 XStore P 29 v5 v21 w13 fun w14 =>
 XBin P .quo 3 false true p1 (Value.int .i64 23) w14 fun v23 w15 =>
 XCall P 77 #[v23, (Value.int .i64 3)] w15 fun v24 w16 =>
 XBin P .eql 3 false true v24 (Value.int .i64 0) w16 fun v25 w17 =>
 XC v25 (
 XBin P .quo 3 false true p1 (Value.int .i64 31) w17 fun v27 w18 =>
 XCall P 78 #[v27] w18 fun v28 w19 =>
 XFld P 29 v5 3 w19 fun v29 w20 =>
 XStore P 27 v29 v28 w20 fun w21 =>
 XLoad P 29 v5 w21 fun v30 w22 =>
 XStore P 29 v4 v30 w22 fun w23 =>
 XLoad P 29 v4 w23 fun r1 w24 => w24 = w23 ∧ R r1 w23) (
 XLoad P 29 v5 w17 fun v30_2 w25 =>
 XStore P 29 v4 v30_2 w25 fun w26 =>
 XLoad P 29 v4 w26 fun r2 w27 => w27 = w26 ∧ R r2 w26)
noncomputable def C_joinerylaw3_Node : Code := (Tryz.f40.body).getD .skip
noncomputable def an_joinerylaw3_Node : An := (.seq none (.reg []) (.seq none (.reg []) (.seq none (.seq none (.reg []) (.cond (.reg []) .leaf)) (.seq none (.reg []) .leaf))))
theorem S_joinerylaw3_Node_eq (P : Program) (p0 p1 : Value) (w : World) (R : Value → World → Prop) : WPf P C_joinerylaw3_Node Tryz.f40.results.toList an_joinerylaw3_Node #[p0, p1] w R = S_joinerylaw3_Node P p0 p1 w R := by kernel_rfl
theorem ok_joinerylaw3_Node : okC Tryz.f40.ntmps C_joinerylaw3_Node an_joinerylaw3_Node = true := by kernel_rfl
theorem call_joinerylaw3_Node {p0 p1 w R} (h : S_joinerylaw3_Node Tryz.prog p0 p1 w R) : Ret Tryz.prog 40 #[p0, p1] w R :=
  Ret_of_WPf mixed Tryz.func40 (by kernel_rfl) (Nat.le_of_ble_eq_true (by kernel_rfl)) ok_joinerylaw3_Node ((S_joinerylaw3_Node_eq ..).symm ▸ h)

/-- joinery/joinerylaw4.within -/
def S_joinerylaw4_within (P : Program) (p0 p1 : Value) (w : World) (R : Value → World → Prop) : Prop :=
 XBin P .rem 3 false false p0 p1 w fun v8 w1 =>
 XBin P .lss 3 false true v8 (Value.int .i64 0) w1 fun v10 w2 =>
 XC v10 (
 XBin P .add 3 false false v8 p1 w2 fun v13 w3 =>
 R v13 w3) (
 R v8 w2)
noncomputable def C_joinerylaw4_within : Code := (Tryz.f18.body).getD .skip
noncomputable def an_joinerylaw4_within : An := (.seq none (.reg []) (.seq none (.reg []) (.seq none (.seq none (.reg []) (.cond (.reg []) .leaf)) (.seq none (.reg []) .leaf))))
theorem S_joinerylaw4_within_eq (P : Program) (p0 p1 : Value) (w : World) (R : Value → World → Prop) : WPf P C_joinerylaw4_within Tryz.f18.results.toList an_joinerylaw4_within #[p0, p1] w R = S_joinerylaw4_within P p0 p1 w R := by kernel_rfl
theorem ok_joinerylaw4_within : okC Tryz.f18.ntmps C_joinerylaw4_within an_joinerylaw4_within = true := by kernel_rfl
theorem call_joinerylaw4_within {p0 p1 w R} (h : S_joinerylaw4_within Tryz.prog p0 p1 w R) : Ret Tryz.prog 18 #[p0, p1] w R :=
  Ret_of_WPf mixed Tryz.func18 (by kernel_rfl) (Nat.le_of_ble_eq_true (by kernel_rfl)) ok_joinerylaw4_within ((S_joinerylaw4_within_eq ..).symm ▸ h)

/-- joinery/joinerylaw4.Peers -/
def S_joinerylaw4_Peers (P : Program) (p0 : Value) (w : World) (R : Value → World → Prop) : Prop :=
 ∃ (I1 : Value → Value → World → Prop) (m1 : Value → Value → World → Nat), I1 (Value.slice none 0 0) (Value.int .i64 1) w ∧ ∀ (_jk1 : Env) (u3_out u4_i : Value) (w1 : World), I1 u3_out u4_i w1 →
 XBin P .leq 3 false true u4_i (Value.int .i64 4) w1 fun v6 w2 =>
 XC v6 (
 XConv P 3 111 u4_i w2 fun v11 w3 =>
 XBin P .shr 3 false false p0 v11 w3 fun v12 w4 =>
 XCall P 18 #[v12, (Value.int .i64 2)] w4 fun v13 w5 =>
 XBin P .eql 3 false true v13 (Value.int .i64 1) w5 fun v14 w6 =>
 ∃ J1 : Value → World → Prop, (∀ (_jk2 : Env) (u18 : Value) (w7 : World), J1 u18 w7 →
 ∃ J2 : Value → World → Prop, (∀ (_jk3 : Env) (u21 : Value) (w8 : World), J2 u21 w8 →
 ∃ J3 : Value → World → Prop, (∀ (_jk4 : Env) (u22 : Value) (w9 : World), J3 u22 w9 →
 XPick v14 (Value.bool true) u22 fun q1 =>
 XC q1 (
 XBuildS P 22 1 #[(0, u4_i)] w9 fun v26 w10 =>
 XB P .append #[22, 22] 22 #[u3_out, v26] w10 fun v27 w11 =>
 XBin P .add 3 false true u4_i (Value.int .i64 1) w11 fun v8 w12 =>
 I1 v27 v8 w12 ∧ m1 v27 v8 w12 < m1 u3_out u4_i w1) (
 XBin P .add 3 false true u4_i (Value.int .i64 1) w9 fun v8_2 w13 =>
 I1 u3_out v8_2 w13 ∧ m1 u3_out v8_2 w13 < m1 u3_out u4_i w1)) ∧
 XG v14 false (
 XPick u18 u21 (Value.bool false) fun q2 =>
 J3 q2 w8) (J3 undef w8)) ∧
 XG u18 true (
 XB P .len #[22] 3 #[u3_out] w7 fun v20 w14 =>
 XBin P .eql 3 false true v20 (Value.int .i64 0) w14 fun v21 w15 =>
 J2 v21 w15) (J2 undef w7)) ∧
 XG v14 false (
 XBin P .eql 3 false true u4_i (Value.int .i64 4) w6 fun v17 w16 =>
 J1 v17 w16) (J1 undef w6)) (
 R u3_out w2)
noncomputable def C_joinerylaw4_Peers : Code := (Tryz.f42.body).getD .skip
noncomputable def an_joinerylaw4_Peers : An := (.seq none (.reg []) (.seq none (.reg []) (.seq none (.seq none (.reg []) (.block none (.loop [3, 4] (.seq none (.seq none (.reg []) (.cond .leaf .leaf)) (.seq none (.block none (.seq none (.reg [[18], [21], [22]]) (.cond (.reg []) .leaf))) (.reg [])))))) (.seq none (.reg []) .leaf))))
theorem S_joinerylaw4_Peers_eq (P : Program) (p0 : Value) (w : World) (R : Value → World → Prop) : WPf P C_joinerylaw4_Peers Tryz.f42.results.toList an_joinerylaw4_Peers #[p0] w R = S_joinerylaw4_Peers P p0 w R := by kernel_rfl
theorem ok_joinerylaw4_Peers : okC Tryz.f42.ntmps C_joinerylaw4_Peers an_joinerylaw4_Peers = true := by kernel_rfl
theorem call_joinerylaw4_Peers {p0 w R} (h : S_joinerylaw4_Peers Tryz.prog p0 w R) : Ret Tryz.prog 42 #[p0] w R :=
  Ret_of_WPf mixed Tryz.func42 (by kernel_rfl) (Nat.le_of_ble_eq_true (by kernel_rfl)) ok_joinerylaw4_Peers ((S_joinerylaw4_Peers_eq ..).symm ▸ h)

/-- joinery/joinerylaw4.Make -/
def S_joinerylaw4_Make (P : Program) (p0 p1 p2 p3 : Value) (w : World) (R : Value → World → Prop) : Prop :=
 XAlloc P 31 w fun v8 w1 =>
 XCall P 18 #[p0, (Value.int .i64 7)] w1 fun v14 w2 =>
 XBin P .add 3 true false (Value.int .i64 1) v14 w2 fun v15 w3 =>
 XCall P 18 #[p1, (Value.int .i64 999999)] w3 fun v17 w4 =>
 XBin P .add 3 true false (Value.int .i64 1) v17 w4 fun v18 w5 =>
 XBuild P 31 #[(0, v15), (1, v18)] w5 fun v19 w6 =>
 XAlloc P 31 w6 fun v9 w7 =>
 XStore P 31 v9 v19 w7 fun w8 =>
 ∃ J1 : Value → World → Prop, (∀ (_jk1 : Env) (u10_n : Value) (w9 : World), J1 u10_n w9 →
 XFld P 31 v9 0 w9 fun v26 w10 =>
 XLoad P 3 v26 w10 fun v27 w11 =>
 XBin P .eql 3 false true v27 (Value.int .i64 1) w11 fun v29 w12 =>
 XC v29 (
 XCall P 40 #[p3, u10_n] w12 fun v32 w13 =>
 XFld P 31 v9 1 w13 fun v33 w14 =>
 XStore P 3 v33 (Value.int .i64 0) w14 fun w15 =>
 XFld P 31 v9 4 w15 fun v34 w16 =>
 XStore P 29 v34 v32 w16 fun w17 =>
 XLoad P 31 v9 w17 fun v99 w18 =>
 XStore P 31 v8 v99 w18 fun w19 =>
 XLoad P 31 v8 w19 fun r1 w20 => w20 = w19 ∧ R r1 w19) (
 XBin P .eql 3 false true v27 (Value.int .i64 2) w12 fun v36 w21 =>
 XC v36 (
 XCall P 41 #[p3] w21 fun v38 w22 =>
 XFld P 31 v9 1 w22 fun v39 w23 =>
 XStore P 3 v39 (Value.int .i64 0) w23 fun w24 =>
 XFld P 31 v9 4 w24 fun v40 w25 =>
 XFld P 29 v40 0 w25 fun v41 w26 =>
 XStore P 9 v41 v38 w26 fun w27 =>
 XLoad P 31 v9 w27 fun v99_2 w28 =>
 XStore P 31 v8 v99_2 w28 fun w29 =>
 XLoad P 31 v8 w29 fun r2 w30 => w30 = w29 ∧ R r2 w29) (
 XBin P .eql 3 false true v27 (Value.int .i64 3) w21 fun v43 w31 =>
 XC v43 (
 XCall P 42 #[p3] w31 fun v45 w32 =>
 XFld P 31 v9 2 w32 fun v46 w33 =>
 XStore P 22 v46 v45 w33 fun w34 =>
 ∃ (I1 : Value → World → Prop) (m1 : Value → World → Nat), I1 (Value.int .i64 0) w34 ∧ ∀ (_jk2 : Env) (u11_i : Value) (w35 : World), I1 u11_i w35 →
 XBin P .lss 3 false true u11_i (Value.int .i64 8) w35 fun v48 w36 =>
 ∃ J2 : Value → World → Prop, (∀ (_jk3 : Env) (u53 : Value) (w37 : World), J2 u53 w37 →
 XPick v48 u53 (Value.bool false) fun q1 =>
 ∃ J3 : Value → World → Prop, (∀ (_jk4 : Env) (u57 : Value) (w38 : World), J3 u57 w38 →
 XPick q1 (Value.bool true) u57 fun q2 =>
 XC q2 (
 ∃ J4 : Value → World → Prop, (∀ (_jk5 : Env) (u12_k : Value) (w39 : World), J4 u12_k w39 →
 ∃ E1 FE1 : World → World → Prop, Pre E1 FE1 ∧
 ∃ d70_1 : Value, (∀ w40 : World, XFld P 31 v9 3 w40 fun v70 w42 =>
 v70 = d70_1 ∧ w42 = w40) ∧
 ∃ d71_1 : Value, (∀ w43 : World, E1 w39.drew w43 → XLoad P 24 d70_1 w43 fun v71 w45 =>
 v71 = d71_1 ∧ FE1 w43 w45) ∧
 ∃ d73_1 : Value, (∀ w46 : World, XBin P .add 3 true false (Value.int .i64 97) u11_i w46 fun v73 w48 =>
 v73 = d73_1 ∧ w48 = w46) ∧
 ∃ d74_1 : Value, (∀ w49 : World, XConv P 3 5 d73_1 w49 fun v74 w51 =>
 v74 = d74_1 ∧ w51 = w49) ∧
 ∃ d79_1 : Value, (∀ w52 : World, E1 w39.drew w52 → XCall P 41 #[u12_k] w52 fun v79 w54 =>
 v79 = d79_1 ∧ FE1 w52 w54) ∧
 ∃ d81_1 : Value, (∀ w55 : World, XBin P .quo 3 false true u12_k (Value.int .i64 8) w55 fun v81 w57 =>
 v81 = d81_1 ∧ w57 = w55) ∧
 ∃ d82_1 : Value, (∀ w58 : World, E1 w39.drew w58 → XCall P 18 #[d81_1, (Value.int .i64 1099511627777)] w58 fun v82 w60 =>
 v82 = d82_1 ∧ FE1 w58 w60) ∧
 ∃ d84_1 : Value, (∀ w61 : World, E1 w39.drew w61 → XCall P 18 #[u12_k, (Value.int .i64 9)] w61 fun v84 w63 =>
 v84 = d84_1 ∧ FE1 w61 w63) ∧
 ∃ d85_1 : Value, (∀ w64 : World, XBuild P 26 #[(0, d82_1), (1, d84_1)] w64 fun v85 w66 =>
 v85 = d85_1 ∧ w66 = w64) ∧
 ∃ d87_1 : Value, (∀ w67 : World, XBin P .quo 3 false true u12_k (Value.int .i64 3) w67 fun v87 w69 =>
 v87 = d87_1 ∧ w69 = w67) ∧
 ∃ d88_1 : Value, (∀ w70 : World, E1 w39.drew w70 → XCall P 18 #[d87_1, (Value.int .i64 3)] w70 fun v88 w72 =>
 v88 = d88_1 ∧ FE1 w70 w72) ∧
 ∃ d89_1 : Value, (∀ w73 : World, XBin P .eql 3 false true d88_1 (Value.int .i64 0) w73 fun v89 w75 =>
 v89 = d89_1 ∧ w75 = w73) ∧
 ∀ w76 : World, FE1 w39.drew w76 →
 XBuildS P 43 1 #[(0, d74_1)] w76 fun v75 w77 =>
 E1 w76 w77 ∧
 ∀ w78 : World, FE1 w77 w78 →
 XConv P 43 9 v75 w78 fun v76 w79 =>
 E1 w78 w79 ∧
 ∃ d77_1 : Value, (∀ w80 : World, XBin P .add 9 true false (Value.string ⟨#[112]⟩) v76 w80 fun v77 w82 =>
 v77 = d77_1 ∧ w82 = w80) ∧
 ∃ d90_1 : Value, (∀ w83 : World, XBuild P 45 #[(0, d77_1), (1, d79_1), (2, d85_1), (3, d89_1)] w83 fun v90 w85 =>
 v90 = d90_1 ∧ w85 = w83) ∧
 ∀ w86 : World, FE1 w79 w86 →
 XBuildS P 24 1 #[(0, d90_1)] w86 fun v91 w87 =>
 E1 w86 w87 ∧
 ∀ w88 : World, FE1 w87 w88 →
 XB P .append #[24, 24] 24 #[d71_1, v91] w88 fun v92 w89 =>
 ∃ d93_1 : Value, (∀ w90 : World, XFld P 31 v9 3 w90 fun v93 w92 =>
 v93 = d93_1 ∧ w92 = w90) ∧
 XStore P 24 d93_1 v92 w89 fun w93 =>
 XBin P .add 3 false true u11_i (Value.int .i64 1) w93 fun v60 w94 =>
 I1 v60 w94 ∧ m1 v60 w94 < m1 u11_i w35) ∧
 XB P .len #[22] 3 #[p2] w38 fun v64 w95 =>
 XBin P .lss 3 false false u11_i v64 w95 fun v65 w96 =>
 XC v65 (
 XIdx P 22 p2 u11_i w96 fun v68 w97 =>
 XLoad P 3 v68 w97 fun v69 w98 =>
 J4 v69 w98) (
 J4 u11_i w96)) (
 XLoad P 31 v9 w38 fun v99_3 w99 =>
 XStore P 31 v8 v99_3 w99 fun w100 =>
 XLoad P 31 v8 w100 fun r3 w101 => w101 = w100 ∧ R r3 w100)) ∧
 XG q1 false (
 XBin P .eql 3 false true u11_i (Value.int .i64 0) w37 fun v57 w102 =>
 J3 v57 w102) (J3 undef w37)) ∧
 XG v48 true (
 XB P .len #[22] 3 #[p2] w36 fun v52 w103 =>
 XBin P .lss 3 false false u11_i v52 w103 fun v53 w104 =>
 J2 v53 w104) (J2 undef w36)) (
 XBin P .eql 3 false true v27 (Value.int .i64 7) w31 fun v95 w105 =>
 XC v95 (
 XCall P 42 #[p3] w105 fun v97 w106 =>
 XFld P 31 v9 2 w106 fun v98 w107 =>
 XStore P 22 v98 v97 w107 fun w108 =>
 XLoad P 31 v9 w108 fun v99_4 w109 =>
 XStore P 31 v8 v99_4 w109 fun w110 =>
 XLoad P 31 v8 w110 fun r4 w111 => w111 = w110 ∧ R r4 w110) (
 XLoad P 31 v9 w105 fun v99_5 w112 =>
 XStore P 31 v8 v99_5 w112 fun w113 =>
 XLoad P 31 v8 w113 fun r5 w114 => w114 = w113 ∧ R r5 w113))))) ∧
 XB P .len #[22] 3 #[p2] w8 fun v21 w115 =>
 XBin P .gtr 3 false true v21 (Value.int .i64 0) w115 fun v22 w116 =>
 XC v22 (
 XIdx P 22 p2 (Value.int .i64 0) w116 fun v24 w117 =>
 XLoad P 3 v24 w117 fun v25 w118 =>
 J1 v25 w118) (
 J1 (Value.int .i64 5) w116)
noncomputable def C_joinerylaw4_Make : Code := (Tryz.f16.body).getD .skip
noncomputable def an_joinerylaw4_Make : An := (.seq none (.reg []) (.seq none (.reg []) (.seq none (.reg []) (.seq (some [10]) (.seq none (.reg []) (.cond (.reg []) .leaf)) (.seq none (.seq none (.reg []) (.block none (.seq none (.reg []) (.cond (.reg []) (.seq none (.reg []) (.cond (.reg []) (.seq none (.reg []) (.cond (.seq none (.reg []) (.seq none (.reg []) (.block none (.loop [11] (.seq none (.seq none (.reg [[53], [57]]) (.cond .leaf .leaf)) (.seq none (.block none (.seq none (.reg []) (.seq (some [12]) (.seq none (.reg []) (.cond (.reg []) .leaf)) (.draw [0, 1, 0, 0, 0, 2, 2, 0, 0, 1, 0, 0, 1, 0, 1, 0, 0, 0, 1, 0, 0, 2, 2, 0, 2])))) (.reg []))))))) (.seq none (.reg []) (.cond (.reg []) .leaf)))))))))) (.seq none (.reg []) .leaf))))))
theorem S_joinerylaw4_Make_eq (P : Program) (p0 p1 p2 p3 : Value) (w : World) (R : Value → World → Prop) : WPf P C_joinerylaw4_Make Tryz.f16.results.toList an_joinerylaw4_Make #[p0, p1, p2, p3] w R = S_joinerylaw4_Make P p0 p1 p2 p3 w R := by kernel_rfl
theorem ok_joinerylaw4_Make : okC Tryz.f16.ntmps C_joinerylaw4_Make an_joinerylaw4_Make = true := by kernel_rfl
theorem call_joinerylaw4_Make {p0 p1 p2 p3 w R} (h : S_joinerylaw4_Make Tryz.prog p0 p1 p2 p3 w R) : Ret Tryz.prog 16 #[p0, p1, p2, p3] w R :=
  Ret_of_WPf mixed Tryz.func16 (by kernel_rfl) (Nat.le_of_ble_eq_true (by kernel_rfl)) ok_joinerylaw4_Make ((S_joinerylaw4_Make_eq ..).symm ▸ h)

abbrev F_joinerylaw2_within : FuncId := 79
theorem en_joinerylaw2_within (args : Array Value) (w : World) : (callFunc 79 args).run Tryz.prog w = .ok (.enter 79 args) w := by kernel_rfl
abbrev F_joinerylaw2_Name : FuncId := 41
theorem en_joinerylaw2_Name (args : Array Value) (w : World) : (callFunc 41 args).run Tryz.prog w = .ok (.enter 41 args) w := by kernel_rfl
abbrev F_joinerylaw2_Set : FuncId := 78
theorem en_joinerylaw2_Set (args : Array Value) (w : World) : (callFunc 78 args).run Tryz.prog w = .ok (.enter 78 args) w := by kernel_rfl
abbrev F_joinerylaw3_within : FuncId := 77
theorem en_joinerylaw3_within (args : Array Value) (w : World) : (callFunc 77 args).run Tryz.prog w = .ok (.enter 77 args) w := by kernel_rfl
abbrev F_joinerylaw3_Node : FuncId := 40
theorem en_joinerylaw3_Node (args : Array Value) (w : World) : (callFunc 40 args).run Tryz.prog w = .ok (.enter 40 args) w := by kernel_rfl
abbrev F_joinerylaw4_within : FuncId := 18
theorem en_joinerylaw4_within (args : Array Value) (w : World) : (callFunc 18 args).run Tryz.prog w = .ok (.enter 18 args) w := by kernel_rfl
abbrev F_joinerylaw4_Peers : FuncId := 42
theorem en_joinerylaw4_Peers (args : Array Value) (w : World) : (callFunc 42 args).run Tryz.prog w = .ok (.enter 42 args) w := by kernel_rfl
abbrev F_joinerylaw4_Make : FuncId := 16
theorem en_joinerylaw4_Make (args : Array Value) (w : World) : (callFunc 16 args).run Tryz.prog w = .ok (.enter 16 args) w := by kernel_rfl
end Go.Proofs.YthkgbajldkicfaaGreatDoor
