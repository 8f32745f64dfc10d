/-
  Shallow forms: the laws of lines. Each is the precondition of a Go function, computed over its code; that both are one is checked by the kernel.
-/
import Derived.Test.YthkgbajldkicfaaGreatDoorTypes
namespace Go.Proofs.YthkgbajldkicfaaGreatDoor
set_option linter.unusedVariables false
set_option linter.unusedSimpArgs false
open Go Go.Jo
set_option linter.unusedVariables false
set_option maxRecDepth 100000
/-- (joinery/api.Errno).Error -/
def S_api_Errno_Error (P : Program) (p0 : Value) (w : World) (R : Value → World → Prop) : Prop :=
 XBin P .leq 35 false true p0 (Value.int .i64 4) w fun v4 w1 =>
 XC v4 (
 XCall P 62 #[p0] w1 fun v6 w2 =>
 R v6 w2) (
 XCall P 63 #[p0] w1 fun v8 w3 =>
 R v8 w3)
noncomputable def C_api_Errno_Error : Code := (Tryz.f24.body).getD .skip
noncomputable def an_api_Errno_Error : An := (.seq none (.reg []) (.seq none (.seq none (.reg []) (.cond (.seq none (.reg []) .leaf) .leaf)) (.seq none (.reg []) .leaf)))
theorem S_api_Errno_Error_eq (P : Program) (p0 : Value) (w : World) (R : Value → World → Prop) : WPf P C_api_Errno_Error Tryz.f24.results.toList an_api_Errno_Error #[p0] w R = S_api_Errno_Error P p0 w R := by kernel_rfl
theorem ok_api_Errno_Error : okC Tryz.f24.ntmps C_api_Errno_Error an_api_Errno_Error = true := by kernel_rfl
theorem call_api_Errno_Error {p0 w R} (h : S_api_Errno_Error Tryz.prog p0 w R) : Ret Tryz.prog 24 #[p0] w R :=
  Ret_of_WPf mixed Tryz.func24 (by kernel_rfl) (Nat.le_of_ble_eq_true (by kernel_rfl)) ok_api_Errno_Error ((S_api_Errno_Error_eq ..).symm ▸ h)

/-- joinery/api.early -/
def S_api_early (P : Program) (p0 : Value) (w : World) (R : Value → World → Prop) : Prop :=
 XBin P .eql 35 false true p0 (Value.int .i64 0) w fun v5 w1 =>
 XC v5 (
 R (Value.string ⟨#[111, 107]⟩) w1) (
 XBin P .eql 35 false true p0 (Value.int .i64 1) w1 fun v7 w2 =>
 XC v7 (
 R (Value.string ⟨#[110, 97, 109, 101]⟩) w2) (
 XBin P .eql 35 false true p0 (Value.int .i64 2) w2 fun v9 w3 =>
 XC v9 (
 R (Value.string ⟨#[97, 114, 103]⟩) w3) (
 XBin P .eql 35 false true p0 (Value.int .i64 3) w3 fun v11 w4 =>
 XC v11 (
 R (Value.string ⟨#[108, 111, 110, 103]⟩) w4) (
 XBin P .eql 35 false true p0 (Value.int .i64 4) w4 fun v13 w5 =>
 XC v13 (
 R (Value.string ⟨#[116, 119, 105, 99, 101]⟩) w5) (
 R (Value.string ⟨#[101, 114, 114, 111, 114]⟩) w5)))))
noncomputable def C_api_early : Code := (Tryz.f62.body).getD .skip
noncomputable def an_api_early : An := (.seq none (.reg []) (.seq none (.seq none (.reg []) (.block none (.seq none (.reg []) (.cond (.seq none (.reg []) .leaf) (.seq none (.reg []) (.cond (.seq none (.reg []) .leaf) (.seq none (.reg []) (.cond (.seq none (.reg []) .leaf) (.seq none (.reg []) (.cond (.seq none (.reg []) .leaf) (.seq none (.reg []) (.cond (.seq none (.reg []) .leaf) .leaf)))))))))))) (.seq none (.reg []) .leaf)))
theorem S_api_early_eq (P : Program) (p0 : Value) (w : World) (R : Value → World → Prop) : WPf P C_api_early Tryz.f62.results.toList an_api_early #[p0] w R = S_api_early P p0 w R := by kernel_rfl
theorem ok_api_early : okC Tryz.f62.ntmps C_api_early an_api_early = true := by kernel_rfl
theorem call_api_early {p0 w R} (h : S_api_early Tryz.prog p0 w R) : Ret Tryz.prog 62 #[p0] w R :=
  Ret_of_WPf mixed Tryz.func62 (by kernel_rfl) (Nat.le_of_ble_eq_true (by kernel_rfl)) ok_api_early ((S_api_early_eq ..).symm ▸ h)

/-- joinery/api.late -/
def S_api_late (P : Program) (p0 : Value) (w : World) (R : Value → World → Prop) : Prop :=
 XBin P .eql 35 false true p0 (Value.int .i64 5) w fun v5 w1 =>
 XC v5 (
 R (Value.string ⟨#[110, 111, 110, 101]⟩) w1) (
 XBin P .eql 35 false true p0 (Value.int .i64 6) w1 fun v7 w2 =>
 XC v7 (
 R (Value.string ⟨#[114, 111, 111, 109]⟩) w2) (
 XBin P .eql 35 false true p0 (Value.int .i64 7) w2 fun v9 w3 =>
 XC v9 (
 R (Value.string ⟨#[115, 116, 97, 116, 101]⟩) w3) (
 XBin P .eql 35 false true p0 (Value.int .i64 8) w3 fun v11 w4 =>
 XC v11 (
 R (Value.string ⟨#[102, 111, 114, 109]⟩) w4) (
 XBin P .eql 35 false true p0 (Value.int .i64 9) w4 fun v13 w5 =>
 XC v13 (
 R (Value.string ⟨#[100, 111, 119, 110]⟩) w5) (
 R (Value.string ⟨#[101, 114, 114, 111, 114]⟩) w5)))))
noncomputable def C_api_late : Code := (Tryz.f63.body).getD .skip
noncomputable def an_api_late : An := (.seq none (.reg []) (.seq none (.seq none (.reg []) (.block none (.seq none (.reg []) (.cond (.seq none (.reg []) .leaf) (.seq none (.reg []) (.cond (.seq none (.reg []) .leaf) (.seq none (.reg []) (.cond (.seq none (.reg []) .leaf) (.seq none (.reg []) (.cond (.seq none (.reg []) .leaf) (.seq none (.reg []) (.cond (.seq none (.reg []) .leaf) .leaf)))))))))))) (.seq none (.reg []) .leaf)))
theorem S_api_late_eq (P : Program) (p0 : Value) (w : World) (R : Value → World → Prop) : WPf P C_api_late Tryz.f63.results.toList an_api_late #[p0] w R = S_api_late P p0 w R := by kernel_rfl
theorem ok_api_late : okC Tryz.f63.ntmps C_api_late an_api_late = true := by kernel_rfl
theorem call_api_late {p0 w R} (h : S_api_late Tryz.prog p0 w R) : Ret Tryz.prog 63 #[p0] w R :=
  Ret_of_WPf mixed Tryz.func63 (by kernel_rfl) (Nat.le_of_ble_eq_true (by kernel_rfl)) ok_api_late ((S_api_late_eq ..).symm ▸ h)

/-- joinery/joinerylaw2.within -/
def S_joinerylaw2_within (P : Program) (p0 p1 : Value) (w : World) (R : Value → World → Prop) : Prop :=
 XBin P .rem 3 false false p0 p1 w fun v8 w1 =>
 XBin P .lss 3 false true v8 (Value.int .i64 0) w1 fun v10 w2 =>
 XC v10 (
 XBin P .add 3 false false v8 p1 w2 fun v13 w3 =>
 R v13 w3) (
 R v8 w2)
noncomputable def C_joinerylaw2_within : Code := (Tryz.f79.body).getD .skip
noncomputable def an_joinerylaw2_within : An := (.seq none (.reg []) (.seq none (.reg []) (.seq none (.seq none (.reg []) (.cond (.reg []) .leaf)) (.seq none (.reg []) .leaf))))
theorem S_joinerylaw2_within_eq (P : Program) (p0 p1 : Value) (w : World) (R : Value → World → Prop) : WPf P C_joinerylaw2_within Tryz.f79.results.toList an_joinerylaw2_within #[p0, p1] w R = S_joinerylaw2_within P p0 p1 w R := by kernel_rfl
theorem ok_joinerylaw2_within : okC Tryz.f79.ntmps C_joinerylaw2_within an_joinerylaw2_within = true := by kernel_rfl
theorem call_joinerylaw2_within {p0 p1 w R} (h : S_joinerylaw2_within Tryz.prog p0 p1 w R) : Ret Tryz.prog 79 #[p0, p1] w R :=
  Ret_of_WPf mixed Tryz.func79 (by kernel_rfl) (Nat.le_of_ble_eq_true (by kernel_rfl)) ok_joinerylaw2_within ((S_joinerylaw2_within_eq ..).symm ▸ h)

/-- joinery/joinerylaw2.Name -/
def S_joinerylaw2_Name (P : Program) (p0 : Value) (w : World) (R : Value → World → Prop) : Prop :=
 XBuildS P 27 8 #[(0, (Value.string ⟨#[97]⟩)), (1, (Value.string ⟨#[98]⟩)), (2, (Value.string ⟨#[206, 177]⟩)), (3, (Value.string ⟨#[207, 137, 57]⟩)), (4, (Value.string ⟨#[110, 49]⟩)), (5, (Value.string ⟨#[110, 50]⟩)), (6, (Value.string ⟨#[206, 178, 206, 179, 206, 180, 206, 181, 206, 182, 206, 183, 206, 184, 206, 185]⟩)), (7, (Value.string ⟨#[122, 122]⟩))] w fun v3 w1 =>
 XCall P 79 #[p0, (Value.int .i64 8)] w1 fun v5 w2 =>
 XIdx P 27 v3 v5 w2 fun v6 w3 =>
 XLoad P 9 v6 w3 fun v7 w4 =>
 R v7 w4
noncomputable def C_joinerylaw2_Name : Code := (Tryz.f41.body).getD .skip
noncomputable def an_joinerylaw2_Name : An := (.seq none (.reg []) (.seq none (.reg []) .leaf))
theorem S_joinerylaw2_Name_eq (P : Program) (p0 : Value) (w : World) (R : Value → World → Prop) : WPf P C_joinerylaw2_Name Tryz.f41.results.toList an_joinerylaw2_Name #[p0] w R = S_joinerylaw2_Name P p0 w R := by kernel_rfl
theorem ok_joinerylaw2_Name : okC Tryz.f41.ntmps C_joinerylaw2_Name an_joinerylaw2_Name = true := by kernel_rfl
theorem call_joinerylaw2_Name {p0 w R} (h : S_joinerylaw2_Name Tryz.prog p0 w R) : Ret Tryz.prog 41 #[p0] w R :=
  Ret_of_WPf mixed Tryz.func41 (by kernel_rfl) (Nat.le_of_ble_eq_true (by kernel_rfl)) ok_joinerylaw2_Name ((S_joinerylaw2_Name_eq ..).symm ▸ h)

/-- joinery/joinerylaw2.Set -/
def S_joinerylaw2_Set (P : Program) (p0 : Value) (w : World) (R : Value → World → Prop) : Prop :=
 XBuildS P 27 4 #[(0, (Value.string ⟨#[98, 105, 103]⟩)), (1, (Value.string ⟨#[115, 115, 100]⟩)), (2, (Value.string ⟨#[119, 101, 115, 116]⟩)), (3, (Value.string ⟨#[206, 179]⟩))] w fun v6 w1 =>
 ∃ (I1 : Value → Value → World → Prop) (m1 : Value → Value → World → Nat), I1 (Value.slice none 0 0) (Value.int .i64 0) w1 ∧ ∀ (_jk1 : Env) (u4_out u5_i : Value) (w2 : World), I1 u4_out u5_i w2 →
 XBin P .lss 3 false true u5_i (Value.int .i64 4) w2 fun v8 w3 =>
 XC v8 (
 XConv P 3 111 u5_i w3 fun v13 w4 =>
 XBin P .shr 3 false false p0 v13 w4 fun v14 w5 =>
 XCall P 79 #[v14, (Value.int .i64 2)] w5 fun v15 w6 =>
 XBin P .eql 3 false true v15 (Value.int .i64 1) w6 fun v16 w7 =>
 XC v16 (
 XIdx P 27 v6 u5_i w7 fun v20 w8 =>
 XLoad P 9 v20 w8 fun v21 w9 =>
 XBuildS P 27 1 #[(0, v21)] w9 fun v22 w10 =>
 XB P .append #[27, 27] 27 #[u4_out, v22] w10 fun v23 w11 =>
 XBin P .add 3 false true u5_i (Value.int .i64 1) w11 fun v10 w12 =>
 I1 v23 v10 w12 ∧ m1 v23 v10 w12 < m1 u4_out u5_i w2) (
 XBin P .add 3 false true u5_i (Value.int .i64 1) w7 fun v10_2 w13 =>
 I1 u4_out v10_2 w13 ∧ m1 u4_out v10_2 w13 < m1 u4_out u5_i w2)) (
 R u4_out w3)
noncomputable def C_joinerylaw2_Set : Code := (Tryz.f78.body).getD .skip
noncomputable def an_joinerylaw2_Set : An := (.seq none (.reg []) (.seq none (.reg []) (.seq none (.reg []) (.seq none (.seq none (.reg []) (.block none (.loop [4, 5] (.seq none (.seq none (.reg []) (.cond .leaf .leaf)) (.seq none (.block none (.seq none (.reg []) (.cond (.reg []) .leaf))) (.reg [])))))) (.seq none (.reg []) .leaf)))))
theorem S_joinerylaw2_Set_eq (P : Program) (p0 : Value) (w : World) (R : Value → World → Prop) : WPf P C_joinerylaw2_Set Tryz.f78.results.toList an_joinerylaw2_Set #[p0] w R = S_joinerylaw2_Set P p0 w R := by kernel_rfl
theorem ok_joinerylaw2_Set : okC Tryz.f78.ntmps C_joinerylaw2_Set an_joinerylaw2_Set = true := by kernel_rfl
theorem call_joinerylaw2_Set {p0 w R} (h : S_joinerylaw2_Set Tryz.prog p0 w R) : Ret Tryz.prog 78 #[p0] w R :=
  Ret_of_WPf mixed Tryz.func78 (by kernel_rfl) (Nat.le_of_ble_eq_true (by kernel_rfl)) ok_joinerylaw2_Set ((S_joinerylaw2_Set_eq ..).symm ▸ h)

/-- joinery/joinerylaw3.within -/
def S_joinerylaw3_within (P : Program) (p0 p1 : Value) (w : World) (R : Value → World → Prop) : Prop :=
 XBin P .rem 3 false false p0 p1 w fun v8 w1 =>
 XBin P .lss 3 false true v8 (Value.int .i64 0) w1 fun v10 w2 =>
 XC v10 (
 XBin P .add 3 false false v8 p1 w2 fun v13 w3 =>
 R v13 w3) (
 R v8 w2)
noncomputable def C_joinerylaw3_within : Code := (Tryz.f77.body).getD .skip
noncomputable def an_joinerylaw3_within : An := (.seq none (.reg []) (.seq none (.reg []) (.seq none (.seq none (.reg []) (.cond (.reg []) .leaf)) (.seq none (.reg []) .leaf))))
theorem S_joinerylaw3_within_eq (P : Program) (p0 p1 : Value) (w : World) (R : Value → World → Prop) : WPf P C_joinerylaw3_within Tryz.f77.results.toList an_joinerylaw3_within #[p0, p1] w R = S_joinerylaw3_within P p0 p1 w R := by kernel_rfl
theorem ok_joinerylaw3_within : okC Tryz.f77.ntmps C_joinerylaw3_within an_joinerylaw3_within = true := by kernel_rfl
theorem call_joinerylaw3_within {p0 p1 w R} (h : S_joinerylaw3_within Tryz.prog p0 p1 w R) : Ret Tryz.prog 77 #[p0, p1] w R :=
  Ret_of_WPf mixed Tryz.func77 (by kernel_rfl) (Nat.le_of_ble_eq_true (by kernel_rfl)) ok_joinerylaw3_within ((S_joinerylaw3_within_eq ..).symm ▸ h)

/-- joinery/joinerylaw3.Node -/
def S_joinerylaw3_Node (P : Program) (p0 p1 : Value) (w : World) (R : Value → World → Prop) : Prop :=
 XAlloc P 29 w fun v4 w1 =>
 XCall P 41 #[p0] w1 fun v7 w2 =>
 XCall P 77 #[p1, (Value.int .i64 12)] w2 fun v9 w3 =>
 XBin P .quo 3 false true p1 (Value.int .i64 12) w3 fun v11 w4 =>
 XCall P 77 #[v11, (Value.int .i64 12)] w4 fun v12 w5 =>
 XBuild P 26 #[(0, v9), (1, v12)] w5 fun v13 w6 =>
 XBin P .quo 3 false true p1 (Value.int .i64 144) w6 fun v15 w7 =>
 XCall P 78 #[v15] w7 fun v16 w8 =>
 XBin P .quo 3 false true p1 (Value.int .i64 17) w8 fun v18 w9 =>
 XCall P 77 #[v18, (Value.int .i64 9)] w9 fun v19 w10 =>
 XBin P .eql 3 false true v19 (Value.int .i64 0) w10 fun v20 w11 =>
 XBuild P 29 #[(0, v7), (1, v13), (2, v16), (4, v20)] w11 fun v21 w12 =>
 XAlloc P 29 w12 fun v5 w13 =>
 XStore P 29 v5 v21 w13 fun w14 =>
 XBin P .quo 3 false true p1 (Value.int .i64 23) w14 fun v23 w15 =>
 XCall P 77 #[v23, (Value.int .i64 3)] w15 fun v24 w16 =>
 XBin P .eql 3 false true v24 (Value.int .i64 0) w16 fun v25 w17 =>
 XC v25 (
 XBin P .quo 3 false true p1 (Value.int .i64 31) w17 fun v27 w18 =>
 XCall P 78 #[v27] w18 fun v28 w19 =>
 XFld P 29 v5 3 w19 fun v29 w20 =>
 XStore P 27 v29 v28 w20 fun w21 =>
 XLoad P 29 v5 w21 fun v30 w22 =>
 XStore P 29 v4 v30 w22 fun w23 =>
 XLoad P 29 v4 w23 fun r1 w24 => w24 = w23 ∧ R r1 w23) (
 XLoad P 29 v5 w17 fun v30_2 w25 =>
 XStore P 29 v4 v30_2 w25 fun w26 =>
 XLoad P 29 v4 w26 fun r2 w27 => w27 = w26 ∧ R r2 w26)
noncomputable def C_joinerylaw3_Node : Code := (Tryz.f40.body).getD .skip
noncomputable def an_joinerylaw3_Node : An := (.seq none (.reg []) (.seq none (.reg []) (.seq none (.seq none (.reg []) (.cond (.reg []) .leaf)) (.seq none (.reg []) .leaf))))
theorem S_joinerylaw3_Node_eq (P : Program) (p0 p1 : Value) (w : World) (R : Value → World → Prop) : WPf P C_joinerylaw3_Node Tryz.f40.results.toList an_joinerylaw3_Node #[p0, p1] w R = S_joinerylaw3_Node P p0 p1 w R := by kernel_rfl
theorem ok_joinerylaw3_Node : okC Tryz.f40.ntmps C_joinerylaw3_Node an_joinerylaw3_Node = true := by kernel_rfl
theorem call_joinerylaw3_Node {p0 p1 w R} (h : S_joinerylaw3_Node Tryz.prog p0 p1 w R) : Ret Tryz.prog 40 #[p0, p1] w R :=
  Ret_of_WPf mixed Tryz.func40 (by kernel_rfl) (Nat.le_of_ble_eq_true (by kernel_rfl)) ok_joinerylaw3_Node ((S_joinerylaw3_Node_eq ..).symm ▸ h)

/-- joinery/joinerylaw4.within -/
def S_joinerylaw4_within (P : Program) (p0 p1 : Value) (w : World) (R : Value → World → Prop) : Prop :=
 XBin P .rem 3 false false p0 p1 w fun v8 w1 =>
 XBin P .lss 3 false true v8 (Value.int .i64 0) w1 fun v10 w2 =>
 XC v10 (
 XBin P .add 3 false false v8 p1 w2 fun v13 w3 =>
 R v13 w3) (
 R v8 w2)
noncomputable def C_joinerylaw4_within : Code := (Tryz.f18.body).getD .skip
noncomputable def an_joinerylaw4_within : An := (.seq none (.reg []) (.seq none (.reg []) (.seq none (.seq none (.reg []) (.cond (.reg []) .leaf)) (.seq none (.reg []) .leaf))))
theorem S_joinerylaw4_within_eq (P : Program) (p0 p1 : Value) (w : World) (R : Value → World → Prop) : WPf P C_joinerylaw4_within Tryz.f18.results.toList an_joinerylaw4_within #[p0, p1] w R = S_joinerylaw4_within P p0 p1 w R := by kernel_rfl
theorem ok_joinerylaw4_within : okC Tryz.f18.ntmps C_joinerylaw4_within an_joinerylaw4_within = true := by kernel_rfl
theorem call_joinerylaw4_within {p0 p1 w R} (h : S_joinerylaw4_within Tryz.prog p0 p1 w R) : Ret Tryz.prog 18 #[p0, p1] w R :=
  Ret_of_WPf mixed Tryz.func18 (by kernel_rfl) (Nat.le_of_ble_eq_true (by kernel_rfl)) ok_joinerylaw4_within ((S_joinerylaw4_within_eq ..).symm ▸ h)

/-- joinery/joinerylaw4.known -/
def S_joinerylaw4_known (P : Program) (w : World) (R : Value → World → Prop) : Prop :=
 XCall P 19 #[(Value.string ⟨#[]⟩)] w fun v6 w1 =>
 XExt P v6 0 w1 fun v7 w2 =>
 XExt P v6 1 w2 fun v8 w3 =>
 XAlloc P 31 w3 fun v1 w4 =>
 XStore P 31 v1 v7 w4 fun w5 =>
 XCall P 19 #[(Value.string ⟨#[99, 111, 109, 109, 105, 116, 32, 55]⟩)] w5 fun v10 w6 =>
 XExt P v10 0 w6 fun v11 w7 =>
 XExt P v10 1 w7 fun v12 w8 =>
 XAlloc P 31 w8 fun v3 w9 =>
 XStore P 31 v3 v11 w9 fun w10 =>
 XBin P .eql 35 false true v8 (Value.int .i64 8) w10 fun v14 w11 =>
 ∃ J1 : Value → World → Prop, (∀ (_jk1 : Env) (u17 : Value) (w12 : World), J1 u17 w12 →
 XPick v14 u17 (Value.bool false) fun q1 =>
 ∃ J2 : Value → World → Prop, (∀ (_jk2 : Env) (u22 : Value) (w13 : World), J2 u22 w13 →
 XPick q1 u22 (Value.bool false) fun q2 =>
 ∃ J3 : Value → World → Prop, (∀ (_jk3 : Env) (u27 : Value) (w14 : World), J3 u27 w14 →
 XPick q2 u27 (Value.bool false) fun q3 =>
 ∃ J4 : Value → World → Prop, (∀ (_jk4 : Env) (u32 : Value) (w15 : World), J4 u32 w15 →
 XPick q3 u32 (Value.bool false) fun q4 =>
 R q4 w15) ∧
 XG q3 true (
 XBuild P 31 #[(0, (Value.int .i64 4)), (1, (Value.int .i64 7))] w14 fun v30 w16 =>
 XCall P 17 #[v30] w16 fun v31 w17 =>
 XBin P .eql 9 false true v31 (Value.string ⟨#[99, 111, 109, 109, 105, 116, 32, 55]⟩) w17 fun v32 w18 =>
 J4 v32 w18) (J4 undef w14)) ∧
 XG q2 true (
 XFld P 31 v3 1 w13 fun v25 w19 =>
 XLoad P 3 v25 w19 fun v26 w20 =>
 XBin P .eql 3 false true v26 (Value.int .i64 7) w20 fun v27 w21 =>
 J3 v27 w21) (J3 undef w13)) ∧
 XG q1 true (
 XFld P 31 v3 0 w12 fun v20 w22 =>
 XLoad P 3 v20 w22 fun v21 w23 =>
 XBin P .eql 3 false true v21 (Value.int .i64 4) w23 fun v22 w24 =>
 J2 v22 w24) (J2 undef w12)) ∧
 XG v14 true (
 XBin P .eql 35 false true v12 (Value.int .i64 0) w11 fun v17 w25 =>
 J1 v17 w25) (J1 undef w11)
noncomputable def C_joinerylaw4_known : Code := (Tryz.f15.body).getD .skip
noncomputable def an_joinerylaw4_known : An := (.seq none (.reg []) (.seq none (.reg []) (.seq none (.reg []) (.seq none (.reg [[17], [22], [27], [32]]) .leaf))))
theorem S_joinerylaw4_known_eq (P : Program) (w : World) (R : Value → World → Prop) : WPf P C_joinerylaw4_known Tryz.f15.results.toList an_joinerylaw4_known #[] w R = S_joinerylaw4_known P  w R := by kernel_rfl
theorem ok_joinerylaw4_known : okC Tryz.f15.ntmps C_joinerylaw4_known an_joinerylaw4_known = true := by kernel_rfl
theorem call_joinerylaw4_known { w R} (h : S_joinerylaw4_known Tryz.prog  w R) : Ret Tryz.prog 15 #[] w R :=
  Ret_of_WPf mixed Tryz.func15 (by kernel_rfl) (Nat.le_of_ble_eq_true (by kernel_rfl)) ok_joinerylaw4_known ((S_joinerylaw4_known_eq ..).symm ▸ h)

/-- joinery/joinerylaw4.Peers -/
def S_joinerylaw4_Peers (P : Program) (p0 : Value) (w : World) (R : Value → World → Prop) : Prop :=
 ∃ (I1 : Value → Value → World → Prop) (m1 : Value → Value → World → Nat), I1 (Value.slice none 0 0) (Value.int .i64 1) w ∧ ∀ (_jk1 : Env) (u3_out u4_i : Value) (w1 : World), I1 u3_out u4_i w1 →
 XBin P .leq 3 false true u4_i (Value.int .i64 4) w1 fun v6 w2 =>
 XC v6 (
 XConv P 3 111 u4_i w2 fun v11 w3 =>
 XBin P .shr 3 false false p0 v11 w3 fun v12 w4 =>
 XCall P 18 #[v12, (Value.int .i64 2)] w4 fun v13 w5 =>
 XBin P .eql 3 false true v13 (Value.int .i64 1) w5 fun v14 w6 =>
 ∃ J1 : Value → World → Prop, (∀ (_jk2 : Env) (u18 : Value) (w7 : World), J1 u18 w7 →
 ∃ J2 : Value → World → Prop, (∀ (_jk3 : Env) (u21 : Value) (w8 : World), J2 u21 w8 →
 ∃ J3 : Value → World → Prop, (∀ (_jk4 : Env) (u22 : Value) (w9 : World), J3 u22 w9 →
 XPick v14 (Value.bool true) u22 fun q1 =>
 XC q1 (
 XBuildS P 22 1 #[(0, u4_i)] w9 fun v26 w10 =>
 XB P .append #[22, 22] 22 #[u3_out, v26] w10 fun v27 w11 =>
 XBin P .add 3 false true u4_i (Value.int .i64 1) w11 fun v8 w12 =>
 I1 v27 v8 w12 ∧ m1 v27 v8 w12 < m1 u3_out u4_i w1) (
 XBin P .add 3 false true u4_i (Value.int .i64 1) w9 fun v8_2 w13 =>
 I1 u3_out v8_2 w13 ∧ m1 u3_out v8_2 w13 < m1 u3_out u4_i w1)) ∧
 XG v14 false (
 XPick u18 u21 (Value.bool false) fun q2 =>
 J3 q2 w8) (J3 undef w8)) ∧
 XG u18 true (
 XB P .len #[22] 3 #[u3_out] w7 fun v20 w14 =>
 XBin P .eql 3 false true v20 (Value.int .i64 0) w14 fun v21 w15 =>
 J2 v21 w15) (J2 undef w7)) ∧
 XG v14 false (
 XBin P .eql 3 false true u4_i (Value.int .i64 4) w6 fun v17 w16 =>
 J1 v17 w16) (J1 undef w6)) (
 R u3_out w2)
noncomputable def C_joinerylaw4_Peers : Code := (Tryz.f42.body).getD .skip
noncomputable def an_joinerylaw4_Peers : An := (.seq none (.reg []) (.seq none (.reg []) (.seq none (.seq none (.reg []) (.block none (.loop [3, 4] (.seq none (.seq none (.reg []) (.cond .leaf .leaf)) (.seq none (.block none (.seq none (.reg [[18], [21], [22]]) (.cond (.reg []) .leaf))) (.reg [])))))) (.seq none (.reg []) .leaf))))
theorem S_joinerylaw4_Peers_eq (P : Program) (p0 : Value) (w : World) (R : Value → World → Prop) : WPf P C_joinerylaw4_Peers Tryz.f42.results.toList an_joinerylaw4_Peers #[p0] w R = S_joinerylaw4_Peers P p0 w R := by kernel_rfl
theorem ok_joinerylaw4_Peers : okC Tryz.f42.ntmps C_joinerylaw4_Peers an_joinerylaw4_Peers = true := by kernel_rfl
theorem call_joinerylaw4_Peers {p0 w R} (h : S_joinerylaw4_Peers Tryz.prog p0 w R) : Ret Tryz.prog 42 #[p0] w R :=
  Ret_of_WPf mixed Tryz.func42 (by kernel_rfl) (Nat.le_of_ble_eq_true (by kernel_rfl)) ok_joinerylaw4_Peers ((S_joinerylaw4_Peers_eq ..).symm ▸ h)

/-- joinery/joinerylaw4.Make -/
def S_joinerylaw4_Make (P : Program) (p0 p1 p2 p3 : Value) (w : World) (R : Value → World → Prop) : Prop :=
 XAlloc P 31 w fun v8 w1 =>
 XCall P 18 #[p0, (Value.int .i64 7)] w1 fun v14 w2 =>
 XBin P .add 3 true false (Value.int .i64 1) v14 w2 fun v15 w3 =>
 XCall P 18 #[p1, (Value.int .i64 999999)] w3 fun v17 w4 =>
 XBin P .add 3 true false (Value.int .i64 1) v17 w4 fun v18 w5 =>
 XBuild P 31 #[(0, v15), (1, v18)] w5 fun v19 w6 =>
 XAlloc P 31 w6 fun v9 w7 =>
 XStore P 31 v9 v19 w7 fun w8 =>
 ∃ J1 : Value → World → Prop, (∀ (_jk1 : Env) (u10_n : Value) (w9 : World), J1 u10_n w9 →
 XFld P 31 v9 0 w9 fun v26 w10 =>
 XLoad P 3 v26 w10 fun v27 w11 =>
 XBin P .eql 3 false true v27 (Value.int .i64 1) w11 fun v29 w12 =>
 XC v29 (
 XCall P 40 #[p3, u10_n] w12 fun v32 w13 =>
 XFld P 31 v9 1 w13 fun v33 w14 =>
 XStore P 3 v33 (Value.int .i64 0) w14 fun w15 =>
 XFld P 31 v9 4 w15 fun v34 w16 =>
 XStore P 29 v34 v32 w16 fun w17 =>
 XLoad P 31 v9 w17 fun v99 w18 =>
 XStore P 31 v8 v99 w18 fun w19 =>
 XLoad P 31 v8 w19 fun r1 w20 => w20 = w19 ∧ R r1 w19) (
 XBin P .eql 3 false true v27 (Value.int .i64 2) w12 fun v36 w21 =>
 XC v36 (
 XCall P 41 #[p3] w21 fun v38 w22 =>
 XFld P 31 v9 1 w22 fun v39 w23 =>
 XStore P 3 v39 (Value.int .i64 0) w23 fun w24 =>
 XFld P 31 v9 4 w24 fun v40 w25 =>
 XFld P 29 v40 0 w25 fun v41 w26 =>
 XStore P 9 v41 v38 w26 fun w27 =>
 XLoad P 31 v9 w27 fun v99_2 w28 =>
 XStore P 31 v8 v99_2 w28 fun w29 =>
 XLoad P 31 v8 w29 fun r2 w30 => w30 = w29 ∧ R r2 w29) (
 XBin P .eql 3 false true v27 (Value.int .i64 3) w21 fun v43 w31 =>
 XC v43 (
 XCall P 42 #[p3] w31 fun v45 w32 =>
 XFld P 31 v9 2 w32 fun v46 w33 =>
 XStore P 22 v46 v45 w33 fun w34 =>
 ∃ (I1 : Value → World → Prop) (m1 : Value → World → Nat), I1 (Value.int .i64 0) w34 ∧ ∀ (_jk2 : Env) (u11_i : Value) (w35 : World), I1 u11_i w35 →
 XBin P .lss 3 false true u11_i (Value.int .i64 8) w35 fun v48 w36 =>
 ∃ J2 : Value → World → Prop, (∀ (_jk3 : Env) (u53 : Value) (w37 : World), J2 u53 w37 →
 XPick v48 u53 (Value.bool false) fun q1 =>
 ∃ J3 : Value → World → Prop, (∀ (_jk4 : Env) (u57 : Value) (w38 : World), J3 u57 w38 →
 XPick q1 (Value.bool true) u57 fun q2 =>
 XC q2 (
 ∃ J4 : Value → World → Prop, (∀ (_jk5 : Env) (u12_k : Value) (w39 : World), J4 u12_k w39 →
 ∃ E1 FE1 : World → World → Prop, Pre E1 FE1 ∧
 ∃ d70_1 : Value, (∀ w40 : World, XFld P 31 v9 3 w40 fun v70 w42 =>
 v70 = d70_1 ∧ w42 = w40) ∧
 ∃ d71_1 : Value, (∀ w43 : World, E1 w39.drew w43 → XLoad P 24 d70_1 w43 fun v71 w45 =>
 v71 = d71_1 ∧ FE1 w43 w45) ∧
 ∃ d73_1 : Value, (∀ w46 : World, XBin P .add 3 true false (Value.int .i64 97) u11_i w46 fun v73 w48 =>
 v73 = d73_1 ∧ w48 = w46) ∧
 ∃ d74_1 : Value, (∀ w49 : World, XConv P 3 5 d73_1 w49 fun v74 w51 =>
 v74 = d74_1 ∧ w51 = w49) ∧
 ∃ d79_1 : Value, (∀ w52 : World, E1 w39.drew w52 → XCall P 41 #[u12_k] w52 fun v79 w54 =>
 v79 = d79_1 ∧ FE1 w52 w54) ∧
 ∃ d81_1 : Value, (∀ w55 : World, XBin P .quo 3 false true u12_k (Value.int .i64 8) w55 fun v81 w57 =>
 v81 = d81_1 ∧ w57 = w55) ∧
 ∃ d82_1 : Value, (∀ w58 : World, E1 w39.drew w58 → XCall P 18 #[d81_1, (Value.int .i64 1099511627777)] w58 fun v82 w60 =>
 v82 = d82_1 ∧ FE1 w58 w60) ∧
 ∃ d84_1 : Value, (∀ w61 : World, E1 w39.drew w61 → XCall P 18 #[u12_k, (Value.int .i64 9)] w61 fun v84 w63 =>
 v84 = d84_1 ∧ FE1 w61 w63) ∧
 ∃ d85_1 : Value, (∀ w64 : World, XBuild P 26 #[(0, d82_1), (1, d84_1)] w64 fun v85 w66 =>
 v85 = d85_1 ∧ w66 = w64) ∧
 ∃ d87_1 : Value, (∀ w67 : World, XBin P .quo 3 false true u12_k (Value.int .i64 3) w67 fun v87 w69 =>
 v87 = d87_1 ∧ w69 = w67) ∧
 ∃ d88_1 : Value, (∀ w70 : World, E1 w39.drew w70 → XCall P 18 #[d87_1, (Value.int .i64 3)] w70 fun v88 w72 =>
 v88 = d88_1 ∧ FE1 w70 w72) ∧
 ∃ d89_1 : Value, (∀ w73 : World, XBin P .eql 3 false true d88_1 (Value.int .i64 0) w73 fun v89 w75 =>
 v89 = d89_1 ∧ w75 = w73) ∧
 ∀ w76 : World, FE1 w39.drew w76 →
 XBuildS P 43 1 #[(0, d74_1)] w76 fun v75 w77 =>
 E1 w76 w77 ∧
 ∀ w78 : World, FE1 w77 w78 →
 XConv P 43 9 v75 w78 fun v76 w79 =>
 E1 w78 w79 ∧
 ∃ d77_1 : Value, (∀ w80 : World, XBin P .add 9 true false (Value.string ⟨#[112]⟩) v76 w80 fun v77 w82 =>
 v77 = d77_1 ∧ w82 = w80) ∧
 ∃ d90_1 : Value, (∀ w83 : World, XBuild P 45 #[(0, d77_1), (1, d79_1), (2, d85_1), (3, d89_1)] w83 fun v90 w85 =>
 v90 = d90_1 ∧ w85 = w83) ∧
 ∀ w86 : World, FE1 w79 w86 →
 XBuildS P 24 1 #[(0, d90_1)] w86 fun v91 w87 =>
 E1 w86 w87 ∧
 ∀ w88 : World, FE1 w87 w88 →
 XB P .append #[24, 24] 24 #[d71_1, v91] w88 fun v92 w89 =>
 ∃ d93_1 : Value, (∀ w90 : World, XFld P 31 v9 3 w90 fun v93 w92 =>
 v93 = d93_1 ∧ w92 = w90) ∧
 XStore P 24 d93_1 v92 w89 fun w93 =>
 XBin P .add 3 false true u11_i (Value.int .i64 1) w93 fun v60 w94 =>
 I1 v60 w94 ∧ m1 v60 w94 < m1 u11_i w35) ∧
 XB P .len #[22] 3 #[p2] w38 fun v64 w95 =>
 XBin P .lss 3 false false u11_i v64 w95 fun v65 w96 =>
 XC v65 (
 XIdx P 22 p2 u11_i w96 fun v68 w97 =>
 XLoad P 3 v68 w97 fun v69 w98 =>
 J4 v69 w98) (
 J4 u11_i w96)) (
 XLoad P 31 v9 w38 fun v99_3 w99 =>
 XStore P 31 v8 v99_3 w99 fun w100 =>
 XLoad P 31 v8 w100 fun r3 w101 => w101 = w100 ∧ R r3 w100)) ∧
 XG q1 false (
 XBin P .eql 3 false true u11_i (Value.int .i64 0) w37 fun v57 w102 =>
 J3 v57 w102) (J3 undef w37)) ∧
 XG v48 true (
 XB P .len #[22] 3 #[p2] w36 fun v52 w103 =>
 XBin P .lss 3 false false u11_i v52 w103 fun v53 w104 =>
 J2 v53 w104) (J2 undef w36)) (
 XBin P .eql 3 false true v27 (Value.int .i64 7) w31 fun v95 w105 =>
 XC v95 (
 XCall P 42 #[p3] w105 fun v97 w106 =>
 XFld P 31 v9 2 w106 fun v98 w107 =>
 XStore P 22 v98 v97 w107 fun w108 =>
 XLoad P 31 v9 w108 fun v99_4 w109 =>
 XStore P 31 v8 v99_4 w109 fun w110 =>
 XLoad P 31 v8 w110 fun r4 w111 => w111 = w110 ∧ R r4 w110) (
 XLoad P 31 v9 w105 fun v99_5 w112 =>
 XStore P 31 v8 v99_5 w112 fun w113 =>
 XLoad P 31 v8 w113 fun r5 w114 => w114 = w113 ∧ R r5 w113))))) ∧
 XB P .len #[22] 3 #[p2] w8 fun v21 w115 =>
 XBin P .gtr 3 false true v21 (Value.int .i64 0) w115 fun v22 w116 =>
 XC v22 (
 XIdx P 22 p2 (Value.int .i64 0) w116 fun v24 w117 =>
 XLoad P 3 v24 w117 fun v25 w118 =>
 J1 v25 w118) (
 J1 (Value.int .i64 5) w116)
noncomputable def C_joinerylaw4_Make : Code := (Tryz.f16.body).getD .skip
noncomputable def an_joinerylaw4_Make : An := (.seq none (.reg []) (.seq none (.reg []) (.seq none (.reg []) (.seq (some [10]) (.seq none (.reg []) (.cond (.reg []) .leaf)) (.seq none (.seq none (.reg []) (.block none (.seq none (.reg []) (.cond (.reg []) (.seq none (.reg []) (.cond (.reg []) (.seq none (.reg []) (.cond (.seq none (.reg []) (.seq none (.reg []) (.block none (.loop [11] (.seq none (.seq none (.reg [[53], [57]]) (.cond .leaf .leaf)) (.seq none (.block none (.seq none (.reg []) (.seq (some [12]) (.seq none (.reg []) (.cond (.reg []) .leaf)) (.draw [0, 1, 0, 0, 0, 2, 2, 0, 0, 1, 0, 0, 1, 0, 1, 0, 0, 0, 1, 0, 0, 2, 2, 0, 2])))) (.reg []))))))) (.seq none (.reg []) (.cond (.reg []) .leaf)))))))))) (.seq none (.reg []) .leaf))))))
theorem S_joinerylaw4_Make_eq (P : Program) (p0 p1 p2 p3 : Value) (w : World) (R : Value → World → Prop) : WPf P C_joinerylaw4_Make Tryz.f16.results.toList an_joinerylaw4_Make #[p0, p1, p2, p3] w R = S_joinerylaw4_Make P p0 p1 p2 p3 w R := by kernel_rfl
theorem ok_joinerylaw4_Make : okC Tryz.f16.ntmps C_joinerylaw4_Make an_joinerylaw4_Make = true := by kernel_rfl
theorem call_joinerylaw4_Make {p0 p1 p2 p3 w R} (h : S_joinerylaw4_Make Tryz.prog p0 p1 p2 p3 w R) : Ret Tryz.prog 16 #[p0, p1, p2, p3] w R :=
  Ret_of_WPf mixed Tryz.func16 (by kernel_rfl) (Nat.le_of_ble_eq_true (by kernel_rfl)) ok_joinerylaw4_Make ((S_joinerylaw4_Make_eq ..).symm ▸ h)

/-- joinery/joinerylaw4.LineBlanks -/
def S_joinerylaw4_LineBlanks (P : Program) (p0 p1 p2 p3 p4 p5 : Value) (w : World) (R : Value → World → Prop) : Prop :=
 XCall P 15 #[] w fun v19 w1 =>
 XUn P .not v19 w1 fun v20 w2 =>
 XC v20 (
 R (Value.bool false) w2) (
 XCall P 16 #[p0, p1, p2, p3] w2 fun v25 w3 =>
 XAlloc P 31 w3 fun v13 w4 =>
 XStore P 31 v13 v25 w4 fun w5 =>
 XLoad P 31 v13 w5 fun v26 w6 =>
 XCall P 17 #[v26] w6 fun v27 w7 =>
 XB P .len #[9] 3 #[v27] w7 fun v30 w8 =>
 XBin P .add 3 false true v30 (Value.int .i64 1) w8 fun v31 w9 =>
 XCall P 18 #[p4, v31] w9 fun v32 w10 =>
 ∃ E1 FE1 : World → World → Prop, Pre E1 FE1 ∧
 ∃ d35_1 : Value, (∀ w11 : World, XSlice P 9 v27 none (some v32) none w11 fun v35 w13 =>
 v35 = d35_1 ∧ w13 = w11) ∧
 ∃ d38_1 : Value, (∀ w14 : World, E1 w10.drew w14 → XCall P 18 #[p5, (Value.int .i64 6)] w14 fun v38 w16 =>
 v38 = d38_1 ∧ FE1 w14 w16) ∧
 ∃ d44_1 : Value, (∀ w17 : World, XSlice P 9 v27 (some v32) none none w17 fun v44 w19 =>
 v44 = d44_1 ∧ w19 = w17) ∧
 ∀ w20 : World, FE1 w10.drew w20 →
 XBuildS P 27 6 #[(0, (Value.string ⟨#[32]⟩)), (1, (Value.string ⟨#[9]⟩)), (2, (Value.string ⟨#[10]⟩)), (3, (Value.string ⟨#[45]⟩)), (4, (Value.string ⟨#[0]⟩)), (5, (Value.string ⟨#[206, 177]⟩))] w20 fun v36 w21 =>
 E1 w20 w21 ∧
 ∃ d39_1 : Value, (∀ w22 : World, XIdx P 27 v36 d38_1 w22 fun v39 w24 =>
 v39 = d39_1 ∧ w24 = w22) ∧
 ∀ w25 : World, FE1 w21 w25 →
 XLoad P 9 d39_1 w25 fun v40 w26 =>
 ∃ d41_1 : Value, (∀ w27 : World, XBin P .add 9 false false d35_1 v40 w27 fun v41 w29 =>
 v41 = d41_1 ∧ w29 = w27) ∧
 ∃ d45_1 : Value, (∀ w30 : World, XBin P .add 9 false false d41_1 d44_1 w30 fun v45 w32 =>
 v45 = d45_1 ∧ w32 = w30) ∧
 XCall P 19 #[d45_1] w26 fun v48 w33 =>
 XExt P v48 0 w33 fun v49 w34 =>
 XExt P v48 1 w34 fun v50 w35 =>
 XAlloc P 31 w35 fun v17 w36 =>
 XStore P 31 v17 v49 w36 fun w37 =>
 XBin P .neq 35 false true v50 (Value.int .i64 0) w37 fun v52 w38 =>
 ∃ J1 : Value → World → Prop, (∀ (_jk1 : Env) (u56 : Value) (w39 : World), J1 u56 w39 →
 XPick v52 u56 (Value.bool false) fun q1 =>
 ∃ J2 : Value → World → Prop, (∀ (_jk2 : Env) (u61 : Value) (w40 : World), J2 u61 w40 →
 ∃ J3 : Value → World → Prop, (∀ (_jk3 : Env) (u65 : Value) (w41 : World), J3 u65 w41 →
 ∃ J4 : Value → World → Prop, (∀ (_jk4 : Env) (u67 : Value) (w42 : World), J4 u67 w42 →
 ∃ J5 : Value → World → Prop, (∀ (_jk5 : Env) (u71 : Value) (w43 : World), J5 u71 w43 →
 ∃ J6 : Value → World → Prop, (∀ (_jk6 : Env) (u72 : Value) (w44 : World), J6 u72 w44 →
 XPick q1 (Value.bool true) u72 fun q2 =>
 R q2 w44) ∧
 XG q1 false (
 XPick u67 u71 (Value.bool false) fun q3 =>
 J6 q3 w43) (J6 undef w43)) ∧
 XG u67 true (
 XLoad P 31 v17 w42 fun v68 w45 =>
 XCall P 17 #[v68] w45 fun v69 w46 =>
 XBin P .eql 9 false false v69 d45_1 w46 fun v71 w47 =>
 J5 v71 w47) (J5 undef w42)) ∧
 XG q1 false (
 XPick u61 u65 (Value.bool false) fun q4 =>
 J4 q4 w41) (J4 undef w41)) ∧
 XG u61 true (
 XLoad P 31 v17 w40 fun v62 w48 =>
 XLoad P 31 v13 w48 fun v63 w49 =>
 XCall P 20 #[v62, v63] w49 fun v64 w50 =>
 XUn P .not v64 w50 fun v65 w51 =>
 J3 v65 w51) (J3 undef w40)) ∧
 XG q1 false (
 XBin P .eql 35 false true v50 (Value.int .i64 0) w39 fun v60 w52 =>
 J2 v60 w52) (J2 undef w39)) ∧
 XG v52 true (
 XFld P 31 v17 0 w38 fun v54 w53 =>
 XLoad P 3 v54 w53 fun v55 w54 =>
 XBin P .eql 3 false true v55 (Value.int .i64 0) w54 fun v56 w55 =>
 J1 v56 w55) (J1 undef w38))
noncomputable def C_joinerylaw4_LineBlanks : Code := (Tryz.f3.body).getD .skip
noncomputable def an_joinerylaw4_LineBlanks : An := (.seq none (.reg []) (.seq none (.seq none (.reg []) (.cond (.seq none (.reg []) .leaf) .leaf)) (.seq none (.reg []) (.seq none (.reg []) (.seq none (.reg []) (.seq none (.draw [0, 0, 0, 2, 0, 1, 0, 2, 0, 0, 0, 0, 0, 2]) (.seq none (.reg []) (.seq none (.reg [[56], [61], [65], [67], [71], [72]]) .leaf))))))))
theorem S_joinerylaw4_LineBlanks_eq (P : Program) (p0 p1 p2 p3 p4 p5 : Value) (w : World) (R : Value → World → Prop) : WPf P C_joinerylaw4_LineBlanks Tryz.f3.results.toList an_joinerylaw4_LineBlanks #[p0, p1, p2, p3, p4, p5] w R = S_joinerylaw4_LineBlanks P p0 p1 p2 p3 p4 p5 w R := by kernel_rfl
theorem ok_joinerylaw4_LineBlanks : okC Tryz.f3.ntmps C_joinerylaw4_LineBlanks an_joinerylaw4_LineBlanks = true := by kernel_rfl
theorem call_joinerylaw4_LineBlanks {p0 p1 p2 p3 p4 p5 w R} (h : S_joinerylaw4_LineBlanks Tryz.prog p0 p1 p2 p3 p4 p5 w R) : Ret Tryz.prog 3 #[p0, p1, p2, p3, p4, p5] w R :=
  Ret_of_WPf mixed Tryz.func3 (by kernel_rfl) (Nat.le_of_ble_eq_true (by kernel_rfl)) ok_joinerylaw4_LineBlanks ((S_joinerylaw4_LineBlanks_eq ..).symm ▸ h)

/-- joinery/joinerylaw4.LineFirst -/
def S_joinerylaw4_LineFirst (P : Program) (p0 p1 p2 p3 p4 : Value) (w : World) (R : Value → World → Prop) : Prop :=
 XCall P 15 #[] w fun v22 w1 =>
 XUn P .not v22 w1 fun v23 w2 =>
 XC v23 (
 R (Value.bool false) w2) (
 XCall P 16 #[p0, p1, p2, p3] w2 fun v28 w3 =>
 XAlloc P 31 w3 fun v11 w4 =>
 XStore P 31 v11 v28 w4 fun w5 =>
 XLoad P 31 v11 w5 fun v29 w6 =>
 XCall P 17 #[v29] w6 fun v30 w7 =>
 XBuildS P 27 7 #[(0, (Value.string ⟨#[110, 111, 100, 101, 32]⟩)), (1, (Value.string ⟨#[103, 111, 110, 101, 32]⟩)), (2, (Value.string ⟨#[112, 114, 101, 112, 97, 114, 101, 32]⟩)), (3, (Value.string ⟨#[99, 111, 109, 109, 105, 116, 32]⟩)), (4, (Value.string ⟨#[97, 98, 111, 114, 116, 32]⟩)), (5, (Value.string ⟨#[114, 101, 108, 101, 97, 115, 101, 32]⟩)), (6, (Value.string ⟨#[103, 97, 110, 103, 32]⟩))] w7 fun v31 w8 =>
 XFld P 31 v11 0 w8 fun v33 w9 =>
 XLoad P 3 v33 w9 fun v34 w10 =>
 XBin P .sub 3 false true v34 (Value.int .i64 1) w10 fun v35 w11 =>
 XIdx P 27 v31 v35 w11 fun v36 w12 =>
 XLoad P 9 v36 w12 fun v37 w13 =>
 XB P .len #[9] 3 #[v30] w13 fun v39 w14 =>
 XB P .len #[9] 3 #[v37] w14 fun v41 w15 =>
 XBin P .leq 3 false false v39 v41 w15 fun v42 w16 =>
 ∃ J1 : Value → World → Prop, (∀ (_jk1 : Env) (u49 : Value) (w17 : World), J1 u49 w17 →
 XPick v42 (Value.bool true) u49 fun q1 =>
 XC q1 (
 R (Value.bool false) w17) (
 XCall P 18 #[p4, (Value.int .i64 7)] w17 fun v52 w18 =>
 ∃ E1 FE1 : World → World → Prop, Pre E1 FE1 ∧
 ∃ d56_1 : Value, (∀ w19 : World, XIdx P 27 v31 v52 w19 fun v56 w21 =>
 v56 = d56_1 ∧ w21 = w19) ∧
 ∃ d57_1 : Value, (∀ w22 : World, E1 w18.drew w22 → XLoad P 9 d56_1 w22 fun v57 w24 =>
 v57 = d57_1 ∧ FE1 w22 w24) ∧
 ∃ d60_1 : Value, (∀ w25 : World, XB P .len #[9] 3 #[v37] w25 fun v60 w27 =>
 v60 = d60_1 ∧ w27 = w25) ∧
 ∃ d61_1 : Value, (∀ w28 : World, XSlice P 9 v30 (some d60_1) none none w28 fun v61 w30 =>
 v61 = d61_1 ∧ w30 = w28) ∧
 ∃ d62_1 : Value, (∀ w31 : World, XBin P .add 9 false false d57_1 d61_1 w31 fun v62 w33 =>
 v62 = d62_1 ∧ w33 = w31) ∧
 ∀ w34 : World, FE1 w18.drew w34 →
(XCall P 19 #[d62_1] w34 fun v63 w35 =>
 ∃ d64_1 : Value, (∀ w36 : World, XExt P v63 0 w36 fun v64 w38 =>
 v64 = d64_1 ∧ w38 = w36) ∧
 ∃ d65_1 : Value, (∀ w39 : World, XExt P v63 1 w39 fun v65 w41 =>
 v65 = d65_1 ∧ w41 = w39) ∧
 XAlloc P 31 w35 fun v16 w42 =>
 XStore P 31 v16 d64_1 w42 fun w43 =>
 ∃ E2 FE2 : World → World → Prop, Pre E2 FE2 ∧
 ∃ d69_1 : Value, (∀ w44 : World, XIdx P 27 v31 v52 w44 fun v69 w46 =>
 v69 = d69_1 ∧ w46 = w44) ∧
 ∃ d70_1 : Value, (∀ w47 : World, E2 w43.drew w47 → XLoad P 9 d69_1 w47 fun v70 w49 =>
 v70 = d70_1 ∧ FE2 w47 w49) ∧
 ∃ d73_1 : Value, (∀ w50 : World, XB P .len #[9] 3 #[v37] w50 fun v73 w52 =>
 v73 = d73_1 ∧ w52 = w50) ∧
 ∃ d74_1 : Value, (∀ w53 : World, XSlice P 9 v30 (some d73_1) none none w53 fun v74 w55 =>
 v74 = d74_1 ∧ w55 = w53) ∧
 ∃ d75_1 : Value, (∀ w56 : World, XBin P .add 9 false false d70_1 d74_1 w56 fun v75 w58 =>
 v75 = d75_1 ∧ w58 = w56) ∧
 ∀ w59 : World, FE2 w43.drew w59 →
(XCall P 21 #[d75_1] w59 fun v76 w60 =>
 ∃ d77_1 : Value, (∀ w61 : World, XExt P v76 0 w61 fun v77 w63 =>
 v77 = d77_1 ∧ w63 = w61) ∧
 ∃ d78_1 : Value, (∀ w64 : World, XExt P v76 1 w64 fun v78 w66 =>
 v78 = d78_1 ∧ w66 = w64) ∧
 XAlloc P 31 w60 fun v18 w67 =>
 XStore P 31 v18 d77_1 w67 fun w68 =>
 XB P .len #[9] 3 #[v37] w68 fun v82 w69 =>
 XSlice P 9 v30 (some v82) none none w69 fun v83 w70 =>
 XBin P .add 9 true false (Value.string ⟨#[104, 111, 108, 100, 115, 32]⟩) v83 w70 fun v84 w71 =>
 XCall P 19 #[v84] w71 fun v85 w72 =>
 XExt P v85 0 w72 fun v86 w73 =>
 XExt P v85 1 w73 fun v87 w74 =>
 XAlloc P 31 w74 fun v20 w75 =>
 XStore P 31 v20 v86 w75 fun w76 =>
 XBin P .eql 3 false false d65_1 d78_1 w76 fun v90 w77 =>
 ∃ J2 : Value → World → Prop, (∀ (_jk2 : Env) (u94 : Value) (w78 : World), J2 u94 w78 →
 XPick v90 u94 (Value.bool false) fun q2 =>
 ∃ J3 : Value → World → Prop, (∀ (_jk3 : Env) (u98 : Value) (w79 : World), J3 u98 w79 →
 XPick q2 u98 (Value.bool false) fun q3 =>
 R q3 w79) ∧
 XG q2 true (
 XBin P .eql 35 false true v87 (Value.int .i64 8) w78 fun v98 w80 =>
 J3 v98 w80) (J3 undef w78)) ∧
 XG v90 true (
 XLoad P 31 v16 w77 fun v92 w81 =>
 XLoad P 31 v18 w81 fun v93 w82 =>
 XCall P 20 #[v92, v93] w82 fun v94 w83 =>
 J2 v94 w83) (J2 undef w77)) ∧
(XAlloc P 31 w59 fun v18_2 w84 =>
 E2 w59 w84 ∧
 ∀ w85 : World, FE2 w84 w85 →
 XCall P 21 #[d75_1] w85 fun v76_2 w86 =>
 ∃ d77_2 : Value, (∀ w87 : World, XExt P v76_2 0 w87 fun v77_2 w89 =>
 v77_2 = d77_2 ∧ w89 = w87) ∧
 ∃ d78_2 : Value, (∀ w90 : World, XExt P v76_2 1 w90 fun v78_2 w92 =>
 v78_2 = d78_2 ∧ w92 = w90) ∧
 XStore P 31 v18_2 d77_2 w86 fun w93 =>
 XB P .len #[9] 3 #[v37] w93 fun v82_2 w94 =>
 XSlice P 9 v30 (some v82_2) none none w94 fun v83_2 w95 =>
 XBin P .add 9 true false (Value.string ⟨#[104, 111, 108, 100, 115, 32]⟩) v83_2 w95 fun v84_2 w96 =>
 XCall P 19 #[v84_2] w96 fun v85_2 w97 =>
 XExt P v85_2 0 w97 fun v86_2 w98 =>
 XExt P v85_2 1 w98 fun v87_2 w99 =>
 XAlloc P 31 w99 fun v20_2 w100 =>
 XStore P 31 v20_2 v86_2 w100 fun w101 =>
 XBin P .eql 3 false false d65_1 d78_2 w101 fun v90_2 w102 =>
 ∃ J4 : Value → World → Prop, (∀ (_jk4 : Env) (u94_2 : Value) (w103 : World), J4 u94_2 w103 →
 XPick v90_2 u94_2 (Value.bool false) fun q4 =>
 ∃ J5 : Value → World → Prop, (∀ (_jk5 : Env) (u98_2 : Value) (w104 : World), J5 u98_2 w104 →
 XPick q4 u98_2 (Value.bool false) fun q5 =>
 R q5 w104) ∧
 XG q4 true (
 XBin P .eql 35 false true v87_2 (Value.int .i64 8) w103 fun v98_2 w105 =>
 J5 v98_2 w105) (J5 undef w103)) ∧
 XG v90_2 true (
 XLoad P 31 v16 w102 fun v92_2 w106 =>
 XLoad P 31 v18_2 w106 fun v93_2 w107 =>
 XCall P 20 #[v92_2, v93_2] w107 fun v94_2 w108 =>
 J4 v94_2 w108) (J4 undef w102))) ∧
(XAlloc P 31 w34 fun v16_2 w109 =>
 E1 w34 w109 ∧
 ∀ w110 : World, FE1 w109 w110 →
 XCall P 19 #[d62_1] w110 fun v63_2 w111 =>
 ∃ d64_2 : Value, (∀ w112 : World, XExt P v63_2 0 w112 fun v64_2 w114 =>
 v64_2 = d64_2 ∧ w114 = w112) ∧
 ∃ d65_2 : Value, (∀ w115 : World, XExt P v63_2 1 w115 fun v65_2 w117 =>
 v65_2 = d65_2 ∧ w117 = w115) ∧
 XStore P 31 v16_2 d64_2 w111 fun w118 =>
 ∃ E3 FE3 : World → World → Prop, Pre E3 FE3 ∧
 ∃ d69_2 : Value, (∀ w119 : World, XIdx P 27 v31 v52 w119 fun v69_2 w121 =>
 v69_2 = d69_2 ∧ w121 = w119) ∧
 ∃ d70_2 : Value, (∀ w122 : World, E3 w118.drew w122 → XLoad P 9 d69_2 w122 fun v70_2 w124 =>
 v70_2 = d70_2 ∧ FE3 w122 w124) ∧
 ∃ d73_2 : Value, (∀ w125 : World, XB P .len #[9] 3 #[v37] w125 fun v73_2 w127 =>
 v73_2 = d73_2 ∧ w127 = w125) ∧
 ∃ d74_2 : Value, (∀ w128 : World, XSlice P 9 v30 (some d73_2) none none w128 fun v74_2 w130 =>
 v74_2 = d74_2 ∧ w130 = w128) ∧
 ∃ d75_2 : Value, (∀ w131 : World, XBin P .add 9 false false d70_2 d74_2 w131 fun v75_2 w133 =>
 v75_2 = d75_2 ∧ w133 = w131) ∧
 ∀ w134 : World, FE3 w118.drew w134 →
(XCall P 21 #[d75_2] w134 fun v76_3 w135 =>
 ∃ d77_3 : Value, (∀ w136 : World, XExt P v76_3 0 w136 fun v77_3 w138 =>
 v77_3 = d77_3 ∧ w138 = w136) ∧
 ∃ d78_3 : Value, (∀ w139 : World, XExt P v76_3 1 w139 fun v78_3 w141 =>
 v78_3 = d78_3 ∧ w141 = w139) ∧
 XAlloc P 31 w135 fun v18_3 w142 =>
 XStore P 31 v18_3 d77_3 w142 fun w143 =>
 XB P .len #[9] 3 #[v37] w143 fun v82_3 w144 =>
 XSlice P 9 v30 (some v82_3) none none w144 fun v83_3 w145 =>
 XBin P .add 9 true false (Value.string ⟨#[104, 111, 108, 100, 115, 32]⟩) v83_3 w145 fun v84_3 w146 =>
 XCall P 19 #[v84_3] w146 fun v85_3 w147 =>
 XExt P v85_3 0 w147 fun v86_3 w148 =>
 XExt P v85_3 1 w148 fun v87_3 w149 =>
 XAlloc P 31 w149 fun v20_3 w150 =>
 XStore P 31 v20_3 v86_3 w150 fun w151 =>
 XBin P .eql 3 false false d65_2 d78_3 w151 fun v90_3 w152 =>
 ∃ J6 : Value → World → Prop, (∀ (_jk6 : Env) (u94_3 : Value) (w153 : World), J6 u94_3 w153 →
 XPick v90_3 u94_3 (Value.bool false) fun q6 =>
 ∃ J7 : Value → World → Prop, (∀ (_jk7 : Env) (u98_3 : Value) (w154 : World), J7 u98_3 w154 →
 XPick q6 u98_3 (Value.bool false) fun q7 =>
 R q7 w154) ∧
 XG q6 true (
 XBin P .eql 35 false true v87_3 (Value.int .i64 8) w153 fun v98_3 w155 =>
 J7 v98_3 w155) (J7 undef w153)) ∧
 XG v90_3 true (
 XLoad P 31 v16_2 w152 fun v92_3 w156 =>
 XLoad P 31 v18_3 w156 fun v93_3 w157 =>
 XCall P 20 #[v92_3, v93_3] w157 fun v94_3 w158 =>
 J6 v94_3 w158) (J6 undef w152)) ∧
(XAlloc P 31 w134 fun v18_4 w159 =>
 E3 w134 w159 ∧
 ∀ w160 : World, FE3 w159 w160 →
 XCall P 21 #[d75_2] w160 fun v76_4 w161 =>
 ∃ d77_4 : Value, (∀ w162 : World, XExt P v76_4 0 w162 fun v77_4 w164 =>
 v77_4 = d77_4 ∧ w164 = w162) ∧
 ∃ d78_4 : Value, (∀ w165 : World, XExt P v76_4 1 w165 fun v78_4 w167 =>
 v78_4 = d78_4 ∧ w167 = w165) ∧
 XStore P 31 v18_4 d77_4 w161 fun w168 =>
 XB P .len #[9] 3 #[v37] w168 fun v82_4 w169 =>
 XSlice P 9 v30 (some v82_4) none none w169 fun v83_4 w170 =>
 XBin P .add 9 true false (Value.string ⟨#[104, 111, 108, 100, 115, 32]⟩) v83_4 w170 fun v84_4 w171 =>
 XCall P 19 #[v84_4] w171 fun v85_4 w172 =>
 XExt P v85_4 0 w172 fun v86_4 w173 =>
 XExt P v85_4 1 w173 fun v87_4 w174 =>
 XAlloc P 31 w174 fun v20_4 w175 =>
 XStore P 31 v20_4 v86_4 w175 fun w176 =>
 XBin P .eql 3 false false d65_2 d78_4 w176 fun v90_4 w177 =>
 ∃ J8 : Value → World → Prop, (∀ (_jk8 : Env) (u94_4 : Value) (w178 : World), J8 u94_4 w178 →
 XPick v90_4 u94_4 (Value.bool false) fun q8 =>
 ∃ J9 : Value → World → Prop, (∀ (_jk9 : Env) (u98_4 : Value) (w179 : World), J9 u98_4 w179 →
 XPick q8 u98_4 (Value.bool false) fun q9 =>
 R q9 w179) ∧
 XG q8 true (
 XBin P .eql 35 false true v87_4 (Value.int .i64 8) w178 fun v98_4 w180 =>
 J9 v98_4 w180) (J9 undef w178)) ∧
 XG v90_4 true (
 XLoad P 31 v16_2 w177 fun v92_4 w181 =>
 XLoad P 31 v18_4 w181 fun v93_4 w182 =>
 XCall P 20 #[v92_4, v93_4] w182 fun v94_4 w183 =>
 J8 v94_4 w183) (J8 undef w177))))) ∧
 XG v42 false (
 XB P .len #[9] 3 #[v37] w16 fun v46 w184 =>
 XSlice P 9 v30 none (some v46) none w184 fun v47 w185 =>
 XBin P .neq 9 false false v47 v37 w185 fun v49 w186 =>
 J1 v49 w186) (J1 undef w16))
noncomputable def C_joinerylaw4_LineFirst : Code := (Tryz.f4.body).getD .skip
noncomputable def an_joinerylaw4_LineFirst : An := (.seq none (.reg []) (.seq none (.seq none (.reg []) (.cond (.seq none (.reg []) .leaf) .leaf)) (.seq none (.reg []) (.seq none (.reg []) (.seq none (.reg []) (.seq none (.reg []) (.seq none (.seq none (.reg [[49]]) (.cond (.seq none (.reg []) .leaf) .leaf)) (.seq none (.reg []) (.seq none (.draw [0, 0, 0, 1, 0, 0, 0, 0, 0, 2, 0, 0, 0, 2, 2, 2]) (.seq none (.draw [0, 0, 0, 1, 0, 0, 0, 0, 0, 2, 0, 0, 0, 2, 2, 2]) (.seq none (.reg []) (.seq none (.reg [[94], [98]]) .leaf))))))))))))
theorem S_joinerylaw4_LineFirst_eq (P : Program) (p0 p1 p2 p3 p4 : Value) (w : World) (R : Value → World → Prop) : WPf P C_joinerylaw4_LineFirst Tryz.f4.results.toList an_joinerylaw4_LineFirst #[p0, p1, p2, p3, p4] w R = S_joinerylaw4_LineFirst P p0 p1 p2 p3 p4 w R := by kernel_rfl
theorem ok_joinerylaw4_LineFirst : okC Tryz.f4.ntmps C_joinerylaw4_LineFirst an_joinerylaw4_LineFirst = true := by kernel_rfl
theorem call_joinerylaw4_LineFirst {p0 p1 p2 p3 p4 w R} (h : S_joinerylaw4_LineFirst Tryz.prog p0 p1 p2 p3 p4 w R) : Ret Tryz.prog 4 #[p0, p1, p2, p3, p4] w R :=
  Ret_of_WPf mixed Tryz.func4 (by kernel_rfl) (Nat.le_of_ble_eq_true (by kernel_rfl)) ok_joinerylaw4_LineFirst ((S_joinerylaw4_LineFirst_eq ..).symm ▸ h)

/-- joinery/joinerylaw4.LineEight -/
def S_joinerylaw4_LineEight (P : Program) (p0 p1 p2 : Value) (w : World) (R : Value → World → Prop) : Prop :=
 XCall P 15 #[] w fun v17 w1 =>
 XUn P .not v17 w1 fun v18 w2 =>
 XC v18 (
 R (Value.bool false) w2) (
 XCall P 18 #[p0, (Value.int .i64 11)] w2 fun v20 w3 =>
 XBuildS P 22 1 #[(0, (Value.int .i64 2))] w3 fun v21 w4 =>
 XBuild P 31 #[(0, (Value.int .i64 3)), (1, (Value.int .i64 3)), (2, v21)] w4 fun v22 w5 =>
 XAlloc P 31 w5 fun v8 w6 =>
 XStore P 31 v8 v22 w6 fun w7 =>
 ∃ (I1 : Value → Value → World → Prop) (m1 : Value → Value → World → Nat), I1 (Value.string ⟨#[112, 114, 101, 112, 97, 114, 101, 32, 51, 32, 50]⟩) (Value.int .i64 0) w7 ∧ ∀ (_jk1 : Env) (u9_s u10_i : Value) (w8 : World), I1 u9_s u10_i w8 →
 XBin P .lss 3 false false u10_i v20 w8 fun v25 w9 =>
 XC v25 (
 XBin P .add 3 true false (Value.int .i64 97) u10_i w9 fun v29 w10 =>
 XConv P 3 5 v29 w10 fun v30 w11 =>
 XBuildS P 43 1 #[(0, v30)] w11 fun v31 w12 =>
 XConv P 43 9 v31 w12 fun v32 w13 =>
 XBin P .add 9 true false (Value.string ⟨#[112]⟩) v32 w13 fun v33 w14 =>
 XFld P 31 v8 3 w14 fun v34 w15 =>
 XLoad P 24 v34 w15 fun v35 w16 =>
 XBuild P 45 #[(0, v33), (1, (Value.string ⟨#[110]⟩))] w16 fun v37 w17 =>
 XBuildS P 24 1 #[(0, v37)] w17 fun v38 w18 =>
 XB P .append #[24, 24] 24 #[v35, v38] w18 fun v39 w19 =>
 XFld P 31 v8 3 w19 fun v40 w20 =>
 XStore P 24 v40 v39 w20 fun w21 =>
 XBin P .add 9 false true u9_s (Value.string ⟨#[32]⟩) w21 fun v42 w22 =>
 XBin P .add 9 false false v42 v33 w22 fun v44 w23 =>
 XBin P .add 9 false true v44 (Value.string ⟨#[62, 110, 58, 48, 44, 48]⟩) w23 fun v45 w24 =>
 XBin P .add 3 false true u10_i (Value.int .i64 1) w24 fun v27 w25 =>
 I1 v45 v27 w25 ∧ m1 v45 v27 w25 < m1 u9_s u10_i w8) (
 XCall P 19 #[u9_s] w9 fun v48 w26 =>
 XExt P v48 0 w26 fun v49 w27 =>
 XExt P v48 1 w27 fun v50 w28 =>
 XAlloc P 31 w28 fun v12 w29 =>
 XStore P 31 v12 v49 w29 fun w30 =>
 ∃ J1 : Value → World → Prop, (∀ (_jk2 : Env) (u14_want : Value) (w31 : World), J1 u14_want w31 →
 XLoad P 31 v8 w31 fun v57 w32 =>
 XCall P 22 #[v57] w32 fun v58 w33 =>
 XBin P .neq 35 false false v58 u14_want w33 fun v60 w34 =>
 ∃ J2 : Value → World → Prop, (∀ (_jk3 : Env) (u64 : Value) (w35 : World), J2 u64 w35 →
 XPick v60 (Value.bool true) u64 fun q1 =>
 ∃ J3 : Value → World → Prop, (∀ (_jk4 : Env) (u68 : Value) (w36 : World), J3 u68 w36 →
 XPick q1 (Value.bool true) u68 fun q2 =>
 XC q2 (
 XLoad P 31 v8 w36 fun v70 w37 =>
 XCall P 22 #[v70] w37 fun v71 w38 =>
 XBin P .eql 35 false false v71 u14_want w38 fun v73 w39 =>
 ∃ J4 : Value → World → Prop, (∀ (_jk5 : Env) (u77 : Value) (w40 : World), J4 u77 w40 →
 XPick v73 u77 (Value.bool false) fun q3 =>
 R q3 w40) ∧
 XG v73 true (
 XBin P .eql 35 false false v50 u14_want w39 fun v77 w41 =>
 J4 v77 w41) (J4 undef w39)) (
 XCall P 18 #[p1, v20] w36 fun v81 w42 =>
 XCall P 18 #[p2, v20] w42 fun v84 w43 =>
 ∃ E1 FE1 : World → World → Prop, Pre E1 FE1 ∧
 ∃ d85_1 : Value, (∀ w44 : World, XFld P 31 v8 3 w44 fun v85 w46 =>
 v85 = d85_1 ∧ w46 = w44) ∧
 ∃ d86_1 : Value, (∀ w47 : World, E1 w43.drew w47 → XLoad P 24 d85_1 w47 fun v86 w49 =>
 v86 = d86_1 ∧ FE1 w47 w49) ∧
 ∃ d88_1 : Value, (∀ w50 : World, XFld P 31 v8 3 w50 fun v88 w52 =>
 v88 = d88_1 ∧ w52 = w50) ∧
 ∃ d89_1 : Value, (∀ w53 : World, E1 w43.drew w53 → XLoad P 24 d88_1 w53 fun v89 w55 =>
 v89 = d89_1 ∧ FE1 w53 w55) ∧
 ∃ d91_1 : Value, (∀ w56 : World, XIdx P 24 d89_1 v84 w56 fun v91 w58 =>
 v91 = d91_1 ∧ w58 = w56) ∧
 ∃ d92_1 : Value, (∀ w59 : World, XFld P 45 d91_1 0 w59 fun v92 w61 =>
 v92 = d92_1 ∧ w61 = w59) ∧
 ∃ d93_1 : Value, (∀ w62 : World, E1 w43.drew w62 → XLoad P 9 d92_1 w62 fun v93 w64 =>
 v93 = d93_1 ∧ FE1 w62 w64) ∧
 ∃ d94_1 : Value, (∀ w65 : World, XIdx P 24 d86_1 v81 w65 fun v94 w67 =>
 v94 = d94_1 ∧ w67 = w65) ∧
 ∃ d95_1 : Value, (∀ w68 : World, XFld P 45 d94_1 0 w68 fun v95 w70 =>
 v95 = d95_1 ∧ w70 = w68) ∧
 ∀ w71 : World, FE1 w43.drew w71 →
 XStore P 9 d95_1 d93_1 w71 fun w72 =>
 XFld P 31 v12 3 w72 fun v96 w73 =>
 XLoad P 24 v96 w73 fun v97 w74 =>
 XFld P 31 v12 3 w74 fun v98 w75 =>
 XLoad P 24 v98 w75 fun v99 w76 =>
 XCall P 23 #[v97, v99] w76 fun v100 w77 =>
 ∃ J5 : Value → World → Prop, (∀ (_jk6 : Env) (u106 : Value) (w78 : World), J5 u106 w78 →
 XPick v100 u106 (Value.bool false) fun q4 =>
 ∃ J6 : Value → World → Prop, (∀ (_jk7 : Env) (u115 : Value) (w79 : World), J6 u115 w79 →
 XPick q4 u115 (Value.bool false) fun q5 =>
 R q5 w79) ∧
 XG q4 true (
 XLoad P 31 v8 w78 fun v109 w80 =>
 XCall P 22 #[v109] w80 fun v110 w81 =>
 XBin P .eql 35 false true v110 (Value.int .i64 4) w81 fun v111 w82 =>
 XBin P .neq 3 false false v81 v84 w82 fun v114 w83 =>
 XBin P .eql 4 false false v111 v114 w83 fun v115 w84 =>
 J6 v115 w84) (J6 undef w78)) ∧
 XG v100 true (
 XFld P 31 v12 3 w77 fun v102 w85 =>
 XLoad P 24 v102 w85 fun v103 w86 =>
 XB P .len #[24] 3 #[v103] w86 fun v104 w87 =>
 XBin P .eql 3 false false v104 v20 w87 fun v106 w88 =>
 J5 v106 w88) (J5 undef w77))) ∧
 XG q1 false (
 XBin P .neq 35 false true u14_want (Value.int .i64 0) w35 fun v68 w89 =>
 J3 v68 w89) (J3 undef w35)) ∧
 XG v60 false (
 XBin P .neq 35 false false v50 u14_want w34 fun v64 w90 =>
 J2 v64 w90) (J2 undef w34)) ∧
 XBin P .lss 3 false true v20 (Value.int .i64 1) w30 fun v52 w91 =>
 ∃ J7 : Value → World → Prop, (∀ (_jk8 : Env) (u55 : Value) (w92 : World), J7 u55 w92 →
 XPick v52 (Value.bool true) u55 fun q6 =>
 XC q6 (
 J1 (Value.int .i64 3) w92) (
 J1 (Value.int .i64 0) w92)) ∧
 XG v52 false (
 XBin P .gtr 3 false true v20 (Value.int .i64 8) w91 fun v55 w93 =>
 J7 v55 w93) (J7 undef w91)))
noncomputable def C_joinerylaw4_LineEight : Code := (Tryz.f5.body).getD .skip
noncomputable def an_joinerylaw4_LineEight : An := (.seq none (.reg []) (.seq none (.seq none (.reg []) (.cond (.seq none (.reg []) .leaf) .leaf)) (.seq none (.reg []) (.seq none (.reg []) (.seq none (.reg []) (.seq none (.seq none (.reg []) (.block none (.loop [9, 10] (.seq none (.seq none (.reg []) (.cond .leaf .leaf)) (.seq none (.block none (.seq none (.reg []) (.seq none (.reg []) (.reg [])))) (.reg [])))))) (.seq none (.reg []) (.seq none (.reg []) (.seq (some [14]) (.seq none (.reg [[55]]) (.cond (.reg []) .leaf)) (.seq none (.seq none (.reg [[64], [68]]) (.cond (.seq none (.reg [[77]]) .leaf) .leaf)) (.seq none (.reg []) (.seq none (.draw [0, 1, 0, 0, 1, 0, 0, 0, 1, 0, 0, 2]) (.seq none (.reg [[106], [115]]) .leaf)))))))))))))
theorem S_joinerylaw4_LineEight_eq (P : Program) (p0 p1 p2 : Value) (w : World) (R : Value → World → Prop) : WPf P C_joinerylaw4_LineEight Tryz.f5.results.toList an_joinerylaw4_LineEight #[p0, p1, p2] w R = S_joinerylaw4_LineEight P p0 p1 p2 w R := by kernel_rfl
theorem ok_joinerylaw4_LineEight : okC Tryz.f5.ntmps C_joinerylaw4_LineEight an_joinerylaw4_LineEight = true := by kernel_rfl
theorem call_joinerylaw4_LineEight {p0 p1 p2 w R} (h : S_joinerylaw4_LineEight Tryz.prog p0 p1 p2 w R) : Ret Tryz.prog 5 #[p0, p1, p2] w R :=
  Ret_of_WPf mixed Tryz.func5 (by kernel_rfl) (Nat.le_of_ble_eq_true (by kernel_rfl)) ok_joinerylaw4_LineEight ((S_joinerylaw4_LineEight_eq ..).symm ▸ h)

/-- joinery/joinerylaw4.LineKnown -/
def S_joinerylaw4_LineKnown (P : Program) (p0 : Value) (w : World) (R : Value → World → Prop) : Prop :=
 XCall P 15 #[] w fun v8 w1 =>
 XUn P .not v8 w1 fun v9 w2 =>
 XC v9 (
 R (Value.bool false) w2) (
 XBuildS P 27 30 #[(0, (Value.string ⟨#[110, 111, 100, 101, 32, 110, 49, 58, 52, 44, 56, 43, 98, 105, 103, 43, 115, 115, 100, 126, 206, 179, 33]⟩)), (1, (Value.string ⟨#[103, 111, 110, 101, 32, 207, 137, 57]⟩)), (2, (Value.string ⟨#[112, 114, 101, 112, 97, 114, 101, 32, 49, 50, 32, 49, 44, 51, 32, 112, 97, 62, 110, 49, 58, 50, 44, 48, 33, 32, 112, 98, 62, 206, 177, 58, 48, 44, 49]⟩)), (3, (Value.string ⟨#[103, 97, 110, 103, 32, 57, 57, 57, 57, 57, 57, 32, 49, 44, 50, 44, 51, 44, 52]⟩)), (4, (Value.string ⟨#[97, 98, 111, 114, 116, 32, 49]⟩)), (5, (Value.string ⟨#[114, 101, 108, 101, 97, 115, 101, 32, 51, 48]⟩)), (6, (Value.string ⟨#[110, 111, 100, 101, 32, 110, 49, 58, 52, 44, 56]⟩)), (7, (Value.string ⟨#[99, 111, 109, 109, 105, 116, 32, 48]⟩)), (8, (Value.string ⟨#[99, 111, 109, 109, 105, 116, 32, 48, 49]⟩)), (9, (Value.string ⟨#[99, 111, 109, 109, 105, 116, 32, 49, 32, 50]⟩)), (10, (Value.string ⟨#[99, 111, 109, 109, 105, 116]⟩)), (11, (Value.string ⟨#[103, 97, 110, 103, 32, 49]⟩)), (12, (Value.string ⟨#[103, 97, 110, 103, 32, 49, 32, 50, 44, 49]⟩)), (13, (Value.string ⟨#[103, 97, 110, 103, 32, 49, 32, 53]⟩)), (14, (Value.string ⟨#[103, 97, 110, 103, 32, 49, 32, 49, 44]⟩)), (15, (Value.string ⟨#[112, 114, 101, 112, 97, 114, 101, 32, 49, 32, 49]⟩)), (16, (Value.string ⟨#[112, 114, 101, 112, 97, 114, 101, 32, 49, 32, 49, 32, 112, 97, 62, 110, 58, 49, 44, 49, 32, 112, 97, 62, 109, 58, 48, 44, 48]⟩)), (17, (Value.string ⟨#[110, 111, 100, 101, 32, 78, 58, 49, 44, 49]⟩)), (18, (Value.string ⟨#[110, 111, 100, 101, 32, 110, 58, 49]⟩)), (19, (Value.string ⟨#[110, 111, 100, 101, 32, 110, 58, 49, 44, 49, 43, 98, 43, 97]⟩)), (20, (Value.string ⟨#[110, 111, 100, 101, 32, 110, 58, 49, 44, 49, 126]⟩)), (21, (Value.string ⟨#[110, 111, 100, 101, 32, 110, 58, 49, 44, 49, 33, 120]⟩)), (22, (Value.string ⟨#[103, 111, 110, 101, 32, 32, 97]⟩)), (23, (Value.string ⟨#[103, 111, 110, 101, 32, 97, 32, 98]⟩)), (24, (Value.string ⟨#[110, 111, 100, 101, 32, 110, 58, 49, 48, 57, 57, 53, 49, 49, 54, 50, 55, 55, 55, 55, 44, 48]⟩)), (25, (Value.string ⟨#[110, 111, 100, 101, 32, 110, 58, 49, 48, 48, 48, 48, 48, 48, 48, 48, 48, 48, 48, 48, 48, 48, 48, 44, 48]⟩)), (26, (Value.string ⟨#[112, 114, 101, 112, 97, 114, 101, 32, 49, 32, 49, 32, 112, 97, 62, 58, 49, 44, 49]⟩)), (27, (Value.string ⟨#[67, 111, 109, 109, 105, 116, 32, 49]⟩)), (28, (Value.string ⟨#[103, 111, 110, 101, 32, 97, 58]⟩)), (29, (Value.string ⟨#[99, 111, 109, 109, 105, 116, 32, 49, 48, 48, 48, 48, 48, 48]⟩))] w2 fun v10 w3 =>
 XBuildS P 27 30 #[(0, (Value.string ⟨#[]⟩)), (1, (Value.string ⟨#[]⟩)), (2, (Value.string ⟨#[]⟩)), (3, (Value.string ⟨#[]⟩)), (4, (Value.string ⟨#[]⟩)), (5, (Value.string ⟨#[]⟩)), (6, (Value.string ⟨#[]⟩)), (7, (Value.string ⟨#[97, 114, 103]⟩)), (8, (Value.string ⟨#[102, 111, 114, 109]⟩)), (9, (Value.string ⟨#[102, 111, 114, 109]⟩)), (10, (Value.string ⟨#[102, 111, 114, 109]⟩)), (11, (Value.string ⟨#[102, 111, 114, 109]⟩)), (12, (Value.string ⟨#[97, 114, 103]⟩)), (13, (Value.string ⟨#[97, 114, 103]⟩)), (14, (Value.string ⟨#[102, 111, 114, 109]⟩)), (15, (Value.string ⟨#[108, 111, 110, 103]⟩)), (16, (Value.string ⟨#[116, 119, 105, 99, 101]⟩)), (17, (Value.string ⟨#[110, 97, 109, 101]⟩)), (18, (Value.string ⟨#[102, 111, 114, 109]⟩)), (19, (Value.string ⟨#[110, 97, 109, 101]⟩)), (20, (Value.string ⟨#[102, 111, 114, 109]⟩)), (21, (Value.string ⟨#[102, 111, 114, 109]⟩)), (22, (Value.string ⟨#[102, 111, 114, 109]⟩)), (23, (Value.string ⟨#[102, 111, 114, 109]⟩)), (24, (Value.string ⟨#[97, 114, 103]⟩)), (25, (Value.string ⟨#[102, 111, 114, 109]⟩)), (26, (Value.string ⟨#[102, 111, 114, 109]⟩)), (27, (Value.string ⟨#[102, 111, 114, 109]⟩)), (28, (Value.string ⟨#[102, 111, 114, 109]⟩)), (29, (Value.string ⟨#[97, 114, 103]⟩))] w3 fun v11 w4 =>
 XB P .len #[27] 3 #[v10] w4 fun v14 w5 =>
 XCall P 18 #[p0, v14] w5 fun v15 w6 =>
 XIdx P 27 v10 v15 w6 fun v19 w7 =>
 XLoad P 9 v19 w7 fun v20 w8 =>
 XCall P 19 #[v20] w8 fun v21 w9 =>
 XExt P v21 0 w9 fun v22 w10 =>
 XExt P v21 1 w10 fun v23 w11 =>
 XAlloc P 31 w11 fun v6 w12 =>
 XStore P 31 v6 v22 w12 fun w13 =>
 XIdx P 27 v11 v15 w13 fun v26 w14 =>
 XLoad P 9 v26 w14 fun v27 w15 =>
 XBin P .eql 9 false true v27 (Value.string ⟨#[]⟩) w15 fun v28 w16 =>
 XC v28 (
 ∃ E1 FE1 : World → World → Prop, Pre E1 FE1 ∧
 ∃ d30_1 : Value, (∀ w17 : World, XBin P .eql 35 false true v23 (Value.int .i64 0) w17 fun v30 w19 =>
 v30 = d30_1 ∧ w19 = w17) ∧
 ∃ d32_1 : Value, (XG d30_1 true (∀ w20 : World, E1 w16.drew w20 → XLoad P 31 v6 w20 fun v32 w22 =>
 v32 = d32_1 ∧ FE1 w20 w22) (d32_1 = undef)) ∧
 ∃ d33_1 : Value, (XG d30_1 true (∀ w23 : World, E1 w16.drew w23 → XCall P 17 #[d32_1] w23 fun v33 w25 =>
 v33 = d33_1 ∧ FE1 w23 w25) (d33_1 = undef)) ∧
 ∃ d34_1 : Value, (XG d30_1 true (∀ w26 : World, v10 = d34_1 ∧ w26 = w26) (d34_1 = undef)) ∧
 ∃ d35_1 : Value, (XG d30_1 true (∀ w28 : World, v15 = d35_1 ∧ w28 = w28) (d35_1 = undef)) ∧
 ∃ d36_1 : Value, (XG d30_1 true (∀ w30 : World, XIdx P 27 d34_1 d35_1 w30 fun v36 w32 =>
 v36 = d36_1 ∧ w32 = w30) (d36_1 = undef)) ∧
 ∃ d37_1 : Value, (XG d30_1 true (∀ w33 : World, E1 w16.drew w33 → XLoad P 9 d36_1 w33 fun v37 w35 =>
 v37 = d37_1 ∧ FE1 w33 w35) (d37_1 = undef)) ∧
 ∃ d38_1 : Value, (XG d30_1 true (∀ w36 : World, XBin P .eql 9 false false d33_1 d37_1 w36 fun v38 w38 =>
 v38 = d38_1 ∧ w38 = w36) (d38_1 = undef)) ∧
 ∃ d39_1 : Value, (∀ w39 : World, XPick d30_1 d38_1 (Value.bool false) fun q1 =>
 q1 = d39_1 ∧ w39 = w39) ∧
 ∀ w41 : World, FE1 w16.drew w41 →
 R d39_1 w41) (
 ∃ E2 FE2 : World → World → Prop, Pre E2 FE2 ∧
 ∃ d41_1 : Value, (∀ w42 : World, E2 w16.drew w42 → XCall P 24 #[v23] w42 fun v41 w44 =>
 v41 = d41_1 ∧ FE2 w42 w44) ∧
 ∃ d44_1 : Value, (∀ w45 : World, XIdx P 27 v11 v15 w45 fun v44 w47 =>
 v44 = d44_1 ∧ w47 = w45) ∧
 ∃ d45_1 : Value, (∀ w48 : World, E2 w16.drew w48 → XLoad P 9 d44_1 w48 fun v45 w50 =>
 v45 = d45_1 ∧ FE2 w48 w50) ∧
 ∃ d46_1 : Value, (∀ w51 : World, XBin P .eql 9 false false d41_1 d45_1 w51 fun v46 w53 =>
 v46 = d46_1 ∧ w53 = w51) ∧
 ∃ d48_1 : Value, (XG d46_1 true (∀ w54 : World, XFld P 31 v6 0 w54 fun v48 w56 =>
 v48 = d48_1 ∧ w56 = w54) (d48_1 = undef)) ∧
 ∃ d49_1 : Value, (XG d46_1 true (∀ w57 : World, E2 w16.drew w57 → XLoad P 3 d48_1 w57 fun v49 w59 =>
 v49 = d49_1 ∧ FE2 w57 w59) (d49_1 = undef)) ∧
 ∃ d50_1 : Value, (XG d46_1 true (∀ w60 : World, XBin P .eql 3 false true d49_1 (Value.int .i64 0) w60 fun v50 w62 =>
 v50 = d50_1 ∧ w62 = w60) (d50_1 = undef)) ∧
 ∃ d51_1 : Value, (∀ w63 : World, XPick d46_1 d50_1 (Value.bool false) fun q2 =>
 q2 = d51_1 ∧ w63 = w63) ∧
 ∀ w65 : World, FE2 w16.drew w65 →
 R d51_1 w65))
noncomputable def C_joinerylaw4_LineKnown : Code := (Tryz.f6.body).getD .skip
noncomputable def an_joinerylaw4_LineKnown : An := (.seq none (.reg []) (.seq none (.seq none (.reg []) (.cond (.seq none (.reg []) .leaf) .leaf)) (.seq none (.reg []) (.seq none (.reg []) (.seq none (.reg []) (.seq none (.reg []) (.seq none (.seq none (.reg []) (.cond (.seq none (.draw [0, 0, 0, 1, 1, 0, 0, 0, 1, 0, 0, 2]) .leaf) .leaf)) (.seq none (.draw [0, 1, 0, 0, 0, 1, 0, 0, 0, 1, 0, 0, 2]) .leaf))))))))
theorem S_joinerylaw4_LineKnown_eq (P : Program) (p0 : Value) (w : World) (R : Value → World → Prop) : WPf P C_joinerylaw4_LineKnown Tryz.f6.results.toList an_joinerylaw4_LineKnown #[p0] w R = S_joinerylaw4_LineKnown P p0 w R := by kernel_rfl
theorem ok_joinerylaw4_LineKnown : okC Tryz.f6.ntmps C_joinerylaw4_LineKnown an_joinerylaw4_LineKnown = true := by kernel_rfl
theorem call_joinerylaw4_LineKnown {p0 w R} (h : S_joinerylaw4_LineKnown Tryz.prog p0 w R) : Ret Tryz.prog 6 #[p0] w R :=
  Ret_of_WPf mixed Tryz.func6 (by kernel_rfl) (Nat.le_of_ble_eq_true (by kernel_rfl)) ok_joinerylaw4_LineKnown ((S_joinerylaw4_LineKnown_eq ..).symm ▸ h)

abbrev F_api_Errno_Error : FuncId := 24
theorem en_api_Errno_Error (args : Array Value) (w : World) : (callFunc 24 args).run Tryz.prog w = .ok (.enter 24 args) w := by kernel_rfl
abbrev F_api_early : FuncId := 62
theorem en_api_early (args : Array Value) (w : World) : (callFunc 62 args).run Tryz.prog w = .ok (.enter 62 args) w := by kernel_rfl
abbrev F_api_late : FuncId := 63
theorem en_api_late (args : Array Value) (w : World) : (callFunc 63 args).run Tryz.prog w = .ok (.enter 63 args) w := by kernel_rfl
abbrev F_joinerylaw2_within : FuncId := 79
theorem en_joinerylaw2_within (args : Array Value) (w : World) : (callFunc 79 args).run Tryz.prog w = .ok (.enter 79 args) w := by kernel_rfl
abbrev F_joinerylaw2_Name : FuncId := 41
theorem en_joinerylaw2_Name (args : Array Value) (w : World) : (callFunc 41 args).run Tryz.prog w = .ok (.enter 41 args) w := by kernel_rfl
abbrev F_joinerylaw2_Set : FuncId := 78
theorem en_joinerylaw2_Set (args : Array Value) (w : World) : (callFunc 78 args).run Tryz.prog w = .ok (.enter 78 args) w := by kernel_rfl
abbrev F_joinerylaw3_within : FuncId := 77
theorem en_joinerylaw3_within (args : Array Value) (w : World) : (callFunc 77 args).run Tryz.prog w = .ok (.enter 77 args) w := by kernel_rfl
abbrev F_joinerylaw3_Node : FuncId := 40
theorem en_joinerylaw3_Node (args : Array Value) (w : World) : (callFunc 40 args).run Tryz.prog w = .ok (.enter 40 args) w := by kernel_rfl
abbrev F_joinerylaw4_within : FuncId := 18
theorem en_joinerylaw4_within (args : Array Value) (w : World) : (callFunc 18 args).run Tryz.prog w = .ok (.enter 18 args) w := by kernel_rfl
abbrev F_joinerylaw4_known : FuncId := 15
theorem en_joinerylaw4_known (args : Array Value) (w : World) : (callFunc 15 args).run Tryz.prog w = .ok (.enter 15 args) w := by kernel_rfl
abbrev F_joinerylaw4_Peers : FuncId := 42
theorem en_joinerylaw4_Peers (args : Array Value) (w : World) : (callFunc 42 args).run Tryz.prog w = .ok (.enter 42 args) w := by kernel_rfl
abbrev F_joinerylaw4_Make : FuncId := 16
theorem en_joinerylaw4_Make (args : Array Value) (w : World) : (callFunc 16 args).run Tryz.prog w = .ok (.enter 16 args) w := by kernel_rfl
abbrev F_joinerylaw4_LineBlanks : FuncId := 3
theorem en_joinerylaw4_LineBlanks (args : Array Value) (w : World) : (callFunc 3 args).run Tryz.prog w = .ok (.enter 3 args) w := by kernel_rfl
abbrev F_joinerylaw4_LineFirst : FuncId := 4
theorem en_joinerylaw4_LineFirst (args : Array Value) (w : World) : (callFunc 4 args).run Tryz.prog w = .ok (.enter 4 args) w := by kernel_rfl
abbrev F_joinerylaw4_LineEight : FuncId := 5
theorem en_joinerylaw4_LineEight (args : Array Value) (w : World) : (callFunc 5 args).run Tryz.prog w = .ok (.enter 5 args) w := by kernel_rfl
abbrev F_joinerylaw4_LineKnown : FuncId := 6
theorem en_joinerylaw4_LineKnown (args : Array Value) (w : World) : (callFunc 6 args).run Tryz.prog w = .ok (.enter 6 args) w := by kernel_rfl

end Go.Proofs.YthkgbajldkicfaaGreatDoor
