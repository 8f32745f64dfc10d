/-
  Shallow forms: the document's own. Each is the precondition of a Go function, computed over its code; that both are one is checked by the kernel.
-/
import Derived.Test.YthkgbajldkicfaaGreatDoorTypes
namespace Go.Proofs.YthkgbajldkicfaaGreatDoor
set_option linter.unusedVariables false
set_option linter.unusedSimpArgs false
open Go Go.Jo
set_option linter.unusedVariables false
set_option maxRecDepth 100000
/-- joinery/joineryref2.Name -/
def S_joineryref2_Name (P : Program) (p0 : Value) (w : World) (R : Value → World → Prop) : Prop :=
 XRange P 9 p0 w fun v8 w1 =>
 ∃ (I1 : Value → World → Prop) (m1 : Value → World → Nat), I1 (Value.int .i64 0) w1 ∧ ∀ (_jk1 : Env) (u3_n : Value) (w2 : World), I1 u3_n w2 →
 XNext P v8 true 0 w2 fun v9 w3 =>
 XExt P v9 0 w3 fun v10 w4 =>
 XC v10 (
 XExt P v9 1 w4 fun v11 w5 =>
 XExt P v9 2 w5 fun v12 w6 =>
 XBin P .geq 21 false true v12 (Value.int .i32 48) w6 fun v14 w7 =>
 ∃ J1 : Value → World → Prop, (∀ (_jk2 : Env) (u17 : Value) (w8 : World), J1 u17 w8 →
 XPick v14 u17 (Value.bool false) fun q1 =>
 XUn P .not q1 w8 fun v20 w9 =>
 ∃ J2 : Value → World → Prop, (∀ (_jk3 : Env) (u24 : Value) (w10 : World), J2 u24 w10 →
 ∃ J3 : Value → World → Prop, (∀ (_jk4 : Env) (u26 : Value) (w11 : World), J3 u26 w11 →
 ∃ J4 : Value → World → Prop, (∀ (_jk5 : Env) (u27 : Value) (w12 : World), J4 u27 w12 →
 XPick v20 u27 (Value.bool false) fun q2 =>
 ∃ J5 : Value → World → Prop, (∀ (_jk6 : Env) (u32 : Value) (w13 : World), J5 u32 w13 →
 ∃ J6 : Value → World → Prop, (∀ (_jk7 : Env) (u34 : Value) (w14 : World), J6 u34 w14 →
 ∃ J7 : Value → World → Prop, (∀ (_jk8 : Env) (u35 : Value) (w15 : World), J7 u35 w15 →
 XPick q2 u35 (Value.bool false) fun q3 =>
 ∃ J8 : Value → World → Prop, (∀ (_jk9 : Env) (u39 : Value) (w16 : World), J8 u39 w16 →
 ∃ J9 : Value → World → Prop, (∀ (_jk10 : Env) (u41 : Value) (w17 : World), J9 u41 w17 →
 ∃ J10 : Value → World → Prop, (∀ (_jk11 : Env) (u42 : Value) (w18 : World), J10 u42 w18 →
 XPick q3 (Value.bool true) u42 fun q4 =>
 ∃ J11 : Value → World → Prop, (∀ (_jk12 : Env) (u46 : Value) (w19 : World), J11 u46 w19 →
 XPick q4 (Value.bool true) u46 fun q5 =>
 XC q5 (
 R (Value.bool false) w19) (
 XBin P .add 3 false true u3_n (Value.int .i64 1) w19 fun v49 w20 =>
 I1 v49 w20 ∧ m1 v49 w20 < m1 u3_n w2)) ∧
 XG q4 false (
 XBin P .eql 21 false true v12 (Value.int .i32 65533) w18 fun v46 w21 =>
 J11 v46 w21) (J11 undef w18)) ∧
 XG q3 false (
 XPick u39 u41 (Value.bool false) fun q6 =>
 J10 q6 w17) (J10 undef w17)) ∧
 XG u39 true (
 XBin P .eql 3 false true v11 (Value.int .i64 0) w16 fun v41 w22 =>
 J9 v41 w22) (J9 undef w16)) ∧
 XG q3 false (
 J8 q1 w15) (J8 undef w15)) ∧
 XG q2 true (
 XPick u32 (Value.bool true) u34 fun q7 =>
 J7 q7 w14) (J7 undef w14)) ∧
 XG u32 false (
 XBin P .gtr 21 false true v12 (Value.int .i32 969) w13 fun v34 w23 =>
 J6 v34 w23) (J6 undef w13)) ∧
 XG q2 true (
 XBin P .lss 21 false true v12 (Value.int .i32 945) w12 fun v31 w24 =>
 J5 v31 w24) (J5 undef w12)) ∧
 XG v20 true (
 XPick u24 (Value.bool true) u26 fun q8 =>
 J4 q8 w11) (J4 undef w11)) ∧
 XG u24 false (
 XBin P .gtr 21 false true v12 (Value.int .i32 122) w10 fun v26 w25 =>
 J3 v26 w25) (J3 undef w10)) ∧
 XG v20 true (
 XBin P .lss 21 false true v12 (Value.int .i32 97) w9 fun v23 w26 =>
 J2 v23 w26) (J2 undef w9)) ∧
 XG v14 true (
 XBin P .leq 21 false true v12 (Value.int .i32 57) w7 fun v17 w27 =>
 J1 v17 w27) (J1 undef w7)) (
 XBin P .geq 3 false true u3_n (Value.int .i64 1) w4 fun v51 w28 =>
 ∃ J12 : Value → World → Prop, (∀ (_jk13 : Env) (u54 : Value) (w29 : World), J12 u54 w29 →
 XPick v51 u54 (Value.bool false) fun q9 =>
 R q9 w29) ∧
 XG v51 true (
 XBin P .leq 3 false true u3_n (Value.int .i64 8) w28 fun v54 w30 =>
 J12 v54 w30) (J12 undef w28))
noncomputable def C_joineryref2_Name : Code := (Tryz.f104.body).getD .skip
noncomputable def an_joineryref2_Name : An := (.seq none (.reg []) (.seq none (.reg []) (.seq none (.seq none (.reg []) (.block none (.loop [3] (.seq none (.reg []) (.seq none (.cond .leaf .leaf) (.block none (.seq none (.reg []) (.seq none (.reg [[17]]) (.seq none (.seq none (.reg [[24], [26], [27], [32], [34], [35], [39], [41], [42], [46]]) (.cond (.seq none (.reg []) .leaf) .leaf)) (.reg [])))))))))) (.seq none (.reg [[54]]) .leaf))))
theorem S_joineryref2_Name_eq (P : Program) (p0 : Value) (w : World) (R : Value → World → Prop) : WPf P C_joineryref2_Name Tryz.f104.results.toList an_joineryref2_Name #[p0] w R = S_joineryref2_Name P p0 w R := by kernel_rfl
theorem ok_joineryref2_Name : okC Tryz.f104.ntmps C_joineryref2_Name an_joineryref2_Name = true := by kernel_rfl
theorem call_joineryref2_Name {p0 w R} (h : S_joineryref2_Name Tryz.prog p0 w R) : Ret Tryz.prog 104 #[p0] w R :=
  Ret_of_WPf mixed Tryz.func104 (by kernel_rfl) (Nat.le_of_ble_eq_true (by kernel_rfl)) ok_joineryref2_Name ((S_joineryref2_Name_eq ..).symm ▸ h)

/-- joinery/joineryref2.Set -/
def S_joineryref2_Set (P : Program) (p0 : Value) (w : World) (R : Value → World → Prop) : Prop :=
 XB P .len #[27] 3 #[p0] w fun v5 w1 =>
 XBin P .gtr 3 false true v5 (Value.int .i64 4) w1 fun v6 w2 =>
 XC v6 (
 R (Value.bool false) w2) (
 ∃ (I1 : Value → World → Prop) (m1 : Value → World → Nat), I1 (Value.int .i64 0) w2 ∧ ∀ (_jk1 : Env) (u3_i : Value) (w3 : World), I1 u3_i w3 →
 XB P .len #[27] 3 #[p0] w3 fun v9 w4 =>
 XBin P .lss 3 false false u3_i v9 w4 fun v10 w5 =>
 XC v10 (
 ∃ E1 FE1 : World → World → Prop, Pre E1 FE1 ∧
 ∃ d15_1 : Value, (∀ w6 : World, XIdx P 27 p0 u3_i w6 fun v15 w8 =>
 v15 = d15_1 ∧ w8 = w6) ∧
 ∃ d16_1 : Value, (∀ w9 : World, E1 w5.drew w9 → XLoad P 9 d15_1 w9 fun v16 w11 =>
 v16 = d16_1 ∧ FE1 w9 w11) ∧
 ∃ d17_1 : Value, (∀ w12 : World, E1 w5.drew w12 → XCall P 104 #[d16_1] w12 fun v17 w14 =>
 v17 = d17_1 ∧ FE1 w12 w14) ∧
 ∃ d18_1 : Value, (∀ w15 : World, XUn P .not d17_1 w15 fun v18 w17 =>
 v18 = d18_1 ∧ w17 = w15) ∧
 ∃ d20_1 : Value, (XG d18_1 false (∀ w18 : World, u3_i = d20_1 ∧ w18 = w18) (d20_1 = undef)) ∧
 ∃ d21_1 : Value, (XG d18_1 false (∀ w20 : World, XBin P .gtr 3 false true d20_1 (Value.int .i64 0) w20 fun v21 w22 =>
 v21 = d21_1 ∧ w22 = w20) (d21_1 = undef)) ∧
 ∃ d22_1 : Value, (XG d18_1 false (∀ w23 : World, d21_1 = d22_1 ∧ w23 = w23) (d22_1 = undef)) ∧
 ∃ d23_1 : Value, (XG d22_1 true (∀ w25 : World, p0 = d23_1 ∧ w25 = w25) (d23_1 = undef)) ∧
 ∃ d24_1 : Value, (XG d22_1 true (∀ w27 : World, u3_i = d24_1 ∧ w27 = w27) (d24_1 = undef)) ∧
 ∃ d25_1 : Value, (XG d22_1 true (∀ w29 : World, XBin P .sub 3 false true d24_1 (Value.int .i64 1) w29 fun v25 w31 =>
 v25 = d25_1 ∧ w31 = w29) (d25_1 = undef)) ∧
 ∃ d26_1 : Value, (XG d22_1 true (∀ w32 : World, XIdx P 27 d23_1 d25_1 w32 fun v26 w34 =>
 v26 = d26_1 ∧ w34 = w32) (d26_1 = undef)) ∧
 ∃ d27_1 : Value, (XG d22_1 true (∀ w35 : World, E1 w5.drew w35 → XLoad P 9 d26_1 w35 fun v27 w37 =>
 v27 = d27_1 ∧ FE1 w35 w37) (d27_1 = undef)) ∧
 ∃ d28_1 : Value, (XG d22_1 true (∀ w38 : World, p0 = d28_1 ∧ w38 = w38) (d28_1 = undef)) ∧
 ∃ d29_1 : Value, (XG d22_1 true (∀ w40 : World, u3_i = d29_1 ∧ w40 = w40) (d29_1 = undef)) ∧
 ∃ d30_1 : Value, (XG d22_1 true (∀ w42 : World, XIdx P 27 d28_1 d29_1 w42 fun v30 w44 =>
 v30 = d30_1 ∧ w44 = w42) (d30_1 = undef)) ∧
 ∃ d31_1 : Value, (XG d22_1 true (∀ w45 : World, E1 w5.drew w45 → XLoad P 9 d30_1 w45 fun v31 w47 =>
 v31 = d31_1 ∧ FE1 w45 w47) (d31_1 = undef)) ∧
 ∃ d32_1 : Value, (XG d22_1 true (∀ w48 : World, XBin P .geq 9 false false d27_1 d31_1 w48 fun v32 w50 =>
 v32 = d32_1 ∧ w50 = w48) (d32_1 = undef)) ∧
 ∃ d33_1 : Value, (XG d18_1 false (∀ w51 : World, XPick d22_1 d32_1 (Value.bool false) fun q1 =>
 q1 = d33_1 ∧ w51 = w51) (d33_1 = undef)) ∧
 ∃ d34_1 : Value, (∀ w53 : World, XPick d18_1 (Value.bool true) d33_1 fun q2 =>
 q2 = d34_1 ∧ w53 = w53) ∧
 ∀ w55 : World, FE1 w5.drew w55 →
 XC d34_1 (
 R (Value.bool false) w55) (
 XBin P .add 3 false true u3_i (Value.int .i64 1) w55 fun v12 w56 =>
 I1 v12 w56 ∧ m1 v12 w56 < m1 u3_i w3)) (
 R (Value.bool true) w5))
noncomputable def C_joineryref2_Set : Code := (Tryz.f138.body).getD .skip
noncomputable def an_joineryref2_Set : An := (.seq none (.reg []) (.seq none (.seq none (.reg []) (.cond (.seq none (.reg []) .leaf) .leaf)) (.seq none (.seq none (.reg []) (.block none (.loop [3] (.seq none (.seq none (.reg []) (.cond .leaf .leaf)) (.seq none (.block none (.seq none (.draw [0, 0, 0, 1, 1, 0, 0, 0, 0, 0, 0, 0, 0, 0, 1, 0, 0, 0, 1, 0, 0, 0]) (.cond (.seq none (.reg []) .leaf) .leaf))) (.reg [])))))) (.seq none (.reg []) .leaf))))
theorem S_joineryref2_Set_eq (P : Program) (p0 : Value) (w : World) (R : Value → World → Prop) : WPf P C_joineryref2_Set Tryz.f138.results.toList an_joineryref2_Set #[p0] w R = S_joineryref2_Set P p0 w R := by kernel_rfl
theorem ok_joineryref2_Set : okC Tryz.f138.ntmps C_joineryref2_Set an_joineryref2_Set = true := by kernel_rfl
theorem call_joineryref2_Set {p0 w R} (h : S_joineryref2_Set Tryz.prog p0 w R) : Ret Tryz.prog 138 #[p0] w R :=
  Ret_of_WPf mixed Tryz.func138 (by kernel_rfl) (Nat.le_of_ble_eq_true (by kernel_rfl)) ok_joineryref2_Set ((S_joineryref2_Set_eq ..).symm ▸ h)

/-- joinery/joineryref2.Same -/
def S_joineryref2_Same (P : Program) (p0 p1 : Value) (w : World) (R : Value → World → Prop) : Prop :=
 XB P .len #[27] 3 #[p0] w fun v7 w1 =>
 XB P .len #[27] 3 #[p1] w1 fun v9 w2 =>
 XBin P .neq 3 false false v7 v9 w2 fun v10 w3 =>
 XC v10 (
 R (Value.bool false) w3) (
 ∃ (I1 : Value → World → Prop) (m1 : Value → World → Nat), I1 (Value.int .i64 0) w3 ∧ ∀ (_jk1 : Env) (u5_i : Value) (w4 : World), I1 u5_i w4 →
 XB P .len #[27] 3 #[p0] w4 fun v13 w5 =>
 XBin P .lss 3 false false u5_i v13 w5 fun v14 w6 =>
 XC v14 (
 ∃ E1 FE1 : World → World → Prop, Pre E1 FE1 ∧
 ∃ d19_1 : Value, (∀ w7 : World, XIdx P 27 p0 u5_i w7 fun v19 w9 =>
 v19 = d19_1 ∧ w9 = w7) ∧
 ∃ d20_1 : Value, (∀ w10 : World, E1 w6.drew w10 → XLoad P 9 d19_1 w10 fun v20 w12 =>
 v20 = d20_1 ∧ FE1 w10 w12) ∧
 ∃ d23_1 : Value, (∀ w13 : World, XIdx P 27 p1 u5_i w13 fun v23 w15 =>
 v23 = d23_1 ∧ w15 = w13) ∧
 ∃ d24_1 : Value, (∀ w16 : World, E1 w6.drew w16 → XLoad P 9 d23_1 w16 fun v24 w18 =>
 v24 = d24_1 ∧ FE1 w16 w18) ∧
 ∃ d25_1 : Value, (∀ w19 : World, XBin P .neq 9 false false d20_1 d24_1 w19 fun v25 w21 =>
 v25 = d25_1 ∧ w21 = w19) ∧
 ∀ w22 : World, FE1 w6.drew w22 →
 XC d25_1 (
 R (Value.bool false) w22) (
 XBin P .add 3 false true u5_i (Value.int .i64 1) w22 fun v16 w23 =>
 I1 v16 w23 ∧ m1 v16 w23 < m1 u5_i w4)) (
 R (Value.bool true) w6))
noncomputable def C_joineryref2_Same : Code := (Tryz.f34.body).getD .skip
noncomputable def an_joineryref2_Same : An := (.seq none (.reg []) (.seq none (.seq none (.reg []) (.cond (.seq none (.reg []) .leaf) .leaf)) (.seq none (.seq none (.reg []) (.block none (.loop [5] (.seq none (.seq none (.reg []) (.cond .leaf .leaf)) (.seq none (.block none (.seq none (.draw [0, 0, 0, 1, 0, 0, 0, 1, 0]) (.cond (.seq none (.reg []) .leaf) .leaf))) (.reg [])))))) (.seq none (.reg []) .leaf))))
theorem S_joineryref2_Same_eq (P : Program) (p0 p1 : Value) (w : World) (R : Value → World → Prop) : WPf P C_joineryref2_Same Tryz.f34.results.toList an_joineryref2_Same #[p0, p1] w R = S_joineryref2_Same P p0 p1 w R := by kernel_rfl
theorem ok_joineryref2_Same : okC Tryz.f34.ntmps C_joineryref2_Same an_joineryref2_Same = true := by kernel_rfl
theorem call_joineryref2_Same {p0 p1 w R} (h : S_joineryref2_Same Tryz.prog p0 p1 w R) : Ret Tryz.prog 34 #[p0, p1] w R :=
  Ret_of_WPf mixed Tryz.func34 (by kernel_rfl) (Nat.le_of_ble_eq_true (by kernel_rfl)) ok_joineryref2_Same ((S_joineryref2_Same_eq ..).symm ▸ h)

/-- joinery/joineryref3.Size -/
def S_joineryref3_Size (P : Program) (p0 : Value) (w : World) (R : Value → World → Prop) : Prop :=
 XBox P 26 p0 w fun v1 w1 =>
 XFld P 26 v1 0 w1 fun v3 w2 =>
 XLoad P 3 v3 w2 fun v4 w3 =>
 XBin P .geq 3 false true v4 (Value.int .i64 0) w3 fun v5 w4 =>
 ∃ J1 : Value → World → Prop, (∀ (_jk1 : Env) (u9 : Value) (w5 : World), J1 u9 w5 →
 XPick v5 u9 (Value.bool false) fun q1 =>
 ∃ J2 : Value → World → Prop, (∀ (_jk2 : Env) (u14 : Value) (w6 : World), J2 u14 w6 →
 XPick q1 u14 (Value.bool false) fun q2 =>
 ∃ J3 : Value → World → Prop, (∀ (_jk3 : Env) (u19 : Value) (w7 : World), J3 u19 w7 →
 XPick q2 u19 (Value.bool false) fun q3 =>
 R q3 w7) ∧
 XG q2 true (
 XFld P 26 v1 1 w6 fun v17 w8 =>
 XLoad P 3 v17 w8 fun v18 w9 =>
 XBin P .leq 3 false true v18 (Value.int .i64 1099511627776) w9 fun v19 w10 =>
 J3 v19 w10) (J3 undef w6)) ∧
 XG q1 true (
 XFld P 26 v1 0 w5 fun v12 w11 =>
 XLoad P 3 v12 w11 fun v13 w12 =>
 XBin P .leq 3 false true v13 (Value.int .i64 1099511627776) w12 fun v14 w13 =>
 J2 v14 w13) (J2 undef w5)) ∧
 XG v5 true (
 XFld P 26 v1 1 w4 fun v7 w14 =>
 XLoad P 3 v7 w14 fun v8 w15 =>
 XBin P .geq 3 false true v8 (Value.int .i64 0) w15 fun v9 w16 =>
 J1 v9 w16) (J1 undef w4)
noncomputable def C_joineryref3_Size : Code := (Tryz.f137.body).getD .skip
noncomputable def an_joineryref3_Size : An := (.seq none (.reg []) (.seq none (.reg [[9], [14], [19]]) .leaf))
theorem S_joineryref3_Size_eq (P : Program) (p0 : Value) (w : World) (R : Value → World → Prop) : WPf P C_joineryref3_Size Tryz.f137.results.toList an_joineryref3_Size #[p0] w R = S_joineryref3_Size P p0 w R := by kernel_rfl
theorem ok_joineryref3_Size : okC Tryz.f137.ntmps C_joineryref3_Size an_joineryref3_Size = true := by kernel_rfl
theorem call_joineryref3_Size {p0 w R} (h : S_joineryref3_Size Tryz.prog p0 w R) : Ret Tryz.prog 137 #[p0] w R :=
  Ret_of_WPf mixed Tryz.func137 (by kernel_rfl) (Nat.le_of_ble_eq_true (by kernel_rfl)) ok_joineryref3_Size ((S_joineryref3_Size_eq ..).symm ▸ h)

/-- joinery/joineryref3.Node -/
def S_joineryref3_Node (P : Program) (p0 : Value) (w : World) (R : Value → World → Prop) : Prop :=
 XBox P 29 p0 w fun v1 w1 =>
 XFld P 29 v1 0 w1 fun v4 w2 =>
 XLoad P 9 v4 w2 fun v5 w3 =>
 XCall P 104 #[v5] w3 fun v6 w4 =>
 XUn P .not v6 w4 fun v7 w5 =>
 XC v7 (
 R (Value.int .i64 1) w5) (
 XFld P 29 v1 1 w5 fun v9 w6 =>
 XLoad P 26 v9 w6 fun v10 w7 =>
 XCall P 137 #[v10] w7 fun v11 w8 =>
 XUn P .not v11 w8 fun v12 w9 =>
 XC v12 (
 R (Value.int .i64 2) w9) (
 XFld P 29 v1 2 w9 fun v14 w10 =>
 XLoad P 27 v14 w10 fun v15 w11 =>
 XCall P 138 #[v15] w11 fun v16 w12 =>
 XUn P .not v16 w12 fun v17 w13 =>
 ∃ J1 : Value → World → Prop, (∀ (_jk1 : Env) (u22 : Value) (w14 : World), J1 u22 w14 →
 XPick v17 (Value.bool true) u22 fun q1 =>
 XC q1 (
 R (Value.int .i64 1) w14) (
 R (Value.int .i64 0) w14)) ∧
 XG v17 false (
 XFld P 29 v1 3 w13 fun v19 w15 =>
 XLoad P 27 v19 w15 fun v20 w16 =>
 XCall P 138 #[v20] w16 fun v21 w17 =>
 XUn P .not v21 w17 fun v22 w18 =>
 J1 v22 w18) (J1 undef w13)))
noncomputable def C_joineryref3_Node : Code := (Tryz.f103.body).getD .skip
noncomputable def an_joineryref3_Node : An := (.seq none (.reg []) (.seq none (.block none (.seq none (.reg []) (.cond (.seq none (.reg []) .leaf) (.seq none (.reg []) (.cond (.seq none (.reg []) .leaf) (.seq none (.reg [[22]]) (.cond (.seq none (.reg []) .leaf) .leaf))))))) (.seq none (.reg []) .leaf)))
theorem S_joineryref3_Node_eq (P : Program) (p0 : Value) (w : World) (R : Value → World → Prop) : WPf P C_joineryref3_Node Tryz.f103.results.toList an_joineryref3_Node #[p0] w R = S_joineryref3_Node P p0 w R := by kernel_rfl
theorem ok_joineryref3_Node : okC Tryz.f103.ntmps C_joineryref3_Node an_joineryref3_Node = true := by kernel_rfl
theorem call_joineryref3_Node {p0 w R} (h : S_joineryref3_Node Tryz.prog p0 w R) : Ret Tryz.prog 103 #[p0] w R :=
  Ret_of_WPf mixed Tryz.func103 (by kernel_rfl) (Nat.le_of_ble_eq_true (by kernel_rfl)) ok_joineryref3_Node ((S_joineryref3_Node_eq ..).symm ▸ h)

/-- joinery/joineryref3.Ints -/
def S_joineryref3_Ints (P : Program) (p0 p1 : Value) (w : World) (R : Value → World → Prop) : Prop :=
 XB P .len #[22] 3 #[p0] w fun v7 w1 =>
 XB P .len #[22] 3 #[p1] w1 fun v9 w2 =>
 XBin P .neq 3 false false v7 v9 w2 fun v10 w3 =>
 XC v10 (
 R (Value.bool false) w3) (
 ∃ (I1 : Value → World → Prop) (m1 : Value → World → Nat), I1 (Value.int .i64 0) w3 ∧ ∀ (_jk1 : Env) (u5_i : Value) (w4 : World), I1 u5_i w4 →
 XB P .len #[22] 3 #[p0] w4 fun v13 w5 =>
 XBin P .lss 3 false false u5_i v13 w5 fun v14 w6 =>
 XC v14 (
 ∃ E1 FE1 : World → World → Prop, Pre E1 FE1 ∧
 ∃ d19_1 : Value, (∀ w7 : World, XIdx P 22 p0 u5_i w7 fun v19 w9 =>
 v19 = d19_1 ∧ w9 = w7) ∧
 ∃ d20_1 : Value, (∀ w10 : World, E1 w6.drew w10 → XLoad P 3 d19_1 w10 fun v20 w12 =>
 v20 = d20_1 ∧ FE1 w10 w12) ∧
 ∃ d23_1 : Value, (∀ w13 : World, XIdx P 22 p1 u5_i w13 fun v23 w15 =>
 v23 = d23_1 ∧ w15 = w13) ∧
 ∃ d24_1 : Value, (∀ w16 : World, E1 w6.drew w16 → XLoad P 3 d23_1 w16 fun v24 w18 =>
 v24 = d24_1 ∧ FE1 w16 w18) ∧
 ∃ d25_1 : Value, (∀ w19 : World, XBin P .neq 3 false false d20_1 d24_1 w19 fun v25 w21 =>
 v25 = d25_1 ∧ w21 = w19) ∧
 ∀ w22 : World, FE1 w6.drew w22 →
 XC d25_1 (
 R (Value.bool false) w22) (
 XBin P .add 3 false true u5_i (Value.int .i64 1) w22 fun v16 w23 =>
 I1 v16 w23 ∧ m1 v16 w23 < m1 u5_i w4)) (
 R (Value.bool true) w6))
noncomputable def C_joineryref3_Ints : Code := (Tryz.f52.body).getD .skip
noncomputable def an_joineryref3_Ints : An := (.seq none (.reg []) (.seq none (.seq none (.reg []) (.cond (.seq none (.reg []) .leaf) .leaf)) (.seq none (.seq none (.reg []) (.block none (.loop [5] (.seq none (.seq none (.reg []) (.cond .leaf .leaf)) (.seq none (.block none (.seq none (.draw [0, 0, 0, 1, 0, 0, 0, 1, 0]) (.cond (.seq none (.reg []) .leaf) .leaf))) (.reg [])))))) (.seq none (.reg []) .leaf))))
theorem S_joineryref3_Ints_eq (P : Program) (p0 p1 : Value) (w : World) (R : Value → World → Prop) : WPf P C_joineryref3_Ints Tryz.f52.results.toList an_joineryref3_Ints #[p0, p1] w R = S_joineryref3_Ints P p0 p1 w R := by kernel_rfl
theorem ok_joineryref3_Ints : okC Tryz.f52.ntmps C_joineryref3_Ints an_joineryref3_Ints = true := by kernel_rfl
theorem call_joineryref3_Ints {p0 p1 w R} (h : S_joineryref3_Ints Tryz.prog p0 p1 w R) : Ret Tryz.prog 52 #[p0, p1] w R :=
  Ret_of_WPf mixed Tryz.func52 (by kernel_rfl) (Nat.le_of_ble_eq_true (by kernel_rfl)) ok_joineryref3_Ints ((S_joineryref3_Ints_eq ..).symm ▸ h)

/-- joinery/joineryref3.Same -/
def S_joineryref3_Same (P : Program) (p0 p1 : Value) (w : World) (R : Value → World → Prop) : Prop :=
 XBox P 29 p0 w fun v2 w1 =>
 XBox P 29 p1 w1 fun v3 w2 =>
 XFld P 29 v2 0 w2 fun v5 w3 =>
 XLoad P 9 v5 w3 fun v6 w4 =>
 XFld P 29 v3 0 w4 fun v7 w5 =>
 XLoad P 9 v7 w5 fun v8 w6 =>
 XBin P .eql 9 false false v6 v8 w6 fun v9 w7 =>
 ∃ J1 : Value → World → Prop, (∀ (_jk1 : Env) (u15 : Value) (w8 : World), J1 u15 w8 →
 XPick v9 u15 (Value.bool false) fun q1 =>
 ∃ J2 : Value → World → Prop, (∀ (_jk2 : Env) (u22 : Value) (w9 : World), J2 u22 w9 →
 XPick q1 u22 (Value.bool false) fun q2 =>
 ∃ J3 : Value → World → Prop, (∀ (_jk3 : Env) (u29 : Value) (w10 : World), J3 u29 w10 →
 XPick q2 u29 (Value.bool false) fun q3 =>
 ∃ J4 : Value → World → Prop, (∀ (_jk4 : Env) (u36 : Value) (w11 : World), J4 u36 w11 →
 XPick q3 u36 (Value.bool false) fun q4 =>
 R q4 w11) ∧
 XG q3 true (
 XFld P 29 v2 3 w10 fun v32 w12 =>
 XLoad P 27 v32 w12 fun v33 w13 =>
 XFld P 29 v3 3 w13 fun v34 w14 =>
 XLoad P 27 v34 w14 fun v35 w15 =>
 XCall P 34 #[v33, v35] w15 fun v36 w16 =>
 J4 v36 w16) (J4 undef w10)) ∧
 XG q2 true (
 XFld P 29 v2 2 w9 fun v25 w17 =>
 XLoad P 27 v25 w17 fun v26 w18 =>
 XFld P 29 v3 2 w18 fun v27 w19 =>
 XLoad P 27 v27 w19 fun v28 w20 =>
 XCall P 34 #[v26, v28] w20 fun v29 w21 =>
 J3 v29 w21) (J3 undef w9)) ∧
 XG q1 true (
 XFld P 29 v2 4 w8 fun v18 w22 =>
 XLoad P 4 v18 w22 fun v19 w23 =>
 XFld P 29 v3 4 w23 fun v20 w24 =>
 XLoad P 4 v20 w24 fun v21 w25 =>
 XBin P .eql 4 false false v19 v21 w25 fun v22 w26 =>
 J2 v22 w26) (J2 undef w8)) ∧
 XG v9 true (
 XFld P 29 v2 1 w7 fun v11 w27 =>
 XLoad P 26 v11 w27 fun v12 w28 =>
 XFld P 29 v3 1 w28 fun v13 w29 =>
 XLoad P 26 v13 w29 fun v14 w30 =>
 XBin P .eql 26 false false v12 v14 w30 fun v15 w31 =>
 J1 v15 w31) (J1 undef w7)
noncomputable def C_joineryref3_Same : Code := (Tryz.f53.body).getD .skip
noncomputable def an_joineryref3_Same : An := (.seq none (.reg []) (.seq none (.reg [[15], [22], [29], [36]]) .leaf))
theorem S_joineryref3_Same_eq (P : Program) (p0 p1 : Value) (w : World) (R : Value → World → Prop) : WPf P C_joineryref3_Same Tryz.f53.results.toList an_joineryref3_Same #[p0, p1] w R = S_joineryref3_Same P p0 p1 w R := by kernel_rfl
theorem ok_joineryref3_Same : okC Tryz.f53.ntmps C_joineryref3_Same an_joineryref3_Same = true := by kernel_rfl
theorem call_joineryref3_Same {p0 p1 w R} (h : S_joineryref3_Same Tryz.prog p0 p1 w R) : Ret Tryz.prog 53 #[p0, p1] w R :=
  Ret_of_WPf mixed Tryz.func53 (by kernel_rfl) (Nat.le_of_ble_eq_true (by kernel_rfl)) ok_joineryref3_Same ((S_joineryref3_Same_eq ..).symm ▸ h)

/-- joinery/joineryref4.Places -/
def S_joineryref4_Places (P : Program) (p0 p1 : Value) (w : World) (R : Value → World → Prop) : Prop :=
 XB P .len #[24] 3 #[p0] w fun v7 w1 =>
 XB P .len #[24] 3 #[p1] w1 fun v9 w2 =>
 XBin P .neq 3 false false v7 v9 w2 fun v10 w3 =>
 XC v10 (
 R (Value.bool false) w3) (
 ∃ (I1 : Value → World → Prop) (m1 : Value → World → Nat), I1 (Value.int .i64 0) w3 ∧ ∀ (_jk1 : Env) (u5_i : Value) (w4 : World), I1 u5_i w4 →
 XB P .len #[24] 3 #[p0] w4 fun v13 w5 =>
 XBin P .lss 3 false false u5_i v13 w5 fun v14 w6 =>
 XC v14 (
 ∃ E1 FE1 : World → World → Prop, Pre E1 FE1 ∧
 ∃ d19_1 : Value, (∀ w7 : World, XIdx P 24 p0 u5_i w7 fun v19 w9 =>
 v19 = d19_1 ∧ w9 = w7) ∧
 ∃ d20_1 : Value, (∀ w10 : World, E1 w6.drew w10 → XLoad P 45 d19_1 w10 fun v20 w12 =>
 v20 = d20_1 ∧ FE1 w10 w12) ∧
 ∃ d23_1 : Value, (∀ w13 : World, XIdx P 24 p1 u5_i w13 fun v23 w15 =>
 v23 = d23_1 ∧ w15 = w13) ∧
 ∃ d24_1 : Value, (∀ w16 : World, E1 w6.drew w16 → XLoad P 45 d23_1 w16 fun v24 w18 =>
 v24 = d24_1 ∧ FE1 w16 w18) ∧
 ∃ d25_1 : Value, (∀ w19 : World, XBin P .neq 45 false false d20_1 d24_1 w19 fun v25 w21 =>
 v25 = d25_1 ∧ w21 = w19) ∧
 ∀ w22 : World, FE1 w6.drew w22 →
 XC d25_1 (
 R (Value.bool false) w22) (
 XBin P .add 3 false true u5_i (Value.int .i64 1) w22 fun v16 w23 =>
 I1 v16 w23 ∧ m1 v16 w23 < m1 u5_i w4)) (
 R (Value.bool true) w6))
noncomputable def C_joineryref4_Places : Code := (Tryz.f23.body).getD .skip
noncomputable def an_joineryref4_Places : An := (.seq none (.reg []) (.seq none (.seq none (.reg []) (.cond (.seq none (.reg []) .leaf) .leaf)) (.seq none (.seq none (.reg []) (.block none (.loop [5] (.seq none (.seq none (.reg []) (.cond .leaf .leaf)) (.seq none (.block none (.seq none (.draw [0, 0, 0, 1, 0, 0, 0, 1, 0]) (.cond (.seq none (.reg []) .leaf) .leaf))) (.reg [])))))) (.seq none (.reg []) .leaf))))
theorem S_joineryref4_Places_eq (P : Program) (p0 p1 : Value) (w : World) (R : Value → World → Prop) : WPf P C_joineryref4_Places Tryz.f23.results.toList an_joineryref4_Places #[p0, p1] w R = S_joineryref4_Places P p0 p1 w R := by kernel_rfl
theorem ok_joineryref4_Places : okC Tryz.f23.ntmps C_joineryref4_Places an_joineryref4_Places = true := by kernel_rfl
theorem call_joineryref4_Places {p0 p1 w R} (h : S_joineryref4_Places Tryz.prog p0 p1 w R) : Ret Tryz.prog 23 #[p0, p1] w R :=
  Ret_of_WPf mixed Tryz.func23 (by kernel_rfl) (Nat.le_of_ble_eq_true (by kernel_rfl)) ok_joineryref4_Places ((S_joineryref4_Places_eq ..).symm ▸ h)

/-- joinery/joineryref4.Same -/
def S_joineryref4_Same (P : Program) (p0 p1 : Value) (w : World) (R : Value → World → Prop) : Prop :=
 XBox P 31 p0 w fun v2 w1 =>
 XBox P 31 p1 w1 fun v3 w2 =>
 XFld P 31 v2 0 w2 fun v5 w3 =>
 XLoad P 3 v5 w3 fun v6 w4 =>
 XFld P 31 v3 0 w4 fun v7 w5 =>
 XLoad P 3 v7 w5 fun v8 w6 =>
 XBin P .eql 3 false false v6 v8 w6 fun v9 w7 =>
 ∃ J1 : Value → World → Prop, (∀ (_jk1 : Env) (u15 : Value) (w8 : World), J1 u15 w8 →
 XPick v9 u15 (Value.bool false) fun q1 =>
 ∃ J2 : Value → World → Prop, (∀ (_jk2 : Env) (u22 : Value) (w9 : World), J2 u22 w9 →
 XPick q1 u22 (Value.bool false) fun q2 =>
 ∃ J3 : Value → World → Prop, (∀ (_jk3 : Env) (u29 : Value) (w10 : World), J3 u29 w10 →
 XPick q2 u29 (Value.bool false) fun q3 =>
 ∃ J4 : Value → World → Prop, (∀ (_jk4 : Env) (u36 : Value) (w11 : World), J4 u36 w11 →
 XPick q3 u36 (Value.bool false) fun q4 =>
 R q4 w11) ∧
 XG q3 true (
 XFld P 31 v2 4 w10 fun v32 w12 =>
 XLoad P 29 v32 w12 fun v33 w13 =>
 XFld P 31 v3 4 w13 fun v34 w14 =>
 XLoad P 29 v34 w14 fun v35 w15 =>
 XCall P 53 #[v33, v35] w15 fun v36 w16 =>
 J4 v36 w16) (J4 undef w10)) ∧
 XG q2 true (
 XFld P 31 v2 3 w9 fun v25 w17 =>
 XLoad P 24 v25 w17 fun v26 w18 =>
 XFld P 31 v3 3 w18 fun v27 w19 =>
 XLoad P 24 v27 w19 fun v28 w20 =>
 XCall P 23 #[v26, v28] w20 fun v29 w21 =>
 J3 v29 w21) (J3 undef w9)) ∧
 XG q1 true (
 XFld P 31 v2 2 w8 fun v18 w22 =>
 XLoad P 22 v18 w22 fun v19 w23 =>
 XFld P 31 v3 2 w23 fun v20 w24 =>
 XLoad P 22 v20 w24 fun v21 w25 =>
 XCall P 52 #[v19, v21] w25 fun v22 w26 =>
 J2 v22 w26) (J2 undef w8)) ∧
 XG v9 true (
 XFld P 31 v2 1 w7 fun v11 w27 =>
 XLoad P 3 v11 w27 fun v12 w28 =>
 XFld P 31 v3 1 w28 fun v13 w29 =>
 XLoad P 3 v13 w29 fun v14 w30 =>
 XBin P .eql 3 false false v12 v14 w30 fun v15 w31 =>
 J1 v15 w31) (J1 undef w7)
noncomputable def C_joineryref4_Same : Code := (Tryz.f20.body).getD .skip
noncomputable def an_joineryref4_Same : An := (.seq none (.reg []) (.seq none (.reg [[15], [22], [29], [36]]) .leaf))
theorem S_joineryref4_Same_eq (P : Program) (p0 p1 : Value) (w : World) (R : Value → World → Prop) : WPf P C_joineryref4_Same Tryz.f20.results.toList an_joineryref4_Same #[p0, p1] w R = S_joineryref4_Same P p0 p1 w R := by kernel_rfl
theorem ok_joineryref4_Same : okC Tryz.f20.ntmps C_joineryref4_Same an_joineryref4_Same = true := by kernel_rfl
theorem call_joineryref4_Same {p0 p1 w R} (h : S_joineryref4_Same Tryz.prog p0 p1 w R) : Ret Tryz.prog 20 #[p0, p1] w R :=
  Ret_of_WPf mixed Tryz.func20 (by kernel_rfl) (Nat.le_of_ble_eq_true (by kernel_rfl)) ok_joineryref4_Same ((S_joineryref4_Same_eq ..).symm ▸ h)

/-- joinery/joineryref4.kept -/
def S_joineryref4_kept (P : Program) (p0 : Value) (w : World) (R : Value → World → Prop) : Prop :=
 XBox P 31 p0 w fun v1 w1 =>
 XAlloc P 31 w1 fun v2 w2 =>
 XFld P 31 v1 0 w2 fun v4 w3 =>
 XLoad P 3 v4 w3 fun v5 w4 =>
 XBuild P 31 #[(0, v5)] w4 fun v6 w5 =>
 XAlloc P 31 w5 fun v3 w6 =>
 XStore P 31 v3 v6 w6 fun w7 =>
 XFld P 31 v1 0 w7 fun v7 w8 =>
 XLoad P 3 v7 w8 fun v8 w9 =>
 XBin P .eql 3 false true v8 (Value.int .i64 1) w9 fun v13 w10 =>
 XC v13 (
 XFld P 31 v1 4 w10 fun v14 w11 =>
 XLoad P 29 v14 w11 fun v15 w12 =>
 XFld P 31 v3 4 w12 fun v16 w13 =>
 XStore P 29 v16 v15 w13 fun w14 =>
 XLoad P 31 v3 w14 fun v43 w15 =>
 XStore P 31 v2 v43 w15 fun w16 =>
 XLoad P 31 v2 w16 fun r1 w17 => w17 = w16 ∧ R r1 w16) (
 XBin P .eql 3 false true v8 (Value.int .i64 2) w10 fun v18 w18 =>
 XC v18 (
 XFld P 31 v1 4 w18 fun v19 w19 =>
 XFld P 29 v19 0 w19 fun v20 w20 =>
 XLoad P 9 v20 w20 fun v21 w21 =>
 XFld P 31 v3 4 w21 fun v22 w22 =>
 XFld P 29 v22 0 w22 fun v23 w23 =>
 XStore P 9 v23 v21 w23 fun w24 =>
 XLoad P 31 v3 w24 fun v43_2 w25 =>
 XStore P 31 v2 v43_2 w25 fun w26 =>
 XLoad P 31 v2 w26 fun r2 w27 => w27 = w26 ∧ R r2 w26) (
 XBin P .eql 3 false true v8 (Value.int .i64 3) w18 fun v25 w28 =>
 XC v25 (
 ∃ E1 FE1 : World → World → Prop, Pre E1 FE1 ∧
 ∃ d26_1 : Value, (∀ w29 : World, XFld P 31 v1 1 w29 fun v26 w31 =>
 v26 = d26_1 ∧ w31 = w29) ∧
 ∃ d27_1 : Value, (∀ w32 : World, E1 w28.drew w32 → XLoad P 3 d26_1 w32 fun v27 w34 =>
 v27 = d27_1 ∧ FE1 w32 w34) ∧
 ∃ d28_1 : Value, (∀ w35 : World, XFld P 31 v1 2 w35 fun v28 w37 =>
 v28 = d28_1 ∧ w37 = w35) ∧
 ∃ d29_1 : Value, (∀ w38 : World, E1 w28.drew w38 → XLoad P 22 d28_1 w38 fun v29 w40 =>
 v29 = d29_1 ∧ FE1 w38 w40) ∧
 ∃ d30_1 : Value, (∀ w41 : World, XFld P 31 v1 3 w41 fun v30 w43 =>
 v30 = d30_1 ∧ w43 = w41) ∧
 ∃ d31_1 : Value, (∀ w44 : World, E1 w28.drew w44 → XLoad P 24 d30_1 w44 fun v31 w46 =>
 v31 = d31_1 ∧ FE1 w44 w46) ∧
 ∃ d32_1 : Value, (∀ w47 : World, XFld P 31 v3 1 w47 fun v32 w49 =>
 v32 = d32_1 ∧ w49 = w47) ∧
 ∀ w50 : World, FE1 w28.drew w50 →
 XStore P 3 d32_1 d27_1 w50 fun w51 =>
 E1 w50 w51 ∧
 ∃ d33_1 : Value, (∀ w52 : World, XFld P 31 v3 2 w52 fun v33 w54 =>
 v33 = d33_1 ∧ w54 = w52) ∧
 ∀ w55 : World, FE1 w51 w55 →
 XStore P 22 d33_1 d29_1 w55 fun w56 =>
 E1 w55 w56 ∧
 ∃ d34_1 : Value, (∀ w57 : World, XFld P 31 v3 3 w57 fun v34 w59 =>
 v34 = d34_1 ∧ w59 = w57) ∧
 ∀ w60 : World, FE1 w56 w60 →
 XStore P 24 d34_1 d31_1 w60 fun w61 =>
 XLoad P 31 v3 w61 fun v43_3 w62 =>
 XStore P 31 v2 v43_3 w62 fun w63 =>
 XLoad P 31 v2 w63 fun r3 w64 => w64 = w63 ∧ R r3 w63) (
 XBin P .eql 3 false true v8 (Value.int .i64 7) w28 fun v36 w65 =>
 XC v36 (
 ∃ E2 FE2 : World → World → Prop, Pre E2 FE2 ∧
 ∃ d37_1 : Value, (∀ w66 : World, XFld P 31 v1 1 w66 fun v37 w68 =>
 v37 = d37_1 ∧ w68 = w66) ∧
 ∃ d38_1 : Value, (∀ w69 : World, E2 w65.drew w69 → XLoad P 3 d37_1 w69 fun v38 w71 =>
 v38 = d38_1 ∧ FE2 w69 w71) ∧
 ∃ d39_1 : Value, (∀ w72 : World, XFld P 31 v1 2 w72 fun v39 w74 =>
 v39 = d39_1 ∧ w74 = w72) ∧
 ∃ d40_1 : Value, (∀ w75 : World, E2 w65.drew w75 → XLoad P 22 d39_1 w75 fun v40 w77 =>
 v40 = d40_1 ∧ FE2 w75 w77) ∧
 ∃ d41_1 : Value, (∀ w78 : World, XFld P 31 v3 1 w78 fun v41 w80 =>
 v41 = d41_1 ∧ w80 = w78) ∧
 ∀ w81 : World, FE2 w65.drew w81 →
 XStore P 3 d41_1 d38_1 w81 fun w82 =>
 E2 w81 w82 ∧
 ∃ d42_1 : Value, (∀ w83 : World, XFld P 31 v3 2 w83 fun v42 w85 =>
 v42 = d42_1 ∧ w85 = w83) ∧
 ∀ w86 : World, FE2 w82 w86 →
 XStore P 22 d42_1 d40_1 w86 fun w87 =>
 XLoad P 31 v3 w87 fun v43_4 w88 =>
 XStore P 31 v2 v43_4 w88 fun w89 =>
 XLoad P 31 v2 w89 fun r4 w90 => w90 = w89 ∧ R r4 w89) (
 XFld P 31 v1 1 w65 fun v9 w91 =>
 XLoad P 3 v9 w91 fun v10 w92 =>
 XFld P 31 v3 1 w92 fun v11 w93 =>
 XStore P 3 v11 v10 w93 fun w94 =>
 XLoad P 31 v3 w94 fun v43_5 w95 =>
 XStore P 31 v2 v43_5 w95 fun w96 =>
 XLoad P 31 v2 w96 fun r5 w97 => w97 = w96 ∧ R r5 w96))))
noncomputable def C_joineryref4_kept : Code := (Tryz.f102.body).getD .skip
noncomputable def an_joineryref4_kept : An := (.seq none (.reg []) (.seq none (.reg []) (.seq none (.seq none (.reg []) (.block none (.seq none (.reg []) (.cond (.reg []) (.seq none (.reg []) (.cond (.reg []) (.seq none (.reg []) (.cond (.draw [0, 1, 0, 1, 0, 1, 0, 2, 0, 2, 0, 2]) (.seq none (.reg []) (.cond (.draw [0, 1, 0, 1, 0, 2, 0, 2]) (.reg []))))))))))) (.seq none (.reg []) .leaf))))
theorem S_joineryref4_kept_eq (P : Program) (p0 : Value) (w : World) (R : Value → World → Prop) : WPf P C_joineryref4_kept Tryz.f102.results.toList an_joineryref4_kept #[p0] w R = S_joineryref4_kept P p0 w R := by kernel_rfl
theorem ok_joineryref4_kept : okC Tryz.f102.ntmps C_joineryref4_kept an_joineryref4_kept = true := by kernel_rfl
theorem call_joineryref4_kept {p0 w R} (h : S_joineryref4_kept Tryz.prog p0 w R) : Ret Tryz.prog 102 #[p0] w R :=
  Ret_of_WPf mixed Tryz.func102 (by kernel_rfl) (Nat.le_of_ble_eq_true (by kernel_rfl)) ok_joineryref4_kept ((S_joineryref4_kept_eq ..).symm ▸ h)

/-- joinery/joineryref4.peers -/
def S_joineryref4_peers (P : Program) (p0 : Value) (w : World) (R : Value → World → Prop) : Prop :=
 ∃ (I1 : Value → World → Prop) (m1 : Value → World → Nat), I1 (Value.int .i64 0) w ∧ ∀ (_jk1 : Env) (u3_i : Value) (w1 : World), I1 u3_i w1 →
 XB P .len #[22] 3 #[p0] w1 fun v6 w2 =>
 XBin P .lss 3 false false u3_i v6 w2 fun v7 w3 =>
 XC v7 (
 ∃ E1 FE1 : World → World → Prop, Pre E1 FE1 ∧
 ∃ d12_1 : Value, (∀ w4 : World, XIdx P 22 p0 u3_i w4 fun v12 w6 =>
 v12 = d12_1 ∧ w6 = w4) ∧
 ∃ d13_1 : Value, (∀ w7 : World, E1 w3.drew w7 → XLoad P 3 d12_1 w7 fun v13 w9 =>
 v13 = d13_1 ∧ FE1 w7 w9) ∧
 ∃ d14_1 : Value, (∀ w10 : World, XBin P .lss 3 false true d13_1 (Value.int .i64 1) w10 fun v14 w12 =>
 v14 = d14_1 ∧ w12 = w10) ∧
 ∃ d16_1 : Value, (XG d14_1 false (∀ w13 : World, p0 = d16_1 ∧ w13 = w13) (d16_1 = undef)) ∧
 ∃ d17_1 : Value, (XG d14_1 false (∀ w15 : World, u3_i = d17_1 ∧ w15 = w15) (d17_1 = undef)) ∧
 ∃ d18_1 : Value, (XG d14_1 false (∀ w17 : World, XIdx P 22 d16_1 d17_1 w17 fun v18 w19 =>
 v18 = d18_1 ∧ w19 = w17) (d18_1 = undef)) ∧
 ∃ d19_1 : Value, (XG d14_1 false (∀ w20 : World, E1 w3.drew w20 → XLoad P 3 d18_1 w20 fun v19 w22 =>
 v19 = d19_1 ∧ FE1 w20 w22) (d19_1 = undef)) ∧
 ∃ d20_1 : Value, (XG d14_1 false (∀ w23 : World, XBin P .gtr 3 false true d19_1 (Value.int .i64 4) w23 fun v20 w25 =>
 v20 = d20_1 ∧ w25 = w23) (d20_1 = undef)) ∧
 ∃ d21_1 : Value, (∀ w26 : World, XPick d14_1 (Value.bool true) d20_1 fun q1 =>
 q1 = d21_1 ∧ w26 = w26) ∧
 ∃ d23_1 : Value, (XG d21_1 false (∀ w28 : World, u3_i = d23_1 ∧ w28 = w28) (d23_1 = undef)) ∧
 ∃ d24_1 : Value, (XG d21_1 false (∀ w30 : World, XBin P .gtr 3 false true d23_1 (Value.int .i64 0) w30 fun v24 w32 =>
 v24 = d24_1 ∧ w32 = w30) (d24_1 = undef)) ∧
 ∃ d25_1 : Value, (XG d21_1 false (∀ w33 : World, d24_1 = d25_1 ∧ w33 = w33) (d25_1 = undef)) ∧
 ∃ d26_1 : Value, (XG d25_1 true (∀ w35 : World, p0 = d26_1 ∧ w35 = w35) (d26_1 = undef)) ∧
 ∃ d27_1 : Value, (XG d25_1 true (∀ w37 : World, u3_i = d27_1 ∧ w37 = w37) (d27_1 = undef)) ∧
 ∃ d28_1 : Value, (XG d25_1 true (∀ w39 : World, XBin P .sub 3 false true d27_1 (Value.int .i64 1) w39 fun v28 w41 =>
 v28 = d28_1 ∧ w41 = w39) (d28_1 = undef)) ∧
 ∃ d29_1 : Value, (XG d25_1 true (∀ w42 : World, XIdx P 22 d26_1 d28_1 w42 fun v29 w44 =>
 v29 = d29_1 ∧ w44 = w42) (d29_1 = undef)) ∧
 ∃ d30_1 : Value, (XG d25_1 true (∀ w45 : World, E1 w3.drew w45 → XLoad P 3 d29_1 w45 fun v30 w47 =>
 v30 = d30_1 ∧ FE1 w45 w47) (d30_1 = undef)) ∧
 ∃ d31_1 : Value, (XG d25_1 true (∀ w48 : World, p0 = d31_1 ∧ w48 = w48) (d31_1 = undef)) ∧
 ∃ d32_1 : Value, (XG d25_1 true (∀ w50 : World, u3_i = d32_1 ∧ w50 = w50) (d32_1 = undef)) ∧
 ∃ d33_1 : Value, (XG d25_1 true (∀ w52 : World, XIdx P 22 d31_1 d32_1 w52 fun v33 w54 =>
 v33 = d33_1 ∧ w54 = w52) (d33_1 = undef)) ∧
 ∃ d34_1 : Value, (XG d25_1 true (∀ w55 : World, E1 w3.drew w55 → XLoad P 3 d33_1 w55 fun v34 w57 =>
 v34 = d34_1 ∧ FE1 w55 w57) (d34_1 = undef)) ∧
 ∃ d35_1 : Value, (XG d25_1 true (∀ w58 : World, XBin P .geq 3 false false d30_1 d34_1 w58 fun v35 w60 =>
 v35 = d35_1 ∧ w60 = w58) (d35_1 = undef)) ∧
 ∃ d36_1 : Value, (XG d21_1 false (∀ w61 : World, XPick d25_1 d35_1 (Value.bool false) fun q2 =>
 q2 = d36_1 ∧ w61 = w61) (d36_1 = undef)) ∧
 ∃ d37_1 : Value, (∀ w63 : World, XPick d21_1 (Value.bool true) d36_1 fun q3 =>
 q3 = d37_1 ∧ w63 = w63) ∧
 ∀ w65 : World, FE1 w3.drew w65 →
 XC d37_1 (
 R (Value.bool false) w65) (
 XBin P .add 3 false true u3_i (Value.int .i64 1) w65 fun v9 w66 =>
 I1 v9 w66 ∧ m1 v9 w66 < m1 u3_i w1)) (
 XB P .len #[22] 3 #[p0] w3 fun v39 w67 =>
 XBin P .gtr 3 false true v39 (Value.int .i64 0) w67 fun v40 w68 =>
 R v40 w68)
noncomputable def C_joineryref4_peers : Code := (Tryz.f105.body).getD .skip
noncomputable def an_joineryref4_peers : An := (.seq none (.reg []) (.seq none (.seq none (.reg []) (.block none (.loop [3] (.seq none (.seq none (.reg []) (.cond .leaf .leaf)) (.seq none (.block none (.seq none (.draw [0, 0, 0, 1, 0, 0, 0, 0, 0, 1, 0, 0, 0, 0, 0, 0, 0, 0, 0, 0, 1, 0, 0, 0, 1, 0, 0, 0]) (.cond (.seq none (.reg []) .leaf) .leaf))) (.reg [])))))) (.seq none (.reg []) .leaf)))
theorem S_joineryref4_peers_eq (P : Program) (p0 : Value) (w : World) (R : Value → World → Prop) : WPf P C_joineryref4_peers Tryz.f105.results.toList an_joineryref4_peers #[p0] w R = S_joineryref4_peers P p0 w R := by kernel_rfl
theorem ok_joineryref4_peers : okC Tryz.f105.ntmps C_joineryref4_peers an_joineryref4_peers = true := by kernel_rfl
theorem call_joineryref4_peers {p0 w R} (h : S_joineryref4_peers Tryz.prog p0 w R) : Ret Tryz.prog 105 #[p0] w R :=
  Ret_of_WPf mixed Tryz.func105 (by kernel_rfl) (Nat.le_of_ble_eq_true (by kernel_rfl)) ok_joineryref4_peers ((S_joineryref4_peers_eq ..).symm ▸ h)

/-- joinery/joineryref4.places -/
def S_joineryref4_places (P : Program) (p0 : Value) (w : World) (R : Value → World → Prop) : Prop :=
 XB P .len #[24] 3 #[p0] w fun v7 w1 =>
 XBin P .lss 3 false true v7 (Value.int .i64 1) w1 fun v8 w2 =>
 ∃ J1 : Value → World → Prop, (∀ (_jk1 : Env) (u12 : Value) (w3 : World), J1 u12 w3 →
 XPick v8 (Value.bool true) u12 fun q1 =>
 XC q1 (
 R (Value.int .i64 3) w3) (
 ∃ (I1 : Value → World → Prop) (m1 : Value → World → Nat), I1 (Value.int .i64 0) w3 ∧ ∀ (_jk2 : Env) (u3_i : Value) (w4 : World), I1 u3_i w4 →
 XB P .len #[24] 3 #[p0] w4 fun v16 w5 =>
 XBin P .lss 3 false false u3_i v16 w5 fun v17 w6 =>
 XC v17 (
 XIdx P 24 p0 u3_i w6 fun v22 w7 =>
 XFld P 45 v22 0 w7 fun v23 w8 =>
 XLoad P 9 v23 w8 fun v24 w9 =>
 XCall P 104 #[v24] w9 fun v25 w10 =>
 XUn P .not v25 w10 fun v26 w11 =>
 ∃ J2 : Value → World → Prop, (∀ (_jk3 : Env) (u34 : Value) (w12 : World), J2 u34 w12 →
 XPick v26 (Value.bool true) u34 fun q2 =>
 XC q2 (
 R (Value.int .i64 1) w12) (
 XIdx P 24 p0 u3_i w12 fun v38 w13 =>
 XFld P 45 v38 2 w13 fun v39 w14 =>
 XLoad P 26 v39 w14 fun v40 w15 =>
 XCall P 137 #[v40] w15 fun v41 w16 =>
 XUn P .not v41 w16 fun v42 w17 =>
 XC v42 (
 R (Value.int .i64 2) w17) (
 XBin P .add 3 false true u3_i (Value.int .i64 1) w17 fun v19 w18 =>
 I1 v19 w18 ∧ m1 v19 w18 < m1 u3_i w4))) ∧
 XG v26 false (
 XIdx P 24 p0 u3_i w11 fun v30 w19 =>
 XFld P 45 v30 1 w19 fun v31 w20 =>
 XLoad P 9 v31 w20 fun v32 w21 =>
 XCall P 104 #[v32] w21 fun v33 w22 =>
 XUn P .not v33 w22 fun v34 w23 =>
 J2 v34 w23) (J2 undef w11)) (
 ∃ (I2 : Value → World → Prop) (m2 : Value → World → Nat), I2 (Value.int .i64 0) w6 ∧ ∀ (_jk4 : Env) (u4_i : Value) (w24 : World), I2 u4_i w24 →
 XB P .len #[24] 3 #[p0] w24 fun v45 w25 =>
 XBin P .lss 3 false false u4_i v45 w25 fun v46 w26 =>
 XC v46 (
 ∃ (I3 : Value → World → Prop) (m3 : Value → World → Nat), I3 (Value.int .i64 0) w26 ∧ ∀ (_jk5 : Env) (u5_k : Value) (w27 : World), I3 u5_k w27 →
 XBin P .lss 3 false false u5_k u4_i w27 fun v51 w28 =>
 XC v51 (
 ∃ E1 FE1 : World → World → Prop, Pre E1 FE1 ∧
 ∃ d56_1 : Value, (∀ w29 : World, XIdx P 24 p0 u4_i w29 fun v56 w31 =>
 v56 = d56_1 ∧ w31 = w29) ∧
 ∃ d57_1 : Value, (∀ w32 : World, XFld P 45 d56_1 0 w32 fun v57 w34 =>
 v57 = d57_1 ∧ w34 = w32) ∧
 ∃ d58_1 : Value, (∀ w35 : World, E1 w28.drew w35 → XLoad P 9 d57_1 w35 fun v58 w37 =>
 v58 = d58_1 ∧ FE1 w35 w37) ∧
 ∃ d61_1 : Value, (∀ w38 : World, XIdx P 24 p0 u5_k w38 fun v61 w40 =>
 v61 = d61_1 ∧ w40 = w38) ∧
 ∃ d62_1 : Value, (∀ w41 : World, XFld P 45 d61_1 0 w41 fun v62 w43 =>
 v62 = d62_1 ∧ w43 = w41) ∧
 ∃ d63_1 : Value, (∀ w44 : World, E1 w28.drew w44 → XLoad P 9 d62_1 w44 fun v63 w46 =>
 v63 = d63_1 ∧ FE1 w44 w46) ∧
 ∃ d64_1 : Value, (∀ w47 : World, XBin P .eql 9 false false d58_1 d63_1 w47 fun v64 w49 =>
 v64 = d64_1 ∧ w49 = w47) ∧
 ∀ w50 : World, FE1 w28.drew w50 →
 XC d64_1 (
 R (Value.int .i64 4) w50) (
 XBin P .add 3 false true u5_k (Value.int .i64 1) w50 fun v53 w51 =>
 I3 v53 w51 ∧ m3 v53 w51 < m3 u5_k w27)) (
 XBin P .add 3 false true u4_i (Value.int .i64 1) w28 fun v48 w52 =>
 I2 v48 w52 ∧ m2 v48 w52 < m2 u4_i w24)) (
 R (Value.int .i64 0) w26)))) ∧
 XG v8 false (
 XB P .len #[24] 3 #[p0] w2 fun v11 w53 =>
 XBin P .gtr 3 false true v11 (Value.int .i64 8) w53 fun v12 w54 =>
 J1 v12 w54) (J1 undef w2)
noncomputable def C_joineryref4_places : Code := (Tryz.f106.body).getD .skip
noncomputable def an_joineryref4_places : An := (.seq none (.reg []) (.seq none (.seq none (.reg [[12]]) (.cond (.seq none (.reg []) .leaf) .leaf)) (.seq none (.seq none (.reg []) (.block none (.loop [3] (.seq none (.seq none (.reg []) (.cond .leaf .leaf)) (.seq none (.block none (.seq none (.seq none (.reg [[34]]) (.cond (.seq none (.reg []) .leaf) .leaf)) (.seq none (.reg []) (.cond (.seq none (.reg []) .leaf) .leaf)))) (.reg [])))))) (.seq none (.seq none (.reg []) (.block none (.loop [4] (.seq none (.seq none (.reg []) (.cond .leaf .leaf)) (.seq none (.block none (.seq none (.reg []) (.block none (.loop [5] (.seq none (.seq none (.reg []) (.cond .leaf .leaf)) (.seq none (.block none (.seq none (.draw [0, 0, 0, 0, 1, 0, 0, 0, 0, 1, 0]) (.cond (.seq none (.reg []) .leaf) .leaf))) (.reg []))))))) (.reg [])))))) (.seq none (.reg []) .leaf)))))
theorem S_joineryref4_places_eq (P : Program) (p0 : Value) (w : World) (R : Value → World → Prop) : WPf P C_joineryref4_places Tryz.f106.results.toList an_joineryref4_places #[p0] w R = S_joineryref4_places P p0 w R := by kernel_rfl
theorem ok_joineryref4_places : okC Tryz.f106.ntmps C_joineryref4_places an_joineryref4_places = true := by kernel_rfl
theorem call_joineryref4_places {p0 w R} (h : S_joineryref4_places Tryz.prog p0 w R) : Ret Tryz.prog 106 #[p0] w R :=
  Ret_of_WPf mixed Tryz.func106 (by kernel_rfl) (Nat.le_of_ble_eq_true (by kernel_rfl)) ok_joineryref4_places ((S_joineryref4_places_eq ..).symm ▸ h)

/-- joinery/joineryref4.Check -/
def S_joineryref4_Check (P : Program) (p0 : Value) (w : World) (R : Value → World → Prop) : Prop :=
 XBox P 31 p0 w fun v1 w1 =>
 ∃ E1 FE1 : World → World → Prop, Pre E1 FE1 ∧
 ∃ d3_1 : Value, (∀ w2 : World, XFld P 31 v1 0 w2 fun v3 w4 =>
 v3 = d3_1 ∧ w4 = w2) ∧
 ∃ d4_1 : Value, (∀ w5 : World, E1 w1.drew w5 → XLoad P 3 d3_1 w5 fun v4 w7 =>
 v4 = d4_1 ∧ FE1 w5 w7) ∧
 ∃ d5_1 : Value, (∀ w8 : World, XBin P .lss 3 false true d4_1 (Value.int .i64 1) w8 fun v5 w10 =>
 v5 = d5_1 ∧ w10 = w8) ∧
 ∃ d7_1 : Value, (XG d5_1 false (∀ w11 : World, XFld P 31 v1 0 w11 fun v7 w13 =>
 v7 = d7_1 ∧ w13 = w11) (d7_1 = undef)) ∧
 ∃ d8_1 : Value, (XG d5_1 false (∀ w14 : World, E1 w1.drew w14 → XLoad P 3 d7_1 w14 fun v8 w16 =>
 v8 = d8_1 ∧ FE1 w14 w16) (d8_1 = undef)) ∧
 ∃ d9_1 : Value, (XG d5_1 false (∀ w17 : World, XBin P .gtr 3 false true d8_1 (Value.int .i64 7) w17 fun v9 w19 =>
 v9 = d9_1 ∧ w19 = w17) (d9_1 = undef)) ∧
 ∃ d10_1 : Value, (∀ w20 : World, XPick d5_1 (Value.bool true) d9_1 fun q1 =>
 q1 = d10_1 ∧ w20 = w20) ∧
 ∃ d12_1 : Value, (XG d10_1 false (∀ w22 : World, E1 w1.drew w22 → XLoad P 31 v1 w22 fun v12 w24 =>
 v12 = d12_1 ∧ FE1 w22 w24) (d12_1 = undef)) ∧
 ∃ d13_1 : Value, (XG d10_1 false (∀ w25 : World, E1 w1.drew w25 → XLoad P 31 v1 w25 fun v13 w27 =>
 v13 = d13_1 ∧ FE1 w25 w27) (d13_1 = undef)) ∧
 ∀ w28 : World, FE1 w1.drew w28 →
 XG d10_1 false (
 XCall P 102 #[d13_1] w28 fun v14 w29 =>
 E1 w28 w29 ∧
 ∀ w30 : World, FE1 w29 w30 →
 XG d10_1 false (
 XCall P 20 #[d12_1, v14] w30 fun v15 w31 =>
 ∃ d16_1 : Value, (XG d10_1 false (∀ w32 : World, XUn P .not v15 w32 fun v16 w34 =>
 v16 = d16_1 ∧ w34 = w32) (d16_1 = undef)) ∧
 ∃ d17_1 : Value, (∀ w35 : World, XPick d10_1 (Value.bool true) d16_1 fun q2 =>
 q2 = d17_1 ∧ w35 = w35) ∧
 XC d17_1 (
 R (Value.int .i64 2) w31) (
 XFld P 31 v1 0 w31 fun v18 w37 =>
 XLoad P 3 v18 w37 fun v19 w38 =>
 XBin P .eql 3 false true v19 (Value.int .i64 1) w38 fun v21 w39 =>
 XC v21 (
 XFld P 31 v1 4 w39 fun v22 w40 =>
 XLoad P 29 v22 w40 fun v23 w41 =>
 XCall P 103 #[v23] w41 fun v24 w42 =>
 R v24 w42) (
 XBin P .eql 3 false true v19 (Value.int .i64 2) w39 fun v26 w43 =>
 XC v26 (
 XFld P 31 v1 4 w43 fun v27 w44 =>
 XFld P 29 v27 0 w44 fun v28 w45 =>
 XLoad P 9 v28 w45 fun v29 w46 =>
 XCall P 104 #[v29] w46 fun v30 w47 =>
 XUn P .not v30 w47 fun v31 w48 =>
 XC v31 (
 R (Value.int .i64 1) w48) (
 R (Value.int .i64 0) w48)) (
 XFld P 31 v1 1 w43 fun v32 w49 =>
 XLoad P 3 v32 w49 fun v33 w50 =>
 XBin P .lss 3 false true v33 (Value.int .i64 1) w50 fun v34 w51 =>
 ∃ J1 : Value → World → Prop, (∀ (_jk1 : Env) (u38 : Value) (w52 : World), J1 u38 w52 →
 XPick v34 (Value.bool true) u38 fun q3 =>
 ∃ J2 : Value → World → Prop, (∀ (_jk2 : Env) (u44 : Value) (w53 : World), J2 u44 w53 →
 ∃ J3 : Value → World → Prop, (∀ (_jk3 : Env) (u47 : Value) (w54 : World), J3 u47 w54 →
 ∃ J4 : Value → World → Prop, (∀ (_jk4 : Env) (u49 : Value) (w55 : World), J4 u49 w55 →
 ∃ J5 : Value → World → Prop, (∀ (_jk5 : Env) (u53 : Value) (w56 : World), J5 u53 w56 →
 ∃ J6 : Value → World → Prop, (∀ (_jk6 : Env) (u54 : Value) (w57 : World), J6 u54 w57 →
 XPick q3 (Value.bool true) u54 fun q4 =>
 XC q4 (
 R (Value.int .i64 2) w57) (
 XFld P 31 v1 0 w57 fun v56 w58 =>
 XLoad P 3 v56 w58 fun v57 w59 =>
 XBin P .eql 3 false true v57 (Value.int .i64 3) w59 fun v58 w60 =>
 XC v58 (
 XFld P 31 v1 3 w60 fun v59 w61 =>
 XLoad P 24 v59 w61 fun v60 w62 =>
 XCall P 106 #[v60] w62 fun v61 w63 =>
 R v61 w63) (
 R (Value.int .i64 0) w60))) ∧
 XG q3 false (
 XPick u49 u53 (Value.bool false) fun q5 =>
 J6 q5 w56) (J6 undef w56)) ∧
 XG u49 true (
 XFld P 31 v1 2 w55 fun v50 w64 =>
 XLoad P 22 v50 w64 fun v51 w65 =>
 XCall P 105 #[v51] w65 fun v52 w66 =>
 XUn P .not v52 w66 fun v53 w67 =>
 J5 v53 w67) (J5 undef w55)) ∧
 XG q3 false (
 XPick u44 (Value.bool true) u47 fun q6 =>
 J4 q6 w54) (J4 undef w54)) ∧
 XG u44 false (
 XFld P 31 v1 0 w53 fun v45 w68 =>
 XLoad P 3 v45 w68 fun v46 w69 =>
 XBin P .eql 3 false true v46 (Value.int .i64 7) w69 fun v47 w70 =>
 J3 v47 w70) (J3 undef w53)) ∧
 XG q3 false (
 XFld P 31 v1 0 w52 fun v41 w71 =>
 XLoad P 3 v41 w71 fun v42 w72 =>
 XBin P .eql 3 false true v42 (Value.int .i64 3) w72 fun v43 w73 =>
 J2 v43 w73) (J2 undef w52)) ∧
 XG v34 false (
 XFld P 31 v1 1 w51 fun v36 w74 =>
 XLoad P 3 v36 w74 fun v37 w75 =>
 XBin P .gtr 3 false true v37 (Value.int .i64 999999) w75 fun v38 w76 =>
 J1 v38 w76) (J1 undef w51))))) (
 ∃ d16_2 : Value, (XG d10_1 false (∀ w77 : World, XUn P .not undef w77 fun v16_2 w79 =>
 v16_2 = d16_2 ∧ w79 = w77) (d16_2 = undef)) ∧
 ∃ d17_2 : Value, (∀ w80 : World, XPick d10_1 (Value.bool true) d16_2 fun q7 =>
 q7 = d17_2 ∧ w80 = w80) ∧
 XC d17_2 (
 R (Value.int .i64 2) w30) (
 XFld P 31 v1 0 w30 fun v18_2 w82 =>
 XLoad P 3 v18_2 w82 fun v19_2 w83 =>
 XBin P .eql 3 false true v19_2 (Value.int .i64 1) w83 fun v21_2 w84 =>
 XC v21_2 (
 XFld P 31 v1 4 w84 fun v22_2 w85 =>
 XLoad P 29 v22_2 w85 fun v23_2 w86 =>
 XCall P 103 #[v23_2] w86 fun v24_2 w87 =>
 R v24_2 w87) (
 XBin P .eql 3 false true v19_2 (Value.int .i64 2) w84 fun v26_2 w88 =>
 XC v26_2 (
 XFld P 31 v1 4 w88 fun v27_2 w89 =>
 XFld P 29 v27_2 0 w89 fun v28_2 w90 =>
 XLoad P 9 v28_2 w90 fun v29_2 w91 =>
 XCall P 104 #[v29_2] w91 fun v30_2 w92 =>
 XUn P .not v30_2 w92 fun v31_2 w93 =>
 XC v31_2 (
 R (Value.int .i64 1) w93) (
 R (Value.int .i64 0) w93)) (
 XFld P 31 v1 1 w88 fun v32_2 w94 =>
 XLoad P 3 v32_2 w94 fun v33_2 w95 =>
 XBin P .lss 3 false true v33_2 (Value.int .i64 1) w95 fun v34_2 w96 =>
 ∃ J7 : Value → World → Prop, (∀ (_jk7 : Env) (u38_2 : Value) (w97 : World), J7 u38_2 w97 →
 XPick v34_2 (Value.bool true) u38_2 fun q8 =>
 ∃ J8 : Value → World → Prop, (∀ (_jk8 : Env) (u44_2 : Value) (w98 : World), J8 u44_2 w98 →
 ∃ J9 : Value → World → Prop, (∀ (_jk9 : Env) (u47_2 : Value) (w99 : World), J9 u47_2 w99 →
 ∃ J10 : Value → World → Prop, (∀ (_jk10 : Env) (u49_2 : Value) (w100 : World), J10 u49_2 w100 →
 ∃ J11 : Value → World → Prop, (∀ (_jk11 : Env) (u53_2 : Value) (w101 : World), J11 u53_2 w101 →
 ∃ J12 : Value → World → Prop, (∀ (_jk12 : Env) (u54_2 : Value) (w102 : World), J12 u54_2 w102 →
 XPick q8 (Value.bool true) u54_2 fun q9 =>
 XC q9 (
 R (Value.int .i64 2) w102) (
 XFld P 31 v1 0 w102 fun v56_2 w103 =>
 XLoad P 3 v56_2 w103 fun v57_2 w104 =>
 XBin P .eql 3 false true v57_2 (Value.int .i64 3) w104 fun v58_2 w105 =>
 XC v58_2 (
 XFld P 31 v1 3 w105 fun v59_2 w106 =>
 XLoad P 24 v59_2 w106 fun v60_2 w107 =>
 XCall P 106 #[v60_2] w107 fun v61_2 w108 =>
 R v61_2 w108) (
 R (Value.int .i64 0) w105))) ∧
 XG q8 false (
 XPick u49_2 u53_2 (Value.bool false) fun q10 =>
 J12 q10 w101) (J12 undef w101)) ∧
 XG u49_2 true (
 XFld P 31 v1 2 w100 fun v50_2 w109 =>
 XLoad P 22 v50_2 w109 fun v51_2 w110 =>
 XCall P 105 #[v51_2] w110 fun v52_2 w111 =>
 XUn P .not v52_2 w111 fun v53_2 w112 =>
 J11 v53_2 w112) (J11 undef w100)) ∧
 XG q8 false (
 XPick u44_2 (Value.bool true) u47_2 fun q11 =>
 J10 q11 w99) (J10 undef w99)) ∧
 XG u44_2 false (
 XFld P 31 v1 0 w98 fun v45_2 w113 =>
 XLoad P 3 v45_2 w113 fun v46_2 w114 =>
 XBin P .eql 3 false true v46_2 (Value.int .i64 7) w114 fun v47_2 w115 =>
 J9 v47_2 w115) (J9 undef w98)) ∧
 XG q8 false (
 XFld P 31 v1 0 w97 fun v41_2 w116 =>
 XLoad P 3 v41_2 w116 fun v42_2 w117 =>
 XBin P .eql 3 false true v42_2 (Value.int .i64 3) w117 fun v43_2 w118 =>
 J8 v43_2 w118) (J8 undef w97)) ∧
 XG v34_2 false (
 XFld P 31 v1 1 w96 fun v36_2 w119 =>
 XLoad P 3 v36_2 w119 fun v37_2 w120 =>
 XBin P .gtr 3 false true v37_2 (Value.int .i64 999999) w120 fun v38_2 w121 =>
 J7 v38_2 w121) (J7 undef w96)))))) (
 E1 w28 w28 ∧
 ∀ w122 : World, FE1 w28 w122 →
 XG d10_1 false (
 XCall P 20 #[d12_1, undef] w122 fun v15_2 w123 =>
 ∃ d16_3 : Value, (XG d10_1 false (∀ w124 : World, XUn P .not v15_2 w124 fun v16_3 w126 =>
 v16_3 = d16_3 ∧ w126 = w124) (d16_3 = undef)) ∧
 ∃ d17_3 : Value, (∀ w127 : World, XPick d10_1 (Value.bool true) d16_3 fun q12 =>
 q12 = d17_3 ∧ w127 = w127) ∧
 XC d17_3 (
 R (Value.int .i64 2) w123) (
 XFld P 31 v1 0 w123 fun v18_3 w129 =>
 XLoad P 3 v18_3 w129 fun v19_3 w130 =>
 XBin P .eql 3 false true v19_3 (Value.int .i64 1) w130 fun v21_3 w131 =>
 XC v21_3 (
 XFld P 31 v1 4 w131 fun v22_3 w132 =>
 XLoad P 29 v22_3 w132 fun v23_3 w133 =>
 XCall P 103 #[v23_3] w133 fun v24_3 w134 =>
 R v24_3 w134) (
 XBin P .eql 3 false true v19_3 (Value.int .i64 2) w131 fun v26_3 w135 =>
 XC v26_3 (
 XFld P 31 v1 4 w135 fun v27_3 w136 =>
 XFld P 29 v27_3 0 w136 fun v28_3 w137 =>
 XLoad P 9 v28_3 w137 fun v29_3 w138 =>
 XCall P 104 #[v29_3] w138 fun v30_3 w139 =>
 XUn P .not v30_3 w139 fun v31_3 w140 =>
 XC v31_3 (
 R (Value.int .i64 1) w140) (
 R (Value.int .i64 0) w140)) (
 XFld P 31 v1 1 w135 fun v32_3 w141 =>
 XLoad P 3 v32_3 w141 fun v33_3 w142 =>
 XBin P .lss 3 false true v33_3 (Value.int .i64 1) w142 fun v34_3 w143 =>
 ∃ J13 : Value → World → Prop, (∀ (_jk13 : Env) (u38_3 : Value) (w144 : World), J13 u38_3 w144 →
 XPick v34_3 (Value.bool true) u38_3 fun q13 =>
 ∃ J14 : Value → World → Prop, (∀ (_jk14 : Env) (u44_3 : Value) (w145 : World), J14 u44_3 w145 →
 ∃ J15 : Value → World → Prop, (∀ (_jk15 : Env) (u47_3 : Value) (w146 : World), J15 u47_3 w146 →
 ∃ J16 : Value → World → Prop, (∀ (_jk16 : Env) (u49_3 : Value) (w147 : World), J16 u49_3 w147 →
 ∃ J17 : Value → World → Prop, (∀ (_jk17 : Env) (u53_3 : Value) (w148 : World), J17 u53_3 w148 →
 ∃ J18 : Value → World → Prop, (∀ (_jk18 : Env) (u54_3 : Value) (w149 : World), J18 u54_3 w149 →
 XPick q13 (Value.bool true) u54_3 fun q14 =>
 XC q14 (
 R (Value.int .i64 2) w149) (
 XFld P 31 v1 0 w149 fun v56_3 w150 =>
 XLoad P 3 v56_3 w150 fun v57_3 w151 =>
 XBin P .eql 3 false true v57_3 (Value.int .i64 3) w151 fun v58_3 w152 =>
 XC v58_3 (
 XFld P 31 v1 3 w152 fun v59_3 w153 =>
 XLoad P 24 v59_3 w153 fun v60_3 w154 =>
 XCall P 106 #[v60_3] w154 fun v61_3 w155 =>
 R v61_3 w155) (
 R (Value.int .i64 0) w152))) ∧
 XG q13 false (
 XPick u49_3 u53_3 (Value.bool false) fun q15 =>
 J18 q15 w148) (J18 undef w148)) ∧
 XG u49_3 true (
 XFld P 31 v1 2 w147 fun v50_3 w156 =>
 XLoad P 22 v50_3 w156 fun v51_3 w157 =>
 XCall P 105 #[v51_3] w157 fun v52_3 w158 =>
 XUn P .not v52_3 w158 fun v53_3 w159 =>
 J17 v53_3 w159) (J17 undef w147)) ∧
 XG q13 false (
 XPick u44_3 (Value.bool true) u47_3 fun q16 =>
 J16 q16 w146) (J16 undef w146)) ∧
 XG u44_3 false (
 XFld P 31 v1 0 w145 fun v45_3 w160 =>
 XLoad P 3 v45_3 w160 fun v46_3 w161 =>
 XBin P .eql 3 false true v46_3 (Value.int .i64 7) w161 fun v47_3 w162 =>
 J15 v47_3 w162) (J15 undef w145)) ∧
 XG q13 false (
 XFld P 31 v1 0 w144 fun v41_3 w163 =>
 XLoad P 3 v41_3 w163 fun v42_3 w164 =>
 XBin P .eql 3 false true v42_3 (Value.int .i64 3) w164 fun v43_3 w165 =>
 J14 v43_3 w165) (J14 undef w144)) ∧
 XG v34_3 false (
 XFld P 31 v1 1 w143 fun v36_3 w166 =>
 XLoad P 3 v36_3 w166 fun v37_3 w167 =>
 XBin P .gtr 3 false true v37_3 (Value.int .i64 999999) w167 fun v38_3 w168 =>
 J13 v38_3 w168) (J13 undef w143))))) (
 ∃ d16_4 : Value, (XG d10_1 false (∀ w169 : World, XUn P .not undef w169 fun v16_4 w171 =>
 v16_4 = d16_4 ∧ w171 = w169) (d16_4 = undef)) ∧
 ∃ d17_4 : Value, (∀ w172 : World, XPick d10_1 (Value.bool true) d16_4 fun q17 =>
 q17 = d17_4 ∧ w172 = w172) ∧
 XC d17_4 (
 R (Value.int .i64 2) w122) (
 XFld P 31 v1 0 w122 fun v18_4 w174 =>
 XLoad P 3 v18_4 w174 fun v19_4 w175 =>
 XBin P .eql 3 false true v19_4 (Value.int .i64 1) w175 fun v21_4 w176 =>
 XC v21_4 (
 XFld P 31 v1 4 w176 fun v22_4 w177 =>
 XLoad P 29 v22_4 w177 fun v23_4 w178 =>
 XCall P 103 #[v23_4] w178 fun v24_4 w179 =>
 R v24_4 w179) (
 XBin P .eql 3 false true v19_4 (Value.int .i64 2) w176 fun v26_4 w180 =>
 XC v26_4 (
 XFld P 31 v1 4 w180 fun v27_4 w181 =>
 XFld P 29 v27_4 0 w181 fun v28_4 w182 =>
 XLoad P 9 v28_4 w182 fun v29_4 w183 =>
 XCall P 104 #[v29_4] w183 fun v30_4 w184 =>
 XUn P .not v30_4 w184 fun v31_4 w185 =>
 XC v31_4 (
 R (Value.int .i64 1) w185) (
 R (Value.int .i64 0) w185)) (
 XFld P 31 v1 1 w180 fun v32_4 w186 =>
 XLoad P 3 v32_4 w186 fun v33_4 w187 =>
 XBin P .lss 3 false true v33_4 (Value.int .i64 1) w187 fun v34_4 w188 =>
 ∃ J19 : Value → World → Prop, (∀ (_jk19 : Env) (u38_4 : Value) (w189 : World), J19 u38_4 w189 →
 XPick v34_4 (Value.bool true) u38_4 fun q18 =>
 ∃ J20 : Value → World → Prop, (∀ (_jk20 : Env) (u44_4 : Value) (w190 : World), J20 u44_4 w190 →
 ∃ J21 : Value → World → Prop, (∀ (_jk21 : Env) (u47_4 : Value) (w191 : World), J21 u47_4 w191 →
 ∃ J22 : Value → World → Prop, (∀ (_jk22 : Env) (u49_4 : Value) (w192 : World), J22 u49_4 w192 →
 ∃ J23 : Value → World → Prop, (∀ (_jk23 : Env) (u53_4 : Value) (w193 : World), J23 u53_4 w193 →
 ∃ J24 : Value → World → Prop, (∀ (_jk24 : Env) (u54_4 : Value) (w194 : World), J24 u54_4 w194 →
 XPick q18 (Value.bool true) u54_4 fun q19 =>
 XC q19 (
 R (Value.int .i64 2) w194) (
 XFld P 31 v1 0 w194 fun v56_4 w195 =>
 XLoad P 3 v56_4 w195 fun v57_4 w196 =>
 XBin P .eql 3 false true v57_4 (Value.int .i64 3) w196 fun v58_4 w197 =>
 XC v58_4 (
 XFld P 31 v1 3 w197 fun v59_4 w198 =>
 XLoad P 24 v59_4 w198 fun v60_4 w199 =>
 XCall P 106 #[v60_4] w199 fun v61_4 w200 =>
 R v61_4 w200) (
 R (Value.int .i64 0) w197))) ∧
 XG q18 false (
 XPick u49_4 u53_4 (Value.bool false) fun q20 =>
 J24 q20 w193) (J24 undef w193)) ∧
 XG u49_4 true (
 XFld P 31 v1 2 w192 fun v50_4 w201 =>
 XLoad P 22 v50_4 w201 fun v51_4 w202 =>
 XCall P 105 #[v51_4] w202 fun v52_4 w203 =>
 XUn P .not v52_4 w203 fun v53_4 w204 =>
 J23 v53_4 w204) (J23 undef w192)) ∧
 XG q18 false (
 XPick u44_4 (Value.bool true) u47_4 fun q21 =>
 J22 q21 w191) (J22 undef w191)) ∧
 XG u44_4 false (
 XFld P 31 v1 0 w190 fun v45_4 w205 =>
 XLoad P 3 v45_4 w205 fun v46_4 w206 =>
 XBin P .eql 3 false true v46_4 (Value.int .i64 7) w206 fun v47_4 w207 =>
 J21 v47_4 w207) (J21 undef w190)) ∧
 XG q18 false (
 XFld P 31 v1 0 w189 fun v41_4 w208 =>
 XLoad P 3 v41_4 w208 fun v42_4 w209 =>
 XBin P .eql 3 false true v42_4 (Value.int .i64 3) w209 fun v43_4 w210 =>
 J20 v43_4 w210) (J20 undef w189)) ∧
 XG v34_4 false (
 XFld P 31 v1 1 w188 fun v36_4 w211 =>
 XLoad P 3 v36_4 w211 fun v37_4 w212 =>
 XBin P .gtr 3 false true v37_4 (Value.int .i64 999999) w212 fun v38_4 w213 =>
 J19 v38_4 w213) (J19 undef w188))))))
noncomputable def C_joineryref4_Check : Code := (Tryz.f56.body).getD .skip
noncomputable def an_joineryref4_Check : An := (.seq none (.reg []) (.seq none (.seq none (.draw [0, 1, 0, 0, 0, 1, 0, 0, 0, 1, 1, 2, 2, 0, 0]) (.cond (.seq none (.reg []) .leaf) .leaf)) (.seq none (.seq none (.reg []) (.block none (.seq none (.reg []) (.cond (.seq none (.reg []) .leaf) (.seq none (.reg []) (.cond (.seq none (.seq none (.reg []) (.cond (.seq none (.reg []) .leaf) .leaf)) (.seq none (.reg []) .leaf)) .leaf)))))) (.seq none (.seq none (.reg [[38], [44], [47], [49], [53], [54]]) (.cond (.seq none (.reg []) .leaf) .leaf)) (.seq none (.seq none (.reg []) (.cond (.seq none (.reg []) .leaf) .leaf)) (.seq none (.reg []) .leaf))))))
theorem S_joineryref4_Check_eq (P : Program) (p0 : Value) (w : World) (R : Value → World → Prop) : WPf P C_joineryref4_Check Tryz.f56.results.toList an_joineryref4_Check #[p0] w R = S_joineryref4_Check P p0 w R := by kernel_rfl
theorem ok_joineryref4_Check : okC Tryz.f56.ntmps C_joineryref4_Check an_joineryref4_Check = true := by kernel_rfl
theorem call_joineryref4_Check {p0 w R} (h : S_joineryref4_Check Tryz.prog p0 w R) : Ret Tryz.prog 56 #[p0] w R :=
  Ret_of_WPf mixed Tryz.func56 (by kernel_rfl) (Nat.le_of_ble_eq_true (by kernel_rfl)) ok_joineryref4_Check ((S_joineryref4_Check_eq ..).symm ▸ h)

/-- joinery/joineryref4.Digits -/
def S_joineryref4_Digits (P : Program) (p0 : Value) (w : World) (R : Value → World → Prop) : Prop :=
 XBin P .lss 3 false true p0 (Value.int .i64 0) w fun v4 w1 =>
 XC v4 (
 XBin P .sub 3 true false (Value.int .i64 0) p0 w1 fun v6 w2 =>
 XCall P 69 #[v6] w2 fun v7 w3 =>
 XBin P .add 9 true false (Value.string ⟨#[45]⟩) v7 w3 fun v8 w4 =>
 R v8 w4) (
 XBin P .geq 3 false true p0 (Value.int .i64 10) w1 fun v10 w5 =>
 XC v10 (
 XBin P .quo 3 false true p0 (Value.int .i64 10) w5 fun v12 w6 =>
 XCall P 69 #[v12] w6 fun v13 w7 =>
 XBin P .rem 3 false true p0 (Value.int .i64 10) w7 fun v15 w8 =>
 XCall P 69 #[v15] w8 fun v16 w9 =>
 XBin P .add 9 false false v13 v16 w9 fun v17 w10 =>
 R v17 w10) (
 XBin P .add 3 true false (Value.int .i64 48) p0 w5 fun v19 w11 =>
 XConv P 3 5 v19 w11 fun v20 w12 =>
 XBuildS P 43 1 #[(0, v20)] w12 fun v21 w13 =>
 XConv P 43 9 v21 w13 fun v22 w14 =>
 R v22 w14))
noncomputable def C_joineryref4_Digits : Code := (Tryz.f69.body).getD .skip
noncomputable def an_joineryref4_Digits : An := (.seq none (.reg []) (.seq none (.seq none (.reg []) (.cond (.seq none (.reg []) .leaf) .leaf)) (.seq none (.seq none (.reg []) (.cond (.seq none (.reg []) .leaf) .leaf)) (.seq none (.reg []) .leaf))))
theorem S_joineryref4_Digits_eq (P : Program) (p0 : Value) (w : World) (R : Value → World → Prop) : WPf P C_joineryref4_Digits Tryz.f69.results.toList an_joineryref4_Digits #[p0] w R = S_joineryref4_Digits P p0 w R := by kernel_rfl
theorem ok_joineryref4_Digits : okC Tryz.f69.ntmps C_joineryref4_Digits an_joineryref4_Digits = true := by kernel_rfl
theorem call_joineryref4_Digits {p0 w R} (h : S_joineryref4_Digits Tryz.prog p0 w R) : Ret Tryz.prog 69 #[p0] w R :=
  Ret_of_WPf mixed Tryz.func69 (by kernel_rfl) (Nat.le_of_ble_eq_true (by kernel_rfl)) ok_joineryref4_Digits ((S_joineryref4_Digits_eq ..).symm ▸ h)

/-- joinery/joineryref4.Vec -/
def S_joineryref4_Vec (P : Program) (p0 : Value) (w : World) (R : Value → World → Prop) : Prop :=
 XBox P 26 p0 w fun v1 w1 =>
 ∃ E1 FE1 : World → World → Prop, Pre E1 FE1 ∧
 ∃ d3_1 : Value, (∀ w2 : World, XFld P 26 v1 0 w2 fun v3 w4 =>
 v3 = d3_1 ∧ w4 = w2) ∧
 ∃ d4_1 : Value, (∀ w5 : World, E1 w1.drew w5 → XLoad P 3 d3_1 w5 fun v4 w7 =>
 v4 = d4_1 ∧ FE1 w5 w7) ∧
 ∃ d5_1 : Value, (∀ w8 : World, E1 w1.drew w8 → XCall P 69 #[d4_1] w8 fun v5 w10 =>
 v5 = d5_1 ∧ FE1 w8 w10) ∧
 ∃ d6_1 : Value, (∀ w11 : World, XBin P .add 9 false true d5_1 (Value.string ⟨#[44]⟩) w11 fun v6 w13 =>
 v6 = d6_1 ∧ w13 = w11) ∧
 ∃ d7_1 : Value, (∀ w14 : World, XFld P 26 v1 1 w14 fun v7 w16 =>
 v7 = d7_1 ∧ w16 = w14) ∧
 ∃ d8_1 : Value, (∀ w17 : World, E1 w1.drew w17 → XLoad P 3 d7_1 w17 fun v8 w19 =>
 v8 = d8_1 ∧ FE1 w17 w19) ∧
 ∃ d9_1 : Value, (∀ w20 : World, E1 w1.drew w20 → XCall P 69 #[d8_1] w20 fun v9 w22 =>
 v9 = d9_1 ∧ FE1 w20 w22) ∧
 ∃ d10_1 : Value, (∀ w23 : World, XBin P .add 9 false false d6_1 d9_1 w23 fun v10 w25 =>
 v10 = d10_1 ∧ w25 = w23) ∧
 ∀ w26 : World, FE1 w1.drew w26 →
 R d10_1 w26
noncomputable def C_joineryref4_Vec : Code := (Tryz.f71.body).getD .skip
noncomputable def an_joineryref4_Vec : An := (.seq none (.reg []) (.seq none (.draw [0, 1, 1, 0, 0, 1, 1, 0, 2]) .leaf))
theorem S_joineryref4_Vec_eq (P : Program) (p0 : Value) (w : World) (R : Value → World → Prop) : WPf P C_joineryref4_Vec Tryz.f71.results.toList an_joineryref4_Vec #[p0] w R = S_joineryref4_Vec P p0 w R := by kernel_rfl
theorem ok_joineryref4_Vec : okC Tryz.f71.ntmps C_joineryref4_Vec an_joineryref4_Vec = true := by kernel_rfl
theorem call_joineryref4_Vec {p0 w R} (h : S_joineryref4_Vec Tryz.prog p0 w R) : Ret Tryz.prog 71 #[p0] w R :=
  Ret_of_WPf mixed Tryz.func71 (by kernel_rfl) (Nat.le_of_ble_eq_true (by kernel_rfl)) ok_joineryref4_Vec ((S_joineryref4_Vec_eq ..).symm ▸ h)

/-- joinery/joineryref4.row -/
def S_joineryref4_row (P : Program) (p0 p1 : Value) (w : World) (R : Value → World → Prop) : Prop :=
 ∃ (I1 : Value → Value → World → Prop) (m1 : Value → Value → World → Nat), I1 (Value.string ⟨#[]⟩) (Value.int .i64 0) w ∧ ∀ (_jk1 : Env) (u5_s u6_i : Value) (w1 : World), I1 u5_s u6_i w1 →
 XB P .len #[27] 3 #[p1] w1 fun v9 w2 =>
 XBin P .lss 3 false false u6_i v9 w2 fun v10 w3 =>
 XC v10 (
 XBin P .add 9 false false u5_s p0 w3 fun v15 w4 =>
 XIdx P 27 p1 u6_i w4 fun v18 w5 =>
 XLoad P 9 v18 w5 fun v19 w6 =>
 XBin P .add 9 false false v15 v19 w6 fun v20 w7 =>
 XBin P .add 3 false true u6_i (Value.int .i64 1) w7 fun v12 w8 =>
 I1 v20 v12 w8 ∧ m1 v20 v12 w8 < m1 u5_s u6_i w1) (
 R u5_s w3)
noncomputable def C_joineryref4_row : Code := (Tryz.f118.body).getD .skip
noncomputable def an_joineryref4_row : An := (.seq none (.reg []) (.seq none (.reg []) (.seq none (.seq none (.reg []) (.block none (.loop [5, 6] (.seq none (.seq none (.reg []) (.cond .leaf .leaf)) (.seq none (.block none (.reg [])) (.reg [])))))) (.seq none (.reg []) .leaf))))
theorem S_joineryref4_row_eq (P : Program) (p0 p1 : Value) (w : World) (R : Value → World → Prop) : WPf P C_joineryref4_row Tryz.f118.results.toList an_joineryref4_row #[p0, p1] w R = S_joineryref4_row P p0 p1 w R := by kernel_rfl
theorem ok_joineryref4_row : okC Tryz.f118.ntmps C_joineryref4_row an_joineryref4_row = true := by kernel_rfl
theorem call_joineryref4_row {p0 p1 w R} (h : S_joineryref4_row Tryz.prog p0 p1 w R) : Ret Tryz.prog 118 #[p0, p1] w R :=
  Ret_of_WPf mixed Tryz.func118 (by kernel_rfl) (Nat.le_of_ble_eq_true (by kernel_rfl)) ok_joineryref4_row ((S_joineryref4_row_eq ..).symm ▸ h)

/-- joinery/joineryref4.flag -/
def S_joineryref4_flag (P : Program) (p0 : Value) (w : World) (R : Value → World → Prop) : Prop :=
 XC p0 (
 R (Value.string ⟨#[33]⟩) w) (
 R (Value.string ⟨#[]⟩) w)
noncomputable def C_joineryref4_flag : Code := (Tryz.f72.body).getD .skip
noncomputable def an_joineryref4_flag : An := (.seq none (.reg []) (.seq none (.seq none (.reg []) (.cond (.seq none (.reg []) .leaf) .leaf)) (.seq none (.reg []) .leaf)))
theorem S_joineryref4_flag_eq (P : Program) (p0 : Value) (w : World) (R : Value → World → Prop) : WPf P C_joineryref4_flag Tryz.f72.results.toList an_joineryref4_flag #[p0] w R = S_joineryref4_flag P p0 w R := by kernel_rfl
theorem ok_joineryref4_flag : okC Tryz.f72.ntmps C_joineryref4_flag an_joineryref4_flag = true := by kernel_rfl
theorem call_joineryref4_flag {p0 w R} (h : S_joineryref4_flag Tryz.prog p0 w R) : Ret Tryz.prog 72 #[p0] w R :=
  Ret_of_WPf mixed Tryz.func72 (by kernel_rfl) (Nat.le_of_ble_eq_true (by kernel_rfl)) ok_joineryref4_flag ((S_joineryref4_flag_eq ..).symm ▸ h)

/-- joinery/joineryref4.Node -/
def S_joineryref4_Node (P : Program) (p0 : Value) (w : World) (R : Value → World → Prop) : Prop :=
 XBox P 29 p0 w fun v1 w1 =>
 ∃ E1 FE1 : World → World → Prop, Pre E1 FE1 ∧
 ∃ d3_1 : Value, (∀ w2 : World, XFld P 29 v1 0 w2 fun v3 w4 =>
 v3 = d3_1 ∧ w4 = w2) ∧
 ∃ d4_1 : Value, (∀ w5 : World, E1 w1.drew w5 → XLoad P 9 d3_1 w5 fun v4 w7 =>
 v4 = d4_1 ∧ FE1 w5 w7) ∧
 ∃ d5_1 : Value, (∀ w8 : World, XBin P .add 9 false true d4_1 (Value.string ⟨#[58]⟩) w8 fun v5 w10 =>
 v5 = d5_1 ∧ w10 = w8) ∧
 ∃ d6_1 : Value, (∀ w11 : World, XFld P 29 v1 1 w11 fun v6 w13 =>
 v6 = d6_1 ∧ w13 = w11) ∧
 ∃ d7_1 : Value, (∀ w14 : World, E1 w1.drew w14 → XLoad P 26 d6_1 w14 fun v7 w16 =>
 v7 = d7_1 ∧ FE1 w14 w16) ∧
 ∃ d8_1 : Value, (∀ w17 : World, E1 w1.drew w17 → XCall P 71 #[d7_1] w17 fun v8 w19 =>
 v8 = d8_1 ∧ FE1 w17 w19) ∧
 ∃ d9_1 : Value, (∀ w20 : World, XBin P .add 9 false false d5_1 d8_1 w20 fun v9 w22 =>
 v9 = d9_1 ∧ w22 = w20) ∧
 ∃ d10_1 : Value, (∀ w23 : World, XFld P 29 v1 2 w23 fun v10 w25 =>
 v10 = d10_1 ∧ w25 = w23) ∧
 ∃ d11_1 : Value, (∀ w26 : World, E1 w1.drew w26 → XLoad P 27 d10_1 w26 fun v11 w28 =>
 v11 = d11_1 ∧ FE1 w26 w28) ∧
 ∃ d12_1 : Value, (∀ w29 : World, E1 w1.drew w29 → XCall P 118 #[(Value.string ⟨#[43]⟩), d11_1] w29 fun v12 w31 =>
 v12 = d12_1 ∧ FE1 w29 w31) ∧
 ∃ d13_1 : Value, (∀ w32 : World, XBin P .add 9 false false d9_1 d12_1 w32 fun v13 w34 =>
 v13 = d13_1 ∧ w34 = w32) ∧
 ∃ d14_1 : Value, (∀ w35 : World, XFld P 29 v1 3 w35 fun v14 w37 =>
 v14 = d14_1 ∧ w37 = w35) ∧
 ∃ d15_1 : Value, (∀ w38 : World, E1 w1.drew w38 → XLoad P 27 d14_1 w38 fun v15 w40 =>
 v15 = d15_1 ∧ FE1 w38 w40) ∧
 ∃ d16_1 : Value, (∀ w41 : World, E1 w1.drew w41 → XCall P 118 #[(Value.string ⟨#[126]⟩), d15_1] w41 fun v16 w43 =>
 v16 = d16_1 ∧ FE1 w41 w43) ∧
 ∃ d17_1 : Value, (∀ w44 : World, XBin P .add 9 false false d13_1 d16_1 w44 fun v17 w46 =>
 v17 = d17_1 ∧ w46 = w44) ∧
 ∃ d18_1 : Value, (∀ w47 : World, XFld P 29 v1 4 w47 fun v18 w49 =>
 v18 = d18_1 ∧ w49 = w47) ∧
 ∃ d19_1 : Value, (∀ w50 : World, E1 w1.drew w50 → XLoad P 4 d18_1 w50 fun v19 w52 =>
 v19 = d19_1 ∧ FE1 w50 w52) ∧
 ∃ d20_1 : Value, (∀ w53 : World, E1 w1.drew w53 → XCall P 72 #[d19_1] w53 fun v20 w55 =>
 v20 = d20_1 ∧ FE1 w53 w55) ∧
 ∃ d21_1 : Value, (∀ w56 : World, XBin P .add 9 false false d17_1 d20_1 w56 fun v21 w58 =>
 v21 = d21_1 ∧ w58 = w56) ∧
 ∀ w59 : World, FE1 w1.drew w59 →
 R d21_1 w59
noncomputable def C_joineryref4_Node : Code := (Tryz.f68.body).getD .skip
noncomputable def an_joineryref4_Node : An := (.seq none (.reg []) (.seq none (.draw [0, 1, 0, 0, 1, 1, 0, 0, 1, 1, 0, 0, 1, 1, 0, 0, 1, 1, 0, 2]) .leaf))
theorem S_joineryref4_Node_eq (P : Program) (p0 : Value) (w : World) (R : Value → World → Prop) : WPf P C_joineryref4_Node Tryz.f68.results.toList an_joineryref4_Node #[p0] w R = S_joineryref4_Node P p0 w R := by kernel_rfl
theorem ok_joineryref4_Node : okC Tryz.f68.ntmps C_joineryref4_Node an_joineryref4_Node = true := by kernel_rfl
theorem call_joineryref4_Node {p0 w R} (h : S_joineryref4_Node Tryz.prog p0 w R) : Ret Tryz.prog 68 #[p0] w R :=
  Ret_of_WPf mixed Tryz.func68 (by kernel_rfl) (Nat.le_of_ble_eq_true (by kernel_rfl)) ok_joineryref4_Node ((S_joineryref4_Node_eq ..).symm ▸ h)

/-- joinery/joineryref4.numbers -/
def S_joineryref4_numbers (P : Program) (p0 : Value) (w : World) (R : Value → World → Prop) : Prop :=
 ∃ (I1 : Value → Value → World → Prop) (m1 : Value → Value → World → Nat), I1 (Value.string ⟨#[]⟩) (Value.int .i64 0) w ∧ ∀ (_jk1 : Env) (u3_s u4_i : Value) (w1 : World), I1 u3_s u4_i w1 →
 XB P .len #[22] 3 #[p0] w1 fun v7 w2 =>
 XBin P .lss 3 false false u4_i v7 w2 fun v8 w3 =>
 XC v8 (
 ∃ J1 : Value → World → Prop, (∀ (_jk2 : Env) (u3_s_2 : Value) (w4 : World), J1 u3_s_2 w4 →
 XIdx P 22 p0 u4_i w4 fun v18 w5 =>
 XLoad P 3 v18 w5 fun v19 w6 =>
 XCall P 69 #[v19] w6 fun v20 w7 =>
 XBin P .add 9 false false u3_s_2 v20 w7 fun v21 w8 =>
 XBin P .add 3 false true u4_i (Value.int .i64 1) w8 fun v10 w9 =>
 I1 v21 v10 w9 ∧ m1 v21 v10 w9 < m1 u3_s u4_i w1) ∧
 XBin P .gtr 3 false true u4_i (Value.int .i64 0) w3 fun v12 w10 =>
 XC v12 (
 XBin P .add 9 false true u3_s (Value.string ⟨#[44]⟩) w10 fun v14 w11 =>
 J1 v14 w11) (
 J1 u3_s w10)) (
 R u3_s w3)
noncomputable def C_joineryref4_numbers : Code := (Tryz.f70.body).getD .skip
noncomputable def an_joineryref4_numbers : An := (.seq none (.reg []) (.seq none (.reg []) (.seq none (.seq none (.reg []) (.block none (.loop [3, 4] (.seq none (.seq none (.reg []) (.cond .leaf .leaf)) (.seq none (.block none (.seq (some [3]) (.seq none (.reg []) (.cond (.reg []) .leaf)) (.reg []))) (.reg [])))))) (.seq none (.reg []) .leaf))))
theorem S_joineryref4_numbers_eq (P : Program) (p0 : Value) (w : World) (R : Value → World → Prop) : WPf P C_joineryref4_numbers Tryz.f70.results.toList an_joineryref4_numbers #[p0] w R = S_joineryref4_numbers P p0 w R := by kernel_rfl
theorem ok_joineryref4_numbers : okC Tryz.f70.ntmps C_joineryref4_numbers an_joineryref4_numbers = true := by kernel_rfl
theorem call_joineryref4_numbers {p0 w R} (h : S_joineryref4_numbers Tryz.prog p0 w R) : Ret Tryz.prog 70 #[p0] w R :=
  Ret_of_WPf mixed Tryz.func70 (by kernel_rfl) (Nat.le_of_ble_eq_true (by kernel_rfl)) ok_joineryref4_numbers ((S_joineryref4_numbers_eq ..).symm ▸ h)

/-- joinery/joineryref4.Text -/
def S_joineryref4_Text (P : Program) (p0 : Value) (w : World) (R : Value → World → Prop) : Prop :=
 XBox P 31 p0 w fun v1 w1 =>
 XFld P 31 v1 0 w1 fun v6 w2 =>
 XLoad P 3 v6 w2 fun v7 w3 =>
 XBin P .eql 3 false true v7 (Value.int .i64 1) w3 fun v9 w4 =>
 XC v9 (
 XFld P 31 v1 4 w4 fun v10 w5 =>
 XLoad P 29 v10 w5 fun v11 w6 =>
 XCall P 68 #[v11] w6 fun v12 w7 =>
 XBin P .add 9 true false (Value.string ⟨#[110, 111, 100, 101, 32]⟩) v12 w7 fun v13 w8 =>
 R v13 w8) (
 XBin P .eql 3 false true v7 (Value.int .i64 2) w4 fun v15 w9 =>
 XC v15 (
 XFld P 31 v1 4 w9 fun v16 w10 =>
 XFld P 29 v16 0 w10 fun v17 w11 =>
 XLoad P 9 v17 w11 fun v18 w12 =>
 XBin P .add 9 true false (Value.string ⟨#[103, 111, 110, 101, 32]⟩) v18 w12 fun v19 w13 =>
 R v19 w13) (
 XBin P .eql 3 false true v7 (Value.int .i64 4) w9 fun v21 w14 =>
 XC v21 (
 XFld P 31 v1 1 w14 fun v22 w15 =>
 XLoad P 3 v22 w15 fun v23 w16 =>
 XCall P 69 #[v23] w16 fun v24 w17 =>
 XBin P .add 9 true false (Value.string ⟨#[99, 111, 109, 109, 105, 116, 32]⟩) v24 w17 fun v25 w18 =>
 R v25 w18) (
 XBin P .eql 3 false true v7 (Value.int .i64 5) w14 fun v27 w19 =>
 XC v27 (
 XFld P 31 v1 1 w19 fun v28 w20 =>
 XLoad P 3 v28 w20 fun v29 w21 =>
 XCall P 69 #[v29] w21 fun v30 w22 =>
 XBin P .add 9 true false (Value.string ⟨#[97, 98, 111, 114, 116, 32]⟩) v30 w22 fun v31 w23 =>
 R v31 w23) (
 XBin P .eql 3 false true v7 (Value.int .i64 6) w19 fun v33 w24 =>
 XC v33 (
 XFld P 31 v1 1 w24 fun v34 w25 =>
 XLoad P 3 v34 w25 fun v35 w26 =>
 XCall P 69 #[v35] w26 fun v36 w27 =>
 XBin P .add 9 true false (Value.string ⟨#[114, 101, 108, 101, 97, 115, 101, 32]⟩) v36 w27 fun v37 w28 =>
 R v37 w28) (
 XBin P .eql 3 false true v7 (Value.int .i64 7) w24 fun v39 w29 =>
 XC v39 (
 ∃ E1 FE1 : World → World → Prop, Pre E1 FE1 ∧
 ∃ d40_1 : Value, (∀ w30 : World, XFld P 31 v1 1 w30 fun v40 w32 =>
 v40 = d40_1 ∧ w32 = w30) ∧
 ∃ d41_1 : Value, (∀ w33 : World, E1 w29.drew w33 → XLoad P 3 d40_1 w33 fun v41 w35 =>
 v41 = d41_1 ∧ FE1 w33 w35) ∧
 ∃ d42_1 : Value, (∀ w36 : World, E1 w29.drew w36 → XCall P 69 #[d41_1] w36 fun v42 w38 =>
 v42 = d42_1 ∧ FE1 w36 w38) ∧
 ∃ d43_1 : Value, (∀ w39 : World, XBin P .add 9 true false (Value.string ⟨#[103, 97, 110, 103, 32]⟩) d42_1 w39 fun v43 w41 =>
 v43 = d43_1 ∧ w41 = w39) ∧
 ∃ d44_1 : Value, (∀ w42 : World, XBin P .add 9 false true d43_1 (Value.string ⟨#[32]⟩) w42 fun v44 w44 =>
 v44 = d44_1 ∧ w44 = w42) ∧
 ∃ d45_1 : Value, (∀ w45 : World, XFld P 31 v1 2 w45 fun v45 w47 =>
 v45 = d45_1 ∧ w47 = w45) ∧
 ∃ d46_1 : Value, (∀ w48 : World, E1 w29.drew w48 → XLoad P 22 d45_1 w48 fun v46 w50 =>
 v46 = d46_1 ∧ FE1 w48 w50) ∧
 ∃ d47_1 : Value, (∀ w51 : World, E1 w29.drew w51 → XCall P 70 #[d46_1] w51 fun v47 w53 =>
 v47 = d47_1 ∧ FE1 w51 w53) ∧
 ∃ d48_1 : Value, (∀ w54 : World, XBin P .add 9 false false d44_1 d47_1 w54 fun v48 w56 =>
 v48 = d48_1 ∧ w56 = w54) ∧
 ∀ w57 : World, FE1 w29.drew w57 →
 R d48_1 w57) (
 ∃ E2 FE2 : World → World → Prop, Pre E2 FE2 ∧
 ∃ d49_1 : Value, (∀ w58 : World, XFld P 31 v1 1 w58 fun v49 w60 =>
 v49 = d49_1 ∧ w60 = w58) ∧
 ∃ d50_1 : Value, (∀ w61 : World, E2 w29.drew w61 → XLoad P 3 d49_1 w61 fun v50 w63 =>
 v50 = d50_1 ∧ FE2 w61 w63) ∧
 ∃ d51_1 : Value, (∀ w64 : World, E2 w29.drew w64 → XCall P 69 #[d50_1] w64 fun v51 w66 =>
 v51 = d51_1 ∧ FE2 w64 w66) ∧
 ∃ d52_1 : Value, (∀ w67 : World, XBin P .add 9 true false (Value.string ⟨#[112, 114, 101, 112, 97, 114, 101, 32]⟩) d51_1 w67 fun v52 w69 =>
 v52 = d52_1 ∧ w69 = w67) ∧
 ∃ d53_1 : Value, (∀ w70 : World, XBin P .add 9 false true d52_1 (Value.string ⟨#[32]⟩) w70 fun v53 w72 =>
 v53 = d53_1 ∧ w72 = w70) ∧
 ∃ d54_1 : Value, (∀ w73 : World, XFld P 31 v1 2 w73 fun v54 w75 =>
 v54 = d54_1 ∧ w75 = w73) ∧
 ∃ d55_1 : Value, (∀ w76 : World, E2 w29.drew w76 → XLoad P 22 d54_1 w76 fun v55 w78 =>
 v55 = d55_1 ∧ FE2 w76 w78) ∧
 ∃ d56_1 : Value, (∀ w79 : World, E2 w29.drew w79 → XCall P 70 #[d55_1] w79 fun v56 w81 =>
 v56 = d56_1 ∧ FE2 w79 w81) ∧
 ∃ d57_1 : Value, (∀ w82 : World, XBin P .add 9 false false d53_1 d56_1 w82 fun v57 w84 =>
 v57 = d57_1 ∧ w84 = w82) ∧
 ∀ w85 : World, FE2 w29.drew w85 →
 ∃ (I1 : Value → Value → World → Prop) (m1 : Value → Value → World → Nat), I1 d57_1 (Value.int .i64 0) w85 ∧ ∀ (_jk1 : Env) (u3_s u4_i : Value) (w86 : World), I1 u3_s u4_i w86 →
 XFld P 31 v1 3 w86 fun v59 w87 =>
 XLoad P 24 v59 w87 fun v60 w88 =>
 XB P .len #[24] 3 #[v60] w88 fun v61 w89 =>
 XBin P .lss 3 false false u4_i v61 w89 fun v62 w90 =>
 XC v62 (
 XFld P 31 v1 3 w90 fun v65 w91 =>
 XLoad P 24 v65 w91 fun v66 w92 =>
 XIdx P 24 v66 u4_i w92 fun v68 w93 =>
 XLoad P 45 v68 w93 fun v69 w94 =>
 XAlloc P 45 w94 fun v5 w95 =>
 XStore P 45 v5 v69 w95 fun w96 =>
 ∃ E3 FE3 : World → World → Prop, Pre E3 FE3 ∧
 ∃ d71_1 : Value, (∀ w97 : World, XBin P .add 9 false true u3_s (Value.string ⟨#[32]⟩) w97 fun v71 w99 =>
 v71 = d71_1 ∧ w99 = w97) ∧
 ∃ d72_1 : Value, (∀ w100 : World, XFld P 45 v5 0 w100 fun v72 w102 =>
 v72 = d72_1 ∧ w102 = w100) ∧
 ∃ d73_1 : Value, (∀ w103 : World, E3 w96.drew w103 → XLoad P 9 d72_1 w103 fun v73 w105 =>
 v73 = d73_1 ∧ FE3 w103 w105) ∧
 ∃ d74_1 : Value, (∀ w106 : World, XBin P .add 9 false false d71_1 d73_1 w106 fun v74 w108 =>
 v74 = d74_1 ∧ w108 = w106) ∧
 ∃ d75_1 : Value, (∀ w109 : World, XBin P .add 9 false true d74_1 (Value.string ⟨#[62]⟩) w109 fun v75 w111 =>
 v75 = d75_1 ∧ w111 = w109) ∧
 ∃ d76_1 : Value, (∀ w112 : World, XFld P 45 v5 1 w112 fun v76 w114 =>
 v76 = d76_1 ∧ w114 = w112) ∧
 ∃ d77_1 : Value, (∀ w115 : World, E3 w96.drew w115 → XLoad P 9 d76_1 w115 fun v77 w117 =>
 v77 = d77_1 ∧ FE3 w115 w117) ∧
 ∃ d78_1 : Value, (∀ w118 : World, XBin P .add 9 false false d75_1 d77_1 w118 fun v78 w120 =>
 v78 = d78_1 ∧ w120 = w118) ∧
 ∃ d79_1 : Value, (∀ w121 : World, XBin P .add 9 false true d78_1 (Value.string ⟨#[58]⟩) w121 fun v79 w123 =>
 v79 = d79_1 ∧ w123 = w121) ∧
 ∃ d80_1 : Value, (∀ w124 : World, XFld P 45 v5 2 w124 fun v80 w126 =>
 v80 = d80_1 ∧ w126 = w124) ∧
 ∃ d81_1 : Value, (∀ w127 : World, E3 w96.drew w127 → XLoad P 26 d80_1 w127 fun v81 w129 =>
 v81 = d81_1 ∧ FE3 w127 w129) ∧
 ∃ d82_1 : Value, (∀ w130 : World, E3 w96.drew w130 → XCall P 71 #[d81_1] w130 fun v82 w132 =>
 v82 = d82_1 ∧ FE3 w130 w132) ∧
 ∃ d83_1 : Value, (∀ w133 : World, XBin P .add 9 false false d79_1 d82_1 w133 fun v83 w135 =>
 v83 = d83_1 ∧ w135 = w133) ∧
 ∃ d84_1 : Value, (∀ w136 : World, XFld P 45 v5 3 w136 fun v84 w138 =>
 v84 = d84_1 ∧ w138 = w136) ∧
 ∃ d85_1 : Value, (∀ w139 : World, E3 w96.drew w139 → XLoad P 4 d84_1 w139 fun v85 w141 =>
 v85 = d85_1 ∧ FE3 w139 w141) ∧
 ∃ d86_1 : Value, (∀ w142 : World, E3 w96.drew w142 → XCall P 72 #[d85_1] w142 fun v86 w144 =>
 v86 = d86_1 ∧ FE3 w142 w144) ∧
 ∃ d87_1 : Value, (∀ w145 : World, XBin P .add 9 false false d83_1 d86_1 w145 fun v87 w147 =>
 v87 = d87_1 ∧ w147 = w145) ∧
 ∀ w148 : World, FE3 w96.drew w148 →
 XBin P .add 3 false true u4_i (Value.int .i64 1) w148 fun v64 w149 =>
 I1 d87_1 v64 w149 ∧ m1 d87_1 v64 w149 < m1 u3_s u4_i w86) (
 R u3_s w90)))))))
noncomputable def C_joineryref4_Text : Code := (Tryz.f30.body).getD .skip
noncomputable def an_joineryref4_Text : An := (.seq none (.reg []) (.seq none (.seq none (.reg []) (.block none (.seq none (.reg []) (.cond (.seq none (.reg []) .leaf) (.seq none (.reg []) (.cond (.seq none (.reg []) .leaf) (.seq none (.reg []) (.cond (.seq none (.reg []) .leaf) (.seq none (.reg []) (.cond (.seq none (.reg []) .leaf) (.seq none (.reg []) (.cond (.seq none (.reg []) .leaf) (.seq none (.reg []) (.cond (.seq none (.draw [0, 1, 1, 0, 0, 0, 1, 1, 0, 2]) .leaf) .leaf)))))))))))))) (.seq none (.draw [0, 1, 1, 0, 0, 0, 1, 1, 0, 2]) (.seq none (.seq none (.reg []) (.block none (.loop [3, 4] (.seq none (.seq none (.reg []) (.cond .leaf .leaf)) (.seq none (.block none (.seq none (.reg []) (.draw [0, 0, 0, 1, 0, 0, 0, 1, 0, 0, 0, 1, 1, 0, 0, 1, 1, 0, 2]))) (.reg [])))))) (.seq none (.reg []) .leaf)))))
theorem S_joineryref4_Text_eq (P : Program) (p0 : Value) (w : World) (R : Value → World → Prop) : WPf P C_joineryref4_Text Tryz.f30.results.toList an_joineryref4_Text #[p0] w R = S_joineryref4_Text P p0 w R := by kernel_rfl
theorem ok_joineryref4_Text : okC Tryz.f30.ntmps C_joineryref4_Text an_joineryref4_Text = true := by kernel_rfl
theorem call_joineryref4_Text {p0 w R} (h : S_joineryref4_Text Tryz.prog p0 w R) : Ret Tryz.prog 30 #[p0] w R :=
  Ret_of_WPf mixed Tryz.func30 (by kernel_rfl) (Nat.le_of_ble_eq_true (by kernel_rfl)) ok_joineryref4_Text ((S_joineryref4_Text_eq ..).symm ▸ h)

/-- joinery/joineryref4.Words -/
def S_joineryref4_Words (P : Program) (p0 : Value) (w : World) (R : Value → World → Prop) : Prop :=
 ∃ (I1 : Value → Value → Value → World → Prop) (m1 : Value → Value → Value → World → Nat), I1 (Value.slice none 0 0) (Value.int .i64 0) (Value.int .i64 0) w ∧ ∀ (_jk1 : Env) (u3_out u4_at u5_i : Value) (w1 : World), I1 u3_out u4_at u5_i w1 →
 XB P .len #[9] 3 #[p0] w1 fun v8 w2 =>
 XBin P .leq 3 false false u5_i v8 w2 fun v9 w3 =>
 XC v9 (
 XB P .len #[9] 3 #[p0] w3 fun v14 w4 =>
 XBin P .eql 3 false false u5_i v14 w4 fun v15 w5 =>
 ∃ J1 : Value → World → Prop, (∀ (_jk2 : Env) (u20 : Value) (w6 : World), J1 u20 w6 →
 XPick v15 (Value.bool true) u20 fun q1 =>
 XC q1 (
 XBin P .eql 3 false false u5_i u4_at w6 fun v24 w7 =>
 XC v24 (
 R (Value.slice none 0 0) w7) (
 XSlice P 9 p0 (some u4_at) (some u5_i) none w7 fun v29 w8 =>
 XBuildS P 27 1 #[(0, v29)] w8 fun v30 w9 =>
 XB P .append #[27, 27] 27 #[u3_out, v30] w9 fun v31 w10 =>
 XBin P .add 3 false true u5_i (Value.int .i64 1) w10 fun v33 w11 =>
 XBin P .add 3 false true u5_i (Value.int .i64 1) w11 fun v11 w12 =>
 I1 v31 v33 v11 w12 ∧ m1 v31 v33 v11 w12 < m1 u3_out u4_at u5_i w1)) (
 XBin P .add 3 false true u5_i (Value.int .i64 1) w6 fun v11_2 w13 =>
 I1 u3_out u4_at v11_2 w13 ∧ m1 u3_out u4_at v11_2 w13 < m1 u3_out u4_at u5_i w1)) ∧
 XG v15 false (
 XIx P 9 p0 u5_i w5 fun v19 w14 =>
 XBin P .eql 5 false true v19 (Value.int .u8 32) w14 fun v20 w15 =>
 J1 v20 w15) (J1 undef w5)) (
 R u3_out w3)
noncomputable def C_joineryref4_Words : Code := (Tryz.f55.body).getD .skip
noncomputable def an_joineryref4_Words : An := (.seq none (.reg []) (.seq none (.reg []) (.seq none (.reg []) (.seq none (.seq none (.reg []) (.block none (.loop [3, 4, 5] (.seq none (.seq none (.reg []) (.cond .leaf .leaf)) (.seq none (.block none (.seq none (.reg [[20]]) (.cond (.seq none (.seq none (.reg []) (.cond (.seq none (.reg []) .leaf) .leaf)) (.seq none (.reg []) (.reg []))) .leaf))) (.reg [])))))) (.seq none (.reg []) .leaf)))))
theorem S_joineryref4_Words_eq (P : Program) (p0 : Value) (w : World) (R : Value → World → Prop) : WPf P C_joineryref4_Words Tryz.f55.results.toList an_joineryref4_Words #[p0] w R = S_joineryref4_Words P p0 w R := by kernel_rfl
theorem ok_joineryref4_Words : okC Tryz.f55.ntmps C_joineryref4_Words an_joineryref4_Words = true := by kernel_rfl
theorem call_joineryref4_Words {p0 w R} (h : S_joineryref4_Words Tryz.prog p0 w R) : Ret Tryz.prog 55 #[p0] w R :=
  Ret_of_WPf mixed Tryz.func55 (by kernel_rfl) (Nat.le_of_ble_eq_true (by kernel_rfl)) ok_joineryref4_Words ((S_joineryref4_Words_eq ..).symm ▸ h)

/-- (*joinery/joineryref4.Reader).sign -/
def S_joineryref4_Reader_sign (P : Program) (p0 p1 : Value) (w : World) (R : Value → World → Prop) : Prop :=
 ∃ E1 FE1 : World → World → Prop, Pre E1 FE1 ∧
 ∃ d6_1 : Value, (∀ w1 : World, XNil p0 fun q1 =>
 q1 = d6_1 ∧ w1 = w1) ∧
 ∃ d7_1 : Value, (∀ w3 : World, XFld P 166 d6_1 2 w3 fun v7 w5 =>
 v7 = d7_1 ∧ w5 = w3) ∧
 ∃ d8_1 : Value, (∀ w6 : World, E1 w.drew w6 → XLoad P 4 d7_1 w6 fun v8 w8 =>
 v8 = d8_1 ∧ FE1 w6 w8) ∧
 ∃ d10_1 : Value, (XG d8_1 false (∀ w9 : World, p0 = d10_1 ∧ w9 = w9) (d10_1 = undef)) ∧
 ∃ d11_1 : Value, (XG d8_1 false (∀ w11 : World, XNil d10_1 fun q2 =>
 q2 = d11_1 ∧ w11 = w11) (d11_1 = undef)) ∧
 ∃ d12_1 : Value, (XG d8_1 false (∀ w13 : World, XFld P 166 d11_1 1 w13 fun v12 w15 =>
 v12 = d12_1 ∧ w15 = w13) (d12_1 = undef)) ∧
 ∃ d13_1 : Value, (XG d8_1 false (∀ w16 : World, E1 w.drew w16 → XLoad P 3 d12_1 w16 fun v13 w18 =>
 v13 = d13_1 ∧ FE1 w16 w18) (d13_1 = undef)) ∧
 ∃ d14_1 : Value, (XG d8_1 false (∀ w19 : World, p0 = d14_1 ∧ w19 = w19) (d14_1 = undef)) ∧
 ∃ d15_1 : Value, (XG d8_1 false (∀ w21 : World, XNil d14_1 fun q3 =>
 q3 = d15_1 ∧ w21 = w21) (d15_1 = undef)) ∧
 ∃ d16_1 : Value, (XG d8_1 false (∀ w23 : World, XFld P 166 d15_1 0 w23 fun v16 w25 =>
 v16 = d16_1 ∧ w25 = w23) (d16_1 = undef)) ∧
 ∃ d17_1 : Value, (XG d8_1 false (∀ w26 : World, E1 w.drew w26 → XLoad P 9 d16_1 w26 fun v17 w28 =>
 v17 = d17_1 ∧ FE1 w26 w28) (d17_1 = undef)) ∧
 ∃ d18_1 : Value, (XG d8_1 false (∀ w29 : World, XB P .len #[9] 3 #[d17_1] w29 fun v18 w31 =>
 v18 = d18_1 ∧ w31 = w29) (d18_1 = undef)) ∧
 ∃ d19_1 : Value, (XG d8_1 false (∀ w32 : World, XBin P .geq 3 false false d13_1 d18_1 w32 fun v19 w34 =>
 v19 = d19_1 ∧ w34 = w32) (d19_1 = undef)) ∧
 ∃ d20_1 : Value, (∀ w35 : World, XPick d8_1 (Value.bool true) d19_1 fun q4 =>
 q4 = d20_1 ∧ w35 = w35) ∧
 ∃ d22_1 : Value, (XG d20_1 false (∀ w37 : World, p0 = d22_1 ∧ w37 = w37) (d22_1 = undef)) ∧
 ∃ d23_1 : Value, (XG d20_1 false (∀ w39 : World, XNil d22_1 fun q5 =>
 q5 = d23_1 ∧ w39 = w39) (d23_1 = undef)) ∧
 ∃ d24_1 : Value, (XG d20_1 false (∀ w41 : World, XFld P 166 d23_1 0 w41 fun v24 w43 =>
 v24 = d24_1 ∧ w43 = w41) (d24_1 = undef)) ∧
 ∃ d25_1 : Value, (XG d20_1 false (∀ w44 : World, E1 w.drew w44 → XLoad P 9 d24_1 w44 fun v25 w46 =>
 v25 = d25_1 ∧ FE1 w44 w46) (d25_1 = undef)) ∧
 ∃ d26_1 : Value, (XG d20_1 false (∀ w47 : World, p0 = d26_1 ∧ w47 = w47) (d26_1 = undef)) ∧
 ∃ d27_1 : Value, (XG d20_1 false (∀ w49 : World, XNil d26_1 fun q6 =>
 q6 = d27_1 ∧ w49 = w49) (d27_1 = undef)) ∧
 ∃ d28_1 : Value, (XG d20_1 false (∀ w51 : World, XFld P 166 d27_1 1 w51 fun v28 w53 =>
 v28 = d28_1 ∧ w53 = w51) (d28_1 = undef)) ∧
 ∃ d29_1 : Value, (XG d20_1 false (∀ w54 : World, E1 w.drew w54 → XLoad P 3 d28_1 w54 fun v29 w56 =>
 v29 = d29_1 ∧ FE1 w54 w56) (d29_1 = undef)) ∧
 ∃ d30_1 : Value, (XG d20_1 false (∀ w57 : World, XIx P 9 d25_1 d29_1 w57 fun v30 w59 =>
 v30 = d30_1 ∧ w59 = w57) (d30_1 = undef)) ∧
 ∃ d31_1 : Value, (XG d20_1 false (∀ w60 : World, p1 = d31_1 ∧ w60 = w60) (d31_1 = undef)) ∧
 ∃ d32_1 : Value, (XG d20_1 false (∀ w62 : World, XBin P .neq 5 false false d30_1 d31_1 w62 fun v32 w64 =>
 v32 = d32_1 ∧ w64 = w62) (d32_1 = undef)) ∧
 ∃ d33_1 : Value, (∀ w65 : World, XPick d20_1 (Value.bool true) d32_1 fun q7 =>
 q7 = d33_1 ∧ w65 = w65) ∧
 ∀ w67 : World, FE1 w.drew w67 →
 XC d33_1 (
 R (Value.bool false) w67) (
 XNil p0 fun q8 =>
 XFld P 166 q8 1 w67 fun v36 w68 =>
 XLoad P 3 v36 w68 fun v37 w69 =>
 XBin P .add 3 false true v37 (Value.int .i64 1) w69 fun v38 w70 =>
 XNil p0 fun q9 =>
 XFld P 166 q9 1 w70 fun v40 w71 =>
 XStore P 3 v40 v38 w71 fun w72 =>
 R (Value.bool true) w72)
noncomputable def C_joineryref4_Reader_sign : Code := (Tryz.f135.body).getD .skip
noncomputable def an_joineryref4_Reader_sign : An := (.seq none (.reg []) (.seq none (.seq none (.draw [0, 0, 0, 1, 0, 0, 0, 0, 1, 0, 0, 0, 1, 0, 0, 0, 0, 0, 0, 0, 1, 0, 0, 0, 1, 0, 0, 0, 0]) (.cond (.seq none (.reg []) .leaf) .leaf)) (.seq none (.reg []) (.seq none (.reg []) .leaf))))
theorem S_joineryref4_Reader_sign_eq (P : Program) (p0 p1 : Value) (w : World) (R : Value → World → Prop) : WPf P C_joineryref4_Reader_sign Tryz.f135.results.toList an_joineryref4_Reader_sign #[p0, p1] w R = S_joineryref4_Reader_sign P p0 p1 w R := by kernel_rfl
theorem ok_joineryref4_Reader_sign : okC Tryz.f135.ntmps C_joineryref4_Reader_sign an_joineryref4_Reader_sign = true := by kernel_rfl
theorem call_joineryref4_Reader_sign {p0 p1 w R} (h : S_joineryref4_Reader_sign Tryz.prog p0 p1 w R) : Ret Tryz.prog 135 #[p0, p1] w R :=
  Ret_of_WPf mixed Tryz.func135 (by kernel_rfl) (Nat.le_of_ble_eq_true (by kernel_rfl)) ok_joineryref4_Reader_sign ((S_joineryref4_Reader_sign_eq ..).symm ▸ h)

/-- (*joinery/joineryref4.Reader).Must -/
def S_joineryref4_Reader_Must (P : Program) (p0 p1 : Value) (w : World) (R : Value → World → Prop) : Prop :=
 XCall P 135 #[p0, p1] w fun v6 w1 =>
 XUn P .not v6 w1 fun v7 w2 =>
 XC v7 (
 XNil p0 fun q1 =>
 XFld P 166 q1 2 w2 fun v10 w3 =>
 XStore P 4 v10 (Value.bool true) w3 fun w4 =>
 R (.tuple #[]) w4) (
 R (.tuple #[]) w2)
noncomputable def C_joineryref4_Reader_Must : Code := (Tryz.f132.body).getD .skip
noncomputable def an_joineryref4_Reader_Must : An := (.seq none (.reg []) (.cond (.reg []) .leaf))
theorem S_joineryref4_Reader_Must_eq (P : Program) (p0 p1 : Value) (w : World) (R : Value → World → Prop) : WPf P C_joineryref4_Reader_Must Tryz.f132.results.toList an_joineryref4_Reader_Must #[p0, p1] w R = S_joineryref4_Reader_Must P p0 p1 w R := by kernel_rfl
theorem ok_joineryref4_Reader_Must : okC Tryz.f132.ntmps C_joineryref4_Reader_Must an_joineryref4_Reader_Must = true := by kernel_rfl
theorem call_joineryref4_Reader_Must {p0 p1 w R} (h : S_joineryref4_Reader_Must Tryz.prog p0 p1 w R) : Ret Tryz.prog 132 #[p0, p1] w R :=
  Ret_of_WPf mixed Tryz.func132 (by kernel_rfl) (Nat.le_of_ble_eq_true (by kernel_rfl)) ok_joineryref4_Reader_Must ((S_joineryref4_Reader_Must_eq ..).symm ▸ h)

/-- (*joinery/joineryref4.Reader).Number -/
def S_joineryref4_Reader_Number (P : Program) (p0 p1 : Value) (w : World) (R : Value → World → Prop) : Prop :=
 XNil p0 fun q1 =>
 XFld P 166 q1 1 w fun v9 w1 =>
 XLoad P 3 v9 w1 fun v10 w2 =>
 ∃ (I1 : Value → World → Prop) (m1 : Value → World → Nat), I1 (Value.int .i64 0) w2 ∧ ∀ (_jk1 : Env) (u6_n : Value) (w3 : World), I1 u6_n w3 →
 ∃ E1 FE1 : World → World → Prop, Pre E1 FE1 ∧
 ∃ d12_1 : Value, (∀ w4 : World, XNil p0 fun q2 =>
 q2 = d12_1 ∧ w4 = w4) ∧
 ∃ d13_1 : Value, (∀ w6 : World, XFld P 166 d12_1 2 w6 fun v13 w8 =>
 v13 = d13_1 ∧ w8 = w6) ∧
 ∃ d14_1 : Value, (∀ w9 : World, E1 w3.drew w9 → XLoad P 4 d13_1 w9 fun v14 w11 =>
 v14 = d14_1 ∧ FE1 w9 w11) ∧
 ∃ d15_1 : Value, (∀ w12 : World, XUn P .not d14_1 w12 fun v15 w14 =>
 v15 = d15_1 ∧ w14 = w12) ∧
 ∃ d17_1 : Value, (XG d15_1 true (∀ w15 : World, p0 = d17_1 ∧ w15 = w15) (d17_1 = undef)) ∧
 ∃ d18_1 : Value, (XG d15_1 true (∀ w17 : World, XNil d17_1 fun q3 =>
 q3 = d18_1 ∧ w17 = w17) (d18_1 = undef)) ∧
 ∃ d19_1 : Value, (XG d15_1 true (∀ w19 : World, XFld P 166 d18_1 1 w19 fun v19 w21 =>
 v19 = d19_1 ∧ w21 = w19) (d19_1 = undef)) ∧
 ∃ d20_1 : Value, (XG d15_1 true (∀ w22 : World, E1 w3.drew w22 → XLoad P 3 d19_1 w22 fun v20 w24 =>
 v20 = d20_1 ∧ FE1 w22 w24) (d20_1 = undef)) ∧
 ∃ d21_1 : Value, (XG d15_1 true (∀ w25 : World, p0 = d21_1 ∧ w25 = w25) (d21_1 = undef)) ∧
 ∃ d22_1 : Value, (XG d15_1 true (∀ w27 : World, XNil d21_1 fun q4 =>
 q4 = d22_1 ∧ w27 = w27) (d22_1 = undef)) ∧
 ∃ d23_1 : Value, (XG d15_1 true (∀ w29 : World, XFld P 166 d22_1 0 w29 fun v23 w31 =>
 v23 = d23_1 ∧ w31 = w29) (d23_1 = undef)) ∧
 ∃ d24_1 : Value, (XG d15_1 true (∀ w32 : World, E1 w3.drew w32 → XLoad P 9 d23_1 w32 fun v24 w34 =>
 v24 = d24_1 ∧ FE1 w32 w34) (d24_1 = undef)) ∧
 ∃ d25_1 : Value, (XG d15_1 true (∀ w35 : World, XB P .len #[9] 3 #[d24_1] w35 fun v25 w37 =>
 v25 = d25_1 ∧ w37 = w35) (d25_1 = undef)) ∧
 ∃ d26_1 : Value, (XG d15_1 true (∀ w38 : World, XBin P .lss 3 false false d20_1 d25_1 w38 fun v26 w40 =>
 v26 = d26_1 ∧ w40 = w38) (d26_1 = undef)) ∧
 ∃ d27_1 : Value, (∀ w41 : World, XPick d15_1 d26_1 (Value.bool false) fun q5 =>
 q5 = d27_1 ∧ w41 = w41) ∧
 ∃ d29_1 : Value, (XG d27_1 true (∀ w43 : World, p0 = d29_1 ∧ w43 = w43) (d29_1 = undef)) ∧
 ∃ d30_1 : Value, (XG d27_1 true (∀ w45 : World, XNil d29_1 fun q6 =>
 q6 = d30_1 ∧ w45 = w45) (d30_1 = undef)) ∧
 ∃ d31_1 : Value, (XG d27_1 true (∀ w47 : World, XFld P 166 d30_1 0 w47 fun v31 w49 =>
 v31 = d31_1 ∧ w49 = w47) (d31_1 = undef)) ∧
 ∃ d32_1 : Value, (XG d27_1 true (∀ w50 : World, E1 w3.drew w50 → XLoad P 9 d31_1 w50 fun v32 w52 =>
 v32 = d32_1 ∧ FE1 w50 w52) (d32_1 = undef)) ∧
 ∃ d33_1 : Value, (XG d27_1 true (∀ w53 : World, p0 = d33_1 ∧ w53 = w53) (d33_1 = undef)) ∧
 ∃ d34_1 : Value, (XG d27_1 true (∀ w55 : World, XNil d33_1 fun q7 =>
 q7 = d34_1 ∧ w55 = w55) (d34_1 = undef)) ∧
 ∃ d35_1 : Value, (XG d27_1 true (∀ w57 : World, XFld P 166 d34_1 1 w57 fun v35 w59 =>
 v35 = d35_1 ∧ w59 = w57) (d35_1 = undef)) ∧
 ∃ d36_1 : Value, (XG d27_1 true (∀ w60 : World, E1 w3.drew w60 → XLoad P 3 d35_1 w60 fun v36 w62 =>
 v36 = d36_1 ∧ FE1 w60 w62) (d36_1 = undef)) ∧
 ∃ d37_1 : Value, (XG d27_1 true (∀ w63 : World, XIx P 9 d32_1 d36_1 w63 fun v37 w65 =>
 v37 = d37_1 ∧ w65 = w63) (d37_1 = undef)) ∧
 ∃ d38_1 : Value, (XG d27_1 true (∀ w66 : World, XBin P .geq 5 false true d37_1 (Value.int .u8 48) w66 fun v38 w68 =>
 v38 = d38_1 ∧ w68 = w66) (d38_1 = undef)) ∧
 ∃ d39_1 : Value, (∀ w69 : World, XPick d27_1 d38_1 (Value.bool false) fun q8 =>
 q8 = d39_1 ∧ w69 = w69) ∧
 ∃ d41_1 : Value, (XG d39_1 true (∀ w71 : World, p0 = d41_1 ∧ w71 = w71) (d41_1 = undef)) ∧
 ∃ d42_1 : Value, (XG d39_1 true (∀ w73 : World, XNil d41_1 fun q9 =>
 q9 = d42_1 ∧ w73 = w73) (d42_1 = undef)) ∧
 ∃ d43_1 : Value, (XG d39_1 true (∀ w75 : World, XFld P 166 d42_1 0 w75 fun v43 w77 =>
 v43 = d43_1 ∧ w77 = w75) (d43_1 = undef)) ∧
 ∃ d44_1 : Value, (XG d39_1 true (∀ w78 : World, E1 w3.drew w78 → XLoad P 9 d43_1 w78 fun v44 w80 =>
 v44 = d44_1 ∧ FE1 w78 w80) (d44_1 = undef)) ∧
 ∃ d45_1 : Value, (XG d39_1 true (∀ w81 : World, p0 = d45_1 ∧ w81 = w81) (d45_1 = undef)) ∧
 ∃ d46_1 : Value, (XG d39_1 true (∀ w83 : World, XNil d45_1 fun q10 =>
 q10 = d46_1 ∧ w83 = w83) (d46_1 = undef)) ∧
 ∃ d47_1 : Value, (XG d39_1 true (∀ w85 : World, XFld P 166 d46_1 1 w85 fun v47 w87 =>
 v47 = d47_1 ∧ w87 = w85) (d47_1 = undef)) ∧
 ∃ d48_1 : Value, (XG d39_1 true (∀ w88 : World, E1 w3.drew w88 → XLoad P 3 d47_1 w88 fun v48 w90 =>
 v48 = d48_1 ∧ FE1 w88 w90) (d48_1 = undef)) ∧
 ∃ d49_1 : Value, (XG d39_1 true (∀ w91 : World, XIx P 9 d44_1 d48_1 w91 fun v49 w93 =>
 v49 = d49_1 ∧ w93 = w91) (d49_1 = undef)) ∧
 ∃ d50_1 : Value, (XG d39_1 true (∀ w94 : World, XBin P .leq 5 false true d49_1 (Value.int .u8 57) w94 fun v50 w96 =>
 v50 = d50_1 ∧ w96 = w94) (d50_1 = undef)) ∧
 ∃ d51_1 : Value, (∀ w97 : World, XPick d39_1 d50_1 (Value.bool false) fun q11 =>
 q11 = d51_1 ∧ w97 = w97) ∧
 ∀ w99 : World, FE1 w3.drew w99 →
 XC d51_1 (
 ∃ E2 FE2 : World → World → Prop, Pre E2 FE2 ∧
 ∃ d53_1 : Value, (∀ w100 : World, XBin P .mul 3 true false (Value.int .i64 10) u6_n w100 fun v53 w102 =>
 v53 = d53_1 ∧ w102 = w100) ∧
 ∃ d55_1 : Value, (∀ w103 : World, XNil p0 fun q12 =>
 q12 = d55_1 ∧ w103 = w103) ∧
 ∃ d56_1 : Value, (∀ w105 : World, XFld P 166 d55_1 0 w105 fun v56 w107 =>
 v56 = d56_1 ∧ w107 = w105) ∧
 ∃ d57_1 : Value, (∀ w108 : World, E2 w99.drew w108 → XLoad P 9 d56_1 w108 fun v57 w110 =>
 v57 = d57_1 ∧ FE2 w108 w110) ∧
 ∃ d59_1 : Value, (∀ w111 : World, XNil p0 fun q13 =>
 q13 = d59_1 ∧ w111 = w111) ∧
 ∃ d60_1 : Value, (∀ w113 : World, XFld P 166 d59_1 1 w113 fun v60 w115 =>
 v60 = d60_1 ∧ w115 = w113) ∧
 ∃ d61_1 : Value, (∀ w116 : World, E2 w99.drew w116 → XLoad P 3 d60_1 w116 fun v61 w118 =>
 v61 = d61_1 ∧ FE2 w116 w118) ∧
 ∃ d62_1 : Value, (∀ w119 : World, XIx P 9 d57_1 d61_1 w119 fun v62 w121 =>
 v62 = d62_1 ∧ w121 = w119) ∧
 ∃ d63_1 : Value, (∀ w122 : World, XBin P .sub 5 false true d62_1 (Value.int .u8 48) w122 fun v63 w124 =>
 v63 = d63_1 ∧ w124 = w122) ∧
 ∃ d64_1 : Value, (∀ w125 : World, XConv P 5 3 d63_1 w125 fun v64 w127 =>
 v64 = d64_1 ∧ w127 = w125) ∧
 ∃ d65_1 : Value, (∀ w128 : World, XBin P .add 3 false false d53_1 d64_1 w128 fun v65 w130 =>
 v65 = d65_1 ∧ w130 = w128) ∧
 ∀ w131 : World, FE2 w99.drew w131 →
 XNil p0 fun q14 =>
 XFld P 166 q14 1 w131 fun v68 w132 =>
 XLoad P 3 v68 w132 fun v69 w133 =>
 XBin P .add 3 false true v69 (Value.int .i64 1) w133 fun v70 w134 =>
 XNil p0 fun q15 =>
 XFld P 166 q15 1 w134 fun v72 w135 =>
 XStore P 3 v72 v70 w135 fun w136 =>
 XBin P .gtr 3 false false d65_1 p1 w136 fun v75 w137 =>
 XC v75 (
 XNil p0 fun q16 =>
 XFld P 166 q16 2 w137 fun v78 w138 =>
 XStore P 4 v78 (Value.bool true) w138 fun w139 =>
 I1 d65_1 w139 ∧ m1 d65_1 w139 < m1 u6_n w3) (
 I1 d65_1 w137 ∧ m1 d65_1 w137 < m1 u6_n w3)) (
 XNil p0 fun q17 =>
 XFld P 166 q17 1 w99 fun v81 w140 =>
 XLoad P 3 v81 w140 fun v82 w141 =>
 XBin P .eql 3 false false v82 v10 w141 fun v84 w142 =>
 ∃ J1 : Value → World → Prop, (∀ (_jk2 : Env) (u93 : Value) (w143 : World), J1 u93 w143 →
 ∃ J2 : Value → World → Prop, (∀ (_jk3 : Env) (u100 : Value) (w144 : World), J2 u100 w144 →
 ∃ J3 : Value → World → Prop, (∀ (_jk4 : Env) (u101 : Value) (w145 : World), J3 u101 w145 →
 XPick v84 (Value.bool true) u101 fun q18 =>
 XC q18 (
 XNil p0 fun q19 =>
 XFld P 166 q19 2 w145 fun v105 w146 =>
 XStore P 4 v105 (Value.bool true) w146 fun w147 =>
 R (Value.int .i64 0) w147) (
 R u6_n w145)) ∧
 XG v84 false (
 XPick u93 u100 (Value.bool false) fun q20 =>
 J3 q20 w144) (J3 undef w144)) ∧
 XG u93 true (
 XNil p0 fun q21 =>
 XFld P 166 q21 1 w143 fun v96 w148 =>
 XLoad P 3 v96 w148 fun v97 w149 =>
 XBin P .add 3 false true v10 (Value.int .i64 1) w149 fun v99 w150 =>
 XBin P .gtr 3 false false v97 v99 w150 fun v100 w151 =>
 J2 v100 w151) (J2 undef w143)) ∧
 XG v84 false (
 XNil p0 fun q22 =>
 XFld P 166 q22 0 w142 fun v88 w152 =>
 XLoad P 9 v88 w152 fun v89 w153 =>
 XIx P 9 v89 v10 w153 fun v91 w154 =>
 XBin P .eql 5 false true v91 (Value.int .u8 48) w154 fun v92 w155 =>
 J1 v92 w155) (J1 undef w142))
noncomputable def C_joineryref4_Reader_Number : Code := (Tryz.f136.body).getD .skip
noncomputable def an_joineryref4_Reader_Number : An := (.seq none (.reg []) (.seq none (.reg []) (.seq none (.block none (.loop [6] (.seq none (.seq none (.draw [0, 0, 0, 1, 0, 0, 0, 0, 0, 1, 0, 0, 0, 1, 0, 0, 0, 0, 0, 0, 0, 1, 0, 0, 0, 1, 0, 0, 0, 0, 0, 0, 0, 1, 0, 0, 0, 1, 0, 0, 0]) (.cond .leaf .leaf)) (.block none (.seq none (.draw [0, 0, 0, 0, 0, 1, 0, 0, 0, 1, 0, 0, 0, 0, 2]) (.seq none (.reg []) (.seq none (.reg []) (.cond (.reg []) .leaf)))))))) (.seq none (.seq none (.reg [[93], [100], [101]]) (.cond (.seq none (.reg []) (.seq none (.reg []) .leaf)) .leaf)) (.seq none (.reg []) .leaf)))))
theorem S_joineryref4_Reader_Number_eq (P : Program) (p0 p1 : Value) (w : World) (R : Value → World → Prop) : WPf P C_joineryref4_Reader_Number Tryz.f136.results.toList an_joineryref4_Reader_Number #[p0, p1] w R = S_joineryref4_Reader_Number P p0 p1 w R := by kernel_rfl
theorem ok_joineryref4_Reader_Number : okC Tryz.f136.ntmps C_joineryref4_Reader_Number an_joineryref4_Reader_Number = true := by kernel_rfl
theorem call_joineryref4_Reader_Number {p0 p1 w R} (h : S_joineryref4_Reader_Number Tryz.prog p0 p1 w R) : Ret Tryz.prog 136 #[p0, p1] w R :=
  Ret_of_WPf mixed Tryz.func136 (by kernel_rfl) (Nat.le_of_ble_eq_true (by kernel_rfl)) ok_joineryref4_Reader_Number ((S_joineryref4_Reader_Number_eq ..).symm ▸ h)

/-- joinery/joineryref4.parting -/
def S_joineryref4_parting (P : Program) (p0 : Value) (w : World) (R : Value → World → Prop) : Prop :=
 ∃ (I1 : Value → World → Prop) (m1 : Value → World → Nat), I1 (Value.int .i64 0) w ∧ ∀ (_jk1 : Env) (u3_i : Value) (w1 : World), I1 u3_i w1 →
 XBin P .lss 3 false true u3_i (Value.int .i64 8) w1 fun v5 w2 =>
 XC v5 (
 XIx P 9 (Value.string ⟨#[32, 58, 44, 43, 126, 33, 62, 64]⟩) u3_i w2 fun v9 w3 =>
 XBin P .eql 5 false false v9 p0 w3 fun v11 w4 =>
 XC v11 (
 R (Value.bool true) w4) (
 XBin P .add 3 false true u3_i (Value.int .i64 1) w4 fun v7 w5 =>
 I1 v7 w5 ∧ m1 v7 w5 < m1 u3_i w1)) (
 R (Value.bool false) w2)
noncomputable def C_joineryref4_parting : Code := (Tryz.f155.body).getD .skip
noncomputable def an_joineryref4_parting : An := (.seq none (.reg []) (.seq none (.seq none (.reg []) (.block none (.loop [3] (.seq none (.seq none (.reg []) (.cond .leaf .leaf)) (.seq none (.block none (.seq none (.reg []) (.cond (.seq none (.reg []) .leaf) .leaf))) (.reg [])))))) (.seq none (.reg []) .leaf)))
theorem S_joineryref4_parting_eq (P : Program) (p0 : Value) (w : World) (R : Value → World → Prop) : WPf P C_joineryref4_parting Tryz.f155.results.toList an_joineryref4_parting #[p0] w R = S_joineryref4_parting P p0 w R := by kernel_rfl
theorem ok_joineryref4_parting : okC Tryz.f155.ntmps C_joineryref4_parting an_joineryref4_parting = true := by kernel_rfl
theorem call_joineryref4_parting {p0 w R} (h : S_joineryref4_parting Tryz.prog p0 w R) : Ret Tryz.prog 155 #[p0] w R :=
  Ret_of_WPf mixed Tryz.func155 (by kernel_rfl) (Nat.le_of_ble_eq_true (by kernel_rfl)) ok_joineryref4_parting ((S_joineryref4_parting_eq ..).symm ▸ h)

/-- (*joinery/joineryref4.Reader).Name -/
def S_joineryref4_Reader_Name (P : Program) (p0 : Value) (w : World) (R : Value → World → Prop) : Prop :=
 XNil p0 fun q1 =>
 XFld P 166 q1 1 w fun v6 w1 =>
 XLoad P 3 v6 w1 fun v7 w2 =>
 ∃ (I1 : World → Prop) (m1 : World → Nat), I1 w2 ∧ ∀ (_jk1 : Env) (w3 : World), I1 w3 →
 ∃ E1 FE1 : World → World → Prop, Pre E1 FE1 ∧
 ∃ d9_1 : Value, (∀ w4 : World, XNil p0 fun q2 =>
 q2 = d9_1 ∧ w4 = w4) ∧
 ∃ d10_1 : Value, (∀ w6 : World, XFld P 166 d9_1 1 w6 fun v10 w8 =>
 v10 = d10_1 ∧ w8 = w6) ∧
 ∃ d11_1 : Value, (∀ w9 : World, E1 w3.drew w9 → XLoad P 3 d10_1 w9 fun v11 w11 =>
 v11 = d11_1 ∧ FE1 w9 w11) ∧
 ∃ d13_1 : Value, (∀ w12 : World, XNil p0 fun q3 =>
 q3 = d13_1 ∧ w12 = w12) ∧
 ∃ d14_1 : Value, (∀ w14 : World, XFld P 166 d13_1 0 w14 fun v14 w16 =>
 v14 = d14_1 ∧ w16 = w14) ∧
 ∃ d15_1 : Value, (∀ w17 : World, E1 w3.drew w17 → XLoad P 9 d14_1 w17 fun v15 w19 =>
 v15 = d15_1 ∧ FE1 w17 w19) ∧
 ∃ d16_1 : Value, (∀ w20 : World, XB P .len #[9] 3 #[d15_1] w20 fun v16 w22 =>
 v16 = d16_1 ∧ w22 = w20) ∧
 ∃ d17_1 : Value, (∀ w23 : World, XBin P .lss 3 false false d11_1 d16_1 w23 fun v17 w25 =>
 v17 = d17_1 ∧ w25 = w23) ∧
 ∃ d19_1 : Value, (XG d17_1 true (∀ w26 : World, p0 = d19_1 ∧ w26 = w26) (d19_1 = undef)) ∧
 ∃ d20_1 : Value, (XG d17_1 true (∀ w28 : World, XNil d19_1 fun q4 =>
 q4 = d20_1 ∧ w28 = w28) (d20_1 = undef)) ∧
 ∃ d21_1 : Value, (XG d17_1 true (∀ w30 : World, XFld P 166 d20_1 0 w30 fun v21 w32 =>
 v21 = d21_1 ∧ w32 = w30) (d21_1 = undef)) ∧
 ∃ d22_1 : Value, (XG d17_1 true (∀ w33 : World, E1 w3.drew w33 → XLoad P 9 d21_1 w33 fun v22 w35 =>
 v22 = d22_1 ∧ FE1 w33 w35) (d22_1 = undef)) ∧
 ∃ d23_1 : Value, (XG d17_1 true (∀ w36 : World, p0 = d23_1 ∧ w36 = w36) (d23_1 = undef)) ∧
 ∃ d24_1 : Value, (XG d17_1 true (∀ w38 : World, XNil d23_1 fun q5 =>
 q5 = d24_1 ∧ w38 = w38) (d24_1 = undef)) ∧
 ∃ d25_1 : Value, (XG d17_1 true (∀ w40 : World, XFld P 166 d24_1 1 w40 fun v25 w42 =>
 v25 = d25_1 ∧ w42 = w40) (d25_1 = undef)) ∧
 ∃ d26_1 : Value, (XG d17_1 true (∀ w43 : World, E1 w3.drew w43 → XLoad P 3 d25_1 w43 fun v26 w45 =>
 v26 = d26_1 ∧ FE1 w43 w45) (d26_1 = undef)) ∧
 ∃ d27_1 : Value, (XG d17_1 true (∀ w46 : World, XIx P 9 d22_1 d26_1 w46 fun v27 w48 =>
 v27 = d27_1 ∧ w48 = w46) (d27_1 = undef)) ∧
 ∃ d28_1 : Value, (XG d17_1 true (∀ w49 : World, E1 w3.drew w49 → XCall P 155 #[d27_1] w49 fun v28 w51 =>
 v28 = d28_1 ∧ FE1 w49 w51) (d28_1 = undef)) ∧
 ∃ d29_1 : Value, (XG d17_1 true (∀ w52 : World, XUn P .not d28_1 w52 fun v29 w54 =>
 v29 = d29_1 ∧ w54 = w52) (d29_1 = undef)) ∧
 ∃ d30_1 : Value, (∀ w55 : World, XPick d17_1 d29_1 (Value.bool false) fun q6 =>
 q6 = d30_1 ∧ w55 = w55) ∧
 ∀ w57 : World, FE1 w3.drew w57 →
 XC d30_1 (
 XNil p0 fun q7 =>
 XFld P 166 q7 1 w57 fun v33 w58 =>
 XLoad P 3 v33 w58 fun v34 w59 =>
 XBin P .add 3 false true v34 (Value.int .i64 1) w59 fun v35 w60 =>
 XNil p0 fun q8 =>
 XFld P 166 q8 1 w60 fun v37 w61 =>
 XStore P 3 v37 v35 w61 fun w62 =>
 I1 w62 ∧ m1 w62 < m1 w3) (
 ∃ J1 : World → Prop, (∀ (_jk2 : Env) (w63 : World), J1 w63 →
 ∃ E2 FE2 : World → World → Prop, Pre E2 FE2 ∧
 ∃ d48_1 : Value, (∀ w64 : World, XNil p0 fun q9 =>
 q9 = d48_1 ∧ w64 = w64) ∧
 ∃ d49_1 : Value, (∀ w66 : World, XFld P 166 d48_1 0 w66 fun v49 w68 =>
 v49 = d49_1 ∧ w68 = w66) ∧
 ∃ d50_1 : Value, (∀ w69 : World, E2 w63.drew w69 → XLoad P 9 d49_1 w69 fun v50 w71 =>
 v50 = d50_1 ∧ FE2 w69 w71) ∧
 ∃ d53_1 : Value, (∀ w72 : World, XNil p0 fun q10 =>
 q10 = d53_1 ∧ w72 = w72) ∧
 ∃ d54_1 : Value, (∀ w74 : World, XFld P 166 d53_1 1 w74 fun v54 w76 =>
 v54 = d54_1 ∧ w76 = w74) ∧
 ∃ d55_1 : Value, (∀ w77 : World, E2 w63.drew w77 → XLoad P 3 d54_1 w77 fun v55 w79 =>
 v55 = d55_1 ∧ FE2 w77 w79) ∧
 ∃ d56_1 : Value, (∀ w80 : World, XSlice P 9 d50_1 (some v7) (some d55_1) none w80 fun v56 w82 =>
 v56 = d56_1 ∧ w82 = w80) ∧
 ∀ w83 : World, FE2 w63.drew w83 →
 R d56_1 w83) ∧
 XNil p0 fun q11 =>
 XFld P 166 q11 1 w57 fun v40 w84 =>
 XLoad P 3 v40 w84 fun v41 w85 =>
 XBin P .eql 3 false false v41 v7 w85 fun v43 w86 =>
 XC v43 (
 XNil p0 fun q12 =>
 XFld P 166 q12 2 w86 fun v46 w87 =>
 XStore P 4 v46 (Value.bool true) w87 fun w88 =>
 J1 w88) (
 J1 w86))
noncomputable def C_joineryref4_Reader_Name : Code := (Tryz.f131.body).getD .skip
noncomputable def an_joineryref4_Reader_Name : An := (.seq none (.reg []) (.seq none (.reg []) (.seq none (.block none (.loop [] (.seq none (.seq none (.draw [0, 0, 0, 1, 0, 0, 0, 1, 0, 0, 0, 0, 0, 0, 1, 0, 0, 0, 1, 0, 1, 0, 0]) (.cond .leaf .leaf)) (.block none (.reg []))))) (.seq (some []) (.seq none (.reg []) (.cond (.reg []) .leaf)) (.seq none (.draw [0, 0, 0, 1, 0, 0, 0, 0, 1, 0, 2]) .leaf)))))
theorem S_joineryref4_Reader_Name_eq (P : Program) (p0 : Value) (w : World) (R : Value → World → Prop) : WPf P C_joineryref4_Reader_Name Tryz.f131.results.toList an_joineryref4_Reader_Name #[p0] w R = S_joineryref4_Reader_Name P p0 w R := by kernel_rfl
theorem ok_joineryref4_Reader_Name : okC Tryz.f131.ntmps C_joineryref4_Reader_Name an_joineryref4_Reader_Name = true := by kernel_rfl
theorem call_joineryref4_Reader_Name {p0 w R} (h : S_joineryref4_Reader_Name Tryz.prog p0 w R) : Ret Tryz.prog 131 #[p0] w R :=
  Ret_of_WPf mixed Tryz.func131 (by kernel_rfl) (Nat.le_of_ble_eq_true (by kernel_rfl)) ok_joineryref4_Reader_Name ((S_joineryref4_Reader_Name_eq ..).symm ▸ h)

/-- (*joinery/joineryref4.Reader).row -/
def S_joineryref4_Reader_row (P : Program) (p0 p1 : Value) (w : World) (R : Value → World → Prop) : Prop :=
 ∃ (I1 : Value → World → Prop) (m1 : Value → World → Nat), I1 (Value.slice none 0 0) w ∧ ∀ (_jk1 : Env) (u5_l : Value) (w1 : World), I1 u5_l w1 →
 XCall P 135 #[p0, p1] w1 fun v8 w2 =>
 XC v8 (
 XCall P 131 #[p0] w2 fun v11 w3 =>
 XBuildS P 27 1 #[(0, v11)] w3 fun v12 w4 =>
 XB P .append #[27, 27] 27 #[u5_l, v12] w4 fun v13 w5 =>
 I1 v13 w5 ∧ m1 v13 w5 < m1 u5_l w1) (
 R u5_l w2)
noncomputable def C_joineryref4_Reader_row : Code := (Tryz.f134.body).getD .skip
noncomputable def an_joineryref4_Reader_row : An := (.seq none (.reg []) (.seq none (.reg []) (.seq none (.block none (.loop [5] (.seq none (.seq none (.reg []) (.cond .leaf .leaf)) (.block none (.reg []))))) (.seq none (.reg []) .leaf))))
theorem S_joineryref4_Reader_row_eq (P : Program) (p0 p1 : Value) (w : World) (R : Value → World → Prop) : WPf P C_joineryref4_Reader_row Tryz.f134.results.toList an_joineryref4_Reader_row #[p0, p1] w R = S_joineryref4_Reader_row P p0 p1 w R := by kernel_rfl
theorem ok_joineryref4_Reader_row : okC Tryz.f134.ntmps C_joineryref4_Reader_row an_joineryref4_Reader_row = true := by kernel_rfl
theorem call_joineryref4_Reader_row {p0 p1 w R} (h : S_joineryref4_Reader_row Tryz.prog p0 p1 w R) : Ret Tryz.prog 134 #[p0, p1] w R :=
  Ret_of_WPf mixed Tryz.func134 (by kernel_rfl) (Nat.le_of_ble_eq_true (by kernel_rfl)) ok_joineryref4_Reader_row ((S_joineryref4_Reader_row_eq ..).symm ▸ h)

/-- (*joinery/joineryref4.Reader).Vec -/
def S_joineryref4_Reader_Vec (P : Program) (p0 p1 : Value) (w : World) (R : Value → World → Prop) : Prop :=
 XAlloc P 26 w fun v4 w1 =>
 XCall P 136 #[p0, p1] w1 fun v8 w2 =>
 XBuild P 26 #[(0, v8)] w2 fun v9 w3 =>
 XAlloc P 26 w3 fun v5 w4 =>
 XStore P 26 v5 v9 w4 fun w5 =>
 XCall P 132 #[p0, (Value.int .u8 44)] w5 fun v11 w6 =>
 XCall P 136 #[p0, p1] w6 fun v14 w7 =>
 XFld P 26 v5 1 w7 fun v15 w8 =>
 XStore P 3 v15 v14 w8 fun w9 =>
 XLoad P 26 v5 w9 fun v16 w10 =>
 XStore P 26 v4 v16 w10 fun w11 =>
 XLoad P 26 v4 w11 fun r1 w12 => w12 = w11 ∧ R r1 w11
noncomputable def C_joineryref4_Reader_Vec : Code := (Tryz.f133.body).getD .skip
noncomputable def an_joineryref4_Reader_Vec : An := (.seq none (.reg []) (.seq none (.reg []) (.seq none (.reg []) (.seq none (.reg []) (.seq none (.reg []) .leaf)))))
theorem S_joineryref4_Reader_Vec_eq (P : Program) (p0 p1 : Value) (w : World) (R : Value → World → Prop) : WPf P C_joineryref4_Reader_Vec Tryz.f133.results.toList an_joineryref4_Reader_Vec #[p0, p1] w R = S_joineryref4_Reader_Vec P p0 p1 w R := by kernel_rfl
theorem ok_joineryref4_Reader_Vec : okC Tryz.f133.ntmps C_joineryref4_Reader_Vec an_joineryref4_Reader_Vec = true := by kernel_rfl
theorem call_joineryref4_Reader_Vec {p0 p1 w R} (h : S_joineryref4_Reader_Vec Tryz.prog p0 p1 w R) : Ret Tryz.prog 133 #[p0, p1] w R :=
  Ret_of_WPf mixed Tryz.func133 (by kernel_rfl) (Nat.le_of_ble_eq_true (by kernel_rfl)) ok_joineryref4_Reader_Vec ((S_joineryref4_Reader_Vec_eq ..).symm ▸ h)

/-- joinery/joineryref4.ReadNode -/
def S_joineryref4_ReadNode (P : Program) (p0 : Value) (w : World) (R : Value → World → Prop) : Prop :=
 XAlloc P 29 w fun v2 w1 =>
 XBuild P 166 #[(0, p0)] w1 fun v7 w2 =>
 XBox P 166 v7 w2 fun v8 w3 =>
 XCall P 131 #[v8] w3 fun v10 w4 =>
 XBuild P 29 #[(0, v10)] w4 fun v11 w5 =>
 XAlloc P 29 w5 fun v5 w6 =>
 XStore P 29 v5 v11 w6 fun w7 =>
 XCall P 132 #[v8, (Value.int .u8 58)] w7 fun v13 w8 =>
 XCall P 133 #[v8, (Value.int .i64 999999999999999)] w8 fun v15 w9 =>
 XFld P 29 v5 1 w9 fun v16 w10 =>
 XStore P 26 v16 v15 w10 fun w11 =>
 XCall P 134 #[v8, (Value.int .u8 43)] w11 fun v18 w12 =>
 XFld P 29 v5 2 w12 fun v19 w13 =>
 XStore P 27 v19 v18 w13 fun w14 =>
 XCall P 134 #[v8, (Value.int .u8 126)] w14 fun v21 w15 =>
 XFld P 29 v5 3 w15 fun v22 w16 =>
 XStore P 27 v22 v21 w16 fun w17 =>
 XCall P 135 #[v8, (Value.int .u8 33)] w17 fun v24 w18 =>
 XFld P 29 v5 4 w18 fun v25 w19 =>
 XStore P 4 v25 v24 w19 fun w20 =>
 ∃ E1 FE1 : World → World → Prop, Pre E1 FE1 ∧
 ∃ d26_1 : Value, (∀ w21 : World, E1 w20.drew w21 → XLoad P 29 v5 w21 fun v26 w23 =>
 v26 = d26_1 ∧ FE1 w21 w23) ∧
 ∃ d28_1 : Value, (∀ w24 : World, XNil v8 fun q1 =>
 q1 = d28_1 ∧ w24 = w24) ∧
 ∃ d29_1 : Value, (∀ w26 : World, XFld P 166 d28_1 2 w26 fun v29 w28 =>
 v29 = d29_1 ∧ w28 = w26) ∧
 ∃ d30_1 : Value, (∀ w29 : World, E1 w20.drew w29 → XLoad P 4 d29_1 w29 fun v30 w31 =>
 v30 = d30_1 ∧ FE1 w29 w31) ∧
 ∃ d31_1 : Value, (∀ w32 : World, XUn P .not d30_1 w32 fun v31 w34 =>
 v31 = d31_1 ∧ w34 = w32) ∧
 ∃ d33_1 : Value, (XG d31_1 true (∀ w35 : World, v8 = d33_1 ∧ w35 = w35) (d33_1 = undef)) ∧
 ∃ d34_1 : Value, (XG d31_1 true (∀ w37 : World, XNil d33_1 fun q2 =>
 q2 = d34_1 ∧ w37 = w37) (d34_1 = undef)) ∧
 ∃ d35_1 : Value, (XG d31_1 true (∀ w39 : World, XFld P 166 d34_1 1 w39 fun v35 w41 =>
 v35 = d35_1 ∧ w41 = w39) (d35_1 = undef)) ∧
 ∃ d36_1 : Value, (XG d31_1 true (∀ w42 : World, E1 w20.drew w42 → XLoad P 3 d35_1 w42 fun v36 w44 =>
 v36 = d36_1 ∧ FE1 w42 w44) (d36_1 = undef)) ∧
 ∃ d37_1 : Value, (XG d31_1 true (∀ w45 : World, p0 = d37_1 ∧ w45 = w45) (d37_1 = undef)) ∧
 ∃ d38_1 : Value, (XG d31_1 true (∀ w47 : World, XB P .len #[9] 3 #[d37_1] w47 fun v38 w49 =>
 v38 = d38_1 ∧ w49 = w47) (d38_1 = undef)) ∧
 ∃ d39_1 : Value, (XG d31_1 true (∀ w50 : World, XBin P .eql 3 false false d36_1 d38_1 w50 fun v39 w52 =>
 v39 = d39_1 ∧ w52 = w50) (d39_1 = undef)) ∧
 ∃ d40_1 : Value, (∀ w53 : World, XPick d31_1 d39_1 (Value.bool false) fun q3 =>
 q3 = d40_1 ∧ w53 = w53) ∧
 ∀ w55 : World, FE1 w20.drew w55 →
 XStore P 29 v2 d26_1 w55 fun w56 =>
 E1 w55 w56 ∧
 ∀ w57 : World, FE1 w56 w57 →
 XLoad P 29 v2 w57 fun r1 w58 => w58 = w57 ∧ R (.tuple #[r1, d40_1]) w57
noncomputable def C_joineryref4_ReadNode : Code := (Tryz.f97.body).getD .skip
noncomputable def an_joineryref4_ReadNode : An := (.seq none (.reg []) (.seq none (.reg []) (.seq none (.reg []) (.seq none (.reg []) (.seq none (.reg []) (.seq none (.reg []) (.seq none (.reg []) (.seq none (.reg []) (.seq none (.draw [1, 0, 0, 0, 1, 0, 0, 0, 0, 0, 1, 0, 0, 0, 0, 2, 2]) .leaf)))))))))
theorem S_joineryref4_ReadNode_eq (P : Program) (p0 : Value) (w : World) (R : Value → World → Prop) : WPf P C_joineryref4_ReadNode Tryz.f97.results.toList an_joineryref4_ReadNode #[p0] w R = S_joineryref4_ReadNode P p0 w R := by kernel_rfl
theorem ok_joineryref4_ReadNode : okC Tryz.f97.ntmps C_joineryref4_ReadNode an_joineryref4_ReadNode = true := by kernel_rfl
theorem call_joineryref4_ReadNode {p0 w R} (h : S_joineryref4_ReadNode Tryz.prog p0 w R) : Ret Tryz.prog 97 #[p0] w R :=
  Ret_of_WPf mixed Tryz.func97 (by kernel_rfl) (Nat.le_of_ble_eq_true (by kernel_rfl)) ok_joineryref4_ReadNode ((S_joineryref4_ReadNode_eq ..).symm ▸ h)

/-- joinery/joineryref4.ReadName -/
def S_joineryref4_ReadName (P : Program) (p0 : Value) (w : World) (R : Value → World → Prop) : Prop :=
 XBuild P 166 #[(0, p0)] w fun v7 w1 =>
 XBox P 166 v7 w1 fun v8 w2 =>
 XCall P 131 #[v8] w2 fun v10 w3 =>
 ∃ E1 FE1 : World → World → Prop, Pre E1 FE1 ∧
 ∃ d13_1 : Value, (∀ w4 : World, XNil v8 fun q1 =>
 q1 = d13_1 ∧ w4 = w4) ∧
 ∃ d14_1 : Value, (∀ w6 : World, XFld P 166 d13_1 2 w6 fun v14 w8 =>
 v14 = d14_1 ∧ w8 = w6) ∧
 ∃ d15_1 : Value, (∀ w9 : World, E1 w3.drew w9 → XLoad P 4 d14_1 w9 fun v15 w11 =>
 v15 = d15_1 ∧ FE1 w9 w11) ∧
 ∃ d16_1 : Value, (∀ w12 : World, XUn P .not d15_1 w12 fun v16 w14 =>
 v16 = d16_1 ∧ w14 = w12) ∧
 ∃ d18_1 : Value, (XG d16_1 true (∀ w15 : World, v8 = d18_1 ∧ w15 = w15) (d18_1 = undef)) ∧
 ∃ d19_1 : Value, (XG d16_1 true (∀ w17 : World, XNil d18_1 fun q2 =>
 q2 = d19_1 ∧ w17 = w17) (d19_1 = undef)) ∧
 ∃ d20_1 : Value, (XG d16_1 true (∀ w19 : World, XFld P 166 d19_1 1 w19 fun v20 w21 =>
 v20 = d20_1 ∧ w21 = w19) (d20_1 = undef)) ∧
 ∃ d21_1 : Value, (XG d16_1 true (∀ w22 : World, E1 w3.drew w22 → XLoad P 3 d20_1 w22 fun v21 w24 =>
 v21 = d21_1 ∧ FE1 w22 w24) (d21_1 = undef)) ∧
 ∃ d22_1 : Value, (XG d16_1 true (∀ w25 : World, p0 = d22_1 ∧ w25 = w25) (d22_1 = undef)) ∧
 ∃ d23_1 : Value, (XG d16_1 true (∀ w27 : World, XB P .len #[9] 3 #[d22_1] w27 fun v23 w29 =>
 v23 = d23_1 ∧ w29 = w27) (d23_1 = undef)) ∧
 ∃ d24_1 : Value, (XG d16_1 true (∀ w30 : World, XBin P .eql 3 false false d21_1 d23_1 w30 fun v24 w32 =>
 v24 = d24_1 ∧ w32 = w30) (d24_1 = undef)) ∧
 ∃ d25_1 : Value, (∀ w33 : World, XPick d16_1 d24_1 (Value.bool false) fun q3 =>
 q3 = d25_1 ∧ w33 = w33) ∧
 ∀ w35 : World, FE1 w3.drew w35 →
 E1 w35 w35 ∧
 ∀ w36 : World, FE1 w35 w36 →
 R (.tuple #[v10, d25_1]) w36
noncomputable def C_joineryref4_ReadName : Code := (Tryz.f98.body).getD .skip
noncomputable def an_joineryref4_ReadName : An := (.seq none (.reg []) (.seq none (.reg []) (.seq none (.reg []) (.seq none (.draw [0, 0, 0, 0, 1, 0, 0, 0, 0, 0, 1, 0, 0, 0, 0, 2, 2]) .leaf))))
theorem S_joineryref4_ReadName_eq (P : Program) (p0 : Value) (w : World) (R : Value → World → Prop) : WPf P C_joineryref4_ReadName Tryz.f98.results.toList an_joineryref4_ReadName #[p0] w R = S_joineryref4_ReadName P p0 w R := by kernel_rfl
theorem ok_joineryref4_ReadName : okC Tryz.f98.ntmps C_joineryref4_ReadName an_joineryref4_ReadName = true := by kernel_rfl
theorem call_joineryref4_ReadName {p0 w R} (h : S_joineryref4_ReadName Tryz.prog p0 w R) : Ret Tryz.prog 98 #[p0] w R :=
  Ret_of_WPf mixed Tryz.func98 (by kernel_rfl) (Nat.le_of_ble_eq_true (by kernel_rfl)) ok_joineryref4_ReadName ((S_joineryref4_ReadName_eq ..).symm ▸ h)

/-- joinery/joineryref4.place -/
def S_joineryref4_place (P : Program) (p0 : Value) (w : World) (R : Value → World → Prop) : Prop :=
 XAlloc P 45 w fun v2 w1 =>
 XBuild P 166 #[(0, p0)] w1 fun v7 w2 =>
 XBox P 166 v7 w2 fun v8 w3 =>
 XCall P 131 #[v8] w3 fun v10 w4 =>
 XBuild P 45 #[(0, v10)] w4 fun v11 w5 =>
 XAlloc P 45 w5 fun v5 w6 =>
 XStore P 45 v5 v11 w6 fun w7 =>
 XCall P 132 #[v8, (Value.int .u8 62)] w7 fun v13 w8 =>
 XCall P 131 #[v8] w8 fun v15 w9 =>
 XFld P 45 v5 1 w9 fun v16 w10 =>
 XStore P 9 v16 v15 w10 fun w11 =>
 XCall P 132 #[v8, (Value.int .u8 58)] w11 fun v18 w12 =>
 XCall P 133 #[v8, (Value.int .i64 999999999999999)] w12 fun v20 w13 =>
 XFld P 45 v5 2 w13 fun v21 w14 =>
 XStore P 26 v21 v20 w14 fun w15 =>
 XCall P 135 #[v8, (Value.int .u8 33)] w15 fun v23 w16 =>
 XFld P 45 v5 3 w16 fun v24 w17 =>
 XStore P 4 v24 v23 w17 fun w18 =>
 ∃ E1 FE1 : World → World → Prop, Pre E1 FE1 ∧
 ∃ d25_1 : Value, (∀ w19 : World, E1 w18.drew w19 → XLoad P 45 v5 w19 fun v25 w21 =>
 v25 = d25_1 ∧ FE1 w19 w21) ∧
 ∃ d27_1 : Value, (∀ w22 : World, XNil v8 fun q1 =>
 q1 = d27_1 ∧ w22 = w22) ∧
 ∃ d28_1 : Value, (∀ w24 : World, XFld P 166 d27_1 2 w24 fun v28 w26 =>
 v28 = d28_1 ∧ w26 = w24) ∧
 ∃ d29_1 : Value, (∀ w27 : World, E1 w18.drew w27 → XLoad P 4 d28_1 w27 fun v29 w29 =>
 v29 = d29_1 ∧ FE1 w27 w29) ∧
 ∃ d30_1 : Value, (∀ w30 : World, XUn P .not d29_1 w30 fun v30 w32 =>
 v30 = d30_1 ∧ w32 = w30) ∧
 ∃ d32_1 : Value, (XG d30_1 true (∀ w33 : World, v8 = d32_1 ∧ w33 = w33) (d32_1 = undef)) ∧
 ∃ d33_1 : Value, (XG d30_1 true (∀ w35 : World, XNil d32_1 fun q2 =>
 q2 = d33_1 ∧ w35 = w35) (d33_1 = undef)) ∧
 ∃ d34_1 : Value, (XG d30_1 true (∀ w37 : World, XFld P 166 d33_1 1 w37 fun v34 w39 =>
 v34 = d34_1 ∧ w39 = w37) (d34_1 = undef)) ∧
 ∃ d35_1 : Value, (XG d30_1 true (∀ w40 : World, E1 w18.drew w40 → XLoad P 3 d34_1 w40 fun v35 w42 =>
 v35 = d35_1 ∧ FE1 w40 w42) (d35_1 = undef)) ∧
 ∃ d36_1 : Value, (XG d30_1 true (∀ w43 : World, p0 = d36_1 ∧ w43 = w43) (d36_1 = undef)) ∧
 ∃ d37_1 : Value, (XG d30_1 true (∀ w45 : World, XB P .len #[9] 3 #[d36_1] w45 fun v37 w47 =>
 v37 = d37_1 ∧ w47 = w45) (d37_1 = undef)) ∧
 ∃ d38_1 : Value, (XG d30_1 true (∀ w48 : World, XBin P .eql 3 false false d35_1 d37_1 w48 fun v38 w50 =>
 v38 = d38_1 ∧ w50 = w48) (d38_1 = undef)) ∧
 ∃ d39_1 : Value, (∀ w51 : World, XPick d30_1 d38_1 (Value.bool false) fun q3 =>
 q3 = d39_1 ∧ w51 = w51) ∧
 ∀ w53 : World, FE1 w18.drew w53 →
 XStore P 45 v2 d25_1 w53 fun w54 =>
 E1 w53 w54 ∧
 ∀ w55 : World, FE1 w54 w55 →
 XLoad P 45 v2 w55 fun r1 w56 => w56 = w55 ∧ R (.tuple #[r1, d39_1]) w55
noncomputable def C_joineryref4_place : Code := (Tryz.f101.body).getD .skip
noncomputable def an_joineryref4_place : An := (.seq none (.reg []) (.seq none (.reg []) (.seq none (.reg []) (.seq none (.reg []) (.seq none (.reg []) (.seq none (.reg []) (.seq none (.reg []) (.seq none (.reg []) (.seq none (.draw [1, 0, 0, 0, 1, 0, 0, 0, 0, 0, 1, 0, 0, 0, 0, 2, 2]) .leaf)))))))))
theorem S_joineryref4_place_eq (P : Program) (p0 : Value) (w : World) (R : Value → World → Prop) : WPf P C_joineryref4_place Tryz.f101.results.toList an_joineryref4_place #[p0] w R = S_joineryref4_place P p0 w R := by kernel_rfl
theorem ok_joineryref4_place : okC Tryz.f101.ntmps C_joineryref4_place an_joineryref4_place = true := by kernel_rfl
theorem call_joineryref4_place {p0 w R} (h : S_joineryref4_place Tryz.prog p0 w R) : Ret Tryz.prog 101 #[p0] w R :=
  Ret_of_WPf mixed Tryz.func101 (by kernel_rfl) (Nat.le_of_ble_eq_true (by kernel_rfl)) ok_joineryref4_place ((S_joineryref4_place_eq ..).symm ▸ h)

/-- joinery/joineryref4.ReadNumber -/
def S_joineryref4_ReadNumber (P : Program) (p0 p1 : Value) (w : World) (R : Value → World → Prop) : Prop :=
 XBuild P 166 #[(0, p0)] w fun v9 w1 =>
 XBox P 166 v9 w1 fun v10 w2 =>
 XCall P 136 #[v10, p1] w2 fun v13 w3 =>
 ∃ E1 FE1 : World → World → Prop, Pre E1 FE1 ∧
 ∃ d16_1 : Value, (∀ w4 : World, XNil v10 fun q1 =>
 q1 = d16_1 ∧ w4 = w4) ∧
 ∃ d17_1 : Value, (∀ w6 : World, XFld P 166 d16_1 2 w6 fun v17 w8 =>
 v17 = d17_1 ∧ w8 = w6) ∧
 ∃ d18_1 : Value, (∀ w9 : World, E1 w3.drew w9 → XLoad P 4 d17_1 w9 fun v18 w11 =>
 v18 = d18_1 ∧ FE1 w9 w11) ∧
 ∃ d19_1 : Value, (∀ w12 : World, XUn P .not d18_1 w12 fun v19 w14 =>
 v19 = d19_1 ∧ w14 = w12) ∧
 ∃ d21_1 : Value, (XG d19_1 true (∀ w15 : World, v10 = d21_1 ∧ w15 = w15) (d21_1 = undef)) ∧
 ∃ d22_1 : Value, (XG d19_1 true (∀ w17 : World, XNil d21_1 fun q2 =>
 q2 = d22_1 ∧ w17 = w17) (d22_1 = undef)) ∧
 ∃ d23_1 : Value, (XG d19_1 true (∀ w19 : World, XFld P 166 d22_1 1 w19 fun v23 w21 =>
 v23 = d23_1 ∧ w21 = w19) (d23_1 = undef)) ∧
 ∃ d24_1 : Value, (XG d19_1 true (∀ w22 : World, E1 w3.drew w22 → XLoad P 3 d23_1 w22 fun v24 w24 =>
 v24 = d24_1 ∧ FE1 w22 w24) (d24_1 = undef)) ∧
 ∃ d25_1 : Value, (XG d19_1 true (∀ w25 : World, p0 = d25_1 ∧ w25 = w25) (d25_1 = undef)) ∧
 ∃ d26_1 : Value, (XG d19_1 true (∀ w27 : World, XB P .len #[9] 3 #[d25_1] w27 fun v26 w29 =>
 v26 = d26_1 ∧ w29 = w27) (d26_1 = undef)) ∧
 ∃ d27_1 : Value, (XG d19_1 true (∀ w30 : World, XBin P .eql 3 false false d24_1 d26_1 w30 fun v27 w32 =>
 v27 = d27_1 ∧ w32 = w30) (d27_1 = undef)) ∧
 ∃ d28_1 : Value, (∀ w33 : World, XPick d19_1 d27_1 (Value.bool false) fun q3 =>
 q3 = d28_1 ∧ w33 = w33) ∧
 ∀ w35 : World, FE1 w3.drew w35 →
 E1 w35 w35 ∧
 ∀ w36 : World, FE1 w35 w36 →
 R (.tuple #[v13, d28_1]) w36
noncomputable def C_joineryref4_ReadNumber : Code := (Tryz.f99.body).getD .skip
noncomputable def an_joineryref4_ReadNumber : An := (.seq none (.reg []) (.seq none (.reg []) (.seq none (.reg []) (.seq none (.draw [0, 0, 0, 0, 1, 0, 0, 0, 0, 0, 1, 0, 0, 0, 0, 2, 2]) .leaf))))
theorem S_joineryref4_ReadNumber_eq (P : Program) (p0 p1 : Value) (w : World) (R : Value → World → Prop) : WPf P C_joineryref4_ReadNumber Tryz.f99.results.toList an_joineryref4_ReadNumber #[p0, p1] w R = S_joineryref4_ReadNumber P p0 p1 w R := by kernel_rfl
theorem ok_joineryref4_ReadNumber : okC Tryz.f99.ntmps C_joineryref4_ReadNumber an_joineryref4_ReadNumber = true := by kernel_rfl
theorem call_joineryref4_ReadNumber {p0 p1 w R} (h : S_joineryref4_ReadNumber Tryz.prog p0 p1 w R) : Ret Tryz.prog 99 #[p0, p1] w R :=
  Ret_of_WPf mixed Tryz.func99 (by kernel_rfl) (Nat.le_of_ble_eq_true (by kernel_rfl)) ok_joineryref4_ReadNumber ((S_joineryref4_ReadNumber_eq ..).symm ▸ h)

/-- joinery/joineryref4.ints -/
def S_joineryref4_ints (P : Program) (p0 : Value) (w : World) (R : Value → World → Prop) : Prop :=
 XBuild P 166 #[(0, p0)] w fun v7 w1 =>
 XBox P 166 v7 w1 fun v8 w2 =>
 XCall P 136 #[v8, (Value.int .i64 999999999999999)] w2 fun v10 w3 =>
 XBuildS P 22 1 #[(0, v10)] w3 fun v11 w4 =>
 ∃ (I1 : Value → World → Prop) (m1 : Value → World → Nat), I1 v11 w4 ∧ ∀ (_jk1 : Env) (u5_l : Value) (w5 : World), I1 u5_l w5 →
 XCall P 135 #[v8, (Value.int .u8 44)] w5 fun v13 w6 =>
 XC v13 (
 XCall P 136 #[v8, (Value.int .i64 999999999999999)] w6 fun v16 w7 =>
 XBuildS P 22 1 #[(0, v16)] w7 fun v17 w8 =>
 XB P .append #[22, 22] 22 #[u5_l, v17] w8 fun v18 w9 =>
 I1 v18 w9 ∧ m1 v18 w9 < m1 u5_l w5) (
 ∃ E1 FE1 : World → World → Prop, Pre E1 FE1 ∧
 ∃ d21_1 : Value, (∀ w10 : World, XNil v8 fun q1 =>
 q1 = d21_1 ∧ w10 = w10) ∧
 ∃ d22_1 : Value, (∀ w12 : World, XFld P 166 d21_1 2 w12 fun v22 w14 =>
 v22 = d22_1 ∧ w14 = w12) ∧
 ∃ d23_1 : Value, (∀ w15 : World, E1 w6.drew w15 → XLoad P 4 d22_1 w15 fun v23 w17 =>
 v23 = d23_1 ∧ FE1 w15 w17) ∧
 ∃ d24_1 : Value, (∀ w18 : World, XUn P .not d23_1 w18 fun v24 w20 =>
 v24 = d24_1 ∧ w20 = w18) ∧
 ∃ d26_1 : Value, (XG d24_1 true (∀ w21 : World, v8 = d26_1 ∧ w21 = w21) (d26_1 = undef)) ∧
 ∃ d27_1 : Value, (XG d24_1 true (∀ w23 : World, XNil d26_1 fun q2 =>
 q2 = d27_1 ∧ w23 = w23) (d27_1 = undef)) ∧
 ∃ d28_1 : Value, (XG d24_1 true (∀ w25 : World, XFld P 166 d27_1 1 w25 fun v28 w27 =>
 v28 = d28_1 ∧ w27 = w25) (d28_1 = undef)) ∧
 ∃ d29_1 : Value, (XG d24_1 true (∀ w28 : World, E1 w6.drew w28 → XLoad P 3 d28_1 w28 fun v29 w30 =>
 v29 = d29_1 ∧ FE1 w28 w30) (d29_1 = undef)) ∧
 ∃ d30_1 : Value, (XG d24_1 true (∀ w31 : World, p0 = d30_1 ∧ w31 = w31) (d30_1 = undef)) ∧
 ∃ d31_1 : Value, (XG d24_1 true (∀ w33 : World, XB P .len #[9] 3 #[d30_1] w33 fun v31 w35 =>
 v31 = d31_1 ∧ w35 = w33) (d31_1 = undef)) ∧
 ∃ d32_1 : Value, (XG d24_1 true (∀ w36 : World, XBin P .eql 3 false false d29_1 d31_1 w36 fun v32 w38 =>
 v32 = d32_1 ∧ w38 = w36) (d32_1 = undef)) ∧
 ∃ d33_1 : Value, (∀ w39 : World, XPick d24_1 d32_1 (Value.bool false) fun q3 =>
 q3 = d33_1 ∧ w39 = w39) ∧
 ∀ w41 : World, FE1 w6.drew w41 →
 E1 w41 w41 ∧
 ∀ w42 : World, FE1 w41 w42 →
 R (.tuple #[u5_l, d33_1]) w42)
noncomputable def C_joineryref4_ints : Code := (Tryz.f100.body).getD .skip
noncomputable def an_joineryref4_ints : An := (.seq none (.reg []) (.seq none (.reg []) (.seq none (.reg []) (.seq none (.block none (.loop [5] (.seq none (.seq none (.reg []) (.cond .leaf .leaf)) (.block none (.reg []))))) (.seq none (.draw [0, 0, 0, 0, 1, 0, 0, 0, 0, 0, 1, 0, 0, 0, 0, 2, 2]) .leaf)))))
theorem S_joineryref4_ints_eq (P : Program) (p0 : Value) (w : World) (R : Value → World → Prop) : WPf P C_joineryref4_ints Tryz.f100.results.toList an_joineryref4_ints #[p0] w R = S_joineryref4_ints P p0 w R := by kernel_rfl
theorem ok_joineryref4_ints : okC Tryz.f100.ntmps C_joineryref4_ints an_joineryref4_ints = true := by kernel_rfl
theorem call_joineryref4_ints {p0 w R} (h : S_joineryref4_ints Tryz.prog p0 w R) : Ret Tryz.prog 100 #[p0] w R :=
  Ret_of_WPf mixed Tryz.func100 (by kernel_rfl) (Nat.le_of_ble_eq_true (by kernel_rfl)) ok_joineryref4_ints ((S_joineryref4_ints_eq ..).symm ▸ h)

/-- joinery/joineryref4.kind -/
def S_joineryref4_kind (P : Program) (p0 : Value) (w : World) (R : Value → World → Prop) : Prop :=
 XBuildS P 27 8 #[(0, (Value.string ⟨#[]⟩)), (1, (Value.string ⟨#[110, 111, 100, 101]⟩)), (2, (Value.string ⟨#[103, 111, 110, 101]⟩)), (3, (Value.string ⟨#[112, 114, 101, 112, 97, 114, 101]⟩)), (4, (Value.string ⟨#[99, 111, 109, 109, 105, 116]⟩)), (5, (Value.string ⟨#[97, 98, 111, 114, 116]⟩)), (6, (Value.string ⟨#[114, 101, 108, 101, 97, 115, 101]⟩)), (7, (Value.string ⟨#[103, 97, 110, 103]⟩))] w fun v5 w1 =>
 ∃ (I1 : Value → World → Prop) (m1 : Value → World → Nat), I1 (Value.int .i64 1) w1 ∧ ∀ (_jk1 : Env) (u4_i : Value) (w2 : World), I1 u4_i w2 →
 XB P .len #[27] 3 #[v5] w2 fun v8 w3 =>
 XBin P .lss 3 false false u4_i v8 w3 fun v9 w4 =>
 XC v9 (
 XIdx P 27 v5 u4_i w4 fun v14 w5 =>
 XLoad P 9 v14 w5 fun v15 w6 =>
 XBin P .eql 9 false false v15 p0 w6 fun v17 w7 =>
 XC v17 (
 R u4_i w7) (
 XBin P .add 3 false true u4_i (Value.int .i64 1) w7 fun v11 w8 =>
 I1 v11 w8 ∧ m1 v11 w8 < m1 u4_i w2)) (
 R (Value.int .i64 0) w4)
noncomputable def C_joineryref4_kind : Code := (Tryz.f96.body).getD .skip
noncomputable def an_joineryref4_kind : An := (.seq none (.reg []) (.seq none (.reg []) (.seq none (.seq none (.reg []) (.block none (.loop [4] (.seq none (.seq none (.reg []) (.cond .leaf .leaf)) (.seq none (.block none (.seq none (.reg []) (.cond (.seq none (.reg []) .leaf) .leaf))) (.reg [])))))) (.seq none (.reg []) .leaf))))
theorem S_joineryref4_kind_eq (P : Program) (p0 : Value) (w : World) (R : Value → World → Prop) : WPf P C_joineryref4_kind Tryz.f96.results.toList an_joineryref4_kind #[p0] w R = S_joineryref4_kind P p0 w R := by kernel_rfl
theorem ok_joineryref4_kind : okC Tryz.f96.ntmps C_joineryref4_kind an_joineryref4_kind = true := by kernel_rfl
theorem call_joineryref4_kind {p0 w R} (h : S_joineryref4_kind Tryz.prog p0 w R) : Ret Tryz.prog 96 #[p0] w R :=
  Ret_of_WPf mixed Tryz.func96 (by kernel_rfl) (Nat.le_of_ble_eq_true (by kernel_rfl)) ok_joineryref4_kind ((S_joineryref4_kind_eq ..).symm ▸ h)

/-- joinery/joineryref4.read -/
def S_joineryref4_read (P : Program) (p0 : Value) (w : World) (R : Value → World → Prop) : Prop :=
 XAlloc P 31 w fun v2 w1 =>
 XB P .len #[27] 3 #[p0] w1 fun v11 w2 =>
 XBin P .lss 3 false true v11 (Value.int .i64 2) w2 fun v12 w3 =>
 XC v12 (
 XBuild P 31 #[] w3 fun v13 w4 =>
 XStore P 31 v2 v13 w4 fun w5 =>
 XLoad P 31 v2 w5 fun r1 w6 => w6 = w5 ∧ R (.tuple #[r1, (Value.bool false)]) w5) (
 XIdx P 27 p0 (Value.int .i64 0) w3 fun v15 w7 =>
 XLoad P 9 v15 w7 fun v16 w8 =>
 XCall P 96 #[v16] w8 fun v17 w9 =>
 XBuild P 31 #[(0, v17)] w9 fun v18 w10 =>
 XAlloc P 31 w10 fun v4 w11 =>
 XStore P 31 v4 v18 w11 fun w12 =>
 XFld P 31 v4 0 w12 fun v19 w13 =>
 XLoad P 3 v19 w13 fun v20 w14 =>
 XBin P .eql 3 false true v20 (Value.int .i64 0) w14 fun v22 w15 =>
 XC v22 (
 XLoad P 31 v4 w15 fun v23 w16 =>
 XStore P 31 v2 v23 w16 fun w17 =>
 XLoad P 31 v2 w17 fun r2 w18 => w18 = w17 ∧ R (.tuple #[r2, (Value.bool false)]) w17) (
 XBin P .eql 3 false true v20 (Value.int .i64 1) w15 fun v25 w19 =>
 XC v25 (
 XIdx P 27 p0 (Value.int .i64 1) w19 fun v28 w20 =>
 XLoad P 9 v28 w20 fun v29 w21 =>
 XCall P 97 #[v29] w21 fun v30 w22 =>
 XExt P v30 0 w22 fun v31 w23 =>
 XExt P v30 1 w23 fun v32 w24 =>
 XFld P 31 v4 4 w24 fun v33 w25 =>
 XStore P 29 v33 v31 w25 fun w26 =>
 XLoad P 31 v4 w26 fun v34 w27 =>
 ∃ J1 : Value → World → Prop, (∀ (_jk1 : Env) (u39 : Value) (w28 : World), J1 u39 w28 →
 XPick v32 u39 (Value.bool false) fun q1 =>
 XStore P 31 v2 v34 w28 fun w29 =>
 XLoad P 31 v2 w29 fun r3 w30 => w30 = w29 ∧ R (.tuple #[r3, q1]) w29) ∧
 XG v32 true (
 XB P .len #[27] 3 #[p0] w27 fun v38 w31 =>
 XBin P .eql 3 false true v38 (Value.int .i64 2) w31 fun v39 w32 =>
 J1 v39 w32) (J1 undef w27)) (
 XBin P .eql 3 false true v20 (Value.int .i64 2) w19 fun v42 w33 =>
 XC v42 (
 XIdx P 27 p0 (Value.int .i64 1) w33 fun v45 w34 =>
 XLoad P 9 v45 w34 fun v46 w35 =>
 XCall P 98 #[v46] w35 fun v47 w36 =>
 XExt P v47 0 w36 fun v48 w37 =>
 XExt P v47 1 w37 fun v49 w38 =>
 XFld P 31 v4 4 w38 fun v50 w39 =>
 XFld P 29 v50 0 w39 fun v51 w40 =>
 XStore P 9 v51 v48 w40 fun w41 =>
 XLoad P 31 v4 w41 fun v52 w42 =>
 ∃ J2 : Value → World → Prop, (∀ (_jk2 : Env) (u57 : Value) (w43 : World), J2 u57 w43 →
 XPick v49 u57 (Value.bool false) fun q2 =>
 XStore P 31 v2 v52 w43 fun w44 =>
 XLoad P 31 v2 w44 fun r4 w45 => w45 = w44 ∧ R (.tuple #[r4, q2]) w44) ∧
 XG v49 true (
 XB P .len #[27] 3 #[p0] w42 fun v56 w46 =>
 XBin P .eql 3 false true v56 (Value.int .i64 2) w46 fun v57 w47 =>
 J2 v57 w47) (J2 undef w42)) (
 XIdx P 27 p0 (Value.int .i64 1) w33 fun v61 w48 =>
 XLoad P 9 v61 w48 fun v62 w49 =>
 XCall P 99 #[v62, (Value.int .i64 999999999999999)] w49 fun v63 w50 =>
 XExt P v63 0 w50 fun v64 w51 =>
 XExt P v63 1 w51 fun v65 w52 =>
 XFld P 31 v4 1 w52 fun v66 w53 =>
 XStore P 3 v66 v64 w53 fun w54 =>
 XFld P 31 v4 0 w54 fun v67 w55 =>
 XLoad P 3 v67 w55 fun v68 w56 =>
 XBin P .neq 3 false true v68 (Value.int .i64 3) w56 fun v69 w57 =>
 ∃ J3 : Value → World → Prop, (∀ (_jk3 : Env) (u73 : Value) (w58 : World), J3 u73 w58 →
 XPick v69 u73 (Value.bool false) fun q3 =>
 XC q3 (
 XLoad P 31 v4 w58 fun v75 w59 =>
 ∃ J4 : Value → World → Prop, (∀ (_jk4 : Env) (u80 : Value) (w60 : World), J4 u80 w60 →
 XPick v65 u80 (Value.bool false) fun q4 =>
 XStore P 31 v2 v75 w60 fun w61 =>
 XLoad P 31 v2 w61 fun r5 w62 => w62 = w61 ∧ R (.tuple #[r5, q4]) w61) ∧
 XG v65 true (
 XB P .len #[27] 3 #[p0] w59 fun v79 w63 =>
 XBin P .eql 3 false true v79 (Value.int .i64 2) w63 fun v80 w64 =>
 J4 v80 w64) (J4 undef w59)) (
 XB P .len #[27] 3 #[p0] w58 fun v83 w65 =>
 XBin P .lss 3 false true v83 (Value.int .i64 3) w65 fun v84 w66 =>
 XC v84 (
 XLoad P 31 v4 w66 fun v85 w67 =>
 XStore P 31 v2 v85 w67 fun w68 =>
 XLoad P 31 v2 w68 fun r6 w69 => w69 = w68 ∧ R (.tuple #[r6, (Value.bool false)]) w68) (
 XIdx P 27 p0 (Value.int .i64 2) w66 fun v88 w70 =>
 XLoad P 9 v88 w70 fun v89 w71 =>
 XCall P 100 #[v89] w71 fun v90 w72 =>
 XExt P v90 0 w72 fun v91 w73 =>
 XExt P v90 1 w73 fun v92 w74 =>
 XFld P 31 v4 2 w74 fun v93 w75 =>
 XStore P 22 v93 v91 w75 fun w76 =>
 ∃ (I1 : Value → Value → World → Prop) (m1 : Value → Value → World → Nat), I1 v92 (Value.int .i64 3) w76 ∧ ∀ (_jk5 : Env) (u6_has u7_i : Value) (w77 : World), I1 u6_has u7_i w77 →
 XB P .len #[27] 3 #[p0] w77 fun v96 w78 =>
 XBin P .lss 3 false false u7_i v96 w78 fun v97 w79 =>
 XC v97 (
 XIdx P 27 p0 u7_i w79 fun v103 w80 =>
 XLoad P 9 v103 w80 fun v104 w81 =>
 XCall P 101 #[v104] w81 fun v105 w82 =>
 XExt P v105 0 w82 fun v106 w83 =>
 XExt P v105 1 w83 fun v107 w84 =>
 XAlloc P 45 w84 fun v8 w85 =>
 XStore P 45 v8 v106 w85 fun w86 =>
 ∃ J5 : Value → World → Prop, (∀ (_jk6 : Env) (u110 : Value) (w87 : World), J5 u110 w87 →
 XPick u6_has u110 (Value.bool false) fun q5 =>
 XFld P 31 v4 3 w87 fun v112 w88 =>
 XLoad P 24 v112 w88 fun v113 w89 =>
 XLoad P 45 v8 w89 fun v114 w90 =>
 XBuildS P 24 1 #[(0, v114)] w90 fun v115 w91 =>
 XB P .append #[24, 24] 24 #[v113, v115] w91 fun v116 w92 =>
 XFld P 31 v4 3 w92 fun v117 w93 =>
 XStore P 24 v117 v116 w93 fun w94 =>
 XBin P .add 3 false true u7_i (Value.int .i64 1) w94 fun v99 w95 =>
 I1 q5 v99 w95 ∧ m1 q5 v99 w95 < m1 u6_has u7_i w77) ∧
 XG u6_has true (
 J5 v107 w86) (J5 undef w86)) (
 XLoad P 31 v4 w79 fun v118 w96 =>
 ∃ J6 : Value → World → Prop, (∀ (_jk7 : Env) (u121 : Value) (w97 : World), J6 u121 w97 →
 XPick v65 u121 (Value.bool false) fun q6 =>
 ∃ J7 : Value → World → Prop, (∀ (_jk8 : Env) (u127 : Value) (w98 : World), J7 u127 w98 →
 ∃ J8 : Value → World → Prop, (∀ (_jk9 : Env) (u130 : Value) (w99 : World), J8 u130 w99 →
 ∃ J9 : Value → World → Prop, (∀ (_jk10 : Env) (u131 : Value) (w100 : World), J9 u131 w100 →
 XPick q6 u131 (Value.bool false) fun q7 =>
 XStore P 31 v2 v118 w100 fun w101 =>
 XLoad P 31 v2 w101 fun r7 w102 => w102 = w101 ∧ R (.tuple #[r7, q7]) w101) ∧
 XG q6 true (
 XPick u127 (Value.bool true) u130 fun q8 =>
 J9 q8 w99) (J9 undef w99)) ∧
 XG u127 false (
 XB P .len #[27] 3 #[p0] w98 fun v129 w103 =>
 XBin P .eql 3 false true v129 (Value.int .i64 3) w103 fun v130 w104 =>
 J8 v130 w104) (J8 undef w98)) ∧
 XG q6 true (
 XFld P 31 v4 0 w97 fun v124 w105 =>
 XLoad P 3 v124 w105 fun v125 w106 =>
 XBin P .eql 3 false true v125 (Value.int .i64 3) w106 fun v126 w107 =>
 J7 v126 w107) (J7 undef w97)) ∧
 XG v65 true (
 J6 u6_has w96) (J6 undef w96))))) ∧
 XG v69 true (
 XFld P 31 v4 0 w57 fun v71 w108 =>
 XLoad P 3 v71 w108 fun v72 w109 =>
 XBin P .neq 3 false true v72 (Value.int .i64 7) w109 fun v73 w110 =>
 J3 v73 w110) (J3 undef w57)))))
noncomputable def C_joineryref4_read : Code := (Tryz.f54.body).getD .skip
noncomputable def an_joineryref4_read : An := (.seq none (.reg []) (.seq none (.seq none (.reg []) (.cond (.seq none (.reg []) .leaf) .leaf)) (.seq none (.reg []) (.seq none (.reg []) (.seq none (.seq none (.reg []) (.block none (.seq none (.reg []) (.cond (.seq none (.reg []) .leaf) (.seq none (.reg []) (.cond (.seq none (.reg []) (.seq none (.reg [[39]]) .leaf)) (.seq none (.reg []) (.cond (.seq none (.reg []) (.seq none (.reg [[57]]) .leaf)) .leaf)))))))) (.seq none (.reg []) (.seq none (.seq none (.reg [[73]]) (.cond (.seq none (.reg [[80]]) .leaf) .leaf)) (.seq none (.seq none (.reg []) (.cond (.seq none (.reg []) .leaf) .leaf)) (.seq none (.reg []) (.seq none (.seq none (.reg []) (.block none (.loop [6, 7] (.seq none (.seq none (.reg []) (.cond .leaf .leaf)) (.seq none (.block none (.seq none (.reg []) (.seq none (.reg [[110]]) (.reg [])))) (.reg [])))))) (.seq none (.reg [[121], [127], [130], [131]]) .leaf)))))))))))
theorem S_joineryref4_read_eq (P : Program) (p0 : Value) (w : World) (R : Value → World → Prop) : WPf P C_joineryref4_read Tryz.f54.results.toList an_joineryref4_read #[p0] w R = S_joineryref4_read P p0 w R := by kernel_rfl
theorem ok_joineryref4_read : okC Tryz.f54.ntmps C_joineryref4_read an_joineryref4_read = true := by kernel_rfl
theorem call_joineryref4_read {p0 w R} (h : S_joineryref4_read Tryz.prog p0 w R) : Ret Tryz.prog 54 #[p0] w R :=
  Ret_of_WPf mixed Tryz.func54 (by kernel_rfl) (Nat.le_of_ble_eq_true (by kernel_rfl)) ok_joineryref4_read ((S_joineryref4_read_eq ..).symm ▸ h)

/-- joinery/joineryref4.Parse -/
def S_joineryref4_Parse (P : Program) (p0 : Value) (w : World) (R : Value → World → Prop) : Prop :=
 XAlloc P 31 w fun v2 w1 =>
 XCall P 55 #[p0] w1 fun v9 w2 =>
 XCall P 54 #[v9] w2 fun v10 w3 =>
 XExt P v10 0 w3 fun v11 w4 =>
 XExt P v10 1 w4 fun v12 w5 =>
 XAlloc P 31 w5 fun v4 w6 =>
 XStore P 31 v4 v11 w6 fun w7 =>
 XUn P .not v12 w7 fun v14 w8 =>
 XC v14 (
 XBuild P 31 #[] w8 fun v15 w9 =>
 XStore P 31 v2 v15 w9 fun w10 =>
 XLoad P 31 v2 w10 fun r1 w11 => w11 = w10 ∧ R (.tuple #[r1, (Value.int .i64 8)]) w10) (
 XLoad P 31 v4 w8 fun v16 w12 =>
 XCall P 56 #[v16] w12 fun v17 w13 =>
 XBin P .neq 3 false true v17 (Value.int .i64 0) w13 fun v19 w14 =>
 XC v19 (
 XBuild P 31 #[] w14 fun v20 w15 =>
 XStore P 31 v2 v20 w15 fun w16 =>
 XLoad P 31 v2 w16 fun r2 w17 => w17 = w16 ∧ R (.tuple #[r2, v17]) w16) (
 XLoad P 31 v4 w14 fun v22 w18 =>
 XStore P 31 v2 v22 w18 fun w19 =>
 XLoad P 31 v2 w19 fun r3 w20 => w20 = w19 ∧ R (.tuple #[r3, (Value.int .i64 0)]) w19))
noncomputable def C_joineryref4_Parse : Code := (Tryz.f21.body).getD .skip
noncomputable def an_joineryref4_Parse : An := (.seq none (.reg []) (.seq none (.reg []) (.seq none (.seq none (.reg []) (.cond (.seq none (.reg []) .leaf) .leaf)) (.seq none (.reg []) (.seq none (.seq none (.reg []) (.cond (.seq none (.reg []) .leaf) .leaf)) (.seq none (.reg []) .leaf))))))
theorem S_joineryref4_Parse_eq (P : Program) (p0 : Value) (w : World) (R : Value → World → Prop) : WPf P C_joineryref4_Parse Tryz.f21.results.toList an_joineryref4_Parse #[p0] w R = S_joineryref4_Parse P p0 w R := by kernel_rfl
theorem ok_joineryref4_Parse : okC Tryz.f21.ntmps C_joineryref4_Parse an_joineryref4_Parse = true := by kernel_rfl
theorem call_joineryref4_Parse {p0 w R} (h : S_joineryref4_Parse Tryz.prog p0 w R) : Ret Tryz.prog 21 #[p0] w R :=
  Ret_of_WPf mixed Tryz.func21 (by kernel_rfl) (Nat.le_of_ble_eq_true (by kernel_rfl)) ok_joineryref4_Parse ((S_joineryref4_Parse_eq ..).symm ▸ h)

abbrev F_joineryref2_Name : FuncId := 104
theorem en_joineryref2_Name (args : Array Value) (w : World) : (callFunc 104 args).run Tryz.prog w = .ok (.enter 104 args) w := by kernel_rfl
abbrev F_joineryref2_Set : FuncId := 138
theorem en_joineryref2_Set (args : Array Value) (w : World) : (callFunc 138 args).run Tryz.prog w = .ok (.enter 138 args) w := by kernel_rfl
abbrev F_joineryref2_Same : FuncId := 34
theorem en_joineryref2_Same (args : Array Value) (w : World) : (callFunc 34 args).run Tryz.prog w = .ok (.enter 34 args) w := by kernel_rfl
abbrev F_joineryref3_Size : FuncId := 137
theorem en_joineryref3_Size (args : Array Value) (w : World) : (callFunc 137 args).run Tryz.prog w = .ok (.enter 137 args) w := by kernel_rfl
abbrev F_joineryref3_Node : FuncId := 103
theorem en_joineryref3_Node (args : Array Value) (w : World) : (callFunc 103 args).run Tryz.prog w = .ok (.enter 103 args) w := by kernel_rfl
abbrev F_joineryref3_Ints : FuncId := 52
theorem en_joineryref3_Ints (args : Array Value) (w : World) : (callFunc 52 args).run Tryz.prog w = .ok (.enter 52 args) w := by kernel_rfl
abbrev F_joineryref3_Same : FuncId := 53
theorem en_joineryref3_Same (args : Array Value) (w : World) : (callFunc 53 args).run Tryz.prog w = .ok (.enter 53 args) w := by kernel_rfl
abbrev F_joineryref4_Places : FuncId := 23
theorem en_joineryref4_Places (args : Array Value) (w : World) : (callFunc 23 args).run Tryz.prog w = .ok (.enter 23 args) w := by kernel_rfl
abbrev F_joineryref4_Same : FuncId := 20
theorem en_joineryref4_Same (args : Array Value) (w : World) : (callFunc 20 args).run Tryz.prog w = .ok (.enter 20 args) w := by kernel_rfl
abbrev F_joineryref4_kept : FuncId := 102
theorem en_joineryref4_kept (args : Array Value) (w : World) : (callFunc 102 args).run Tryz.prog w = .ok (.enter 102 args) w := by kernel_rfl
abbrev F_joineryref4_peers : FuncId := 105
theorem en_joineryref4_peers (args : Array Value) (w : World) : (callFunc 105 args).run Tryz.prog w = .ok (.enter 105 args) w := by kernel_rfl
abbrev F_joineryref4_places : FuncId := 106
theorem en_joineryref4_places (args : Array Value) (w : World) : (callFunc 106 args).run Tryz.prog w = .ok (.enter 106 args) w := by kernel_rfl
abbrev F_joineryref4_Check : FuncId := 56
theorem en_joineryref4_Check (args : Array Value) (w : World) : (callFunc 56 args).run Tryz.prog w = .ok (.enter 56 args) w := by kernel_rfl
abbrev F_joineryref4_Digits : FuncId := 69
theorem en_joineryref4_Digits (args : Array Value) (w : World) : (callFunc 69 args).run Tryz.prog w = .ok (.enter 69 args) w := by kernel_rfl
abbrev F_joineryref4_Vec : FuncId := 71
theorem en_joineryref4_Vec (args : Array Value) (w : World) : (callFunc 71 args).run Tryz.prog w = .ok (.enter 71 args) w := by kernel_rfl
abbrev F_joineryref4_row : FuncId := 118
theorem en_joineryref4_row (args : Array Value) (w : World) : (callFunc 118 args).run Tryz.prog w = .ok (.enter 118 args) w := by kernel_rfl
abbrev F_joineryref4_flag : FuncId := 72
theorem en_joineryref4_flag (args : Array Value) (w : World) : (callFunc 72 args).run Tryz.prog w = .ok (.enter 72 args) w := by kernel_rfl
abbrev F_joineryref4_Node : FuncId := 68
theorem en_joineryref4_Node (args : Array Value) (w : World) : (callFunc 68 args).run Tryz.prog w = .ok (.enter 68 args) w := by kernel_rfl
abbrev F_joineryref4_numbers : FuncId := 70
theorem en_joineryref4_numbers (args : Array Value) (w : World) : (callFunc 70 args).run Tryz.prog w = .ok (.enter 70 args) w := by kernel_rfl
abbrev F_joineryref4_Text : FuncId := 30
theorem en_joineryref4_Text (args : Array Value) (w : World) : (callFunc 30 args).run Tryz.prog w = .ok (.enter 30 args) w := by kernel_rfl
abbrev F_joineryref4_Words : FuncId := 55
theorem en_joineryref4_Words (args : Array Value) (w : World) : (callFunc 55 args).run Tryz.prog w = .ok (.enter 55 args) w := by kernel_rfl
abbrev F_joineryref4_Reader_sign : FuncId := 135
theorem en_joineryref4_Reader_sign (args : Array Value) (w : World) : (callFunc 135 args).run Tryz.prog w = .ok (.enter 135 args) w := by kernel_rfl
abbrev F_joineryref4_Reader_Must : FuncId := 132
theorem en_joineryref4_Reader_Must (args : Array Value) (w : World) : (callFunc 132 args).run Tryz.prog w = .ok (.enter 132 args) w := by kernel_rfl
abbrev F_joineryref4_Reader_Number : FuncId := 136
theorem en_joineryref4_Reader_Number (args : Array Value) (w : World) : (callFunc 136 args).run Tryz.prog w = .ok (.enter 136 args) w := by kernel_rfl
abbrev F_joineryref4_parting : FuncId := 155
theorem en_joineryref4_parting (args : Array Value) (w : World) : (callFunc 155 args).run Tryz.prog w = .ok (.enter 155 args) w := by kernel_rfl
abbrev F_joineryref4_Reader_Name : FuncId := 131
theorem en_joineryref4_Reader_Name (args : Array Value) (w : World) : (callFunc 131 args).run Tryz.prog w = .ok (.enter 131 args) w := by kernel_rfl
abbrev F_joineryref4_Reader_row : FuncId := 134
theorem en_joineryref4_Reader_row (args : Array Value) (w : World) : (callFunc 134 args).run Tryz.prog w = .ok (.enter 134 args) w := by kernel_rfl
abbrev F_joineryref4_Reader_Vec : FuncId := 133
theorem en_joineryref4_Reader_Vec (args : Array Value) (w : World) : (callFunc 133 args).run Tryz.prog w = .ok (.enter 133 args) w := by kernel_rfl
abbrev F_joineryref4_ReadNode : FuncId := 97
theorem en_joineryref4_ReadNode (args : Array Value) (w : World) : (callFunc 97 args).run Tryz.prog w = .ok (.enter 97 args) w := by kernel_rfl
abbrev F_joineryref4_ReadName : FuncId := 98
theorem en_joineryref4_ReadName (args : Array Value) (w : World) : (callFunc 98 args).run Tryz.prog w = .ok (.enter 98 args) w := by kernel_rfl
abbrev F_joineryref4_place : FuncId := 101
theorem en_joineryref4_place (args : Array Value) (w : World) : (callFunc 101 args).run Tryz.prog w = .ok (.enter 101 args) w := by kernel_rfl
abbrev F_joineryref4_ReadNumber : FuncId := 99
theorem en_joineryref4_ReadNumber (args : Array Value) (w : World) : (callFunc 99 args).run Tryz.prog w = .ok (.enter 99 args) w := by kernel_rfl
abbrev F_joineryref4_ints : FuncId := 100
theorem en_joineryref4_ints (args : Array Value) (w : World) : (callFunc 100 args).run Tryz.prog w = .ok (.enter 100 args) w := by kernel_rfl
abbrev F_joineryref4_kind : FuncId := 96
theorem en_joineryref4_kind (args : Array Value) (w : World) : (callFunc 96 args).run Tryz.prog w = .ok (.enter 96 args) w := by kernel_rfl
abbrev F_joineryref4_read : FuncId := 54
theorem en_joineryref4_read (args : Array Value) (w : World) : (callFunc 54 args).run Tryz.prog w = .ok (.enter 54 args) w := by kernel_rfl
abbrev F_joineryref4_Parse : FuncId := 21
theorem en_joineryref4_Parse (args : Array Value) (w : World) : (callFunc 21 args).run Tryz.prog w = .ok (.enter 21 args) w := by kernel_rfl

end Go.Proofs.YthkgbajldkicfaaGreatDoor
