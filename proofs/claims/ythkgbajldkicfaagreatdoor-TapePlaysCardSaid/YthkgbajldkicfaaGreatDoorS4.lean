/-
  Shallow forms: tapes. Each is the precondition of a Go function, computed over its code; that both are one is checked by the kernel.
-/
import Derived.Test.YthkgbajldkicfaaGreatDoorTypes
namespace Go.Proofs.YthkgbajldkicfaaGreatDoor
set_option linter.unusedVariables false
set_option linter.unusedSimpArgs false
open Go Go.Jo
set_option linter.unusedVariables false
set_option maxRecDepth 100000
/-- joinery/tape.New -/
def S_tape_New (P : Program) (w : World) (R : Value → World → Prop) : Prop :=
 XBuild P 96 #[] w fun v1 w1 =>
 XBox P 96 v1 w1 fun v2 w2 =>
 R v2 w2
noncomputable def C_tape_New : Code := (Tryz.f26.body).getD .skip
noncomputable def an_tape_New : An := (.seq none (.reg []) (.seq none (.reg []) .leaf))
theorem S_tape_New_eq (P : Program) (w : World) (R : Value → World → Prop) : WPf P C_tape_New Tryz.f26.results.toList an_tape_New #[] w R = S_tape_New P  w R := by kernel_rfl
theorem ok_tape_New : okC Tryz.f26.ntmps C_tape_New an_tape_New = true := by kernel_rfl
theorem call_tape_New { w R} (h : S_tape_New Tryz.prog  w R) : Ret Tryz.prog 26 #[] w R :=
  Ret_of_WPf mixed Tryz.func26 (by kernel_rfl) (Nat.le_of_ble_eq_true (by kernel_rfl)) ok_tape_New ((S_tape_New_eq ..).symm ▸ h)

/-- (*joinery/tape.Tape).do -/
def S_tape_Tape_do (P : Program) (p0 p1 : Value) (w : World) (R : Value → World → Prop) : Prop :=
 XTA P p1 20 99 true w fun v8 w1 =>
 XExt P v8 1 w1 fun v9 w2 =>
 XExt P v8 0 w2 fun v10 w3 =>
 XC v9 (
 XAlloc P 99 w3 fun v4 w4 =>
 XStore P 99 v4 v10 w4 fun w5 =>
 ∃ E1 FE1 : World → World → Prop, Pre E1 FE1 ∧
 ∃ d13_1 : Value, (∀ w6 : World, XNil p0 fun q1 =>
 q1 = d13_1 ∧ w6 = w6) ∧
 ∃ d14_1 : Value, (∀ w8 : World, XFld P 96 d13_1 0 w8 fun v14 w10 =>
 v14 = d14_1 ∧ w10 = w8) ∧
 ∃ d15_1 : Value, (∀ w11 : World, E1 w5.drew w11 → XLoad P 94 d14_1 w11 fun v15 w13 =>
 v15 = d15_1 ∧ FE1 w11 w13) ∧
 ∃ d16_1 : Value, (∀ w14 : World, XFld P 99 v4 0 w14 fun v16 w16 =>
 v16 = d16_1 ∧ w16 = w14) ∧
 ∃ d17_1 : Value, (∀ w17 : World, E1 w5.drew w17 → XLoad P 9 d16_1 w17 fun v17 w19 =>
 v17 = d17_1 ∧ FE1 w17 w19) ∧
 ∀ w20 : World, FE1 w5.drew w20 →
(XConv P 9 94 d17_1 w20 fun v18 w21 =>
 E1 w20 w21 ∧
 ∀ w22 : World, FE1 w21 w22 →
(XB P .append #[94, 94] 94 #[d15_1, v18] w22 fun v19 w23 =>
 XBuildS P 94 1 #[(0, (Value.int .i32 10))] w23 fun v20 w24 =>
 XB P .append #[94, 94] 94 #[v19, v20] w24 fun v21 w25 =>
 ∃ d22_1 : Value, (∀ w26 : World, XNil p0 fun q2 =>
 q2 = d22_1 ∧ w26 = w26) ∧
 ∃ d23_1 : Value, (∀ w28 : World, XFld P 96 d22_1 0 w28 fun v23 w30 =>
 v23 = d23_1 ∧ w30 = w28) ∧
 XStore P 94 d23_1 v21 w25 fun w31 =>
 XNil p0 fun q3 =>
 XFld P 96 q3 1 w31 fun v26 w32 =>
 XLoad P 3 v26 w32 fun v27 w33 =>
 XBin P .add 3 false true v27 (Value.int .i64 1) w33 fun v28 w34 =>
 XNil p0 fun q4 =>
 XFld P 96 q4 1 w34 fun v30 w35 =>
 XStore P 3 v30 v28 w35 fun w36 =>
 R (.tuple #[]) w36) ∧
(XBuildS P 94 1 #[(0, (Value.int .i32 10))] w22 fun v20_2 w37 =>
 E1 w22 w37 ∧
 ∀ w38 : World, FE1 w37 w38 →
 XB P .append #[94, 94] 94 #[d15_1, v18] w38 fun v19_2 w39 =>
 XB P .append #[94, 94] 94 #[v19_2, v20_2] w39 fun v21_2 w40 =>
 ∃ d22_2 : Value, (∀ w41 : World, XNil p0 fun q5 =>
 q5 = d22_2 ∧ w41 = w41) ∧
 ∃ d23_2 : Value, (∀ w43 : World, XFld P 96 d22_2 0 w43 fun v23_2 w45 =>
 v23_2 = d23_2 ∧ w45 = w43) ∧
 XStore P 94 d23_2 v21_2 w40 fun w46 =>
 XNil p0 fun q6 =>
 XFld P 96 q6 1 w46 fun v26_2 w47 =>
 XLoad P 3 v26_2 w47 fun v27_2 w48 =>
 XBin P .add 3 false true v27_2 (Value.int .i64 1) w48 fun v28_2 w49 =>
 XNil p0 fun q7 =>
 XFld P 96 q7 1 w49 fun v30_2 w50 =>
 XStore P 3 v30_2 v28_2 w50 fun w51 =>
 R (.tuple #[]) w51)) ∧
(XBuildS P 94 1 #[(0, (Value.int .i32 10))] w20 fun v20_3 w52 =>
 E1 w20 w52 ∧
 ∀ w53 : World, FE1 w52 w53 →
 XConv P 9 94 d17_1 w53 fun v18_2 w54 =>
 E1 w53 w54 ∧
 ∀ w55 : World, FE1 w54 w55 →
 XB P .append #[94, 94] 94 #[d15_1, v18_2] w55 fun v19_3 w56 =>
 XB P .append #[94, 94] 94 #[v19_3, v20_3] w56 fun v21_3 w57 =>
 ∃ d22_3 : Value, (∀ w58 : World, XNil p0 fun q8 =>
 q8 = d22_3 ∧ w58 = w58) ∧
 ∃ d23_3 : Value, (∀ w60 : World, XFld P 96 d22_3 0 w60 fun v23_3 w62 =>
 v23_3 = d23_3 ∧ w62 = w60) ∧
 XStore P 94 d23_3 v21_3 w57 fun w63 =>
 XNil p0 fun q9 =>
 XFld P 96 q9 1 w63 fun v26_3 w64 =>
 XLoad P 3 v26_3 w64 fun v27_3 w65 =>
 XBin P .add 3 false true v27_3 (Value.int .i64 1) w65 fun v28_3 w66 =>
 XNil p0 fun q10 =>
 XFld P 96 q10 1 w66 fun v30_3 w67 =>
 XStore P 3 v30_3 v28_3 w67 fun w68 =>
 R (.tuple #[]) w68)) (
 XTA P p1 20 108 true w3 fun v31 w69 =>
 XExt P v31 1 w69 fun v32 w70 =>
 XExt P v31 0 w70 fun v33 w71 =>
 XC v32 (
 XAlloc P 108 w71 fun v5 w72 =>
 XStore P 108 v5 v33 w72 fun w73 =>
 XNil p0 fun q11 =>
 XFld P 96 q11 1 w73 fun v37 w74 =>
 XLoad P 3 v37 w74 fun v38 w75 =>
 XNil p0 fun q12 =>
 XFld P 96 q12 2 w75 fun v40 w76 =>
 XStore P 3 v40 v38 w76 fun w77 =>
 R (.tuple #[]) w77) (
 XTA P p1 20 106 true w71 fun v41 w78 =>
 XExt P v41 1 w78 fun v42 w79 =>
 XExt P v41 0 w79 fun v43 w80 =>
 XC v42 (
 XAlloc P 106 w80 fun v6 w81 =>
 XStore P 106 v6 v43 w81 fun w82 =>
 ∃ E2 FE2 : World → World → Prop, Pre E2 FE2 ∧
 ∃ d46_1 : Value, (∀ w83 : World, XNil p0 fun q13 =>
 q13 = d46_1 ∧ w83 = w83) ∧
 ∃ d47_1 : Value, (∀ w85 : World, XFld P 96 d46_1 2 w85 fun v47 w87 =>
 v47 = d47_1 ∧ w87 = w85) ∧
 ∃ d48_1 : Value, (∀ w88 : World, E2 w82.drew w88 → XLoad P 3 d47_1 w88 fun v48 w90 =>
 v48 = d48_1 ∧ FE2 w88 w90) ∧
 ∃ d49_1 : Value, (∀ w91 : World, XFld P 106 v6 0 w91 fun v49 w93 =>
 v49 = d49_1 ∧ w93 = w91) ∧
 ∃ d50_1 : Value, (∀ w94 : World, E2 w82.drew w94 → XLoad P 3 d49_1 w94 fun v50 w96 =>
 v50 = d50_1 ∧ FE2 w94 w96) ∧
 ∃ d51_1 : Value, (∀ w97 : World, XB P .max #[3, 3] 3 #[d50_1, (Value.int .i64 0)] w97 fun v51 w99 =>
 v51 = d51_1 ∧ w99 = w97) ∧
 ∃ d53_1 : Value, (∀ w100 : World, XNil p0 fun q14 =>
 q14 = d53_1 ∧ w100 = w100) ∧
 ∃ d54_1 : Value, (∀ w102 : World, XFld P 96 d53_1 1 w102 fun v54 w104 =>
 v54 = d54_1 ∧ w104 = w102) ∧
 ∃ d55_1 : Value, (∀ w105 : World, E2 w82.drew w105 → XLoad P 3 d54_1 w105 fun v55 w107 =>
 v55 = d55_1 ∧ FE2 w105 w107) ∧
 ∃ d57_1 : Value, (∀ w108 : World, XNil p0 fun q15 =>
 q15 = d57_1 ∧ w108 = w108) ∧
 ∃ d58_1 : Value, (∀ w110 : World, XFld P 96 d57_1 2 w110 fun v58 w112 =>
 v58 = d58_1 ∧ w112 = w110) ∧
 ∃ d59_1 : Value, (∀ w113 : World, E2 w82.drew w113 → XLoad P 3 d58_1 w113 fun v59 w115 =>
 v59 = d59_1 ∧ FE2 w113 w115) ∧
 ∃ d60_1 : Value, (∀ w116 : World, XBin P .sub 3 false false d55_1 d59_1 w116 fun v60 w118 =>
 v60 = d60_1 ∧ w118 = w116) ∧
 ∃ d61_1 : Value, (∀ w119 : World, XB P .min #[3, 3] 3 #[d51_1, d60_1] w119 fun v61 w121 =>
 v61 = d61_1 ∧ w121 = w119) ∧
 ∃ d62_1 : Value, (∀ w122 : World, XBin P .add 3 false false d48_1 d61_1 w122 fun v62 w124 =>
 v62 = d62_1 ∧ w124 = w122) ∧
 ∃ d63_1 : Value, (∀ w125 : World, XNil p0 fun q16 =>
 q16 = d63_1 ∧ w125 = w125) ∧
 ∃ d64_1 : Value, (∀ w127 : World, XFld P 96 d63_1 1 w127 fun v64 w129 =>
 v64 = d64_1 ∧ w129 = w127) ∧
 ∀ w130 : World, FE2 w82.drew w130 →
 XStore P 3 d64_1 d62_1 w130 fun w131 =>
 XNil p0 fun q17 =>
 XFld P 96 q17 1 w131 fun v68 w132 =>
 XLoad P 3 v68 w132 fun v69 w133 =>
 XNil p0 fun q18 =>
 XFld P 96 q18 2 w133 fun v71 w134 =>
 XStore P 3 v71 v69 w134 fun w135 =>
 ∃ E3 FE3 : World → World → Prop, Pre E3 FE3 ∧
 ∃ d74_1 : Value, (∀ w136 : World, XNil p0 fun q19 =>
 q19 = d74_1 ∧ w136 = w136) ∧
 ∃ d75_1 : Value, (∀ w138 : World, XFld P 96 d74_1 0 w138 fun v75 w140 =>
 v75 = d75_1 ∧ w140 = w138) ∧
 ∃ d76_1 : Value, (∀ w141 : World, E3 w135.drew w141 → XLoad P 94 d75_1 w141 fun v76 w143 =>
 v76 = d76_1 ∧ FE3 w141 w143) ∧
 ∃ d79_1 : Value, (∀ w144 : World, XNil p0 fun q20 =>
 q20 = d79_1 ∧ w144 = w144) ∧
 ∃ d80_1 : Value, (∀ w146 : World, XFld P 96 d79_1 1 w146 fun v80 w148 =>
 v80 = d80_1 ∧ w148 = w146) ∧
 ∃ d81_1 : Value, (∀ w149 : World, E3 w135.drew w149 → XLoad P 3 d80_1 w149 fun v81 w151 =>
 v81 = d81_1 ∧ FE3 w149 w151) ∧
 ∃ d82_1 : Value, (∀ w152 : World, E3 w135.drew w152 → XCall P 117 #[p0, d81_1] w152 fun v82 w154 =>
 v82 = d82_1 ∧ FE3 w152 w154) ∧
 ∃ d83_1 : Value, (∀ w155 : World, XSlice P 94 d76_1 none (some d82_1) none w155 fun v83 w157 =>
 v83 = d83_1 ∧ w157 = w155) ∧
 ∃ d84_1 : Value, (∀ w158 : World, XNil p0 fun q21 =>
 q21 = d84_1 ∧ w158 = w158) ∧
 ∃ d85_1 : Value, (∀ w160 : World, XFld P 96 d84_1 0 w160 fun v85 w162 =>
 v85 = d85_1 ∧ w162 = w160) ∧
 ∀ w163 : World, FE3 w135.drew w163 →
 XStore P 94 d85_1 d83_1 w163 fun w164 =>
 R (.tuple #[]) w164) (
 R (.tuple #[]) w80)))
noncomputable def C_tape_Tape_do : Code := (Tryz.f64.body).getD .skip
noncomputable def an_tape_Tape_do : An := (.seq none (.reg []) (.block none (.seq none (.reg []) (.cond (.seq none (.reg []) (.seq none (.draw [0, 0, 0, 0, 1, 0, 1, 2, 2, 2, 2, 0, 0, 2]) (.reg []))) (.seq none (.reg []) (.cond (.seq none (.reg []) (.reg [])) (.seq none (.reg []) (.cond (.seq none (.reg []) (.seq none (.draw [0, 0, 0, 0, 1, 0, 1, 0, 0, 0, 0, 1, 0, 0, 0, 1, 0, 0, 0, 0, 0, 2]) (.seq none (.reg []) (.draw [0, 0, 0, 0, 1, 0, 0, 0, 0, 1, 1, 0, 0, 0, 2])))) .leaf))))))))
theorem S_tape_Tape_do_eq (P : Program) (p0 p1 : Value) (w : World) (R : Value → World → Prop) : WPf P C_tape_Tape_do Tryz.f64.results.toList an_tape_Tape_do #[p0, p1] w R = S_tape_Tape_do P p0 p1 w R := by kernel_rfl
theorem ok_tape_Tape_do : okC Tryz.f64.ntmps C_tape_Tape_do an_tape_Tape_do = true := by kernel_rfl
theorem call_tape_Tape_do {p0 p1 w R} (h : S_tape_Tape_do Tryz.prog p0 p1 w R) : Ret Tryz.prog 64 #[p0, p1] w R :=
  Ret_of_WPf mixed Tryz.func64 (by kernel_rfl) (Nat.le_of_ble_eq_true (by kernel_rfl)) ok_tape_Tape_do ((S_tape_Tape_do_eq ..).symm ▸ h)

/-- (*joinery/tape.Tape).end -/
def S_tape_Tape_end (P : Program) (p0 p1 : Value) (w : World) (R : Value → World → Prop) : Prop :=
 ∃ (I1 : Value → Value → World → Prop) (m1 : Value → Value → World → Nat), I1 p1 (Value.int .i64 0) w ∧ ∀ (_jk1 : Env) (u1_lines u5_at : Value) (w1 : World), I1 u1_lines u5_at w1 →
 XBin P .gtr 3 false true u1_lines (Value.int .i64 0) w1 fun v7 w2 =>
 XC v7 (
 XNil p0 fun q1 =>
 XFld P 96 q1 0 w2 fun v13 w3 =>
 XLoad P 94 v13 w3 fun v14 w4 =>
 XSlice P 94 v14 (some u5_at) none none w4 fun v16 w5 =>
 XCall P 67 #[v16, (Value.int .i32 10)] w5 fun v17 w6 =>
 XBin P .add 3 false true v17 (Value.int .i64 1) w6 fun v18 w7 =>
 XBin P .add 3 false false u5_at v18 w7 fun v19 w8 =>
 XBin P .sub 3 false true u1_lines (Value.int .i64 1) w8 fun v9 w9 =>
 I1 v9 v19 w9 ∧ m1 v9 v19 w9 < m1 u1_lines u5_at w1) (
 R u5_at w2)
noncomputable def C_tape_Tape_end : Code := (Tryz.f117.body).getD .skip
noncomputable def an_tape_Tape_end : An := (.seq none (.reg []) (.seq none (.reg []) (.seq none (.block none (.loop [1, 5] (.seq none (.seq none (.reg []) (.cond .leaf .leaf)) (.seq none (.block none (.reg [])) (.reg []))))) (.seq none (.reg []) .leaf))))
theorem S_tape_Tape_end_eq (P : Program) (p0 p1 : Value) (w : World) (R : Value → World → Prop) : WPf P C_tape_Tape_end Tryz.f117.results.toList an_tape_Tape_end #[p0, p1] w R = S_tape_Tape_end P p0 p1 w R := by kernel_rfl
theorem ok_tape_Tape_end : okC Tryz.f117.ntmps C_tape_Tape_end an_tape_Tape_end = true := by kernel_rfl
theorem call_tape_Tape_end {p0 p1 w R} (h : S_tape_Tape_end Tryz.prog p0 p1 w R) : Ret Tryz.prog 117 #[p0, p1] w R :=
  Ret_of_WPf mixed Tryz.func117 (by kernel_rfl) (Nat.le_of_ble_eq_true (by kernel_rfl)) ok_tape_Tape_end ((S_tape_Tape_end_eq ..).symm ▸ h)

/-- (*joinery/tape.Tape).Write -/
def S_tape_Tape_Write (P : Program) (p0 p1 : Value) (w : World) (R : Value → World → Prop) : Prop :=
 XBox P 31 p1 w fun v3 w1 =>
 XLoad P 31 v3 w1 fun v5 w2 =>
 XCall P 17 #[v5] w2 fun v6 w3 =>
 XBuild P 99 #[(0, v6)] w3 fun v7 w4 =>
 XMkI P 99 v7 w4 fun v8 w5 =>
 XCall P 64 #[p0, v8] w5 fun v9 w6 =>
 R (.tuple #[]) w6
noncomputable def C_tape_Tape_Write : Code := (Tryz.f27.body).getD .skip
noncomputable def an_tape_Tape_Write : An := (.seq none (.reg []) (.reg []))
theorem S_tape_Tape_Write_eq (P : Program) (p0 p1 : Value) (w : World) (R : Value → World → Prop) : WPf P C_tape_Tape_Write Tryz.f27.results.toList an_tape_Tape_Write #[p0, p1] w R = S_tape_Tape_Write P p0 p1 w R := by kernel_rfl
theorem ok_tape_Tape_Write : okC Tryz.f27.ntmps C_tape_Tape_Write an_tape_Tape_Write = true := by kernel_rfl
theorem call_tape_Tape_Write {p0 p1 w R} (h : S_tape_Tape_Write Tryz.prog p0 p1 w R) : Ret Tryz.prog 27 #[p0, p1] w R :=
  Ret_of_WPf mixed Tryz.func27 (by kernel_rfl) (Nat.le_of_ble_eq_true (by kernel_rfl)) ok_tape_Tape_Write ((S_tape_Tape_Write_eq ..).symm ▸ h)

/-- (*joinery/tape.Tape).Sync -/
def S_tape_Tape_Sync (P : Program) (p0 : Value) (w : World) (R : Value → World → Prop) : Prop :=
 XBuild P 108 #[] w fun v3 w1 =>
 XMkI P 108 v3 w1 fun v4 w2 =>
 XCall P 64 #[p0, v4] w2 fun v5 w3 =>
 R (.tuple #[]) w3
noncomputable def C_tape_Tape_Sync : Code := (Tryz.f35.body).getD .skip
noncomputable def an_tape_Tape_Sync : An := (.reg [])
theorem S_tape_Tape_Sync_eq (P : Program) (p0 : Value) (w : World) (R : Value → World → Prop) : WPf P C_tape_Tape_Sync Tryz.f35.results.toList an_tape_Tape_Sync #[p0] w R = S_tape_Tape_Sync P p0 w R := by kernel_rfl
theorem ok_tape_Tape_Sync : okC Tryz.f35.ntmps C_tape_Tape_Sync an_tape_Tape_Sync = true := by kernel_rfl
theorem call_tape_Tape_Sync {p0 w R} (h : S_tape_Tape_Sync Tryz.prog p0 w R) : Ret Tryz.prog 35 #[p0] w R :=
  Ret_of_WPf mixed Tryz.func35 (by kernel_rfl) (Nat.le_of_ble_eq_true (by kernel_rfl)) ok_tape_Tape_Sync ((S_tape_Tape_Sync_eq ..).symm ▸ h)

/-- (*joinery/tape.Tape).Crash -/
def S_tape_Tape_Crash (P : Program) (p0 p1 : Value) (w : World) (R : Value → World → Prop) : Prop :=
 XBuild P 106 #[(0, p1)] w fun v6 w1 =>
 XMkI P 106 v6 w1 fun v7 w2 =>
 XCall P 64 #[p0, v7] w2 fun v8 w3 =>
 R (.tuple #[]) w3
noncomputable def C_tape_Tape_Crash : Code := (Tryz.f32.body).getD .skip
noncomputable def an_tape_Tape_Crash : An := (.reg [])
theorem S_tape_Tape_Crash_eq (P : Program) (p0 p1 : Value) (w : World) (R : Value → World → Prop) : WPf P C_tape_Tape_Crash Tryz.f32.results.toList an_tape_Tape_Crash #[p0, p1] w R = S_tape_Tape_Crash P p0 p1 w R := by kernel_rfl
theorem ok_tape_Tape_Crash : okC Tryz.f32.ntmps C_tape_Tape_Crash an_tape_Tape_Crash = true := by kernel_rfl
theorem call_tape_Tape_Crash {p0 p1 w R} (h : S_tape_Tape_Crash Tryz.prog p0 p1 w R) : Ret Tryz.prog 32 #[p0, p1] w R :=
  Ret_of_WPf mixed Tryz.func32 (by kernel_rfl) (Nat.le_of_ble_eq_true (by kernel_rfl)) ok_tape_Tape_Crash ((S_tape_Tape_Crash_eq ..).symm ▸ h)

/-- (*joinery/tape.Tape).Lines -/
def S_tape_Tape_Lines (P : Program) (p0 : Value) (w : World) (R : Value → World → Prop) : Prop :=
 XNil p0 fun q1 =>
 XFld P 96 q1 1 w fun v8 w1 =>
 XLoad P 3 v8 w1 fun v9 w2 =>
 XMkS P 27 (Value.int .i64 0) v9 w2 fun v10 w3 =>
 XNil p0 fun q2 =>
 XFld P 96 q2 0 w3 fun v13 w4 =>
 XLoad P 94 v13 w4 fun v14 w5 =>
 ∃ (I1 : Value → Value → World → Prop) (m1 : Value → Value → World → Nat), I1 v10 v14 w5 ∧ ∀ (_jk1 : Env) (u3_out u4_rest : Value) (w6 : World), I1 u3_out u4_rest w6 →
 XB P .len #[94] 3 #[u4_rest] w6 fun v16 w7 =>
 XBin P .gtr 3 false true v16 (Value.int .i64 0) w7 fun v17 w8 =>
 XC v17 (
 XCall P 67 #[u4_rest, (Value.int .i32 10)] w8 fun v19 w9 =>
 XSlice P 94 u4_rest none (some v19) none w9 fun v23 w10 =>
 XConv P 94 9 v23 w10 fun v24 w11 =>
 XBuildS P 27 1 #[(0, v24)] w11 fun v25 w12 =>
 XB P .append #[27, 27] 27 #[u3_out, v25] w12 fun v26 w13 =>
 XBin P .add 3 false true v19 (Value.int .i64 1) w13 fun v29 w14 =>
 XSlice P 94 u4_rest (some v29) none none w14 fun v30 w15 =>
 I1 v26 v30 w15 ∧ m1 v26 v30 w15 < m1 u3_out u4_rest w6) (
 R u3_out w8)
noncomputable def C_tape_Tape_Lines : Code := (Tryz.f29.body).getD .skip
noncomputable def an_tape_Tape_Lines : An := (.seq none (.reg []) (.seq none (.reg []) (.seq none (.seq none (.reg []) (.block none (.loop [3, 4] (.seq none (.seq none (.reg []) (.cond .leaf .leaf)) (.block none (.seq none (.reg []) (.seq none (.reg []) (.reg [])))))))) (.seq none (.reg []) .leaf))))
theorem S_tape_Tape_Lines_eq (P : Program) (p0 : Value) (w : World) (R : Value → World → Prop) : WPf P C_tape_Tape_Lines Tryz.f29.results.toList an_tape_Tape_Lines #[p0] w R = S_tape_Tape_Lines P p0 w R := by kernel_rfl
theorem ok_tape_Tape_Lines : okC Tryz.f29.ntmps C_tape_Tape_Lines an_tape_Tape_Lines = true := by kernel_rfl
theorem call_tape_Tape_Lines {p0 w R} (h : S_tape_Tape_Lines Tryz.prog p0 w R) : Ret Tryz.prog 29 #[p0] w R :=
  Ret_of_WPf mixed Tryz.func29 (by kernel_rfl) (Nat.le_of_ble_eq_true (by kernel_rfl)) ok_tape_Tape_Lines ((S_tape_Tape_Lines_eq ..).symm ▸ h)

/-- joinery/tape.record -/
def S_tape_record (P : Program) (p0 : Value) (w : World) (R : Value → World → Prop) : Prop :=
 XCall P 19 #[p0] w fun v7 w1 =>
 XExt P v7 0 w1 fun v8 w2 =>
 XExt P v7 1 w2 fun v9 w3 =>
 XAlloc P 31 w3 fun v3 w4 =>
 XStore P 31 v3 v8 w4 fun w5 =>
 XBin P .neq 35 false true v9 (Value.int .i64 0) w5 fun v11 w6 =>
 XC v11 (
 XMkI P 35 v9 w6 fun v13 w7 =>
 R v13 w7) (
 XLoad P 31 v3 w6 fun v14 w8 =>
 XMkI P 31 v14 w8 fun v15 w9 =>
 R v15 w9)
noncomputable def C_tape_record : Code := (Tryz.f65.body).getD .skip
noncomputable def an_tape_record : An := (.seq none (.reg []) (.seq none (.reg []) (.seq none (.seq none (.reg []) (.cond (.seq none (.reg []) .leaf) .leaf)) (.seq none (.reg []) .leaf))))
theorem S_tape_record_eq (P : Program) (p0 : Value) (w : World) (R : Value → World → Prop) : WPf P C_tape_record Tryz.f65.results.toList an_tape_record #[p0] w R = S_tape_record P p0 w R := by kernel_rfl
theorem ok_tape_record : okC Tryz.f65.ntmps C_tape_record an_tape_record = true := by kernel_rfl
theorem call_tape_record {p0 w R} (h : S_tape_record Tryz.prog p0 w R) : Ret Tryz.prog 65 #[p0] w R :=
  Ret_of_WPf mixed Tryz.func65 (by kernel_rfl) (Nat.le_of_ble_eq_true (by kernel_rfl)) ok_tape_record ((S_tape_record_eq ..).symm ▸ h)

/-- (*joinery/tape.Tape).All -/
def S_tape_Tape_All (P : Program) (p0 : Value) (w : World) (R : Value → World → Prop) : Prop :=
 XNil p0 fun q1 =>
 XFld P 96 q1 1 w fun v10 w1 =>
 XLoad P 3 v10 w1 fun v11 w2 =>
 XMkS P 54 (Value.int .i64 0) v11 w2 fun v12 w3 =>
 XCall P 29 #[p0] w3 fun v14 w4 =>
 XB P .len #[27] 3 #[v14] w4 fun v15 w5 =>
 ∃ (I1 : Value → Value → World → Prop) (m1 : Value → Value → World → Nat), I1 v12 (Value.int .i64 0) w5 ∧ ∀ (_jk1 : Env) (u3_out u16 : Value) (w6 : World), I1 u3_out u16 w6 →
 XBin P .lss 3 false false u16 v15 w6 fun v17 w7 =>
 XC v17 (
 XIdx P 27 v14 u16 w7 fun v18 w8 =>
 XLoad P 9 v18 w8 fun v19 w9 =>
 XCall P 65 #[v19] w9 fun v22 w10 =>
 XTA P v22 20 31 true w10 fun v23 w11 =>
 XExt P v23 0 w11 fun v24 w12 =>
 XExt P v23 1 w12 fun v25 w13 =>
 XAlloc P 31 w13 fun v6 w14 =>
 XStore P 31 v6 v24 w14 fun w15 =>
 XC v25 (
 XLoad P 31 v6 w15 fun v28 w16 =>
 XBuildS P 54 1 #[(0, v28)] w16 fun v29 w17 =>
 XB P .append #[54, 54] 54 #[u3_out, v29] w17 fun v30 w18 =>
 XBin P .add 3 false true u16 (Value.int .i64 1) w18 fun v31 w19 =>
 I1 v30 v31 w19 ∧ m1 v30 v31 w19 < m1 u3_out u16 w6) (
 XBin P .add 3 false true u16 (Value.int .i64 1) w15 fun v31_2 w20 =>
 I1 u3_out v31_2 w20 ∧ m1 u3_out v31_2 w20 < m1 u3_out u16 w6)) (
 XCall P 66 #[u3_out] w7 fun v33 w21 =>
 R v33 w21)
noncomputable def C_tape_Tape_All : Code := (Tryz.f28.body).getD .skip
noncomputable def an_tape_Tape_All : An := (.seq none (.reg []) (.seq none (.reg []) (.seq none (.seq none (.reg []) (.block none (.loop [3, 16] (.seq none (.reg []) (.seq none (.cond .leaf .leaf) (.seq none (.block none (.seq none (.reg []) (.seq none (.reg []) (.seq none (.reg []) (.cond (.reg []) .leaf))))) (.reg []))))))) (.seq none (.reg []) .leaf))))
theorem S_tape_Tape_All_eq (P : Program) (p0 : Value) (w : World) (R : Value → World → Prop) : WPf P C_tape_Tape_All Tryz.f28.results.toList an_tape_Tape_All #[p0] w R = S_tape_Tape_All P p0 w R := by kernel_rfl
theorem ok_tape_Tape_All : okC Tryz.f28.ntmps C_tape_Tape_All an_tape_Tape_All = true := by kernel_rfl
theorem call_tape_Tape_All {p0 w R} (h : S_tape_Tape_All Tryz.prog p0 w R) : Ret Tryz.prog 28 #[p0] w R :=
  Ret_of_WPf mixed Tryz.func28 (by kernel_rfl) (Nat.le_of_ble_eq_true (by kernel_rfl)) ok_tape_Tape_All ((S_tape_Tape_All_eq ..).symm ▸ h)

/-- (*joinery/tape.Tape).Lasting -/
def S_tape_Tape_Lasting (P : Program) (p0 : Value) (w : World) (R : Value → World → Prop) : Prop :=
 XNil p0 fun q1 =>
 XFld P 96 q1 2 w fun v5 w1 =>
 XLoad P 3 v5 w1 fun v6 w2 =>
 R v6 w2
noncomputable def C_tape_Tape_Lasting : Code := (Tryz.f33.body).getD .skip
noncomputable def an_tape_Tape_Lasting : An := (.seq none (.reg []) (.seq none (.reg []) .leaf))
theorem S_tape_Tape_Lasting_eq (P : Program) (p0 : Value) (w : World) (R : Value → World → Prop) : WPf P C_tape_Tape_Lasting Tryz.f33.results.toList an_tape_Tape_Lasting #[p0] w R = S_tape_Tape_Lasting P p0 w R := by kernel_rfl
theorem ok_tape_Tape_Lasting : okC Tryz.f33.ntmps C_tape_Tape_Lasting an_tape_Tape_Lasting = true := by kernel_rfl
theorem call_tape_Tape_Lasting {p0 w R} (h : S_tape_Tape_Lasting Tryz.prog p0 w R) : Ret Tryz.prog 33 #[p0] w R :=
  Ret_of_WPf mixed Tryz.func33 (by kernel_rfl) (Nat.le_of_ble_eq_true (by kernel_rfl)) ok_tape_Tape_Lasting ((S_tape_Tape_Lasting_eq ..).symm ▸ h)

/-- slices.Clip[[]joinery/api.Record,joinery/api.Record] -/
def S_slices_Clip_api_Record_api_Record (P : Program) (p0 : Value) (w : World) (R : Value → World → Prop) : Prop :=
 XB P .len #[54] 3 #[p0] w fun v5 w1 =>
 XB P .len #[54] 3 #[p0] w1 fun v7 w2 =>
 XSlice P 54 p0 none (some v5) (some v7) w2 fun v8 w3 =>
 R v8 w3
noncomputable def C_slices_Clip_api_Record_api_Record : Code := (Tryz.f66.body).getD .skip
noncomputable def an_slices_Clip_api_Record_api_Record : An := (.seq none (.reg []) (.seq none (.reg []) .leaf))
theorem S_slices_Clip_api_Record_api_Record_eq (P : Program) (p0 : Value) (w : World) (R : Value → World → Prop) : WPf P C_slices_Clip_api_Record_api_Record Tryz.f66.results.toList an_slices_Clip_api_Record_api_Record #[p0] w R = S_slices_Clip_api_Record_api_Record P p0 w R := by kernel_rfl
theorem ok_slices_Clip_api_Record_api_Record : okC Tryz.f66.ntmps C_slices_Clip_api_Record_api_Record an_slices_Clip_api_Record_api_Record = true := by kernel_rfl
theorem call_slices_Clip_api_Record_api_Record {p0 w R} (h : S_slices_Clip_api_Record_api_Record Tryz.prog p0 w R) : Ret Tryz.prog 66 #[p0] w R :=
  Ret_of_WPf mixed Tryz.func66 (by kernel_rfl) (Nat.le_of_ble_eq_true (by kernel_rfl)) ok_slices_Clip_api_Record_api_Record ((S_slices_Clip_api_Record_api_Record_eq ..).symm ▸ h)

/-- slices.Index[[]rune,rune] -/
def S_slices_Index_rune_rune (P : Program) (p0 p1 : Value) (w : World) (R : Value → World → Prop) : Prop :=
 XB P .len #[94] 3 #[p0] w fun v7 w1 =>
 ∃ (I1 : Value → World → Prop) (m1 : Value → World → Nat), I1 (Value.int .i64 0) w1 ∧ ∀ (_jk1 : Env) (u8 : Value) (w2 : World), I1 u8 w2 →
 XBin P .lss 3 false false u8 v7 w2 fun v9 w3 =>
 XC v9 (
 XIdx P 94 p0 u8 w3 fun v14 w4 =>
 XLoad P 21 v14 w4 fun v15 w5 =>
 XBin P .eql 21 false false p1 v15 w5 fun v16 w6 =>
 XC v16 (
 R u8 w6) (
 XBin P .add 3 false true u8 (Value.int .i64 1) w6 fun v18 w7 =>
 I1 v18 w7 ∧ m1 v18 w7 < m1 u8 w2)) (
 R (Value.int .i64 (-1)) w3)
noncomputable def C_slices_Index_rune_rune : Code := (Tryz.f67.body).getD .skip
noncomputable def an_slices_Index_rune_rune : An := (.seq none (.reg []) (.seq none (.seq none (.reg []) (.block none (.loop [8] (.seq none (.reg []) (.seq none (.cond .leaf .leaf) (.seq none (.block none (.seq none (.reg []) (.seq none (.reg []) (.cond (.seq none (.reg []) .leaf) .leaf)))) (.reg []))))))) (.seq none (.reg []) .leaf)))
theorem S_slices_Index_rune_rune_eq (P : Program) (p0 p1 : Value) (w : World) (R : Value → World → Prop) : WPf P C_slices_Index_rune_rune Tryz.f67.results.toList an_slices_Index_rune_rune #[p0, p1] w R = S_slices_Index_rune_rune P p0 p1 w R := by kernel_rfl
theorem ok_slices_Index_rune_rune : okC Tryz.f67.ntmps C_slices_Index_rune_rune an_slices_Index_rune_rune = true := by kernel_rfl
theorem call_slices_Index_rune_rune {p0 p1 w R} (h : S_slices_Index_rune_rune Tryz.prog p0 p1 w R) : Ret Tryz.prog 67 #[p0, p1] w R :=
  Ret_of_WPf mixed Tryz.func67 (by kernel_rfl) (Nat.le_of_ble_eq_true (by kernel_rfl)) ok_slices_Index_rune_rune ((S_slices_Index_rune_rune_eq ..).symm ▸ h)

/-- (*joinery/joineryref9.Tape).Write -/
def S_joineryref9_Tape_Write (P : Program) (p0 p1 : Value) (w : World) (R : Value → World → Prop) : Prop :=
 XBox P 31 p1 w fun v3 w1 =>
 ∃ E1 FE1 : World → World → Prop, Pre E1 FE1 ∧
 ∃ d6_1 : Value, (∀ w2 : World, XNil p0 fun q1 =>
 q1 = d6_1 ∧ w2 = w2) ∧
 ∃ d7_1 : Value, (∀ w4 : World, XFld P 69 d6_1 0 w4 fun v7 w6 =>
 v7 = d7_1 ∧ w6 = w4) ∧
 ∃ d8_1 : Value, (∀ w7 : World, E1 w1.drew w7 → XLoad P 27 d7_1 w7 fun v8 w9 =>
 v8 = d8_1 ∧ FE1 w7 w9) ∧
 ∃ d9_1 : Value, (∀ w10 : World, E1 w1.drew w10 → XLoad P 31 v3 w10 fun v9 w12 =>
 v9 = d9_1 ∧ FE1 w10 w12) ∧
 ∃ d10_1 : Value, (∀ w13 : World, E1 w1.drew w13 → XCall P 30 #[d9_1] w13 fun v10 w15 =>
 v10 = d10_1 ∧ FE1 w13 w15) ∧
 ∀ w16 : World, FE1 w1.drew w16 →
 XBuildS P 27 1 #[(0, d10_1)] w16 fun v11 w17 =>
 E1 w16 w17 ∧
 ∀ w18 : World, FE1 w17 w18 →
 XB P .append #[27, 27] 27 #[d8_1, v11] w18 fun v12 w19 =>
 ∃ d13_1 : Value, (∀ w20 : World, XNil p0 fun q2 =>
 q2 = d13_1 ∧ w20 = w20) ∧
 ∃ d14_1 : Value, (∀ w22 : World, XFld P 69 d13_1 0 w22 fun v14 w24 =>
 v14 = d14_1 ∧ w24 = w22) ∧
 XStore P 27 d14_1 v12 w19 fun w25 =>
 R (.tuple #[]) w25
noncomputable def C_joineryref9_Tape_Write : Code := (Tryz.f38.body).getD .skip
noncomputable def an_joineryref9_Tape_Write : An := (.seq none (.reg []) (.draw [0, 0, 0, 0, 1, 1, 1, 2, 2, 0, 0, 2]))
theorem S_joineryref9_Tape_Write_eq (P : Program) (p0 p1 : Value) (w : World) (R : Value → World → Prop) : WPf P C_joineryref9_Tape_Write Tryz.f38.results.toList an_joineryref9_Tape_Write #[p0, p1] w R = S_joineryref9_Tape_Write P p0 p1 w R := by kernel_rfl
theorem ok_joineryref9_Tape_Write : okC Tryz.f38.ntmps C_joineryref9_Tape_Write an_joineryref9_Tape_Write = true := by kernel_rfl
theorem call_joineryref9_Tape_Write {p0 p1 w R} (h : S_joineryref9_Tape_Write Tryz.prog p0 p1 w R) : Ret Tryz.prog 38 #[p0, p1] w R :=
  Ret_of_WPf mixed Tryz.func38 (by kernel_rfl) (Nat.le_of_ble_eq_true (by kernel_rfl)) ok_joineryref9_Tape_Write ((S_joineryref9_Tape_Write_eq ..).symm ▸ h)

/-- (*joinery/joineryref9.Tape).Sync -/
def S_joineryref9_Tape_Sync (P : Program) (p0 : Value) (w : World) (R : Value → World → Prop) : Prop :=
 XNil p0 fun q1 =>
 XFld P 69 q1 0 w fun v5 w1 =>
 XLoad P 27 v5 w1 fun v6 w2 =>
 XB P .len #[27] 3 #[v6] w2 fun v7 w3 =>
 XNil p0 fun q2 =>
 XFld P 69 q2 1 w3 fun v9 w4 =>
 XStore P 3 v9 v7 w4 fun w5 =>
 R (.tuple #[]) w5
noncomputable def C_joineryref9_Tape_Sync : Code := (Tryz.f36.body).getD .skip
noncomputable def an_joineryref9_Tape_Sync : An := (.reg [])
theorem S_joineryref9_Tape_Sync_eq (P : Program) (p0 : Value) (w : World) (R : Value → World → Prop) : WPf P C_joineryref9_Tape_Sync Tryz.f36.results.toList an_joineryref9_Tape_Sync #[p0] w R = S_joineryref9_Tape_Sync P p0 w R := by kernel_rfl
theorem ok_joineryref9_Tape_Sync : okC Tryz.f36.ntmps C_joineryref9_Tape_Sync an_joineryref9_Tape_Sync = true := by kernel_rfl
theorem call_joineryref9_Tape_Sync {p0 w R} (h : S_joineryref9_Tape_Sync Tryz.prog p0 w R) : Ret Tryz.prog 36 #[p0] w R :=
  Ret_of_WPf mixed Tryz.func36 (by kernel_rfl) (Nat.le_of_ble_eq_true (by kernel_rfl)) ok_joineryref9_Tape_Sync ((S_joineryref9_Tape_Sync_eq ..).symm ▸ h)

/-- (*joinery/joineryref9.Tape).Crash -/
def S_joineryref9_Tape_Crash (P : Program) (p0 p1 : Value) (w : World) (R : Value → World → Prop) : Prop :=
 ∃ E1 FE1 : World → World → Prop, Pre E1 FE1 ∧
 ∃ d7_1 : Value, (∀ w1 : World, XNil p0 fun q1 =>
 q1 = d7_1 ∧ w1 = w1) ∧
 ∃ d8_1 : Value, (∀ w3 : World, XFld P 69 d7_1 0 w3 fun v8 w5 =>
 v8 = d8_1 ∧ w5 = w3) ∧
 ∃ d9_1 : Value, (∀ w6 : World, E1 w.drew w6 → XLoad P 27 d8_1 w6 fun v9 w8 =>
 v9 = d9_1 ∧ FE1 w6 w8) ∧
 ∃ d10_1 : Value, (∀ w9 : World, XB P .len #[27] 3 #[d9_1] w9 fun v10 w11 =>
 v10 = d10_1 ∧ w11 = w9) ∧
 ∃ d12_1 : Value, (∀ w12 : World, XNil p0 fun q2 =>
 q2 = d12_1 ∧ w12 = w12) ∧
 ∃ d13_1 : Value, (∀ w14 : World, XFld P 69 d12_1 1 w14 fun v13 w16 =>
 v13 = d13_1 ∧ w16 = w14) ∧
 ∃ d14_1 : Value, (∀ w17 : World, E1 w.drew w17 → XLoad P 3 d13_1 w17 fun v14 w19 =>
 v14 = d14_1 ∧ FE1 w17 w19) ∧
 ∃ d15_1 : Value, (∀ w20 : World, XBin P .sub 3 false false d10_1 d14_1 w20 fun v15 w22 =>
 v15 = d15_1 ∧ w22 = w20) ∧
 ∃ d16_1 : Value, (∀ w23 : World, XB P .min #[3, 3] 3 #[p1, d15_1] w23 fun v16 w25 =>
 v16 = d16_1 ∧ w25 = w23) ∧
 ∃ d17_1 : Value, (∀ w26 : World, XB P .max #[3, 3] 3 #[(Value.int .i64 0), d16_1] w26 fun v17 w28 =>
 v17 = d17_1 ∧ w28 = w26) ∧
 ∀ w29 : World, FE1 w.drew w29 →
 ∃ E2 FE2 : World → World → Prop, Pre E2 FE2 ∧
 ∃ d20_1 : Value, (∀ w30 : World, XNil p0 fun q3 =>
 q3 = d20_1 ∧ w30 = w30) ∧
 ∃ d21_1 : Value, (∀ w32 : World, XFld P 69 d20_1 0 w32 fun v21 w34 =>
 v21 = d21_1 ∧ w34 = w32) ∧
 ∃ d22_1 : Value, (∀ w35 : World, E2 w29.drew w35 → XLoad P 27 d21_1 w35 fun v22 w37 =>
 v22 = d22_1 ∧ FE2 w35 w37) ∧
 ∃ d24_1 : Value, (∀ w38 : World, XNil p0 fun q4 =>
 q4 = d24_1 ∧ w38 = w38) ∧
 ∃ d25_1 : Value, (∀ w40 : World, XFld P 69 d24_1 1 w40 fun v25 w42 =>
 v25 = d25_1 ∧ w42 = w40) ∧
 ∃ d26_1 : Value, (∀ w43 : World, E2 w29.drew w43 → XLoad P 3 d25_1 w43 fun v26 w45 =>
 v26 = d26_1 ∧ FE2 w43 w45) ∧
 ∃ d28_1 : Value, (∀ w46 : World, XBin P .add 3 false false d26_1 d17_1 w46 fun v28 w48 =>
 v28 = d28_1 ∧ w48 = w46) ∧
 ∃ d29_1 : Value, (∀ w49 : World, XSlice P 27 d22_1 none (some d28_1) none w49 fun v29 w51 =>
 v29 = d29_1 ∧ w51 = w49) ∧
 ∃ d30_1 : Value, (∀ w52 : World, XNil p0 fun q5 =>
 q5 = d30_1 ∧ w52 = w52) ∧
 ∃ d31_1 : Value, (∀ w54 : World, XFld P 69 d30_1 0 w54 fun v31 w56 =>
 v31 = d31_1 ∧ w56 = w54) ∧
 ∀ w57 : World, FE2 w29.drew w57 →
 XStore P 27 d31_1 d29_1 w57 fun w58 =>
 XNil p0 fun q6 =>
 XFld P 69 q6 0 w58 fun v35 w59 =>
 XLoad P 27 v35 w59 fun v36 w60 =>
 XB P .len #[27] 3 #[v36] w60 fun v37 w61 =>
 XNil p0 fun q7 =>
 XFld P 69 q7 1 w61 fun v39 w62 =>
 XStore P 3 v39 v37 w62 fun w63 =>
 R (.tuple #[]) w63
noncomputable def C_joineryref9_Tape_Crash : Code := (Tryz.f37.body).getD .skip
noncomputable def an_joineryref9_Tape_Crash : An := (.seq none (.draw [0, 0, 0, 0, 1, 0, 0, 0, 0, 1, 0, 0, 0, 2]) (.seq none (.draw [0, 0, 0, 0, 1, 0, 0, 0, 1, 0, 0, 0, 0, 0, 2]) (.reg [])))
theorem S_joineryref9_Tape_Crash_eq (P : Program) (p0 p1 : Value) (w : World) (R : Value → World → Prop) : WPf P C_joineryref9_Tape_Crash Tryz.f37.results.toList an_joineryref9_Tape_Crash #[p0, p1] w R = S_joineryref9_Tape_Crash P p0 p1 w R := by kernel_rfl
theorem ok_joineryref9_Tape_Crash : okC Tryz.f37.ntmps C_joineryref9_Tape_Crash an_joineryref9_Tape_Crash = true := by kernel_rfl
theorem call_joineryref9_Tape_Crash {p0 p1 w R} (h : S_joineryref9_Tape_Crash Tryz.prog p0 p1 w R) : Ret Tryz.prog 37 #[p0, p1] w R :=
  Ret_of_WPf mixed Tryz.func37 (by kernel_rfl) (Nat.le_of_ble_eq_true (by kernel_rfl)) ok_joineryref9_Tape_Crash ((S_joineryref9_Tape_Crash_eq ..).symm ▸ h)

/-- (*joinery/joineryref9.Tape).All -/
def S_joineryref9_Tape_All (P : Program) (p0 : Value) (w : World) (R : Value → World → Prop) : Prop :=
 ∃ (I1 : Value → Value → World → Prop) (m1 : Value → Value → World → Nat), I1 (Value.slice none 0 0) (Value.int .i64 0) w ∧ ∀ (_jk1 : Env) (u3_out u4_i : Value) (w1 : World), I1 u3_out u4_i w1 →
 XNil p0 fun q1 =>
 XFld P 69 q1 0 w1 fun v10 w2 =>
 XLoad P 27 v10 w2 fun v11 w3 =>
 XB P .len #[27] 3 #[v11] w3 fun v12 w4 =>
 XBin P .lss 3 false false u4_i v12 w4 fun v13 w5 =>
 XC v13 (
 XNil p0 fun q2 =>
 XFld P 69 q2 0 w5 fun v19 w6 =>
 XLoad P 27 v19 w6 fun v20 w7 =>
 XIdx P 27 v20 u4_i w7 fun v22 w8 =>
 XLoad P 9 v22 w8 fun v23 w9 =>
 XCall P 21 #[v23] w9 fun v24 w10 =>
 XExt P v24 0 w10 fun v25 w11 =>
 XExt P v24 1 w11 fun v26 w12 =>
 XAlloc P 31 w12 fun v5 w13 =>
 XStore P 31 v5 v25 w13 fun w14 =>
 XLoad P 31 v5 w14 fun v28 w15 =>
 XBuildS P 54 1 #[(0, v28)] w15 fun v29 w16 =>
 XB P .append #[54, 54] 54 #[u3_out, v29] w16 fun v30 w17 =>
 XBin P .add 3 false true u4_i (Value.int .i64 1) w17 fun v15 w18 =>
 I1 v30 v15 w18 ∧ m1 v30 v15 w18 < m1 u3_out u4_i w1) (
 R u3_out w5)
noncomputable def C_joineryref9_Tape_All : Code := (Tryz.f76.body).getD .skip
noncomputable def an_joineryref9_Tape_All : An := (.seq none (.reg []) (.seq none (.reg []) (.seq none (.seq none (.reg []) (.block none (.loop [3, 4] (.seq none (.seq none (.reg []) (.cond .leaf .leaf)) (.seq none (.block none (.seq none (.reg []) (.reg []))) (.reg [])))))) (.seq none (.reg []) .leaf))))
theorem S_joineryref9_Tape_All_eq (P : Program) (p0 : Value) (w : World) (R : Value → World → Prop) : WPf P C_joineryref9_Tape_All Tryz.f76.results.toList an_joineryref9_Tape_All #[p0] w R = S_joineryref9_Tape_All P p0 w R := by kernel_rfl
theorem ok_joineryref9_Tape_All : okC Tryz.f76.ntmps C_joineryref9_Tape_All an_joineryref9_Tape_All = true := by kernel_rfl
theorem call_joineryref9_Tape_All {p0 w R} (h : S_joineryref9_Tape_All Tryz.prog p0 w R) : Ret Tryz.prog 76 #[p0] w R :=
  Ret_of_WPf mixed Tryz.func76 (by kernel_rfl) (Nat.le_of_ble_eq_true (by kernel_rfl)) ok_joineryref9_Tape_All ((S_joineryref9_Tape_All_eq ..).symm ▸ h)

/-- (*joinery/joineryref9.Tape).Lines -/
def S_joineryref9_Tape_Lines (P : Program) (p0 : Value) (w : World) (R : Value → World → Prop) : Prop :=
 XBuildS P 27 0 #[] w fun v3 w1 =>
 XNil p0 fun q1 =>
 XFld P 69 q1 0 w1 fun v6 w2 =>
 XLoad P 27 v6 w2 fun v7 w3 =>
 XB P .append #[27, 27] 27 #[v3, v7] w3 fun v8 w4 =>
 R v8 w4
noncomputable def C_joineryref9_Tape_Lines : Code := (Tryz.f74.body).getD .skip
noncomputable def an_joineryref9_Tape_Lines : An := (.seq none (.reg []) (.seq none (.reg []) .leaf))
theorem S_joineryref9_Tape_Lines_eq (P : Program) (p0 : Value) (w : World) (R : Value → World → Prop) : WPf P C_joineryref9_Tape_Lines Tryz.f74.results.toList an_joineryref9_Tape_Lines #[p0] w R = S_joineryref9_Tape_Lines P p0 w R := by kernel_rfl
theorem ok_joineryref9_Tape_Lines : okC Tryz.f74.ntmps C_joineryref9_Tape_Lines an_joineryref9_Tape_Lines = true := by kernel_rfl
theorem call_joineryref9_Tape_Lines {p0 w R} (h : S_joineryref9_Tape_Lines Tryz.prog p0 w R) : Ret Tryz.prog 74 #[p0] w R :=
  Ret_of_WPf mixed Tryz.func74 (by kernel_rfl) (Nat.le_of_ble_eq_true (by kernel_rfl)) ok_joineryref9_Tape_Lines ((S_joineryref9_Tape_Lines_eq ..).symm ▸ h)

/-- (*joinery/joineryref9.Tape).Lasting -/
def S_joineryref9_Tape_Lasting (P : Program) (p0 : Value) (w : World) (R : Value → World → Prop) : Prop :=
 XNil p0 fun q1 =>
 XFld P 69 q1 1 w fun v5 w1 =>
 XLoad P 3 v5 w1 fun v6 w2 =>
 R v6 w2
noncomputable def C_joineryref9_Tape_Lasting : Code := (Tryz.f73.body).getD .skip
noncomputable def an_joineryref9_Tape_Lasting : An := (.seq none (.reg []) (.seq none (.reg []) .leaf))
theorem S_joineryref9_Tape_Lasting_eq (P : Program) (p0 : Value) (w : World) (R : Value → World → Prop) : WPf P C_joineryref9_Tape_Lasting Tryz.f73.results.toList an_joineryref9_Tape_Lasting #[p0] w R = S_joineryref9_Tape_Lasting P p0 w R := by kernel_rfl
theorem ok_joineryref9_Tape_Lasting : okC Tryz.f73.ntmps C_joineryref9_Tape_Lasting an_joineryref9_Tape_Lasting = true := by kernel_rfl
theorem call_joineryref9_Tape_Lasting {p0 w R} (h : S_joineryref9_Tape_Lasting Tryz.prog p0 w R) : Ret Tryz.prog 73 #[p0] w R :=
  Ret_of_WPf mixed Tryz.func73 (by kernel_rfl) (Nat.le_of_ble_eq_true (by kernel_rfl)) ok_joineryref9_Tape_Lasting ((S_joineryref9_Tape_Lasting_eq ..).symm ▸ h)

/-- joinery/joinerylaw9.within -/
def S_joinerylaw9_within (P : Program) (p0 p1 : Value) (w : World) (R : Value → World → Prop) : Prop :=
 XBin P .rem 3 false false p0 p1 w fun v8 w1 =>
 XBin P .lss 3 false true v8 (Value.int .i64 0) w1 fun v10 w2 =>
 XC v10 (
 XBin P .add 3 false false v8 p1 w2 fun v13 w3 =>
 R v13 w3) (
 R v8 w2)
noncomputable def C_joinerylaw9_within : Code := (Tryz.f31.body).getD .skip
noncomputable def an_joinerylaw9_within : An := (.seq none (.reg []) (.seq none (.reg []) (.seq none (.seq none (.reg []) (.cond (.reg []) .leaf)) (.seq none (.reg []) .leaf))))
theorem S_joinerylaw9_within_eq (P : Program) (p0 p1 : Value) (w : World) (R : Value → World → Prop) : WPf P C_joinerylaw9_within Tryz.f31.results.toList an_joinerylaw9_within #[p0, p1] w R = S_joinerylaw9_within P p0 p1 w R := by kernel_rfl
theorem ok_joinerylaw9_within : okC Tryz.f31.ntmps C_joinerylaw9_within an_joinerylaw9_within = true := by kernel_rfl
theorem call_joinerylaw9_within {p0 p1 w R} (h : S_joinerylaw9_within Tryz.prog p0 p1 w R) : Ret Tryz.prog 31 #[p0, p1] w R :=
  Ret_of_WPf mixed Tryz.func31 (by kernel_rfl) (Nat.le_of_ble_eq_true (by kernel_rfl)) ok_joinerylaw9_within ((S_joinerylaw9_within_eq ..).symm ▸ h)

/-- joinery/joinerylaw9.known -/
def S_joinerylaw9_known (P : Program) (w : World) (R : Value → World → Prop) : Prop :=
 XCall P 26 #[] w fun v3 w1 =>
 XBin P .eql 51 false true v3 (Value.pointer none) w1 fun v5 w2 =>
 ∃ J1 : Value → World → Prop, (∀ (_jk1 : Env) (u10 : Value) (w3 : World), J1 u10 w3 →
 XPick v5 (Value.bool true) u10 fun q1 =>
 XC q1 (
 R (Value.bool false) w3) (
 XBuild P 31 #[(0, (Value.int .i64 5)), (1, (Value.int .i64 2))] w3 fun v13 w4 =>
 XCall P 27 #[v3, v13] w4 fun v14 w5 =>
 XCall P 29 #[v3] w5 fun v16 w6 =>
 XB P .len #[27] 3 #[v16] w6 fun v18 w7 =>
 XBin P .eql 3 false true v18 (Value.int .i64 1) w7 fun v19 w8 =>
 ∃ J2 : Value → World → Prop, (∀ (_jk2 : Env) (u24 : Value) (w9 : World), J2 u24 w9 →
 XPick v19 u24 (Value.bool false) fun q2 =>
 ∃ J3 : Value → World → Prop, (∀ (_jk3 : Env) (u29 : Value) (w10 : World), J3 u29 w10 →
 XPick q2 u29 (Value.bool false) fun q3 =>
 R q3 w10) ∧
 XG q2 true (
 XCall P 33 #[v3] w9 fun v28 w11 =>
 XBin P .eql 3 false true v28 (Value.int .i64 0) w11 fun v29 w12 =>
 J3 v29 w12) (J3 undef w9)) ∧
 XG v19 true (
 XIdx P 27 v16 (Value.int .i64 0) w8 fun v22 w13 =>
 XLoad P 9 v22 w13 fun v23 w14 =>
 XBin P .eql 9 false true v23 (Value.string ⟨#[97, 98, 111, 114, 116, 32, 50]⟩) w14 fun v24 w15 =>
 J2 v24 w15) (J2 undef w8))) ∧
 XG v5 false (
 XCall P 28 #[v3] w2 fun v8 w16 =>
 XB P .len #[54] 3 #[v8] w16 fun v9 w17 =>
 XBin P .neq 3 false true v9 (Value.int .i64 0) w17 fun v10 w18 =>
 J1 v10 w18) (J1 undef w2)
noncomputable def C_joinerylaw9_known : Code := (Tryz.f25.body).getD .skip
noncomputable def an_joinerylaw9_known : An := (.seq none (.reg []) (.seq none (.reg []) (.seq none (.seq none (.reg [[10]]) (.cond (.seq none (.reg []) .leaf) .leaf)) (.seq none (.reg []) (.seq none (.reg []) (.seq none (.reg [[24], [29]]) .leaf))))))
theorem S_joinerylaw9_known_eq (P : Program) (w : World) (R : Value → World → Prop) : WPf P C_joinerylaw9_known Tryz.f25.results.toList an_joinerylaw9_known #[] w R = S_joinerylaw9_known P  w R := by kernel_rfl
theorem ok_joinerylaw9_known : okC Tryz.f25.ntmps C_joinerylaw9_known an_joinerylaw9_known = true := by kernel_rfl
theorem call_joinerylaw9_known { w R} (h : S_joinerylaw9_known Tryz.prog  w R) : Ret Tryz.prog 25 #[] w R :=
  Ret_of_WPf mixed Tryz.func25 (by kernel_rfl) (Nat.le_of_ble_eq_true (by kernel_rfl)) ok_joinerylaw9_known ((S_joinerylaw9_known_eq ..).symm ▸ h)

/-- joinery/joinerylaw9.Records -/
def S_joinerylaw9_Records (P : Program) (p0 p1 : Value) (w : World) (R : Value → World → Prop) : Prop :=
 XB P .len #[54] 3 #[p0] w fun v7 w1 =>
 XB P .len #[54] 3 #[p1] w1 fun v9 w2 =>
 XBin P .neq 3 false false v7 v9 w2 fun v10 w3 =>
 XC v10 (
 R (Value.bool false) w3) (
 ∃ (I1 : Value → World → Prop) (m1 : Value → World → Nat), I1 (Value.int .i64 0) w3 ∧ ∀ (_jk1 : Env) (u5_i : Value) (w4 : World), I1 u5_i w4 →
 XB P .len #[54] 3 #[p0] w4 fun v13 w5 =>
 XBin P .lss 3 false false u5_i v13 w5 fun v14 w6 =>
 XC v14 (
 ∃ E1 FE1 : World → World → Prop, Pre E1 FE1 ∧
 ∃ d19_1 : Value, (∀ w7 : World, XIdx P 54 p0 u5_i w7 fun v19 w9 =>
 v19 = d19_1 ∧ w9 = w7) ∧
 ∃ d20_1 : Value, (∀ w10 : World, E1 w6.drew w10 → XLoad P 31 d19_1 w10 fun v20 w12 =>
 v20 = d20_1 ∧ FE1 w10 w12) ∧
 ∃ d23_1 : Value, (∀ w13 : World, XIdx P 54 p1 u5_i w13 fun v23 w15 =>
 v23 = d23_1 ∧ w15 = w13) ∧
 ∃ d24_1 : Value, (∀ w16 : World, E1 w6.drew w16 → XLoad P 31 d23_1 w16 fun v24 w18 =>
 v24 = d24_1 ∧ FE1 w16 w18) ∧
 ∃ d25_1 : Value, (∀ w19 : World, E1 w6.drew w19 → XCall P 20 #[d20_1, d24_1] w19 fun v25 w21 =>
 v25 = d25_1 ∧ FE1 w19 w21) ∧
 ∃ d26_1 : Value, (∀ w22 : World, XUn P .not d25_1 w22 fun v26 w24 =>
 v26 = d26_1 ∧ w24 = w22) ∧
 ∀ w25 : World, FE1 w6.drew w25 →
 XC d26_1 (
 R (Value.bool false) w25) (
 XBin P .add 3 false true u5_i (Value.int .i64 1) w25 fun v16 w26 =>
 I1 v16 w26 ∧ m1 v16 w26 < m1 u5_i w4)) (
 R (Value.bool true) w6))
noncomputable def C_joinerylaw9_Records : Code := (Tryz.f75.body).getD .skip
noncomputable def an_joinerylaw9_Records : An := (.seq none (.reg []) (.seq none (.seq none (.reg []) (.cond (.seq none (.reg []) .leaf) .leaf)) (.seq none (.seq none (.reg []) (.block none (.loop [5] (.seq none (.seq none (.reg []) (.cond .leaf .leaf)) (.seq none (.block none (.seq none (.draw [0, 0, 0, 1, 0, 0, 0, 1, 1, 0]) (.cond (.seq none (.reg []) .leaf) .leaf))) (.reg [])))))) (.seq none (.reg []) .leaf))))
theorem S_joinerylaw9_Records_eq (P : Program) (p0 p1 : Value) (w : World) (R : Value → World → Prop) : WPf P C_joinerylaw9_Records Tryz.f75.results.toList an_joinerylaw9_Records #[p0, p1] w R = S_joinerylaw9_Records P p0 p1 w R := by kernel_rfl
theorem ok_joinerylaw9_Records : okC Tryz.f75.ntmps C_joinerylaw9_Records an_joinerylaw9_Records = true := by kernel_rfl
theorem call_joinerylaw9_Records {p0 p1 w R} (h : S_joinerylaw9_Records Tryz.prog p0 p1 w R) : Ret Tryz.prog 75 #[p0, p1] w R :=
  Ret_of_WPf mixed Tryz.func75 (by kernel_rfl) (Nat.le_of_ble_eq_true (by kernel_rfl)) ok_joinerylaw9_Records ((S_joinerylaw9_Records_eq ..).symm ▸ h)

/-- joinery/joinerylaw9.Same -/
def S_joinerylaw9_Same (P : Program) (p0 p1 : Value) (w : World) (R : Value → World → Prop) : Prop :=
 XCall P 33 #[p0] w fun v6 w1 =>
 XCall P 73 #[p1] w1 fun v8 w2 =>
 XBin P .eql 3 false false v6 v8 w2 fun v9 w3 =>
 ∃ J1 : Value → World → Prop, (∀ (_jk1 : Env) (u15 : Value) (w4 : World), J1 u15 w4 →
 XPick v9 u15 (Value.bool false) fun q1 =>
 ∃ J2 : Value → World → Prop, (∀ (_jk2 : Env) (u22 : Value) (w5 : World), J2 u22 w5 →
 XPick q1 u22 (Value.bool false) fun q2 =>
 R q2 w5) ∧
 XG q1 true (
 XCall P 28 #[p0] w4 fun v19 w6 =>
 XCall P 76 #[p1] w6 fun v21 w7 =>
 XCall P 75 #[v19, v21] w7 fun v22 w8 =>
 J2 v22 w8) (J2 undef w4)) ∧
 XG v9 true (
 XCall P 29 #[p0] w3 fun v12 w9 =>
 XCall P 74 #[p1] w9 fun v14 w10 =>
 XCall P 34 #[v12, v14] w10 fun v15 w11 =>
 J1 v15 w11) (J1 undef w3)
noncomputable def C_joinerylaw9_Same : Code := (Tryz.f39.body).getD .skip
noncomputable def an_joinerylaw9_Same : An := (.seq none (.reg []) (.seq none (.reg [[15], [22]]) .leaf))
theorem S_joinerylaw9_Same_eq (P : Program) (p0 p1 : Value) (w : World) (R : Value → World → Prop) : WPf P C_joinerylaw9_Same Tryz.f39.results.toList an_joinerylaw9_Same #[p0, p1] w R = S_joinerylaw9_Same P p0 p1 w R := by kernel_rfl
theorem ok_joinerylaw9_Same : okC Tryz.f39.ntmps C_joinerylaw9_Same an_joinerylaw9_Same = true := by kernel_rfl
theorem call_joinerylaw9_Same {p0 p1 w R} (h : S_joinerylaw9_Same Tryz.prog p0 p1 w R) : Ret Tryz.prog 39 #[p0, p1] w R :=
  Ret_of_WPf mixed Tryz.func39 (by kernel_rfl) (Nat.le_of_ble_eq_true (by kernel_rfl)) ok_joinerylaw9_Same ((S_joinerylaw9_Same_eq ..).symm ▸ h)

abbrev F_tape_New : FuncId := 26
theorem en_tape_New (args : Array Value) (w : World) : (callFunc 26 args).run Tryz.prog w = .ok (.enter 26 args) w := by kernel_rfl
abbrev F_tape_Tape_do : FuncId := 64
theorem en_tape_Tape_do (args : Array Value) (w : World) : (callFunc 64 args).run Tryz.prog w = .ok (.enter 64 args) w := by kernel_rfl
abbrev F_tape_Tape_end : FuncId := 117
theorem en_tape_Tape_end (args : Array Value) (w : World) : (callFunc 117 args).run Tryz.prog w = .ok (.enter 117 args) w := by kernel_rfl
abbrev F_tape_Tape_Write : FuncId := 27
theorem en_tape_Tape_Write (args : Array Value) (w : World) : (callFunc 27 args).run Tryz.prog w = .ok (.enter 27 args) w := by kernel_rfl
abbrev F_tape_Tape_Sync : FuncId := 35
theorem en_tape_Tape_Sync (args : Array Value) (w : World) : (callFunc 35 args).run Tryz.prog w = .ok (.enter 35 args) w := by kernel_rfl
abbrev F_tape_Tape_Crash : FuncId := 32
theorem en_tape_Tape_Crash (args : Array Value) (w : World) : (callFunc 32 args).run Tryz.prog w = .ok (.enter 32 args) w := by kernel_rfl
abbrev F_tape_Tape_Lines : FuncId := 29
theorem en_tape_Tape_Lines (args : Array Value) (w : World) : (callFunc 29 args).run Tryz.prog w = .ok (.enter 29 args) w := by kernel_rfl
abbrev F_tape_record : FuncId := 65
theorem en_tape_record (args : Array Value) (w : World) : (callFunc 65 args).run Tryz.prog w = .ok (.enter 65 args) w := by kernel_rfl
abbrev F_tape_Tape_All : FuncId := 28
theorem en_tape_Tape_All (args : Array Value) (w : World) : (callFunc 28 args).run Tryz.prog w = .ok (.enter 28 args) w := by kernel_rfl
abbrev F_tape_Tape_Lasting : FuncId := 33
theorem en_tape_Tape_Lasting (args : Array Value) (w : World) : (callFunc 33 args).run Tryz.prog w = .ok (.enter 33 args) w := by kernel_rfl
abbrev F_slices_Clip_api_Record_api_Record : FuncId := 66
theorem en_slices_Clip_api_Record_api_Record (args : Array Value) (w : World) : (callFunc 66 args).run Tryz.prog w = .ok (.enter 66 args) w := by kernel_rfl
abbrev F_slices_Index_rune_rune : FuncId := 67
theorem en_slices_Index_rune_rune (args : Array Value) (w : World) : (callFunc 67 args).run Tryz.prog w = .ok (.enter 67 args) w := by kernel_rfl
abbrev F_joineryref9_Tape_Write : FuncId := 38
theorem en_joineryref9_Tape_Write (args : Array Value) (w : World) : (callFunc 38 args).run Tryz.prog w = .ok (.enter 38 args) w := by kernel_rfl
abbrev F_joineryref9_Tape_Sync : FuncId := 36
theorem en_joineryref9_Tape_Sync (args : Array Value) (w : World) : (callFunc 36 args).run Tryz.prog w = .ok (.enter 36 args) w := by kernel_rfl
abbrev F_joineryref9_Tape_Crash : FuncId := 37
theorem en_joineryref9_Tape_Crash (args : Array Value) (w : World) : (callFunc 37 args).run Tryz.prog w = .ok (.enter 37 args) w := by kernel_rfl
abbrev F_joineryref9_Tape_All : FuncId := 76
theorem en_joineryref9_Tape_All (args : Array Value) (w : World) : (callFunc 76 args).run Tryz.prog w = .ok (.enter 76 args) w := by kernel_rfl
abbrev F_joineryref9_Tape_Lines : FuncId := 74
theorem en_joineryref9_Tape_Lines (args : Array Value) (w : World) : (callFunc 74 args).run Tryz.prog w = .ok (.enter 74 args) w := by kernel_rfl
abbrev F_joineryref9_Tape_Lasting : FuncId := 73
theorem en_joineryref9_Tape_Lasting (args : Array Value) (w : World) : (callFunc 73 args).run Tryz.prog w = .ok (.enter 73 args) w := by kernel_rfl
abbrev F_joinerylaw9_within : FuncId := 31
theorem en_joinerylaw9_within (args : Array Value) (w : World) : (callFunc 31 args).run Tryz.prog w = .ok (.enter 31 args) w := by kernel_rfl
abbrev F_joinerylaw9_known : FuncId := 25
theorem en_joinerylaw9_known (args : Array Value) (w : World) : (callFunc 25 args).run Tryz.prog w = .ok (.enter 25 args) w := by kernel_rfl
abbrev F_joinerylaw9_Records : FuncId := 75
theorem en_joinerylaw9_Records (args : Array Value) (w : World) : (callFunc 75 args).run Tryz.prog w = .ok (.enter 75 args) w := by kernel_rfl
abbrev F_joinerylaw9_Same : FuncId := 39
theorem en_joinerylaw9_Same (args : Array Value) (w : World) : (callFunc 39 args).run Tryz.prog w = .ok (.enter 39 args) w := by kernel_rfl

end Go.Proofs.YthkgbajldkicfaaGreatDoor
