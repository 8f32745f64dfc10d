/-
  Shallow forms: the laws of tapes. Each is the precondition of a Go function, computed over its code; that both are one is checked by the kernel.
-/
import Derived.Test.YthkgbajldkicfaaGreatDoorTypes
namespace Go.Proofs.YthkgbajldkicfaaGreatDoor
set_option linter.unusedVariables false
set_option linter.unusedSimpArgs false
open Go Go.Jo
set_option linter.unusedVariables false
set_option maxRecDepth 100000
/-- joinery/joinerylaw9.TapeLines -/
def S_joinerylaw9_TapeLines (P : Program) (p0 : Value) (w : World) (R : Value → World → Prop) : Prop :=
 XCall P 25 #[] w fun v10 w1 =>
 XUn P .not v10 w1 fun v11 w2 =>
 XC v11 (
 R (Value.bool false) w2) (
 XCall P 26 #[] w2 fun v12 w3 =>
 XBin P .eql 51 false true v12 (Value.pointer none) w3 fun v14 w4 =>
 XC v14 (
 R (Value.bool false) w4) (
 ∃ (I1 : Value → World → Prop) (m1 : Value → World → Nat), I1 (Value.int .i64 0) w4 ∧ ∀ (_jk1 : Env) (u4_i : Value) (w5 : World), I1 u4_i w5 →
 XB P .len #[58] 3 #[p0] w5 fun v17 w6 =>
 XBin P .lss 3 false false u4_i v17 w6 fun v18 w7 =>
 ∃ J1 : Value → World → Prop, (∀ (_jk2 : Env) (u21 : Value) (w8 : World), J1 u21 w8 →
 XPick v18 u21 (Value.bool false) fun q1 =>
 XC q1 (
 ∃ E1 FE1 : World → World → Prop, Pre E1 FE1 ∧
 ∃ d28_1 : Value, (∀ w9 : World, XIdx P 58 p0 u4_i w9 fun v28 w11 =>
 v28 = d28_1 ∧ w11 = w9) ∧
 ∃ d29_1 : Value, (∀ w12 : World, XFld P 60 d28_1 0 w12 fun v29 w14 =>
 v29 = d29_1 ∧ w14 = w12) ∧
 ∃ d30_1 : Value, (∀ w15 : World, E1 w8.drew w15 → XLoad P 3 d29_1 w15 fun v30 w17 =>
 v30 = d30_1 ∧ FE1 w15 w17) ∧
 ∃ d33_1 : Value, (∀ w18 : World, XIdx P 58 p0 u4_i w18 fun v33 w20 =>
 v33 = d33_1 ∧ w20 = w18) ∧
 ∃ d34_1 : Value, (∀ w21 : World, XFld P 60 d33_1 1 w21 fun v34 w23 =>
 v34 = d34_1 ∧ w23 = w21) ∧
 ∃ d35_1 : Value, (∀ w24 : World, E1 w8.drew w24 → XLoad P 3 d34_1 w24 fun v35 w26 =>
 v35 = d35_1 ∧ FE1 w24 w26) ∧
 ∃ d38_1 : Value, (∀ w27 : World, XIdx P 58 p0 u4_i w27 fun v38 w29 =>
 v38 = d38_1 ∧ w29 = w27) ∧
 ∃ d39_1 : Value, (∀ w30 : World, XFld P 60 d38_1 2 w30 fun v39 w32 =>
 v39 = d39_1 ∧ w32 = w30) ∧
 ∃ d40_1 : Value, (∀ w33 : World, E1 w8.drew w33 → XLoad P 22 d39_1 w33 fun v40 w35 =>
 v40 = d40_1 ∧ FE1 w33 w35) ∧
 ∃ d43_1 : Value, (∀ w36 : World, XIdx P 58 p0 u4_i w36 fun v43 w38 =>
 v43 = d43_1 ∧ w38 = w36) ∧
 ∃ d44_1 : Value, (∀ w39 : World, XFld P 60 d43_1 1 w39 fun v44 w41 =>
 v44 = d44_1 ∧ w41 = w39) ∧
 ∃ d45_1 : Value, (∀ w42 : World, E1 w8.drew w42 → XLoad P 3 d44_1 w42 fun v45 w44 =>
 v45 = d45_1 ∧ FE1 w42 w44) ∧
 ∃ d46_1 : Value, (∀ w45 : World, XBin P .quo 3 false true d45_1 (Value.int .i64 7) w45 fun v46 w47 =>
 v46 = d46_1 ∧ w47 = w45) ∧
 ∀ w48 : World, FE1 w8.drew w48 →
 XCall P 16 #[d30_1, d35_1, d40_1, d46_1] w48 fun v47 w49 =>
 XCall P 27 #[v12, v47] w49 fun v48 w50 =>
 XBin P .add 3 false true u4_i (Value.int .i64 1) w50 fun v24 w51 =>
 I1 v24 w51 ∧ m1 v24 w51 < m1 u4_i w5) (
 XCall P 28 #[v12] w8 fun v50 w52 =>
 XCall P 29 #[v12] w52 fun v52 w53 =>
 XB P .len #[54] 3 #[v50] w53 fun v54 w54 =>
 XB P .len #[27] 3 #[v52] w54 fun v56 w55 =>
 XBin P .neq 3 false false v54 v56 w55 fun v57 w56 =>
 ∃ J2 : Value → World → Prop, (∀ (_jk3 : Env) (u64 : Value) (w57 : World), J2 u64 w57 →
 XPick v57 (Value.bool true) u64 fun q2 =>
 XC q2 (
 R (Value.bool false) w57) (
 ∃ (I2 : Value → World → Prop) (m2 : Value → World → Nat), I2 (Value.int .i64 0) w57 ∧ ∀ (_jk4 : Env) (u7_i : Value) (w58 : World), I2 u7_i w58 →
 XB P .len #[54] 3 #[v50] w58 fun v68 w59 =>
 XBin P .lss 3 false false u7_i v68 w59 fun v69 w60 =>
 XC v69 (
 XIdx P 27 v52 u7_i w60 fun v75 w61 =>
 XLoad P 9 v75 w61 fun v76 w62 =>
 XCall P 21 #[v76] w62 fun v77 w63 =>
 XExt P v77 0 w63 fun v78 w64 =>
 XExt P v77 1 w64 fun v79 w65 =>
 XAlloc P 31 w65 fun v8 w66 =>
 XStore P 31 v8 v78 w66 fun w67 =>
 ∃ E2 FE2 : World → World → Prop, Pre E2 FE2 ∧
 ∃ d81_1 : Value, (∀ w68 : World, XBin P .neq 3 false true v79 (Value.int .i64 0) w68 fun v81 w70 =>
 v81 = d81_1 ∧ w70 = w68) ∧
 ∃ d83_1 : Value, (XG d81_1 false (∀ w71 : World, E2 w67.drew w71 → XLoad P 31 v8 w71 fun v83 w73 =>
 v83 = d83_1 ∧ FE2 w71 w73) (d83_1 = undef)) ∧
 ∃ d84_1 : Value, (XG d81_1 false (∀ w74 : World, v50 = d84_1 ∧ w74 = w74) (d84_1 = undef)) ∧
 ∃ d85_1 : Value, (XG d81_1 false (∀ w76 : World, u7_i = d85_1 ∧ w76 = w76) (d85_1 = undef)) ∧
 ∃ d86_1 : Value, (XG d81_1 false (∀ w78 : World, XIdx P 54 d84_1 d85_1 w78 fun v86 w80 =>
 v86 = d86_1 ∧ w80 = w78) (d86_1 = undef)) ∧
 ∃ d87_1 : Value, (XG d81_1 false (∀ w81 : World, E2 w67.drew w81 → XLoad P 31 d86_1 w81 fun v87 w83 =>
 v87 = d87_1 ∧ FE2 w81 w83) (d87_1 = undef)) ∧
 ∃ d88_1 : Value, (XG d81_1 false (∀ w84 : World, E2 w67.drew w84 → XCall P 20 #[d83_1, d87_1] w84 fun v88 w86 =>
 v88 = d88_1 ∧ FE2 w84 w86) (d88_1 = undef)) ∧
 ∃ d89_1 : Value, (XG d81_1 false (∀ w87 : World, XUn P .not d88_1 w87 fun v89 w89 =>
 v89 = d89_1 ∧ w89 = w87) (d89_1 = undef)) ∧
 ∃ d90_1 : Value, (∀ w90 : World, XPick d81_1 (Value.bool true) d89_1 fun q3 =>
 q3 = d90_1 ∧ w90 = w90) ∧
 ∃ d92_1 : Value, (XG d90_1 false (∀ w92 : World, v50 = d92_1 ∧ w92 = w92) (d92_1 = undef)) ∧
 ∃ d93_1 : Value, (XG d90_1 false (∀ w94 : World, u7_i = d93_1 ∧ w94 = w94) (d93_1 = undef)) ∧
 ∃ d94_1 : Value, (XG d90_1 false (∀ w96 : World, XIdx P 54 d92_1 d93_1 w96 fun v94 w98 =>
 v94 = d94_1 ∧ w98 = w96) (d94_1 = undef)) ∧
 ∃ d95_1 : Value, (XG d90_1 false (∀ w99 : World, E2 w67.drew w99 → XLoad P 31 d94_1 w99 fun v95 w101 =>
 v95 = d95_1 ∧ FE2 w99 w101) (d95_1 = undef)) ∧
 ∃ d96_1 : Value, (XG d90_1 false (∀ w102 : World, E2 w67.drew w102 → XCall P 30 #[d95_1] w102 fun v96 w104 =>
 v96 = d96_1 ∧ FE2 w102 w104) (d96_1 = undef)) ∧
 ∃ d97_1 : Value, (XG d90_1 false (∀ w105 : World, v52 = d97_1 ∧ w105 = w105) (d97_1 = undef)) ∧
 ∃ d98_1 : Value, (XG d90_1 false (∀ w107 : World, u7_i = d98_1 ∧ w107 = w107) (d98_1 = undef)) ∧
 ∃ d99_1 : Value, (XG d90_1 false (∀ w109 : World, XIdx P 27 d97_1 d98_1 w109 fun v99 w111 =>
 v99 = d99_1 ∧ w111 = w109) (d99_1 = undef)) ∧
 ∃ d100_1 : Value, (XG d90_1 false (∀ w112 : World, E2 w67.drew w112 → XLoad P 9 d99_1 w112 fun v100 w114 =>
 v100 = d100_1 ∧ FE2 w112 w114) (d100_1 = undef)) ∧
 ∃ d101_1 : Value, (XG d90_1 false (∀ w115 : World, XBin P .neq 9 false false d96_1 d100_1 w115 fun v101 w117 =>
 v101 = d101_1 ∧ w117 = w115) (d101_1 = undef)) ∧
 ∃ d102_1 : Value, (∀ w118 : World, XPick d90_1 (Value.bool true) d101_1 fun q4 =>
 q4 = d102_1 ∧ w118 = w118) ∧
 ∃ d104_1 : Value, (XG d102_1 false (∀ w120 : World, v50 = d104_1 ∧ w120 = w120) (d104_1 = undef)) ∧
 ∃ d105_1 : Value, (XG d102_1 false (∀ w122 : World, u7_i = d105_1 ∧ w122 = w122) (d105_1 = undef)) ∧
 ∃ d106_1 : Value, (XG d102_1 false (∀ w124 : World, XIdx P 54 d104_1 d105_1 w124 fun v106 w126 =>
 v106 = d106_1 ∧ w126 = w124) (d106_1 = undef)) ∧
 ∃ d107_1 : Value, (XG d102_1 false (∀ w127 : World, E2 w67.drew w127 → XLoad P 31 d106_1 w127 fun v107 w129 =>
 v107 = d107_1 ∧ FE2 w127 w129) (d107_1 = undef)) ∧
 ∃ d108_1 : Value, (XG d102_1 false (∀ w130 : World, p0 = d108_1 ∧ w130 = w130) (d108_1 = undef)) ∧
 ∃ d109_1 : Value, (XG d102_1 false (∀ w132 : World, u7_i = d109_1 ∧ w132 = w132) (d109_1 = undef)) ∧
 ∃ d110_1 : Value, (XG d102_1 false (∀ w134 : World, XIdx P 58 d108_1 d109_1 w134 fun v110 w136 =>
 v110 = d110_1 ∧ w136 = w134) (d110_1 = undef)) ∧
 ∃ d111_1 : Value, (XG d102_1 false (∀ w137 : World, XFld P 60 d110_1 0 w137 fun v111 w139 =>
 v111 = d111_1 ∧ w139 = w137) (d111_1 = undef)) ∧
 ∃ d112_1 : Value, (XG d102_1 false (∀ w140 : World, E2 w67.drew w140 → XLoad P 3 d111_1 w140 fun v112 w142 =>
 v112 = d112_1 ∧ FE2 w140 w142) (d112_1 = undef)) ∧
 ∃ d113_1 : Value, (XG d102_1 false (∀ w143 : World, p0 = d113_1 ∧ w143 = w143) (d113_1 = undef)) ∧
 ∃ d114_1 : Value, (XG d102_1 false (∀ w145 : World, u7_i = d114_1 ∧ w145 = w145) (d114_1 = undef)) ∧
 ∃ d115_1 : Value, (XG d102_1 false (∀ w147 : World, XIdx P 58 d113_1 d114_1 w147 fun v115 w149 =>
 v115 = d115_1 ∧ w149 = w147) (d115_1 = undef)) ∧
 ∃ d116_1 : Value, (XG d102_1 false (∀ w150 : World, XFld P 60 d115_1 1 w150 fun v116 w152 =>
 v116 = d116_1 ∧ w152 = w150) (d116_1 = undef)) ∧
 ∃ d117_1 : Value, (XG d102_1 false (∀ w153 : World, E2 w67.drew w153 → XLoad P 3 d116_1 w153 fun v117 w155 =>
 v117 = d117_1 ∧ FE2 w153 w155) (d117_1 = undef)) ∧
 ∃ d118_1 : Value, (XG d102_1 false (∀ w156 : World, p0 = d118_1 ∧ w156 = w156) (d118_1 = undef)) ∧
 ∃ d119_1 : Value, (XG d102_1 false (∀ w158 : World, u7_i = d119_1 ∧ w158 = w158) (d119_1 = undef)) ∧
 ∃ d120_1 : Value, (XG d102_1 false (∀ w160 : World, XIdx P 58 d118_1 d119_1 w160 fun v120 w162 =>
 v120 = d120_1 ∧ w162 = w160) (d120_1 = undef)) ∧
 ∃ d121_1 : Value, (XG d102_1 false (∀ w163 : World, XFld P 60 d120_1 2 w163 fun v121 w165 =>
 v121 = d121_1 ∧ w165 = w163) (d121_1 = undef)) ∧
 ∃ d122_1 : Value, (XG d102_1 false (∀ w166 : World, E2 w67.drew w166 → XLoad P 22 d121_1 w166 fun v122 w168 =>
 v122 = d122_1 ∧ FE2 w166 w168) (d122_1 = undef)) ∧
 ∃ d123_1 : Value, (XG d102_1 false (∀ w169 : World, p0 = d123_1 ∧ w169 = w169) (d123_1 = undef)) ∧
 ∃ d124_1 : Value, (XG d102_1 false (∀ w171 : World, u7_i = d124_1 ∧ w171 = w171) (d124_1 = undef)) ∧
 ∃ d125_1 : Value, (XG d102_1 false (∀ w173 : World, XIdx P 58 d123_1 d124_1 w173 fun v125 w175 =>
 v125 = d125_1 ∧ w175 = w173) (d125_1 = undef)) ∧
 ∃ d126_1 : Value, (XG d102_1 false (∀ w176 : World, XFld P 60 d125_1 1 w176 fun v126 w178 =>
 v126 = d126_1 ∧ w178 = w176) (d126_1 = undef)) ∧
 ∃ d127_1 : Value, (XG d102_1 false (∀ w179 : World, E2 w67.drew w179 → XLoad P 3 d126_1 w179 fun v127 w181 =>
 v127 = d127_1 ∧ FE2 w179 w181) (d127_1 = undef)) ∧
 ∃ d128_1 : Value, (XG d102_1 false (∀ w182 : World, XBin P .quo 3 false true d127_1 (Value.int .i64 7) w182 fun v128 w184 =>
 v128 = d128_1 ∧ w184 = w182) (d128_1 = undef)) ∧
 ∀ w185 : World, FE2 w67.drew w185 →
 XG d102_1 false (
 XCall P 16 #[d112_1, d117_1, d122_1, d128_1] w185 fun v129 w186 =>
 E2 w185 w186 ∧
 ∀ w187 : World, FE2 w186 w187 →
 XG d102_1 false (
 XCall P 20 #[d107_1, v129] w187 fun v130 w188 =>
 ∃ d131_1 : Value, (XG d102_1 false (∀ w189 : World, XUn P .not v130 w189 fun v131 w191 =>
 v131 = d131_1 ∧ w191 = w189) (d131_1 = undef)) ∧
 ∃ d132_1 : Value, (∀ w192 : World, XPick d102_1 (Value.bool true) d131_1 fun q5 =>
 q5 = d132_1 ∧ w192 = w192) ∧
 XC d132_1 (
 R (Value.bool false) w188) (
 XBin P .add 3 false true u7_i (Value.int .i64 1) w188 fun v71 w194 =>
 I2 v71 w194 ∧ m2 v71 w194 < m2 u7_i w58)) (
 ∃ d131_2 : Value, (XG d102_1 false (∀ w195 : World, XUn P .not undef w195 fun v131_2 w197 =>
 v131_2 = d131_2 ∧ w197 = w195) (d131_2 = undef)) ∧
 ∃ d132_2 : Value, (∀ w198 : World, XPick d102_1 (Value.bool true) d131_2 fun q6 =>
 q6 = d132_2 ∧ w198 = w198) ∧
 XC d132_2 (
 R (Value.bool false) w187) (
 XBin P .add 3 false true u7_i (Value.int .i64 1) w187 fun v71_2 w200 =>
 I2 v71_2 w200 ∧ m2 v71_2 w200 < m2 u7_i w58))) (
 E2 w185 w185 ∧
 ∀ w201 : World, FE2 w185 w201 →
 XG d102_1 false (
 XCall P 20 #[d107_1, undef] w201 fun v130_2 w202 =>
 ∃ d131_3 : Value, (XG d102_1 false (∀ w203 : World, XUn P .not v130_2 w203 fun v131_3 w205 =>
 v131_3 = d131_3 ∧ w205 = w203) (d131_3 = undef)) ∧
 ∃ d132_3 : Value, (∀ w206 : World, XPick d102_1 (Value.bool true) d131_3 fun q7 =>
 q7 = d132_3 ∧ w206 = w206) ∧
 XC d132_3 (
 R (Value.bool false) w202) (
 XBin P .add 3 false true u7_i (Value.int .i64 1) w202 fun v71_3 w208 =>
 I2 v71_3 w208 ∧ m2 v71_3 w208 < m2 u7_i w58)) (
 ∃ d131_4 : Value, (XG d102_1 false (∀ w209 : World, XUn P .not undef w209 fun v131_4 w211 =>
 v131_4 = d131_4 ∧ w211 = w209) (d131_4 = undef)) ∧
 ∃ d132_4 : Value, (∀ w212 : World, XPick d102_1 (Value.bool true) d131_4 fun q8 =>
 q8 = d132_4 ∧ w212 = w212) ∧
 XC d132_4 (
 R (Value.bool false) w201) (
 XBin P .add 3 false true u7_i (Value.int .i64 1) w201 fun v71_4 w214 =>
 I2 v71_4 w214 ∧ m2 v71_4 w214 < m2 u7_i w58)))) (
 R (Value.bool true) w60))) ∧
 XG v57 false (
 XB P .len #[54] 3 #[v50] w56 fun v60 w215 =>
 XB P .len #[58] 3 #[p0] w215 fun v62 w216 =>
 XB P .min #[3, 3] 3 #[v62, (Value.int .i64 30)] w216 fun v63 w217 =>
 XBin P .neq 3 false false v60 v63 w217 fun v64 w218 =>
 J2 v64 w218) (J2 undef w56))) ∧
 XG v18 true (
 XBin P .lss 3 false true u4_i (Value.int .i64 30) w7 fun v21 w219 =>
 J1 v21 w219) (J1 undef w7)))
noncomputable def C_joinerylaw9_TapeLines : Code := (Tryz.f8.body).getD .skip
noncomputable def an_joinerylaw9_TapeLines : An := (.seq none (.reg []) (.seq none (.seq none (.reg []) (.cond (.seq none (.reg []) .leaf) .leaf)) (.seq none (.reg []) (.seq none (.seq none (.reg []) (.cond (.seq none (.reg []) .leaf) .leaf)) (.seq none (.seq none (.reg []) (.block none (.loop [4] (.seq none (.seq none (.reg [[21]]) (.cond .leaf .leaf)) (.seq none (.block none (.draw [0, 0, 0, 0, 0, 1, 0, 0, 0, 0, 1, 0, 0, 0, 0, 1, 0, 0, 0, 0, 1, 0, 2, 2])) (.reg [])))))) (.seq none (.reg []) (.seq none (.seq none (.reg [[64]]) (.cond (.seq none (.reg []) .leaf) .leaf)) (.seq none (.seq none (.reg []) (.block none (.loop [7] (.seq none (.seq none (.reg []) (.cond .leaf .leaf)) (.seq none (.block none (.seq none (.reg []) (.seq none (.draw [0, 0, 0, 1, 0, 0, 0, 1, 1, 0, 0, 0, 0, 0, 0, 1, 1, 0, 0, 0, 1, 0, 0, 0, 0, 0, 0, 1, 0, 0, 0, 0, 1, 0, 0, 0, 0, 1, 0, 0, 0, 0, 1, 0, 0, 0, 0, 1, 0, 2, 2, 0, 0]) (.cond (.seq none (.reg []) .leaf) .leaf)))) (.reg [])))))) (.seq none (.reg []) .leaf)))))))))
theorem S_joinerylaw9_TapeLines_eq (P : Program) (p0 : Value) (w : World) (R : Value → World → Prop) : WPf P C_joinerylaw9_TapeLines Tryz.f8.results.toList an_joinerylaw9_TapeLines #[p0] w R = S_joinerylaw9_TapeLines P p0 w R := by kernel_rfl
theorem ok_joinerylaw9_TapeLines : okC Tryz.f8.ntmps C_joinerylaw9_TapeLines an_joinerylaw9_TapeLines = true := by kernel_rfl
theorem call_joinerylaw9_TapeLines {p0 w R} (h : S_joinerylaw9_TapeLines Tryz.prog p0 w R) : Ret Tryz.prog 8 #[p0] w R :=
  Ret_of_WPf mixed Tryz.func8 (by kernel_rfl) (Nat.le_of_ble_eq_true (by kernel_rfl)) ok_joinerylaw9_TapeLines ((S_joinerylaw9_TapeLines_eq ..).symm ▸ h)

/-- joinery/joinerylaw9.TapePlays -/
def S_joinerylaw9_TapePlays (P : Program) (p0 p1 : Value) (w : World) (R : Value → World → Prop) : Prop :=
 XCall P 25 #[] w fun v11 w1 =>
 XUn P .not v11 w1 fun v12 w2 =>
 XC v12 (
 R (Value.bool false) w2) (
 XCall P 26 #[] w2 fun v13 w3 =>
 XBuild P 69 #[] w3 fun v14 w4 =>
 XBox P 69 v14 w4 fun v15 w5 =>
 XBin P .eql 51 false true v13 (Value.pointer none) w5 fun v17 w6 =>
 XC v17 (
 R (Value.bool false) w6) (
 ∃ (I1 : Value → World → Prop) (m1 : Value → World → Nat), I1 (Value.int .i64 0) w6 ∧ ∀ (_jk1 : Env) (u7_i : Value) (w7 : World), I1 u7_i w7 →
 XB P .len #[58] 3 #[p0] w7 fun v20 w8 =>
 XBin P .lss 3 false false u7_i v20 w8 fun v21 w9 =>
 ∃ J1 : Value → World → Prop, (∀ (_jk2 : Env) (u24 : Value) (w10 : World), J1 u24 w10 →
 XPick v21 u24 (Value.bool false) fun q1 =>
 XC q1 (
 XIdx P 58 p0 u7_i w10 fun v30 w11 =>
 XLoad P 60 v30 w11 fun v31 w12 =>
 XAlloc P 60 w12 fun v8 w13 =>
 XStore P 60 v8 v31 w13 fun w14 =>
 ∃ J2 : World → Prop, (∀ (_jk3 : Env) (w15 : World), J2 w15 →
 XCall P 39 #[v13, v15] w15 fun v77 w16 =>
 XUn P .not v77 w16 fun v78 w17 =>
 XC v78 (
 R (Value.bool false) w17) (
 XBin P .add 3 false true u7_i (Value.int .i64 1) w17 fun v27 w18 =>
 I1 v27 w18 ∧ m1 v27 w18 < m1 u7_i w7)) ∧
 XFld P 60 v8 0 w14 fun v32 w19 =>
 XLoad P 3 v32 w19 fun v33 w20 =>
 XCall P 31 #[v33, (Value.int .i64 8)] w20 fun v34 w21 =>
 XBin P .eql 3 false true v34 (Value.int .i64 0) w21 fun v53 w22 =>
 XC v53 (
 XCall P 35 #[v13] w22 fun v55 w23 =>
 XCall P 36 #[v15] w23 fun v57 w24 =>
 J2 w24) (
 XBin P .eql 3 false true v34 (Value.int .i64 1) w22 fun v59 w25 =>
 XC v59 (
 XFld P 60 v8 1 w25 fun v60 w26 =>
 XLoad P 3 v60 w26 fun v61 w27 =>
 XCall P 31 #[v61, (Value.int .i64 6)] w27 fun v62 w28 =>
 XBin P .sub 3 false true v62 (Value.int .i64 1) w28 fun v63 w29 =>
 ∃ J3 : Value → World → Prop, (∀ (_jk4 : Env) (u9_k : Value) (w30 : World), J3 u9_k w30 →
 XCall P 32 #[v13, u9_k] w30 fun v71 w31 =>
 XCall P 37 #[v15, u9_k] w31 fun v74 w32 =>
 J2 w32) ∧
 XFld P 60 v8 1 w29 fun v64 w33 =>
 XLoad P 3 v64 w33 fun v65 w34 =>
 XCall P 31 #[v65, (Value.int .i64 13)] w34 fun v66 w35 =>
 XBin P .eql 3 false true v66 (Value.int .i64 0) w35 fun v67 w36 =>
 XC v67 (
 J3 p1 w36) (
 J3 v63 w36)) (
 XFld P 60 v8 0 w25 fun v35 w37 =>
 XLoad P 3 v35 w37 fun v36 w38 =>
 XBin P .quo 3 false true v36 (Value.int .i64 8) w38 fun v37 w39 =>
 XFld P 60 v8 1 w39 fun v38 w40 =>
 XLoad P 3 v38 w40 fun v39 w41 =>
 XFld P 60 v8 2 w41 fun v40 w42 =>
 XLoad P 22 v40 w42 fun v41 w43 =>
 XFld P 60 v8 1 w43 fun v42 w44 =>
 XLoad P 3 v42 w44 fun v43 w45 =>
 XBin P .quo 3 false true v43 (Value.int .i64 7) w45 fun v44 w46 =>
 XCall P 16 #[v37, v39, v41, v44] w46 fun v45 w47 =>
 XAlloc P 31 w47 fun v10 w48 =>
 XStore P 31 v10 v45 w48 fun w49 =>
 XLoad P 31 v10 w49 fun v47 w50 =>
 XCall P 27 #[v13, v47] w50 fun v48 w51 =>
 XLoad P 31 v10 w51 fun v50 w52 =>
 XCall P 38 #[v15, v50] w52 fun v51 w53 =>
 J2 w53))) (
 R (Value.bool true) w10)) ∧
 XG v21 true (
 XBin P .lss 3 false true u7_i (Value.int .i64 60) w9 fun v24 w54 =>
 J1 v24 w54) (J1 undef w9)))
noncomputable def C_joinerylaw9_TapePlays : Code := (Tryz.f11.body).getD .skip
noncomputable def an_joinerylaw9_TapePlays : An := (.seq none (.reg []) (.seq none (.seq none (.reg []) (.cond (.seq none (.reg []) .leaf) .leaf)) (.seq none (.reg []) (.seq none (.seq none (.reg []) (.cond (.seq none (.reg []) .leaf) .leaf)) (.seq none (.seq none (.reg []) (.block none (.loop [7] (.seq none (.seq none (.reg [[24]]) (.cond .leaf .leaf)) (.seq none (.block none (.seq none (.reg []) (.seq (some []) (.seq none (.reg []) (.block none (.seq none (.reg []) (.cond (.seq none (.reg []) (.reg [])) (.seq none (.reg []) (.cond (.seq none (.reg []) (.seq (some [9]) (.seq none (.reg []) (.cond (.reg []) .leaf)) (.seq none (.reg []) (.reg [])))) (.seq none (.reg []) (.seq none (.reg []) (.reg []))))))))) (.seq none (.reg []) (.cond (.seq none (.reg []) .leaf) .leaf))))) (.reg [])))))) (.seq none (.reg []) .leaf))))))
theorem S_joinerylaw9_TapePlays_eq (P : Program) (p0 p1 : Value) (w : World) (R : Value → World → Prop) : WPf P C_joinerylaw9_TapePlays Tryz.f11.results.toList an_joinerylaw9_TapePlays #[p0, p1] w R = S_joinerylaw9_TapePlays P p0 p1 w R := by kernel_rfl
theorem ok_joinerylaw9_TapePlays : okC Tryz.f11.ntmps C_joinerylaw9_TapePlays an_joinerylaw9_TapePlays = true := by kernel_rfl
theorem call_joinerylaw9_TapePlays {p0 p1 w R} (h : S_joinerylaw9_TapePlays Tryz.prog p0 p1 w R) : Ret Tryz.prog 11 #[p0, p1] w R :=
  Ret_of_WPf mixed Tryz.func11 (by kernel_rfl) (Nat.le_of_ble_eq_true (by kernel_rfl)) ok_joinerylaw9_TapePlays ((S_joinerylaw9_TapePlays_eq ..).symm ▸ h)

abbrev F_joinerylaw9_TapeLines : FuncId := 8
abbrev F_joinerylaw9_TapePlays : FuncId := 11
end Go.Proofs.YthkgbajldkicfaaGreatDoor
