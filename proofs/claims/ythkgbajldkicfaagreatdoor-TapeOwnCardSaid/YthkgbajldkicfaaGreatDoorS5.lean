/-
  Shallow forms: the laws of tapes. Each is the precondition of a Go function, computed over its code; that both are one is checked by the kernel.
-/
import Derived.Test.YthkgbajldkicfaaGreatDoorTypes
namespace Go.Proofs.YthkgbajldkicfaaGreatDoor
set_option linter.unusedVariables false
set_option linter.unusedSimpArgs false
open Go Go.Jo
set_option linter.unusedVariables false
set_option maxRecDepth 100000
/-- joinery/joinerylaw9.TapeOwn -/
def S_joinerylaw9_TapeOwn (P : Program) (p0 p1 p2 p3 : Value) (w : World) (R : Value → World → Prop) : Prop :=
 XCall P 25 #[] w fun v21 w1 =>
 XUn P .not v21 w1 fun v22 w2 =>
 XC v22 (
 R (Value.bool false) w2) (
 XCall P 26 #[] w2 fun v23 w3 =>
 XCall P 26 #[] w3 fun v24 w4 =>
 XBin P .eql 51 false true v23 (Value.pointer none) w4 fun v26 w5 =>
 ∃ J1 : Value → World → Prop, (∀ (_jk1 : Env) (u29 : Value) (w6 : World), J1 u29 w6 →
 XPick v26 (Value.bool true) u29 fun q1 =>
 XC q1 (
 R (Value.bool false) w6) (
 XCall P 16 #[p0, p1, p2, p3] w6 fun v35 w7 =>
 XCall P 16 #[p0, p1, p2, p3] w7 fun v40 w8 =>
 XAlloc P 31 w8 fun v11 w9 =>
 XAlloc P 31 w9 fun v12 w10 =>
 XStore P 31 v11 v35 w10 fun w11 =>
 XStore P 31 v12 v40 w11 fun w12 =>
 XLoad P 31 v11 w12 fun v42 w13 =>
 XCall P 27 #[v23, v42] w13 fun v43 w14 =>
 ∃ (I1 : Value → World → Prop) (m1 : Value → World → Nat), I1 (Value.int .i64 0) w14 ∧ ∀ (_jk2 : Env) (u13_i : Value) (w15 : World), I1 u13_i w15 →
 XFld P 31 v11 2 w15 fun v45 w16 =>
 XLoad P 22 v45 w16 fun v46 w17 =>
 XB P .len #[22] 3 #[v46] w17 fun v47 w18 =>
 XBin P .lss 3 false false u13_i v47 w18 fun v48 w19 =>
 XC v48 (
 XFld P 31 v11 2 w19 fun v51 w20 =>
 XLoad P 22 v51 w20 fun v52 w21 =>
 XIdx P 22 v52 u13_i w21 fun v54 w22 =>
 XStore P 3 v54 (Value.int .i64 9) w22 fun w23 =>
 XBin P .add 3 false true u13_i (Value.int .i64 1) w23 fun v50 w24 =>
 I1 v50 w24 ∧ m1 v50 w24 < m1 u13_i w15) (
 ∃ (I2 : Value → World → Prop) (m2 : Value → World → Nat), I2 (Value.int .i64 0) w19 ∧ ∀ (_jk3 : Env) (u14_i : Value) (w25 : World), I2 u14_i w25 →
 XFld P 31 v11 3 w25 fun v56 w26 =>
 XLoad P 24 v56 w26 fun v57 w27 =>
 XB P .len #[24] 3 #[v57] w27 fun v58 w28 =>
 XBin P .lss 3 false false u14_i v58 w28 fun v59 w29 =>
 XC v59 (
 XFld P 31 v11 3 w29 fun v62 w30 =>
 XLoad P 24 v62 w30 fun v63 w31 =>
 XIdx P 24 v63 u14_i w31 fun v65 w32 =>
 XFld P 45 v65 0 w32 fun v66 w33 =>
 XStore P 9 v66 (Value.string ⟨#[122]⟩) w33 fun w34 =>
 XBin P .add 3 false true u14_i (Value.int .i64 1) w34 fun v61 w35 =>
 I2 v61 w35 ∧ m2 v61 w35 < m2 u14_i w25) (
 ∃ (I3 : Value → World → Prop) (m3 : Value → World → Nat), I3 (Value.int .i64 0) w29 ∧ ∀ (_jk4 : Env) (u15_i : Value) (w36 : World), I3 u15_i w36 →
 XFld P 31 v11 4 w36 fun v68 w37 =>
 XFld P 29 v68 2 w37 fun v69 w38 =>
 XLoad P 27 v69 w38 fun v70 w39 =>
 XB P .len #[27] 3 #[v70] w39 fun v71 w40 =>
 XBin P .lss 3 false false u15_i v71 w40 fun v72 w41 =>
 XC v72 (
 XFld P 31 v11 4 w41 fun v75 w42 =>
 XFld P 29 v75 2 w42 fun v76 w43 =>
 XLoad P 27 v76 w43 fun v77 w44 =>
 XIdx P 27 v77 u15_i w44 fun v79 w45 =>
 XStore P 9 v79 (Value.string ⟨#[122]⟩) w45 fun w46 =>
 XBin P .add 3 false true u15_i (Value.int .i64 1) w46 fun v74 w47 =>
 I3 v74 w47 ∧ m3 v74 w47 < m3 u15_i w36) (
 XCall P 28 #[v23] w41 fun v81 w48 =>
 ∃ E1 FE1 : World → World → Prop, Pre E1 FE1 ∧
 ∃ d83_1 : Value, (∀ w49 : World, XB P .len #[54] 3 #[v81] w49 fun v83 w51 =>
 v83 = d83_1 ∧ w51 = w49) ∧
 ∃ d84_1 : Value, (∀ w52 : World, XBin P .neq 3 false true d83_1 (Value.int .i64 1) w52 fun v84 w54 =>
 v84 = d84_1 ∧ w54 = w52) ∧
 ∃ d86_1 : Value, (XG d84_1 false (∀ w55 : World, v81 = d86_1 ∧ w55 = w55) (d86_1 = undef)) ∧
 ∃ d87_1 : Value, (XG d84_1 false (∀ w57 : World, XIdx P 54 d86_1 (Value.int .i64 0) w57 fun v87 w59 =>
 v87 = d87_1 ∧ w59 = w57) (d87_1 = undef)) ∧
 ∃ d88_1 : Value, (XG d84_1 false (∀ w60 : World, E1 w48.drew w60 → XLoad P 31 d87_1 w60 fun v88 w62 =>
 v88 = d88_1 ∧ FE1 w60 w62) (d88_1 = undef)) ∧
 ∃ d89_1 : Value, (XG d84_1 false (∀ w63 : World, E1 w48.drew w63 → XLoad P 31 v12 w63 fun v89 w65 =>
 v89 = d89_1 ∧ FE1 w63 w65) (d89_1 = undef)) ∧
 ∃ d90_1 : Value, (XG d84_1 false (∀ w66 : World, E1 w48.drew w66 → XCall P 20 #[d88_1, d89_1] w66 fun v90 w68 =>
 v90 = d90_1 ∧ FE1 w66 w68) (d90_1 = undef)) ∧
 ∃ d91_1 : Value, (XG d84_1 false (∀ w69 : World, XUn P .not d90_1 w69 fun v91 w71 =>
 v91 = d91_1 ∧ w71 = w69) (d91_1 = undef)) ∧
 ∃ d92_1 : Value, (∀ w72 : World, XPick d84_1 (Value.bool true) d91_1 fun q2 =>
 q2 = d92_1 ∧ w72 = w72) ∧
 ∃ d94_1 : Value, (XG d92_1 false (∀ w74 : World, v24 = d94_1 ∧ w74 = w74) (d94_1 = undef)) ∧
 ∀ w76 : World, FE1 w48.drew w76 →
 XG d92_1 false (
 XCall P 28 #[d94_1] w76 fun v95 w77 =>
 ∃ d96_1 : Value, (XG d92_1 false (∀ w78 : World, XB P .len #[54] 3 #[v95] w78 fun v96 w80 =>
 v96 = d96_1 ∧ w80 = w78) (d96_1 = undef)) ∧
 ∃ d97_1 : Value, (XG d92_1 false (∀ w81 : World, XBin P .neq 3 false true d96_1 (Value.int .i64 0) w81 fun v97 w83 =>
 v97 = d97_1 ∧ w83 = w81) (d97_1 = undef)) ∧
 ∃ d98_1 : Value, (∀ w84 : World, XPick d92_1 (Value.bool true) d97_1 fun q3 =>
 q3 = d98_1 ∧ w84 = w84) ∧
 XC d98_1 (
 R (Value.bool false) w77) (
 ∃ (I4 : Value → World → Prop) (m4 : Value → World → Nat), I4 (Value.int .i64 0) w77 ∧ ∀ (_jk5 : Env) (u17_i : Value) (w86 : World), I4 u17_i w86 →
 XIdx P 54 v81 (Value.int .i64 0) w86 fun v101 w87 =>
 XFld P 31 v101 3 w87 fun v102 w88 =>
 XLoad P 24 v102 w88 fun v103 w89 =>
 XB P .len #[24] 3 #[v103] w89 fun v104 w90 =>
 XBin P .lss 3 false false u17_i v104 w90 fun v105 w91 =>
 XC v105 (
 XIdx P 54 v81 (Value.int .i64 0) w91 fun v109 w92 =>
 XFld P 31 v109 3 w92 fun v110 w93 =>
 XLoad P 24 v110 w93 fun v111 w94 =>
 XIdx P 24 v111 u17_i w94 fun v113 w95 =>
 XFld P 45 v113 1 w95 fun v114 w96 =>
 XStore P 9 v114 (Value.string ⟨#[121]⟩) w96 fun w97 =>
 XBin P .add 3 false true u17_i (Value.int .i64 1) w97 fun v107 w98 =>
 I4 v107 w98 ∧ m4 v107 w98 < m4 u17_i w86) (
 XCall P 29 #[v23] w91 fun v116 w99 =>
 XB P .len #[27] 3 #[v116] w99 fun v118 w100 =>
 XBin P .neq 3 false true v118 (Value.int .i64 1) w100 fun v119 w101 =>
 XC v119 (
 R (Value.bool false) w101) (
 XIdx P 27 v116 (Value.int .i64 0) w101 fun v121 w102 =>
 XStore P 9 v121 (Value.string ⟨#[]⟩) w102 fun w103 =>
 XCall P 28 #[v23] w103 fun v123 w104 =>
 XCall P 29 #[v23] w104 fun v125 w105 =>
 ∃ E2 FE2 : World → World → Prop, Pre E2 FE2 ∧
 ∃ d127_1 : Value, (∀ w106 : World, XB P .len #[54] 3 #[v123] w106 fun v127 w108 =>
 v127 = d127_1 ∧ w108 = w106) ∧
 ∃ d128_1 : Value, (∀ w109 : World, XBin P .eql 3 false true d127_1 (Value.int .i64 1) w109 fun v128 w111 =>
 v128 = d128_1 ∧ w111 = w109) ∧
 ∃ d130_1 : Value, (XG d128_1 true (∀ w112 : World, v123 = d130_1 ∧ w112 = w112) (d130_1 = undef)) ∧
 ∃ d131_1 : Value, (XG d128_1 true (∀ w114 : World, XIdx P 54 d130_1 (Value.int .i64 0) w114 fun v131 w116 =>
 v131 = d131_1 ∧ w116 = w114) (d131_1 = undef)) ∧
 ∃ d132_1 : Value, (XG d128_1 true (∀ w117 : World, E2 w105.drew w117 → XLoad P 31 d131_1 w117 fun v132 w119 =>
 v132 = d132_1 ∧ FE2 w117 w119) (d132_1 = undef)) ∧
 ∃ d133_1 : Value, (XG d128_1 true (∀ w120 : World, E2 w105.drew w120 → XLoad P 31 v12 w120 fun v133 w122 =>
 v133 = d133_1 ∧ FE2 w120 w122) (d133_1 = undef)) ∧
 ∃ d134_1 : Value, (XG d128_1 true (∀ w123 : World, E2 w105.drew w123 → XCall P 20 #[d132_1, d133_1] w123 fun v134 w125 =>
 v134 = d134_1 ∧ FE2 w123 w125) (d134_1 = undef)) ∧
 ∃ d135_1 : Value, (∀ w126 : World, XPick d128_1 d134_1 (Value.bool false) fun q4 =>
 q4 = d135_1 ∧ w126 = w126) ∧
 ∃ d137_1 : Value, (XG d135_1 true (∀ w128 : World, v125 = d137_1 ∧ w128 = w128) (d137_1 = undef)) ∧
 ∃ d138_1 : Value, (XG d135_1 true (∀ w130 : World, XB P .len #[27] 3 #[d137_1] w130 fun v138 w132 =>
 v138 = d138_1 ∧ w132 = w130) (d138_1 = undef)) ∧
 ∃ d139_1 : Value, (XG d135_1 true (∀ w133 : World, XBin P .eql 3 false true d138_1 (Value.int .i64 1) w133 fun v139 w135 =>
 v139 = d139_1 ∧ w135 = w133) (d139_1 = undef)) ∧
 ∃ d140_1 : Value, (∀ w136 : World, XPick d135_1 d139_1 (Value.bool false) fun q5 =>
 q5 = d140_1 ∧ w136 = w136) ∧
 ∃ d142_1 : Value, (XG d140_1 true (∀ w138 : World, v125 = d142_1 ∧ w138 = w138) (d142_1 = undef)) ∧
 ∃ d143_1 : Value, (XG d140_1 true (∀ w140 : World, XIdx P 27 d142_1 (Value.int .i64 0) w140 fun v143 w142 =>
 v143 = d143_1 ∧ w142 = w140) (d143_1 = undef)) ∧
 ∃ d144_1 : Value, (XG d140_1 true (∀ w143 : World, E2 w105.drew w143 → XLoad P 9 d143_1 w143 fun v144 w145 =>
 v144 = d144_1 ∧ FE2 w143 w145) (d144_1 = undef)) ∧
 ∃ d145_1 : Value, (XG d140_1 true (∀ w146 : World, E2 w105.drew w146 → XLoad P 31 v12 w146 fun v145 w148 =>
 v145 = d145_1 ∧ FE2 w146 w148) (d145_1 = undef)) ∧
 ∃ d146_1 : Value, (XG d140_1 true (∀ w149 : World, E2 w105.drew w149 → XCall P 30 #[d145_1] w149 fun v146 w151 =>
 v146 = d146_1 ∧ FE2 w149 w151) (d146_1 = undef)) ∧
 ∃ d147_1 : Value, (XG d140_1 true (∀ w152 : World, XBin P .eql 9 false false d144_1 d146_1 w152 fun v147 w154 =>
 v147 = d147_1 ∧ w154 = w152) (d147_1 = undef)) ∧
 ∃ d148_1 : Value, (∀ w155 : World, XPick d140_1 d147_1 (Value.bool false) fun q6 =>
 q6 = d148_1 ∧ w155 = w155) ∧
 ∀ w157 : World, FE2 w105.drew w157 →
 R d148_1 w157)))) (
 ∃ d96_2 : Value, (XG d92_1 false (∀ w158 : World, XB P .len #[54] 3 #[undef] w158 fun v96_2 w160 =>
 v96_2 = d96_2 ∧ w160 = w158) (d96_2 = undef)) ∧
 ∃ d97_2 : Value, (XG d92_1 false (∀ w161 : World, XBin P .neq 3 false true d96_2 (Value.int .i64 0) w161 fun v97_2 w163 =>
 v97_2 = d97_2 ∧ w163 = w161) (d97_2 = undef)) ∧
 ∃ d98_2 : Value, (∀ w164 : World, XPick d92_1 (Value.bool true) d97_2 fun q7 =>
 q7 = d98_2 ∧ w164 = w164) ∧
 XC d98_2 (
 R (Value.bool false) w76) (
 ∃ (I5 : Value → World → Prop) (m5 : Value → World → Nat), I5 (Value.int .i64 0) w76 ∧ ∀ (_jk6 : Env) (u17_i_2 : Value) (w166 : World), I5 u17_i_2 w166 →
 XIdx P 54 v81 (Value.int .i64 0) w166 fun v101_2 w167 =>
 XFld P 31 v101_2 3 w167 fun v102_2 w168 =>
 XLoad P 24 v102_2 w168 fun v103_2 w169 =>
 XB P .len #[24] 3 #[v103_2] w169 fun v104_2 w170 =>
 XBin P .lss 3 false false u17_i_2 v104_2 w170 fun v105_2 w171 =>
 XC v105_2 (
 XIdx P 54 v81 (Value.int .i64 0) w171 fun v109_2 w172 =>
 XFld P 31 v109_2 3 w172 fun v110_2 w173 =>
 XLoad P 24 v110_2 w173 fun v111_2 w174 =>
 XIdx P 24 v111_2 u17_i_2 w174 fun v113_2 w175 =>
 XFld P 45 v113_2 1 w175 fun v114_2 w176 =>
 XStore P 9 v114_2 (Value.string ⟨#[121]⟩) w176 fun w177 =>
 XBin P .add 3 false true u17_i_2 (Value.int .i64 1) w177 fun v107_2 w178 =>
 I5 v107_2 w178 ∧ m5 v107_2 w178 < m5 u17_i_2 w166) (
 XCall P 29 #[v23] w171 fun v116_2 w179 =>
 XB P .len #[27] 3 #[v116_2] w179 fun v118_2 w180 =>
 XBin P .neq 3 false true v118_2 (Value.int .i64 1) w180 fun v119_2 w181 =>
 XC v119_2 (
 R (Value.bool false) w181) (
 XIdx P 27 v116_2 (Value.int .i64 0) w181 fun v121_2 w182 =>
 XStore P 9 v121_2 (Value.string ⟨#[]⟩) w182 fun w183 =>
 XCall P 28 #[v23] w183 fun v123_2 w184 =>
 XCall P 29 #[v23] w184 fun v125_2 w185 =>
 ∃ E3 FE3 : World → World → Prop, Pre E3 FE3 ∧
 ∃ d127_2 : Value, (∀ w186 : World, XB P .len #[54] 3 #[v123_2] w186 fun v127_2 w188 =>
 v127_2 = d127_2 ∧ w188 = w186) ∧
 ∃ d128_2 : Value, (∀ w189 : World, XBin P .eql 3 false true d127_2 (Value.int .i64 1) w189 fun v128_2 w191 =>
 v128_2 = d128_2 ∧ w191 = w189) ∧
 ∃ d130_2 : Value, (XG d128_2 true (∀ w192 : World, v123_2 = d130_2 ∧ w192 = w192) (d130_2 = undef)) ∧
 ∃ d131_2 : Value, (XG d128_2 true (∀ w194 : World, XIdx P 54 d130_2 (Value.int .i64 0) w194 fun v131_2 w196 =>
 v131_2 = d131_2 ∧ w196 = w194) (d131_2 = undef)) ∧
 ∃ d132_2 : Value, (XG d128_2 true (∀ w197 : World, E3 w185.drew w197 → XLoad P 31 d131_2 w197 fun v132_2 w199 =>
 v132_2 = d132_2 ∧ FE3 w197 w199) (d132_2 = undef)) ∧
 ∃ d133_2 : Value, (XG d128_2 true (∀ w200 : World, E3 w185.drew w200 → XLoad P 31 v12 w200 fun v133_2 w202 =>
 v133_2 = d133_2 ∧ FE3 w200 w202) (d133_2 = undef)) ∧
 ∃ d134_2 : Value, (XG d128_2 true (∀ w203 : World, E3 w185.drew w203 → XCall P 20 #[d132_2, d133_2] w203 fun v134_2 w205 =>
 v134_2 = d134_2 ∧ FE3 w203 w205) (d134_2 = undef)) ∧
 ∃ d135_2 : Value, (∀ w206 : World, XPick d128_2 d134_2 (Value.bool false) fun q8 =>
 q8 = d135_2 ∧ w206 = w206) ∧
 ∃ d137_2 : Value, (XG d135_2 true (∀ w208 : World, v125_2 = d137_2 ∧ w208 = w208) (d137_2 = undef)) ∧
 ∃ d138_2 : Value, (XG d135_2 true (∀ w210 : World, XB P .len #[27] 3 #[d137_2] w210 fun v138_2 w212 =>
 v138_2 = d138_2 ∧ w212 = w210) (d138_2 = undef)) ∧
 ∃ d139_2 : Value, (XG d135_2 true (∀ w213 : World, XBin P .eql 3 false true d138_2 (Value.int .i64 1) w213 fun v139_2 w215 =>
 v139_2 = d139_2 ∧ w215 = w213) (d139_2 = undef)) ∧
 ∃ d140_2 : Value, (∀ w216 : World, XPick d135_2 d139_2 (Value.bool false) fun q9 =>
 q9 = d140_2 ∧ w216 = w216) ∧
 ∃ d142_2 : Value, (XG d140_2 true (∀ w218 : World, v125_2 = d142_2 ∧ w218 = w218) (d142_2 = undef)) ∧
 ∃ d143_2 : Value, (XG d140_2 true (∀ w220 : World, XIdx P 27 d142_2 (Value.int .i64 0) w220 fun v143_2 w222 =>
 v143_2 = d143_2 ∧ w222 = w220) (d143_2 = undef)) ∧
 ∃ d144_2 : Value, (XG d140_2 true (∀ w223 : World, E3 w185.drew w223 → XLoad P 9 d143_2 w223 fun v144_2 w225 =>
 v144_2 = d144_2 ∧ FE3 w223 w225) (d144_2 = undef)) ∧
 ∃ d145_2 : Value, (XG d140_2 true (∀ w226 : World, E3 w185.drew w226 → XLoad P 31 v12 w226 fun v145_2 w228 =>
 v145_2 = d145_2 ∧ FE3 w226 w228) (d145_2 = undef)) ∧
 ∃ d146_2 : Value, (XG d140_2 true (∀ w229 : World, E3 w185.drew w229 → XCall P 30 #[d145_2] w229 fun v146_2 w231 =>
 v146_2 = d146_2 ∧ FE3 w229 w231) (d146_2 = undef)) ∧
 ∃ d147_2 : Value, (XG d140_2 true (∀ w232 : World, XBin P .eql 9 false false d144_2 d146_2 w232 fun v147_2 w234 =>
 v147_2 = d147_2 ∧ w234 = w232) (d147_2 = undef)) ∧
 ∃ d148_2 : Value, (∀ w235 : World, XPick d140_2 d147_2 (Value.bool false) fun q10 =>
 q10 = d148_2 ∧ w235 = w235) ∧
 ∀ w237 : World, FE3 w185.drew w237 →
 R d148_2 w237))))))))) ∧
 XG v26 false (
 XBin P .eql 51 false true v24 (Value.pointer none) w5 fun v29 w238 =>
 J1 v29 w238) (J1 undef w5))
noncomputable def C_joinerylaw9_TapeOwn : Code := (Tryz.f7.body).getD .skip
noncomputable def an_joinerylaw9_TapeOwn : An := (.seq none (.reg []) (.seq none (.seq none (.reg []) (.cond (.seq none (.reg []) .leaf) .leaf)) (.seq none (.reg []) (.seq none (.seq none (.reg [[29]]) (.cond (.seq none (.reg []) .leaf) .leaf)) (.seq none (.reg []) (.seq none (.reg []) (.seq none (.seq none (.reg []) (.block none (.loop [13] (.seq none (.seq none (.reg []) (.cond .leaf .leaf)) (.seq none (.block none (.reg [])) (.reg [])))))) (.seq none (.seq none (.reg []) (.block none (.loop [14] (.seq none (.seq none (.reg []) (.cond .leaf .leaf)) (.seq none (.block none (.reg [])) (.reg [])))))) (.seq none (.seq none (.reg []) (.block none (.loop [15] (.seq none (.seq none (.reg []) (.cond .leaf .leaf)) (.seq none (.block none (.reg [])) (.reg [])))))) (.seq none (.reg []) (.seq none (.seq none (.draw [0, 0, 0, 0, 0, 0, 1, 1, 1, 0, 0, 0, 0, 2, 0, 0, 0]) (.cond (.seq none (.reg []) .leaf) .leaf)) (.seq none (.seq none (.reg []) (.block none (.loop [17] (.seq none (.seq none (.reg []) (.cond .leaf .leaf)) (.seq none (.block none (.reg [])) (.reg [])))))) (.seq none (.reg []) (.seq none (.seq none (.reg []) (.cond (.seq none (.reg []) .leaf) .leaf)) (.seq none (.reg []) (.seq none (.reg []) (.seq none (.draw [0, 0, 0, 0, 0, 0, 1, 1, 1, 0, 0, 0, 0, 0, 0, 0, 0, 0, 1, 1, 1, 0, 0, 2]) .leaf)))))))))))))))))
theorem S_joinerylaw9_TapeOwn_eq (P : Program) (p0 p1 p2 p3 : Value) (w : World) (R : Value → World → Prop) : WPf P C_joinerylaw9_TapeOwn Tryz.f7.results.toList an_joinerylaw9_TapeOwn #[p0, p1, p2, p3] w R = S_joinerylaw9_TapeOwn P p0 p1 p2 p3 w R := by kernel_rfl
theorem ok_joinerylaw9_TapeOwn : okC Tryz.f7.ntmps C_joinerylaw9_TapeOwn an_joinerylaw9_TapeOwn = true := by kernel_rfl
theorem call_joinerylaw9_TapeOwn {p0 p1 p2 p3 w R} (h : S_joinerylaw9_TapeOwn Tryz.prog p0 p1 p2 p3 w R) : Ret Tryz.prog 7 #[p0, p1, p2, p3] w R :=
  Ret_of_WPf mixed Tryz.func7 (by kernel_rfl) (Nat.le_of_ble_eq_true (by kernel_rfl)) ok_joinerylaw9_TapeOwn ((S_joinerylaw9_TapeOwn_eq ..).symm ▸ h)

/-- joinery/joinerylaw9.TapeLines -/
def S_joinerylaw9_TapeLines (P : Program) (p0 : Value) (w : World) (R : Value → World → Prop) : Prop :=
 XCall P 25 #[] w fun v10 w1 =>
 XUn P .not v10 w1 fun v11 w2 =>
 XC v11 (
 R (Value.bool false) w2) (
 XCall P 26 #[] w2 fun v12 w3 =>
 XBin P .eql 51 false true v12 (Value.pointer none) w3 fun v14 w4 =>
 XC v14 (
 R (Value.bool false) w4) (
 ∃ (I1 : Value → World → Prop) (m1 : Value → World → Nat), I1 (Value.int .i64 0) w4 ∧ ∀ (_jk1 : Env) (u4_i : Value) (w5 : World), I1 u4_i w5 →
 XB P .len #[58] 3 #[p0] w5 fun v17 w6 =>
 XBin P .lss 3 false false u4_i v17 w6 fun v18 w7 =>
 ∃ J1 : Value → World → Prop, (∀ (_jk2 : Env) (u21 : Value) (w8 : World), J1 u21 w8 →
 XPick v18 u21 (Value.bool false) fun q1 =>
 XC q1 (
 ∃ E1 FE1 : World → World → Prop, Pre E1 FE1 ∧
 ∃ d28_1 : Value, (∀ w9 : World, XIdx P 58 p0 u4_i w9 fun v28 w11 =>
 v28 = d28_1 ∧ w11 = w9) ∧
 ∃ d29_1 : Value, (∀ w12 : World, XFld P 60 d28_1 0 w12 fun v29 w14 =>
 v29 = d29_1 ∧ w14 = w12) ∧
 ∃ d30_1 : Value, (∀ w15 : World, E1 w8.drew w15 → XLoad P 3 d29_1 w15 fun v30 w17 =>
 v30 = d30_1 ∧ FE1 w15 w17) ∧
 ∃ d33_1 : Value, (∀ w18 : World, XIdx P 58 p0 u4_i w18 fun v33 w20 =>
 v33 = d33_1 ∧ w20 = w18) ∧
 ∃ d34_1 : Value, (∀ w21 : World, XFld P 60 d33_1 1 w21 fun v34 w23 =>
 v34 = d34_1 ∧ w23 = w21) ∧
 ∃ d35_1 : Value, (∀ w24 : World, E1 w8.drew w24 → XLoad P 3 d34_1 w24 fun v35 w26 =>
 v35 = d35_1 ∧ FE1 w24 w26) ∧
 ∃ d38_1 : Value, (∀ w27 : World, XIdx P 58 p0 u4_i w27 fun v38 w29 =>
 v38 = d38_1 ∧ w29 = w27) ∧
 ∃ d39_1 : Value, (∀ w30 : World, XFld P 60 d38_1 2 w30 fun v39 w32 =>
 v39 = d39_1 ∧ w32 = w30) ∧
 ∃ d40_1 : Value, (∀ w33 : World, E1 w8.drew w33 → XLoad P 22 d39_1 w33 fun v40 w35 =>
 v40 = d40_1 ∧ FE1 w33 w35) ∧
 ∃ d43_1 : Value, (∀ w36 : World, XIdx P 58 p0 u4_i w36 fun v43 w38 =>
 v43 = d43_1 ∧ w38 = w36) ∧
 ∃ d44_1 : Value, (∀ w39 : World, XFld P 60 d43_1 1 w39 fun v44 w41 =>
 v44 = d44_1 ∧ w41 = w39) ∧
 ∃ d45_1 : Value, (∀ w42 : World, E1 w8.drew w42 → XLoad P 3 d44_1 w42 fun v45 w44 =>
 v45 = d45_1 ∧ FE1 w42 w44) ∧
 ∃ d46_1 : Value, (∀ w45 : World, XBin P .quo 3 false true d45_1 (Value.int .i64 7) w45 fun v46 w47 =>
 v46 = d46_1 ∧ w47 = w45) ∧
 ∀ w48 : World, FE1 w8.drew w48 →
 XCall P 16 #[d30_1, d35_1, d40_1, d46_1] w48 fun v47 w49 =>
 XCall P 27 #[v12, v47] w49 fun v48 w50 =>
 XBin P .add 3 false true u4_i (Value.int .i64 1) w50 fun v24 w51 =>
 I1 v24 w51 ∧ m1 v24 w51 < m1 u4_i w5) (
 XCall P 28 #[v12] w8 fun v50 w52 =>
 XCall P 29 #[v12] w52 fun v52 w53 =>
 XB P .len #[54] 3 #[v50] w53 fun v54 w54 =>
 XB P .len #[27] 3 #[v52] w54 fun v56 w55 =>
 XBin P .neq 3 false false v54 v56 w55 fun v57 w56 =>
 ∃ J2 : Value → World → Prop, (∀ (_jk3 : Env) (u64 : Value) (w57 : World), J2 u64 w57 →
 XPick v57 (Value.bool true) u64 fun q2 =>
 XC q2 (
 R (Value.bool false) w57) (
 ∃ (I2 : Value → World → Prop) (m2 : Value → World → Nat), I2 (Value.int .i64 0) w57 ∧ ∀ (_jk4 : Env) (u7_i : Value) (w58 : World), I2 u7_i w58 →
 XB P .len #[54] 3 #[v50] w58 fun v68 w59 =>
 XBin P .lss 3 false false u7_i v68 w59 fun v69 w60 =>
 XC v69 (
 XIdx P 27 v52 u7_i w60 fun v75 w61 =>
 XLoad P 9 v75 w61 fun v76 w62 =>
 XCall P 21 #[v76] w62 fun v77 w63 =>
 XExt P v77 0 w63 fun v78 w64 =>
 XExt P v77 1 w64 fun v79 w65 =>
 XAlloc P 31 w65 fun v8 w66 =>
 XStore P 31 v8 v78 w66 fun w67 =>
 ∃ E2 FE2 : World → World → Prop, Pre E2 FE2 ∧
 ∃ d81_1 : Value, (∀ w68 : World, XBin P .neq 3 false true v79 (Value.int .i64 0) w68 fun v81 w70 =>
 v81 = d81_1 ∧ w70 = w68) ∧
 ∃ d83_1 : Value, (XG d81_1 false (∀ w71 : World, E2 w67.drew w71 → XLoad P 31 v8 w71 fun v83 w73 =>
 v83 = d83_1 ∧ FE2 w71 w73) (d83_1 = undef)) ∧
 ∃ d84_1 : Value, (XG d81_1 false (∀ w74 : World, v50 = d84_1 ∧ w74 = w74) (d84_1 = undef)) ∧
 ∃ d85_1 : Value, (XG d81_1 false (∀ w76 : World, u7_i = d85_1 ∧ w76 = w76) (d85_1 = undef)) ∧
 ∃ d86_1 : Value, (XG d81_1 false (∀ w78 : World, XIdx P 54 d84_1 d85_1 w78 fun v86 w80 =>
 v86 = d86_1 ∧ w80 = w78) (d86_1 = undef)) ∧
 ∃ d87_1 : Value, (XG d81_1 false (∀ w81 : World, E2 w67.drew w81 → XLoad P 31 d86_1 w81 fun v87 w83 =>
 v87 = d87_1 ∧ FE2 w81 w83) (d87_1 = undef)) ∧
 ∃ d88_1 : Value, (XG d81_1 false (∀ w84 : World, E2 w67.drew w84 → XCall P 20 #[d83_1, d87_1] w84 fun v88 w86 =>
 v88 = d88_1 ∧ FE2 w84 w86) (d88_1 = undef)) ∧
 ∃ d89_1 : Value, (XG d81_1 false (∀ w87 : World, XUn P .not d88_1 w87 fun v89 w89 =>
 v89 = d89_1 ∧ w89 = w87) (d89_1 = undef)) ∧
 ∃ d90_1 : Value, (∀ w90 : World, XPick d81_1 (Value.bool true) d89_1 fun q3 =>
 q3 = d90_1 ∧ w90 = w90) ∧
 ∃ d92_1 : Value, (XG d90_1 false (∀ w92 : World, v50 = d92_1 ∧ w92 = w92) (d92_1 = undef)) ∧
 ∃ d93_1 : Value, (XG d90_1 false (∀ w94 : World, u7_i = d93_1 ∧ w94 = w94) (d93_1 = undef)) ∧
 ∃ d94_1 : Value, (XG d90_1 false (∀ w96 : World, XIdx P 54 d92_1 d93_1 w96 fun v94 w98 =>
 v94 = d94_1 ∧ w98 = w96) (d94_1 = undef)) ∧
 ∃ d95_1 : Value, (XG d90_1 false (∀ w99 : World, E2 w67.drew w99 → XLoad P 31 d94_1 w99 fun v95 w101 =>
 v95 = d95_1 ∧ FE2 w99 w101) (d95_1 = undef)) ∧
 ∃ d96_1 : Value, (XG d90_1 false (∀ w102 : World, E2 w67.drew w102 → XCall P 30 #[d95_1] w102 fun v96 w104 =>
 v96 = d96_1 ∧ FE2 w102 w104) (d96_1 = undef)) ∧
 ∃ d97_1 : Value, (XG d90_1 false (∀ w105 : World, v52 = d97_1 ∧ w105 = w105) (d97_1 = undef)) ∧
 ∃ d98_1 : Value, (XG d90_1 false (∀ w107 : World, u7_i = d98_1 ∧ w107 = w107) (d98_1 = undef)) ∧
 ∃ d99_1 : Value, (XG d90_1 false (∀ w109 : World, XIdx P 27 d97_1 d98_1 w109 fun v99 w111 =>
 v99 = d99_1 ∧ w111 = w109) (d99_1 = undef)) ∧
 ∃ d100_1 : Value, (XG d90_1 false (∀ w112 : World, E2 w67.drew w112 → XLoad P 9 d99_1 w112 fun v100 w114 =>
 v100 = d100_1 ∧ FE2 w112 w114) (d100_1 = undef)) ∧
 ∃ d101_1 : Value, (XG d90_1 false (∀ w115 : World, XBin P .neq 9 false false d96_1 d100_1 w115 fun v101 w117 =>
 v101 = d101_1 ∧ w117 = w115) (d101_1 = undef)) ∧
 ∃ d102_1 : Value, (∀ w118 : World, XPick d90_1 (Value.bool true) d101_1 fun q4 =>
 q4 = d102_1 ∧ w118 = w118) ∧
 ∃ d104_1 : Value, (XG d102_1 false (∀ w120 : World, v50 = d104_1 ∧ w120 = w120) (d104_1 = undef)) ∧
 ∃ d105_1 : Value, (XG d102_1 false (∀ w122 : World, u7_i = d105_1 ∧ w122 = w122) (d105_1 = undef)) ∧
 ∃ d106_1 : Value, (XG d102_1 false (∀ w124 : World, XIdx P 54 d104_1 d105_1 w124 fun v106 w126 =>
 v106 = d106_1 ∧ w126 = w124) (d106_1 = undef)) ∧
 ∃ d107_1 : Value, (XG d102_1 false (∀ w127 : World, E2 w67.drew w127 → XLoad P 31 d106_1 w127 fun v107 w129 =>
 v107 = d107_1 ∧ FE2 w127 w129) (d107_1 = undef)) ∧
 ∃ d108_1 : Value, (XG d102_1 false (∀ w130 : World, p0 = d108_1 ∧ w130 = w130) (d108_1 = undef)) ∧
 ∃ d109_1 : Value, (XG d102_1 false (∀ w132 : World, u7_i = d109_1 ∧ w132 = w132) (d109_1 = undef)) ∧
 ∃ d110_1 : Value, (XG d102_1 false (∀ w134 : World, XIdx P 58 d108_1 d109_1 w134 fun v110 w136 =>
 v110 = d110_1 ∧ w136 = w134) (d110_1 = undef)) ∧
 ∃ d111_1 : Value, (XG d102_1 false (∀ w137 : World, XFld P 60 d110_1 0 w137 fun v111 w139 =>
 v111 = d111_1 ∧ w139 = w137) (d111_1 = undef)) ∧
 ∃ d112_1 : Value, (XG d102_1 false (∀ w140 : World, E2 w67.drew w140 → XLoad P 3 d111_1 w140 fun v112 w142 =>
 v112 = d112_1 ∧ FE2 w140 w142) (d112_1 = undef)) ∧
 ∃ d113_1 : Value, (XG d102_1 false (∀ w143 : World, p0 = d113_1 ∧ w143 = w143) (d113_1 = undef)) ∧
 ∃ d114_1 : Value, (XG d102_1 false (∀ w145 : World, u7_i = d114_1 ∧ w145 = w145) (d114_1 = undef)) ∧
 ∃ d115_1 : Value, (XG d102_1 false (∀ w147 : World, XIdx P 58 d113_1 d114_1 w147 fun v115 w149 =>
 v115 = d115_1 ∧ w149 = w147) (d115_1 = undef)) ∧
 ∃ d116_1 : Value, (XG d102_1 false (∀ w150 : World, XFld P 60 d115_1 1 w150 fun v116 w152 =>
 v116 = d116_1 ∧ w152 = w150) (d116_1 = undef)) ∧
 ∃ d117_1 : Value, (XG d102_1 false (∀ w153 : World, E2 w67.drew w153 → XLoad P 3 d116_1 w153 fun v117 w155 =>
 v117 = d117_1 ∧ FE2 w153 w155) (d117_1 = undef)) ∧
 ∃ d118_1 : Value, (XG d102_1 false (∀ w156 : World, p0 = d118_1 ∧ w156 = w156) (d118_1 = undef)) ∧
 ∃ d119_1 : Value, (XG d102_1 false (∀ w158 : World, u7_i = d119_1 ∧ w158 = w158) (d119_1 = undef)) ∧
 ∃ d120_1 : Value, (XG d102_1 false (∀ w160 : World, XIdx P 58 d118_1 d119_1 w160 fun v120 w162 =>
 v120 = d120_1 ∧ w162 = w160) (d120_1 = undef)) ∧
 ∃ d121_1 : Value, (XG d102_1 false (∀ w163 : World, XFld P 60 d120_1 2 w163 fun v121 w165 =>
 v121 = d121_1 ∧ w165 = w163) (d121_1 = undef)) ∧
 ∃ d122_1 : Value, (XG d102_1 false (∀ w166 : World, E2 w67.drew w166 → XLoad P 22 d121_1 w166 fun v122 w168 =>
 v122 = d122_1 ∧ FE2 w166 w168) (d122_1 = undef)) ∧
 ∃ d123_1 : Value, (XG d102_1 false (∀ w169 : World, p0 = d123_1 ∧ w169 = w169) (d123_1 = undef)) ∧
 ∃ d124_1 : Value, (XG d102_1 false (∀ w171 : World, u7_i = d124_1 ∧ w171 = w171) (d124_1 = undef)) ∧
 ∃ d125_1 : Value, (XG d102_1 false (∀ w173 : World, XIdx P 58 d123_1 d124_1 w173 fun v125 w175 =>
 v125 = d125_1 ∧ w175 = w173) (d125_1 = undef)) ∧
 ∃ d126_1 : Value, (XG d102_1 false (∀ w176 : World, XFld P 60 d125_1 1 w176 fun v126 w178 =>
 v126 = d126_1 ∧ w178 = w176) (d126_1 = undef)) ∧
 ∃ d127_1 : Value, (XG d102_1 false (∀ w179 : World, E2 w67.drew w179 → XLoad P 3 d126_1 w179 fun v127 w181 =>
 v127 = d127_1 ∧ FE2 w179 w181) (d127_1 = undef)) ∧
 ∃ d128_1 : Value, (XG d102_1 false (∀ w182 : World, XBin P .quo 3 false true d127_1 (Value.int .i64 7) w182 fun v128 w184 =>
 v128 = d128_1 ∧ w184 = w182) (d128_1 = undef)) ∧
 ∀ w185 : World, FE2 w67.drew w185 →
 XG d102_1 false (
 XCall P 16 #[d112_1, d117_1, d122_1, d128_1] w185 fun v129 w186 =>
 E2 w185 w186 ∧
 ∀ w187 : World, FE2 w186 w187 →
 XG d102_1 false (
 XCall P 20 #[d107_1, v129] w187 fun v130 w188 =>
 ∃ d131_1 : Value, (XG d102_1 false (∀ w189 : World, XUn P .not v130 w189 fun v131 w191 =>
 v131 = d131_1 ∧ w191 = w189) (d131_1 = undef)) ∧
 ∃ d132_1 : Value, (∀ w192 : World, XPick d102_1 (Value.bool true) d131_1 fun q5 =>
 q5 = d132_1 ∧ w192 = w192) ∧
 XC d132_1 (
 R (Value.bool false) w188) (
 XBin P .add 3 false true u7_i (Value.int .i64 1) w188 fun v71 w194 =>
 I2 v71 w194 ∧ m2 v71 w194 < m2 u7_i w58)) (
 ∃ d131_2 : Value, (XG d102_1 false (∀ w195 : World, XUn P .not undef w195 fun v131_2 w197 =>
 v131_2 = d131_2 ∧ w197 = w195) (d131_2 = undef)) ∧
 ∃ d132_2 : Value, (∀ w198 : World, XPick d102_1 (Value.bool true) d131_2 fun q6 =>
 q6 = d132_2 ∧ w198 = w198) ∧
 XC d132_2 (
 R (Value.bool false) w187) (
 XBin P .add 3 false true u7_i (Value.int .i64 1) w187 fun v71_2 w200 =>
 I2 v71_2 w200 ∧ m2 v71_2 w200 < m2 u7_i w58))) (
 E2 w185 w185 ∧
 ∀ w201 : World, FE2 w185 w201 →
 XG d102_1 false (
 XCall P 20 #[d107_1, undef] w201 fun v130_2 w202 =>
 ∃ d131_3 : Value, (XG d102_1 false (∀ w203 : World, XUn P .not v130_2 w203 fun v131_3 w205 =>
 v131_3 = d131_3 ∧ w205 = w203) (d131_3 = undef)) ∧
 ∃ d132_3 : Value, (∀ w206 : World, XPick d102_1 (Value.bool true) d131_3 fun q7 =>
 q7 = d132_3 ∧ w206 = w206) ∧
 XC d132_3 (
 R (Value.bool false) w202) (
 XBin P .add 3 false true u7_i (Value.int .i64 1) w202 fun v71_3 w208 =>
 I2 v71_3 w208 ∧ m2 v71_3 w208 < m2 u7_i w58)) (
 ∃ d131_4 : Value, (XG d102_1 false (∀ w209 : World, XUn P .not undef w209 fun v131_4 w211 =>
 v131_4 = d131_4 ∧ w211 = w209) (d131_4 = undef)) ∧
 ∃ d132_4 : Value, (∀ w212 : World, XPick d102_1 (Value.bool true) d131_4 fun q8 =>
 q8 = d132_4 ∧ w212 = w212) ∧
 XC d132_4 (
 R (Value.bool false) w201) (
 XBin P .add 3 false true u7_i (Value.int .i64 1) w201 fun v71_4 w214 =>
 I2 v71_4 w214 ∧ m2 v71_4 w214 < m2 u7_i w58)))) (
 R (Value.bool true) w60))) ∧
 XG v57 false (
 XB P .len #[54] 3 #[v50] w56 fun v60 w215 =>
 XB P .len #[58] 3 #[p0] w215 fun v62 w216 =>
 XB P .min #[3, 3] 3 #[v62, (Value.int .i64 30)] w216 fun v63 w217 =>
 XBin P .neq 3 false false v60 v63 w217 fun v64 w218 =>
 J2 v64 w218) (J2 undef w56))) ∧
 XG v18 true (
 XBin P .lss 3 false true u4_i (Value.int .i64 30) w7 fun v21 w219 =>
 J1 v21 w219) (J1 undef w7)))
noncomputable def C_joinerylaw9_TapeLines : Code := (Tryz.f8.body).getD .skip
noncomputable def an_joinerylaw9_TapeLines : An := (.seq none (.reg []) (.seq none (.seq none (.reg []) (.cond (.seq none (.reg []) .leaf) .leaf)) (.seq none (.reg []) (.seq none (.seq none (.reg []) (.cond (.seq none (.reg []) .leaf) .leaf)) (.seq none (.seq none (.reg []) (.block none (.loop [4] (.seq none (.seq none (.reg [[21]]) (.cond .leaf .leaf)) (.seq none (.block none (.draw [0, 0, 0, 0, 0, 1, 0, 0, 0, 0, 1, 0, 0, 0, 0, 1, 0, 0, 0, 0, 1, 0, 2, 2])) (.reg [])))))) (.seq none (.reg []) (.seq none (.seq none (.reg [[64]]) (.cond (.seq none (.reg []) .leaf) .leaf)) (.seq none (.seq none (.reg []) (.block none (.loop [7] (.seq none (.seq none (.reg []) (.cond .leaf .leaf)) (.seq none (.block none (.seq none (.reg []) (.seq none (.draw [0, 0, 0, 1, 0, 0, 0, 1, 1, 0, 0, 0, 0, 0, 0, 1, 1, 0, 0, 0, 1, 0, 0, 0, 0, 0, 0, 1, 0, 0, 0, 0, 1, 0, 0, 0, 0, 1, 0, 0, 0, 0, 1, 0, 0, 0, 0, 1, 0, 2, 2, 0, 0]) (.cond (.seq none (.reg []) .leaf) .leaf)))) (.reg [])))))) (.seq none (.reg []) .leaf)))))))))
theorem S_joinerylaw9_TapeLines_eq (P : Program) (p0 : Value) (w : World) (R : Value → World → Prop) : WPf P C_joinerylaw9_TapeLines Tryz.f8.results.toList an_joinerylaw9_TapeLines #[p0] w R = S_joinerylaw9_TapeLines P p0 w R := by kernel_rfl
theorem ok_joinerylaw9_TapeLines : okC Tryz.f8.ntmps C_joinerylaw9_TapeLines an_joinerylaw9_TapeLines = true := by kernel_rfl
theorem call_joinerylaw9_TapeLines {p0 w R} (h : S_joinerylaw9_TapeLines Tryz.prog p0 w R) : Ret Tryz.prog 8 #[p0] w R :=
  Ret_of_WPf mixed Tryz.func8 (by kernel_rfl) (Nat.le_of_ble_eq_true (by kernel_rfl)) ok_joinerylaw9_TapeLines ((S_joinerylaw9_TapeLines_eq ..).symm ▸ h)

/-- joinery/joinerylaw9.TapeAgain -/
def S_joinerylaw9_TapeAgain (P : Program) (p0 p1 p2 : Value) (w : World) (R : Value → World → Prop) : Prop :=
 XCall P 25 #[] w fun v12 w1 =>
 XUn P .not v12 w1 fun v13 w2 =>
 XC v13 (
 R (Value.bool false) w2) (
 XCall P 26 #[] w2 fun v14 w3 =>
 XBin P .eql 51 false true v14 (Value.pointer none) w3 fun v16 w4 =>
 XC v16 (
 R (Value.bool false) w4) (
 XB P .len #[22] 3 #[p0] w4 fun v18 w5 =>
 XB P .min #[3, 3] 3 #[v18, (Value.int .i64 15)] w5 fun v19 w6 =>
 ∃ (I1 : Value → World → Prop) (m1 : Value → World → Nat), I1 (Value.int .i64 0) w6 ∧ ∀ (_jk1 : Env) (u9_i : Value) (w7 : World), I1 u9_i w7 →
 XBin P .lss 3 false false u9_i v19 w7 fun v22 w8 =>
 XC v22 (
 XIdx P 22 p0 u9_i w8 fun v28 w9 =>
 XLoad P 3 v28 w9 fun v29 w10 =>
 XCall P 31 #[v29, (Value.int .i64 999999)] w10 fun v30 w11 =>
 XBin P .add 3 true false (Value.int .i64 1) v30 w11 fun v31 w12 =>
 XBuild P 31 #[(0, (Value.int .i64 4)), (1, v31)] w12 fun v32 w13 =>
 XCall P 27 #[v14, v32] w13 fun v33 w14 =>
 XBin P .add 3 false true u9_i (Value.int .i64 1) w14 fun v24 w15 =>
 I1 v24 w15 ∧ m1 v24 w15 < m1 u9_i w7) (
 XCall P 31 #[p1, (Value.int .i64 20)] w8 fun v35 w16 =>
 XCall P 32 #[v14, v35] w16 fun v38 w17 =>
 XCall P 28 #[v14] w17 fun v40 w18 =>
 XB P .len #[54] 3 #[v40] w18 fun v41 w19 =>
 XCall P 31 #[p2, (Value.int .i64 9)] w19 fun v44 w20 =>
 XBin P .sub 3 true false (Value.int .i64 0) v44 w20 fun v45 w21 =>
 XCall P 32 #[v14, v45] w21 fun v46 w22 =>
 XB P .min #[3, 3] 3 #[v35, v19] w22 fun v50 w23 =>
 XBin P .eql 3 false false v41 v50 w23 fun v51 w24 =>
 ∃ J1 : Value → World → Prop, (∀ (_jk2 : Env) (u57 : Value) (w25 : World), J1 u57 w25 →
 XPick v51 u57 (Value.bool false) fun q1 =>
 ∃ J2 : Value → World → Prop, (∀ (_jk3 : Env) (u63 : Value) (w26 : World), J2 u63 w26 →
 XPick q1 u63 (Value.bool false) fun q2 =>
 R q2 w26) ∧
 XG q1 true (
 XCall P 33 #[v14] w25 fun v61 w27 =>
 XBin P .eql 3 false false v61 v41 w27 fun v63 w28 =>
 J2 v63 w28) (J2 undef w25)) ∧
 XG v51 true (
 XCall P 28 #[v14] w24 fun v54 w29 =>
 XB P .len #[54] 3 #[v54] w29 fun v55 w30 =>
 XBin P .eql 3 false false v55 v41 w30 fun v57 w31 =>
 J1 v57 w31) (J1 undef w24))))
noncomputable def C_joinerylaw9_TapeAgain : Code := (Tryz.f9.body).getD .skip
noncomputable def an_joinerylaw9_TapeAgain : An := (.seq none (.reg []) (.seq none (.seq none (.reg []) (.cond (.seq none (.reg []) .leaf) .leaf)) (.seq none (.reg []) (.seq none (.seq none (.reg []) (.cond (.seq none (.reg []) .leaf) .leaf)) (.seq none (.reg []) (.seq none (.seq none (.reg []) (.block none (.loop [9] (.seq none (.seq none (.reg []) (.cond .leaf .leaf)) (.seq none (.block none (.reg [])) (.reg [])))))) (.seq none (.reg []) (.seq none (.reg []) (.seq none (.reg []) (.seq none (.reg []) (.seq none (.reg [[57], [63]]) .leaf)))))))))))
theorem S_joinerylaw9_TapeAgain_eq (P : Program) (p0 p1 p2 : Value) (w : World) (R : Value → World → Prop) : WPf P C_joinerylaw9_TapeAgain Tryz.f9.results.toList an_joinerylaw9_TapeAgain #[p0, p1, p2] w R = S_joinerylaw9_TapeAgain P p0 p1 p2 w R := by kernel_rfl
theorem ok_joinerylaw9_TapeAgain : okC Tryz.f9.ntmps C_joinerylaw9_TapeAgain an_joinerylaw9_TapeAgain = true := by kernel_rfl
theorem call_joinerylaw9_TapeAgain {p0 p1 p2 w R} (h : S_joinerylaw9_TapeAgain Tryz.prog p0 p1 p2 w R) : Ret Tryz.prog 9 #[p0, p1, p2] w R :=
  Ret_of_WPf mixed Tryz.func9 (by kernel_rfl) (Nat.le_of_ble_eq_true (by kernel_rfl)) ok_joinerylaw9_TapeAgain ((S_joinerylaw9_TapeAgain_eq ..).symm ▸ h)

/-- joinery/joinerylaw9.TapeMore -/
def S_joinerylaw9_TapeMore (P : Program) (p0 p1 p2 : Value) (w : World) (R : Value → World → Prop) : Prop :=
 XCall P 25 #[] w fun v14 w1 =>
 XUn P .not v14 w1 fun v15 w2 =>
 XC v15 (
 R (Value.bool false) w2) (
 XCall P 26 #[] w2 fun v16 w3 =>
 XBin P .eql 51 false true v16 (Value.pointer none) w3 fun v18 w4 =>
 XC v18 (
 R (Value.bool false) w4) (
 XCall P 31 #[p1, (Value.int .i64 20)] w4 fun v20 w5 =>
 ∃ (I1 : Value → Value → World → Prop) (m1 : Value → Value → World → Nat), I1 (Value.slice none 0 0) (Value.int .i64 0) w5 ∧ ∀ (_jk1 : Env) (u8_want u10_i : Value) (w6 : World), I1 u8_want u10_i w6 →
 XB P .len #[22] 3 #[p0] w6 fun v23 w7 =>
 XBin P .lss 3 false false u10_i v23 w7 fun v24 w8 =>
 ∃ J1 : Value → World → Prop, (∀ (_jk2 : Env) (u27 : Value) (w9 : World), J1 u27 w9 →
 XPick v24 u27 (Value.bool false) fun q1 =>
 XC q1 (
 ∃ E1 FE1 : World → World → Prop, Pre E1 FE1 ∧
 ∃ d33_1 : Value, (∀ w10 : World, XIdx P 22 p0 u10_i w10 fun v33 w12 =>
 v33 = d33_1 ∧ w12 = w10) ∧
 ∃ d34_1 : Value, (∀ w13 : World, E1 w9.drew w13 → XLoad P 3 d33_1 w13 fun v34 w15 =>
 v34 = d34_1 ∧ FE1 w13 w15) ∧
 ∃ d39_1 : Value, (∀ w16 : World, XIdx P 22 p0 u10_i w16 fun v39 w18 =>
 v39 = d39_1 ∧ w18 = w16) ∧
 ∃ d40_1 : Value, (∀ w19 : World, E1 w9.drew w19 → XLoad P 3 d39_1 w19 fun v40 w21 =>
 v40 = d40_1 ∧ FE1 w19 w21) ∧
 ∃ d41_1 : Value, (∀ w22 : World, XBin P .quo 3 false true d40_1 (Value.int .i64 7) w22 fun v41 w24 =>
 v41 = d41_1 ∧ w24 = w22) ∧
 ∀ w25 : World, FE1 w9.drew w25 →
(XCall P 16 #[d34_1, u10_i, p0, d41_1] w25 fun v42 w26 =>
 XAlloc P 31 w26 fun v11 w27 =>
 XStore P 31 v11 v42 w27 fun w28 =>
 XLoad P 31 v11 w28 fun v44 w29 =>
 XCall P 27 #[v16, v44] w29 fun v45 w30 =>
 XBin P .lss 3 false false u10_i v20 w30 fun v48 w31 =>
 XC v48 (
 XLoad P 31 v11 w31 fun v50 w32 =>
 XCall P 30 #[v50] w32 fun v51 w33 =>
 XBuildS P 27 1 #[(0, v51)] w33 fun v52 w34 =>
 XB P .append #[27, 27] 27 #[u8_want, v52] w34 fun v53 w35 =>
 XBin P .add 3 false true u10_i (Value.int .i64 1) w35 fun v30 w36 =>
 I1 v53 v30 w36 ∧ m1 v53 v30 w36 < m1 u8_want u10_i w6) (
 XBin P .add 3 false true u10_i (Value.int .i64 1) w31 fun v30_2 w37 =>
 I1 u8_want v30_2 w37 ∧ m1 u8_want v30_2 w37 < m1 u8_want u10_i w6)) ∧
(XAlloc P 31 w25 fun v11_2 w38 =>
 E1 w25 w38 ∧
 ∀ w39 : World, FE1 w38 w39 →
 XCall P 16 #[d34_1, u10_i, p0, d41_1] w39 fun v42_2 w40 =>
 XStore P 31 v11_2 v42_2 w40 fun w41 =>
 XLoad P 31 v11_2 w41 fun v44_2 w42 =>
 XCall P 27 #[v16, v44_2] w42 fun v45_2 w43 =>
 XBin P .lss 3 false false u10_i v20 w43 fun v48_2 w44 =>
 XC v48_2 (
 XLoad P 31 v11_2 w44 fun v50_2 w45 =>
 XCall P 30 #[v50_2] w45 fun v51_2 w46 =>
 XBuildS P 27 1 #[(0, v51_2)] w46 fun v52_2 w47 =>
 XB P .append #[27, 27] 27 #[u8_want, v52_2] w47 fun v53_2 w48 =>
 XBin P .add 3 false true u10_i (Value.int .i64 1) w48 fun v30_3 w49 =>
 I1 v53_2 v30_3 w49 ∧ m1 v53_2 v30_3 w49 < m1 u8_want u10_i w6) (
 XBin P .add 3 false true u10_i (Value.int .i64 1) w44 fun v30_4 w50 =>
 I1 u8_want v30_4 w50 ∧ m1 u8_want v30_4 w50 < m1 u8_want u10_i w6))) (
 XCall P 32 #[v16, v20] w9 fun v56 w51 =>
 ∃ (I2 : Value → Value → World → Prop) (m2 : Value → Value → World → Nat), I2 u8_want (Value.int .i64 0) w51 ∧ ∀ (_jk3 : Env) (u8_want_2 u12_i : Value) (w52 : World), I2 u8_want_2 u12_i w52 →
 XB P .len #[22] 3 #[p2] w52 fun v59 w53 =>
 XBin P .lss 3 false false u12_i v59 w53 fun v60 w54 =>
 ∃ J2 : Value → World → Prop, (∀ (_jk4 : Env) (u63 : Value) (w55 : World), J2 u63 w55 →
 XPick v60 u63 (Value.bool false) fun q2 =>
 XC q2 (
 ∃ E2 FE2 : World → World → Prop, Pre E2 FE2 ∧
 ∃ d69_1 : Value, (∀ w56 : World, XIdx P 22 p2 u12_i w56 fun v69 w58 =>
 v69 = d69_1 ∧ w58 = w56) ∧
 ∃ d70_1 : Value, (∀ w59 : World, E2 w55.drew w59 → XLoad P 3 d69_1 w59 fun v70 w61 =>
 v70 = d70_1 ∧ FE2 w59 w61) ∧
 ∃ d75_1 : Value, (∀ w62 : World, XIdx P 22 p2 u12_i w62 fun v75 w64 =>
 v75 = d75_1 ∧ w64 = w62) ∧
 ∃ d76_1 : Value, (∀ w65 : World, E2 w55.drew w65 → XLoad P 3 d75_1 w65 fun v76 w67 =>
 v76 = d76_1 ∧ FE2 w65 w67) ∧
 ∃ d77_1 : Value, (∀ w68 : World, XBin P .quo 3 false true d76_1 (Value.int .i64 7) w68 fun v77 w70 =>
 v77 = d77_1 ∧ w70 = w68) ∧
 ∀ w71 : World, FE2 w55.drew w71 →
(XCall P 16 #[d70_1, u12_i, p2, d77_1] w71 fun v78 w72 =>
 XAlloc P 31 w72 fun v13 w73 =>
 XStore P 31 v13 v78 w73 fun w74 =>
 XLoad P 31 v13 w74 fun v80 w75 =>
 XCall P 27 #[v16, v80] w75 fun v81 w76 =>
 XLoad P 31 v13 w76 fun v83 w77 =>
 XCall P 30 #[v83] w77 fun v84 w78 =>
 XBuildS P 27 1 #[(0, v84)] w78 fun v85 w79 =>
 XB P .append #[27, 27] 27 #[u8_want_2, v85] w79 fun v86 w80 =>
 XBin P .add 3 false true u12_i (Value.int .i64 1) w80 fun v66 w81 =>
 I2 v86 v66 w81 ∧ m2 v86 v66 w81 < m2 u8_want_2 u12_i w52) ∧
(XAlloc P 31 w71 fun v13_2 w82 =>
 E2 w71 w82 ∧
 ∀ w83 : World, FE2 w82 w83 →
 XCall P 16 #[d70_1, u12_i, p2, d77_1] w83 fun v78_2 w84 =>
 XStore P 31 v13_2 v78_2 w84 fun w85 =>
 XLoad P 31 v13_2 w85 fun v80_2 w86 =>
 XCall P 27 #[v16, v80_2] w86 fun v81_2 w87 =>
 XLoad P 31 v13_2 w87 fun v83_2 w88 =>
 XCall P 30 #[v83_2] w88 fun v84_2 w89 =>
 XBuildS P 27 1 #[(0, v84_2)] w89 fun v85_2 w90 =>
 XB P .append #[27, 27] 27 #[u8_want_2, v85_2] w90 fun v86_2 w91 =>
 XBin P .add 3 false true u12_i (Value.int .i64 1) w91 fun v66_2 w92 =>
 I2 v86_2 v66_2 w92 ∧ m2 v86_2 v66_2 w92 < m2 u8_want_2 u12_i w52)) (
 XCall P 29 #[v16] w55 fun v88 w93 =>
 XCall P 34 #[v88, u8_want_2] w93 fun v90 w94 =>
 R v90 w94)) ∧
 XG v60 true (
 XBin P .lss 3 false true u12_i (Value.int .i64 20) w54 fun v63 w95 =>
 J2 v63 w95) (J2 undef w54))) ∧
 XG v24 true (
 XBin P .lss 3 false true u10_i (Value.int .i64 20) w8 fun v27 w96 =>
 J1 v27 w96) (J1 undef w8)))
noncomputable def C_joinerylaw9_TapeMore : Code := (Tryz.f10.body).getD .skip
noncomputable def an_joinerylaw9_TapeMore : An := (.seq none (.reg []) (.seq none (.seq none (.reg []) (.cond (.seq none (.reg []) .leaf) .leaf)) (.seq none (.reg []) (.seq none (.seq none (.reg []) (.cond (.seq none (.reg []) .leaf) .leaf)) (.seq none (.reg []) (.seq none (.reg []) (.seq none (.seq none (.reg []) (.block none (.loop [8, 10] (.seq none (.seq none (.reg [[27]]) (.cond .leaf .leaf)) (.seq none (.block none (.seq none (.draw [0, 0, 0, 1, 0, 0, 0, 0, 0, 1, 0, 2, 2, 2]) (.seq none (.reg []) (.seq none (.reg []) (.cond (.reg []) .leaf))))) (.reg [])))))) (.seq none (.reg []) (.seq none (.seq none (.reg []) (.block none (.loop [8, 12] (.seq none (.seq none (.reg [[63]]) (.cond .leaf .leaf)) (.seq none (.block none (.seq none (.draw [0, 0, 0, 1, 0, 0, 0, 0, 0, 1, 0, 2, 2, 2]) (.seq none (.reg []) (.reg [])))) (.reg [])))))) (.seq none (.reg []) .leaf))))))))))
theorem S_joinerylaw9_TapeMore_eq (P : Program) (p0 p1 p2 : Value) (w : World) (R : Value → World → Prop) : WPf P C_joinerylaw9_TapeMore Tryz.f10.results.toList an_joinerylaw9_TapeMore #[p0, p1, p2] w R = S_joinerylaw9_TapeMore P p0 p1 p2 w R := by kernel_rfl
theorem ok_joinerylaw9_TapeMore : okC Tryz.f10.ntmps C_joinerylaw9_TapeMore an_joinerylaw9_TapeMore = true := by kernel_rfl
theorem call_joinerylaw9_TapeMore {p0 p1 p2 w R} (h : S_joinerylaw9_TapeMore Tryz.prog p0 p1 p2 w R) : Ret Tryz.prog 10 #[p0, p1, p2] w R :=
  Ret_of_WPf mixed Tryz.func10 (by kernel_rfl) (Nat.le_of_ble_eq_true (by kernel_rfl)) ok_joinerylaw9_TapeMore ((S_joinerylaw9_TapeMore_eq ..).symm ▸ h)

/-- joinery/joinerylaw9.TapePlays -/
def S_joinerylaw9_TapePlays (P : Program) (p0 p1 : Value) (w : World) (R : Value → World → Prop) : Prop :=
 XCall P 25 #[] w fun v11 w1 =>
 XUn P .not v11 w1 fun v12 w2 =>
 XC v12 (
 R (Value.bool false) w2) (
 XCall P 26 #[] w2 fun v13 w3 =>
 XBuild P 69 #[] w3 fun v14 w4 =>
 XBox P 69 v14 w4 fun v15 w5 =>
 XBin P .eql 51 false true v13 (Value.pointer none) w5 fun v17 w6 =>
 XC v17 (
 R (Value.bool false) w6) (
 ∃ (I1 : Value → World → Prop) (m1 : Value → World → Nat), I1 (Value.int .i64 0) w6 ∧ ∀ (_jk1 : Env) (u7_i : Value) (w7 : World), I1 u7_i w7 →
 XB P .len #[58] 3 #[p0] w7 fun v20 w8 =>
 XBin P .lss 3 false false u7_i v20 w8 fun v21 w9 =>
 ∃ J1 : Value → World → Prop, (∀ (_jk2 : Env) (u24 : Value) (w10 : World), J1 u24 w10 →
 XPick v21 u24 (Value.bool false) fun q1 =>
 XC q1 (
 XIdx P 58 p0 u7_i w10 fun v30 w11 =>
 XLoad P 60 v30 w11 fun v31 w12 =>
 XAlloc P 60 w12 fun v8 w13 =>
 XStore P 60 v8 v31 w13 fun w14 =>
 ∃ J2 : World → Prop, (∀ (_jk3 : Env) (w15 : World), J2 w15 →
 XCall P 39 #[v13, v15] w15 fun v77 w16 =>
 XUn P .not v77 w16 fun v78 w17 =>
 XC v78 (
 R (Value.bool false) w17) (
 XBin P .add 3 false true u7_i (Value.int .i64 1) w17 fun v27 w18 =>
 I1 v27 w18 ∧ m1 v27 w18 < m1 u7_i w7)) ∧
 XFld P 60 v8 0 w14 fun v32 w19 =>
 XLoad P 3 v32 w19 fun v33 w20 =>
 XCall P 31 #[v33, (Value.int .i64 8)] w20 fun v34 w21 =>
 XBin P .eql 3 false true v34 (Value.int .i64 0) w21 fun v53 w22 =>
 XC v53 (
 XCall P 35 #[v13] w22 fun v55 w23 =>
 XCall P 36 #[v15] w23 fun v57 w24 =>
 J2 w24) (
 XBin P .eql 3 false true v34 (Value.int .i64 1) w22 fun v59 w25 =>
 XC v59 (
 XFld P 60 v8 1 w25 fun v60 w26 =>
 XLoad P 3 v60 w26 fun v61 w27 =>
 XCall P 31 #[v61, (Value.int .i64 6)] w27 fun v62 w28 =>
 XBin P .sub 3 false true v62 (Value.int .i64 1) w28 fun v63 w29 =>
 ∃ J3 : Value → World → Prop, (∀ (_jk4 : Env) (u9_k : Value) (w30 : World), J3 u9_k w30 →
 XCall P 32 #[v13, u9_k] w30 fun v71 w31 =>
 XCall P 37 #[v15, u9_k] w31 fun v74 w32 =>
 J2 w32) ∧
 XFld P 60 v8 1 w29 fun v64 w33 =>
 XLoad P 3 v64 w33 fun v65 w34 =>
 XCall P 31 #[v65, (Value.int .i64 13)] w34 fun v66 w35 =>
 XBin P .eql 3 false true v66 (Value.int .i64 0) w35 fun v67 w36 =>
 XC v67 (
 J3 p1 w36) (
 J3 v63 w36)) (
 XFld P 60 v8 0 w25 fun v35 w37 =>
 XLoad P 3 v35 w37 fun v36 w38 =>
 XBin P .quo 3 false true v36 (Value.int .i64 8) w38 fun v37 w39 =>
 XFld P 60 v8 1 w39 fun v38 w40 =>
 XLoad P 3 v38 w40 fun v39 w41 =>
 XFld P 60 v8 2 w41 fun v40 w42 =>
 XLoad P 22 v40 w42 fun v41 w43 =>
 XFld P 60 v8 1 w43 fun v42 w44 =>
 XLoad P 3 v42 w44 fun v43 w45 =>
 XBin P .quo 3 false true v43 (Value.int .i64 7) w45 fun v44 w46 =>
 XCall P 16 #[v37, v39, v41, v44] w46 fun v45 w47 =>
 XAlloc P 31 w47 fun v10 w48 =>
 XStore P 31 v10 v45 w48 fun w49 =>
 XLoad P 31 v10 w49 fun v47 w50 =>
 XCall P 27 #[v13, v47] w50 fun v48 w51 =>
 XLoad P 31 v10 w51 fun v50 w52 =>
 XCall P 38 #[v15, v50] w52 fun v51 w53 =>
 J2 w53))) (
 R (Value.bool true) w10)) ∧
 XG v21 true (
 XBin P .lss 3 false true u7_i (Value.int .i64 60) w9 fun v24 w54 =>
 J1 v24 w54) (J1 undef w9)))
noncomputable def C_joinerylaw9_TapePlays : Code := (Tryz.f11.body).getD .skip
noncomputable def an_joinerylaw9_TapePlays : An := (.seq none (.reg []) (.seq none (.seq none (.reg []) (.cond (.seq none (.reg []) .leaf) .leaf)) (.seq none (.reg []) (.seq none (.seq none (.reg []) (.cond (.seq none (.reg []) .leaf) .leaf)) (.seq none (.seq none (.reg []) (.block none (.loop [7] (.seq none (.seq none (.reg [[24]]) (.cond .leaf .leaf)) (.seq none (.block none (.seq none (.reg []) (.seq (some []) (.seq none (.reg []) (.block none (.seq none (.reg []) (.cond (.seq none (.reg []) (.reg [])) (.seq none (.reg []) (.cond (.seq none (.reg []) (.seq (some [9]) (.seq none (.reg []) (.cond (.reg []) .leaf)) (.seq none (.reg []) (.reg [])))) (.seq none (.reg []) (.seq none (.reg []) (.reg []))))))))) (.seq none (.reg []) (.cond (.seq none (.reg []) .leaf) .leaf))))) (.reg [])))))) (.seq none (.reg []) .leaf))))))
theorem S_joinerylaw9_TapePlays_eq (P : Program) (p0 p1 : Value) (w : World) (R : Value → World → Prop) : WPf P C_joinerylaw9_TapePlays Tryz.f11.results.toList an_joinerylaw9_TapePlays #[p0, p1] w R = S_joinerylaw9_TapePlays P p0 p1 w R := by kernel_rfl
theorem ok_joinerylaw9_TapePlays : okC Tryz.f11.ntmps C_joinerylaw9_TapePlays an_joinerylaw9_TapePlays = true := by kernel_rfl
theorem call_joinerylaw9_TapePlays {p0 p1 w R} (h : S_joinerylaw9_TapePlays Tryz.prog p0 p1 w R) : Ret Tryz.prog 11 #[p0, p1] w R :=
  Ret_of_WPf mixed Tryz.func11 (by kernel_rfl) (Nat.le_of_ble_eq_true (by kernel_rfl)) ok_joinerylaw9_TapePlays ((S_joinerylaw9_TapePlays_eq ..).symm ▸ h)

/-- joinery/joinerylaw9.TapeKeeps -/
def S_joinerylaw9_TapeKeeps (P : Program) (p0 p1 p2 : Value) (w : World) (R : Value → World → Prop) : Prop :=
 XCall P 25 #[] w fun v15 w1 =>
 XUn P .not v15 w1 fun v16 w2 =>
 XC v16 (
 R (Value.bool false) w2) (
 XCall P 26 #[] w2 fun v17 w3 =>
 XBin P .eql 51 false true v17 (Value.pointer none) w3 fun v19 w4 =>
 XC v19 (
 R (Value.bool false) w4) (
 ∃ (I1 : Value → Value → World → Prop) (m1 : Value → Value → World → Nat), I1 (Value.slice none 0 0) (Value.int .i64 0) w4 ∧ ∀ (_jk1 : Env) (u8_want u9_i : Value) (w5 : World), I1 u8_want u9_i w5 →
 XB P .len #[22] 3 #[p0] w5 fun v22 w6 =>
 XBin P .lss 3 false false u9_i v22 w6 fun v23 w7 =>
 ∃ J1 : Value → World → Prop, (∀ (_jk2 : Env) (u26 : Value) (w8 : World), J1 u26 w8 →
 XPick v23 u26 (Value.bool false) fun q1 =>
 XC q1 (
 ∃ E1 FE1 : World → World → Prop, Pre E1 FE1 ∧
 ∃ d32_1 : Value, (∀ w9 : World, XIdx P 22 p0 u9_i w9 fun v32 w11 =>
 v32 = d32_1 ∧ w11 = w9) ∧
 ∃ d33_1 : Value, (∀ w12 : World, E1 w8.drew w12 → XLoad P 3 d32_1 w12 fun v33 w14 =>
 v33 = d33_1 ∧ FE1 w12 w14) ∧
 ∃ d38_1 : Value, (∀ w15 : World, XIdx P 22 p0 u9_i w15 fun v38 w17 =>
 v38 = d38_1 ∧ w17 = w15) ∧
 ∃ d39_1 : Value, (∀ w18 : World, E1 w8.drew w18 → XLoad P 3 d38_1 w18 fun v39 w20 =>
 v39 = d39_1 ∧ FE1 w18 w20) ∧
 ∃ d40_1 : Value, (∀ w21 : World, XBin P .quo 3 false true d39_1 (Value.int .i64 7) w21 fun v40 w23 =>
 v40 = d40_1 ∧ w23 = w21) ∧
 ∀ w24 : World, FE1 w8.drew w24 →
(XCall P 16 #[d33_1, u9_i, p0, d40_1] w24 fun v41 w25 =>
 XAlloc P 31 w25 fun v10 w26 =>
 XStore P 31 v10 v41 w26 fun w27 =>
 XLoad P 31 v10 w27 fun v43 w28 =>
 XCall P 27 #[v17, v43] w28 fun v44 w29 =>
 XLoad P 31 v10 w29 fun v46 w30 =>
 XCall P 30 #[v46] w30 fun v47 w31 =>
 XBuildS P 27 1 #[(0, v47)] w31 fun v48 w32 =>
 XB P .append #[27, 27] 27 #[u8_want, v48] w32 fun v49 w33 =>
 XBin P .add 3 false true u9_i (Value.int .i64 1) w33 fun v29 w34 =>
 I1 v49 v29 w34 ∧ m1 v49 v29 w34 < m1 u8_want u9_i w5) ∧
(XAlloc P 31 w24 fun v10_2 w35 =>
 E1 w24 w35 ∧
 ∀ w36 : World, FE1 w35 w36 →
 XCall P 16 #[d33_1, u9_i, p0, d40_1] w36 fun v41_2 w37 =>
 XStore P 31 v10_2 v41_2 w37 fun w38 =>
 XLoad P 31 v10_2 w38 fun v43_2 w39 =>
 XCall P 27 #[v17, v43_2] w39 fun v44_2 w40 =>
 XLoad P 31 v10_2 w40 fun v46_2 w41 =>
 XCall P 30 #[v46_2] w41 fun v47_2 w42 =>
 XBuildS P 27 1 #[(0, v47_2)] w42 fun v48_2 w43 =>
 XB P .append #[27, 27] 27 #[u8_want, v48_2] w43 fun v49_2 w44 =>
 XBin P .add 3 false true u9_i (Value.int .i64 1) w44 fun v29_2 w45 =>
 I1 v49_2 v29_2 w45 ∧ m1 v49_2 v29_2 w45 < m1 u8_want u9_i w5)) (
 XCall P 35 #[v17] w8 fun v51 w46 =>
 XCall P 31 #[p2, (Value.int .i64 25)] w46 fun v53 w47 =>
 ∃ (I2 : Value → Value → World → Prop) (m2 : Value → Value → World → Nat), I2 u8_want (Value.int .i64 0) w47 ∧ ∀ (_jk3 : Env) (u8_want_2 u12_i : Value) (w48 : World), I2 u8_want_2 u12_i w48 →
 XB P .len #[22] 3 #[p1] w48 fun v56 w49 =>
 XBin P .lss 3 false false u12_i v56 w49 fun v57 w50 =>
 ∃ J2 : Value → World → Prop, (∀ (_jk4 : Env) (u60 : Value) (w51 : World), J2 u60 w51 →
 XPick v57 u60 (Value.bool false) fun q2 =>
 XC q2 (
 ∃ E2 FE2 : World → World → Prop, Pre E2 FE2 ∧
 ∃ d66_1 : Value, (∀ w52 : World, XIdx P 22 p1 u12_i w52 fun v66 w54 =>
 v66 = d66_1 ∧ w54 = w52) ∧
 ∃ d67_1 : Value, (∀ w55 : World, E2 w51.drew w55 → XLoad P 3 d66_1 w55 fun v67 w57 =>
 v67 = d67_1 ∧ FE2 w55 w57) ∧
 ∃ d72_1 : Value, (∀ w58 : World, XIdx P 22 p1 u12_i w58 fun v72 w60 =>
 v72 = d72_1 ∧ w60 = w58) ∧
 ∃ d73_1 : Value, (∀ w61 : World, E2 w51.drew w61 → XLoad P 3 d72_1 w61 fun v73 w63 =>
 v73 = d73_1 ∧ FE2 w61 w63) ∧
 ∃ d74_1 : Value, (∀ w64 : World, XBin P .quo 3 false true d73_1 (Value.int .i64 7) w64 fun v74 w66 =>
 v74 = d74_1 ∧ w66 = w64) ∧
 ∀ w67 : World, FE2 w51.drew w67 →
(XCall P 16 #[d67_1, u12_i, p1, d74_1] w67 fun v75 w68 =>
 XAlloc P 31 w68 fun v13 w69 =>
 XStore P 31 v13 v75 w69 fun w70 =>
 XLoad P 31 v13 w70 fun v77 w71 =>
 XCall P 27 #[v17, v77] w71 fun v78 w72 =>
 XBin P .lss 3 false false u12_i v53 w72 fun v81 w73 =>
 XC v81 (
 XLoad P 31 v13 w73 fun v83 w74 =>
 XCall P 30 #[v83] w74 fun v84 w75 =>
 XBuildS P 27 1 #[(0, v84)] w75 fun v85 w76 =>
 XB P .append #[27, 27] 27 #[u8_want_2, v85] w76 fun v86 w77 =>
 XBin P .add 3 false true u12_i (Value.int .i64 1) w77 fun v63 w78 =>
 I2 v86 v63 w78 ∧ m2 v86 v63 w78 < m2 u8_want_2 u12_i w48) (
 XBin P .add 3 false true u12_i (Value.int .i64 1) w73 fun v63_2 w79 =>
 I2 u8_want_2 v63_2 w79 ∧ m2 u8_want_2 v63_2 w79 < m2 u8_want_2 u12_i w48)) ∧
(XAlloc P 31 w67 fun v13_2 w80 =>
 E2 w67 w80 ∧
 ∀ w81 : World, FE2 w80 w81 →
 XCall P 16 #[d67_1, u12_i, p1, d74_1] w81 fun v75_2 w82 =>
 XStore P 31 v13_2 v75_2 w82 fun w83 =>
 XLoad P 31 v13_2 w83 fun v77_2 w84 =>
 XCall P 27 #[v17, v77_2] w84 fun v78_2 w85 =>
 XBin P .lss 3 false false u12_i v53 w85 fun v81_2 w86 =>
 XC v81_2 (
 XLoad P 31 v13_2 w86 fun v83_2 w87 =>
 XCall P 30 #[v83_2] w87 fun v84_2 w88 =>
 XBuildS P 27 1 #[(0, v84_2)] w88 fun v85_2 w89 =>
 XB P .append #[27, 27] 27 #[u8_want_2, v85_2] w89 fun v86_2 w90 =>
 XBin P .add 3 false true u12_i (Value.int .i64 1) w90 fun v63_3 w91 =>
 I2 v86_2 v63_3 w91 ∧ m2 v86_2 v63_3 w91 < m2 u8_want_2 u12_i w48) (
 XBin P .add 3 false true u12_i (Value.int .i64 1) w86 fun v63_4 w92 =>
 I2 u8_want_2 v63_4 w92 ∧ m2 u8_want_2 v63_4 w92 < m2 u8_want_2 u12_i w48))) (
 XCall P 32 #[v17, v53] w51 fun v89 w93 =>
 XCall P 29 #[v17] w93 fun v91 w94 =>
 XCall P 32 #[v17, (Value.int .i64 0)] w94 fun v93 w95 =>
 XCall P 34 #[v91, u8_want_2] w95 fun v96 w96 =>
 ∃ J3 : Value → World → Prop, (∀ (_jk5 : Env) (u101 : Value) (w97 : World), J3 u101 w97 →
 XPick v96 u101 (Value.bool false) fun q3 =>
 ∃ J4 : Value → World → Prop, (∀ (_jk6 : Env) (u108 : Value) (w98 : World), J4 u108 w98 →
 XPick q3 u108 (Value.bool false) fun q4 =>
 R q4 w98) ∧
 XG q3 true (
 XCall P 33 #[v17] w97 fun v105 w99 =>
 XB P .len #[27] 3 #[u8_want_2] w99 fun v107 w100 =>
 XBin P .eql 3 false false v105 v107 w100 fun v108 w101 =>
 J4 v108 w101) (J4 undef w97)) ∧
 XG v96 true (
 XCall P 29 #[v17] w96 fun v99 w102 =>
 XCall P 34 #[v99, u8_want_2] w102 fun v101 w103 =>
 J3 v101 w103) (J3 undef w96))) ∧
 XG v57 true (
 XBin P .lss 3 false true u12_i (Value.int .i64 20) w50 fun v60 w104 =>
 J2 v60 w104) (J2 undef w50))) ∧
 XG v23 true (
 XBin P .lss 3 false true u9_i (Value.int .i64 20) w7 fun v26 w105 =>
 J1 v26 w105) (J1 undef w7)))
noncomputable def C_joinerylaw9_TapeKeeps : Code := (Tryz.f12.body).getD .skip
noncomputable def an_joinerylaw9_TapeKeeps : An := (.seq none (.reg []) (.seq none (.seq none (.reg []) (.cond (.seq none (.reg []) .leaf) .leaf)) (.seq none (.reg []) (.seq none (.seq none (.reg []) (.cond (.seq none (.reg []) .leaf) .leaf)) (.seq none (.reg []) (.seq none (.seq none (.reg []) (.block none (.loop [8, 9] (.seq none (.seq none (.reg [[26]]) (.cond .leaf .leaf)) (.seq none (.block none (.seq none (.draw [0, 0, 0, 1, 0, 0, 0, 0, 0, 1, 0, 2, 2, 2]) (.seq none (.reg []) (.reg [])))) (.reg [])))))) (.seq none (.reg []) (.seq none (.reg []) (.seq none (.seq none (.reg []) (.block none (.loop [8, 12] (.seq none (.seq none (.reg [[60]]) (.cond .leaf .leaf)) (.seq none (.block none (.seq none (.draw [0, 0, 0, 1, 0, 0, 0, 0, 0, 1, 0, 2, 2, 2]) (.seq none (.reg []) (.seq none (.reg []) (.cond (.reg []) .leaf))))) (.reg [])))))) (.seq none (.reg []) (.seq none (.reg []) (.seq none (.reg []) (.seq none (.reg [[101], [108]]) .leaf)))))))))))))
theorem S_joinerylaw9_TapeKeeps_eq (P : Program) (p0 p1 p2 : Value) (w : World) (R : Value → World → Prop) : WPf P C_joinerylaw9_TapeKeeps Tryz.f12.results.toList an_joinerylaw9_TapeKeeps #[p0, p1, p2] w R = S_joinerylaw9_TapeKeeps P p0 p1 p2 w R := by kernel_rfl
theorem ok_joinerylaw9_TapeKeeps : okC Tryz.f12.ntmps C_joinerylaw9_TapeKeeps an_joinerylaw9_TapeKeeps = true := by kernel_rfl
theorem call_joinerylaw9_TapeKeeps {p0 p1 p2 w R} (h : S_joinerylaw9_TapeKeeps Tryz.prog p0 p1 p2 w R) : Ret Tryz.prog 12 #[p0, p1, p2] w R :=
  Ret_of_WPf mixed Tryz.func12 (by kernel_rfl) (Nat.le_of_ble_eq_true (by kernel_rfl)) ok_joinerylaw9_TapeKeeps ((S_joinerylaw9_TapeKeeps_eq ..).symm ▸ h)

/-- joinery/joinerylaw9.TapeSyncs -/
def S_joinerylaw9_TapeSyncs (P : Program) (p0 : Value) (w : World) (R : Value → World → Prop) : Prop :=
 XCall P 25 #[] w fun v8 w1 =>
 XUn P .not v8 w1 fun v9 w2 =>
 XC v9 (
 R (Value.bool false) w2) (
 XCall P 26 #[] w2 fun v10 w3 =>
 XBin P .eql 51 false true v10 (Value.pointer none) w3 fun v12 w4 =>
 XC v12 (
 R (Value.bool false) w4) (
 ∃ (I1 : Value → Value → Value → World → Prop) (m1 : Value → Value → Value → World → Nat), I1 (Value.int .i64 0) (Value.int .i64 0) (Value.int .i64 0) w4 ∧ ∀ (_jk1 : Env) (u4_n u5_lasting u6_i : Value) (w5 : World), I1 u4_n u5_lasting u6_i w5 →
 XB P .len #[22] 3 #[p0] w5 fun v15 w6 =>
 XBin P .lss 3 false false u6_i v15 w6 fun v16 w7 =>
 ∃ J1 : Value → World → Prop, (∀ (_jk2 : Env) (u19 : Value) (w8 : World), J1 u19 w8 →
 XPick v16 u19 (Value.bool false) fun q1 =>
 XC q1 (
 ∃ J2 : Value → Value → World → Prop, (∀ (_jk3 : Env) (u4_n_2 u5_lasting_2 : Value) (w9 : World), J2 u4_n_2 u5_lasting_2 w9 →
 XCall P 33 #[v10] w9 fun v60 w10 =>
 XBin P .neq 3 false false v60 u5_lasting_2 w10 fun v62 w11 =>
 ∃ J3 : Value → World → Prop, (∀ (_jk4 : Env) (u68 : Value) (w12 : World), J3 u68 w12 →
 XPick v62 (Value.bool true) u68 fun q2 =>
 ∃ J4 : Value → World → Prop, (∀ (_jk5 : Env) (u75 : Value) (w13 : World), J4 u75 w13 →
 XPick q2 (Value.bool true) u75 fun q3 =>
 XC q3 (
 R (Value.bool false) w13) (
 XBin P .add 3 false true u6_i (Value.int .i64 1) w13 fun v22 w14 =>
 I1 u4_n_2 u5_lasting_2 v22 w14 ∧ m1 u4_n_2 u5_lasting_2 v22 w14 < m1 u4_n u5_lasting u6_i w5)) ∧
 XG q2 false (
 XCall P 28 #[v10] w12 fun v72 w15 =>
 XB P .len #[54] 3 #[v72] w15 fun v73 w16 =>
 XBin P .neq 3 false false v73 u4_n_2 w16 fun v75 w17 =>
 J4 v75 w17) (J4 undef w12)) ∧
 XG v62 false (
 XCall P 29 #[v10] w11 fun v65 w18 =>
 XB P .len #[27] 3 #[v65] w18 fun v66 w19 =>
 XBin P .neq 3 false false v66 u4_n_2 w19 fun v68 w20 =>
 J3 v68 w20) (J3 undef w11)) ∧
 XIdx P 22 p0 u6_i w8 fun v25 w21 =>
 XLoad P 3 v25 w21 fun v26 w22 =>
 XCall P 31 #[v26, (Value.int .i64 5)] w22 fun v27 w23 =>
 XBin P .eql 3 false true v27 (Value.int .i64 0) w23 fun v36 w24 =>
 XC v36 (
 XCall P 35 #[v10] w24 fun v38 w25 =>
 J2 u4_n u4_n w25) (
 XBin P .eql 3 false true v27 (Value.int .i64 1) w24 fun v41 w26 =>
 XC v41 (
 XIdx P 22 p0 u6_i w26 fun v44 w27 =>
 XLoad P 3 v44 w27 fun v45 w28 =>
 XBin P .quo 3 false true v45 (Value.int .i64 5) w28 fun v46 w29 =>
 XCall P 31 #[v46, (Value.int .i64 4)] w29 fun v47 w30 =>
 XCall P 32 #[v10, v47] w30 fun v50 w31 =>
 XBin P .sub 3 false false u4_n u5_lasting w31 fun v55 w32 =>
 XB P .min #[3, 3] 3 #[v47, v55] w32 fun v56 w33 =>
 XBin P .add 3 false false u5_lasting v56 w33 fun v57 w34 =>
 J2 v57 v57 w34) (
 XBin P .add 3 true false (Value.int .i64 1) u6_i w26 fun v30 w35 =>
 XBuild P 31 #[(0, (Value.int .i64 5)), (1, v30)] w35 fun v31 w36 =>
 XCall P 27 #[v10, v31] w36 fun v32 w37 =>
 XBin P .add 3 false true u4_n (Value.int .i64 1) w37 fun v34 w38 =>
 J2 v34 u5_lasting w38))) (
 R (Value.bool true) w8)) ∧
 XG v16 true (
 XBin P .lss 3 false true u6_i (Value.int .i64 60) w7 fun v19 w39 =>
 J1 v19 w39) (J1 undef w7)))
noncomputable def C_joinerylaw9_TapeSyncs : Code := (Tryz.f13.body).getD .skip
noncomputable def an_joinerylaw9_TapeSyncs : An := (.seq none (.reg []) (.seq none (.seq none (.reg []) (.cond (.seq none (.reg []) .leaf) .leaf)) (.seq none (.reg []) (.seq none (.seq none (.reg []) (.cond (.seq none (.reg []) .leaf) .leaf)) (.seq none (.reg []) (.seq none (.seq none (.reg []) (.block none (.loop [4, 5, 6] (.seq none (.seq none (.reg [[19]]) (.cond .leaf .leaf)) (.seq none (.block none (.seq (some [4, 5]) (.seq none (.reg []) (.block none (.seq none (.reg []) (.cond (.seq none (.reg []) (.reg [])) (.seq none (.reg []) (.cond (.seq none (.reg []) (.seq none (.reg []) (.seq none (.reg []) (.reg [])))) (.seq none (.reg []) (.reg [])))))))) (.seq none (.reg [[68], [75]]) (.cond (.seq none (.reg []) .leaf) .leaf)))) (.reg [])))))) (.seq none (.reg []) .leaf)))))))
theorem S_joinerylaw9_TapeSyncs_eq (P : Program) (p0 : Value) (w : World) (R : Value → World → Prop) : WPf P C_joinerylaw9_TapeSyncs Tryz.f13.results.toList an_joinerylaw9_TapeSyncs #[p0] w R = S_joinerylaw9_TapeSyncs P p0 w R := by kernel_rfl
theorem ok_joinerylaw9_TapeSyncs : okC Tryz.f13.ntmps C_joinerylaw9_TapeSyncs an_joinerylaw9_TapeSyncs = true := by kernel_rfl
theorem call_joinerylaw9_TapeSyncs {p0 w R} (h : S_joinerylaw9_TapeSyncs Tryz.prog p0 w R) : Ret Tryz.prog 13 #[p0] w R :=
  Ret_of_WPf mixed Tryz.func13 (by kernel_rfl) (Nat.le_of_ble_eq_true (by kernel_rfl)) ok_joinerylaw9_TapeSyncs ((S_joinerylaw9_TapeSyncs_eq ..).symm ▸ h)

/-- joinery/joinerylaw9.TapeFront -/
def S_joinerylaw9_TapeFront (P : Program) (p0 p1 p2 : Value) (w : World) (R : Value → World → Prop) : Prop :=
 XCall P 25 #[] w fun v12 w1 =>
 XUn P .not v12 w1 fun v13 w2 =>
 XC v13 (
 R (Value.bool false) w2) (
 XCall P 26 #[] w2 fun v14 w3 =>
 XBin P .eql 51 false true v14 (Value.pointer none) w3 fun v16 w4 =>
 XC v16 (
 R (Value.bool false) w4) (
 ∃ (I1 : Value → World → Prop) (m1 : Value → World → Nat), I1 (Value.int .i64 0) w4 ∧ ∀ (_jk1 : Env) (u8_i : Value) (w5 : World), I1 u8_i w5 →
 XB P .len #[22] 3 #[p0] w5 fun v19 w6 =>
 XBin P .lss 3 false false u8_i v19 w6 fun v20 w7 =>
 ∃ J1 : Value → World → Prop, (∀ (_jk2 : Env) (u23 : Value) (w8 : World), J1 u23 w8 →
 XPick v20 u23 (Value.bool false) fun q1 =>
 XC q1 (
 ∃ E1 FE1 : World → World → Prop, Pre E1 FE1 ∧
 ∃ d30_1 : Value, (∀ w9 : World, XIdx P 22 p0 u8_i w9 fun v30 w11 =>
 v30 = d30_1 ∧ w11 = w9) ∧
 ∃ d31_1 : Value, (∀ w12 : World, E1 w8.drew w12 → XLoad P 3 d30_1 w12 fun v31 w14 =>
 v31 = d31_1 ∧ FE1 w12 w14) ∧
 ∃ d36_1 : Value, (∀ w15 : World, XIdx P 22 p0 u8_i w15 fun v36 w17 =>
 v36 = d36_1 ∧ w17 = w15) ∧
 ∃ d37_1 : Value, (∀ w18 : World, E1 w8.drew w18 → XLoad P 3 d36_1 w18 fun v37 w20 =>
 v37 = d37_1 ∧ FE1 w18 w20) ∧
 ∃ d38_1 : Value, (∀ w21 : World, XBin P .quo 3 false true d37_1 (Value.int .i64 7) w21 fun v38 w23 =>
 v38 = d38_1 ∧ w23 = w21) ∧
 ∀ w24 : World, FE1 w8.drew w24 →
 XCall P 16 #[d31_1, u8_i, p0, d38_1] w24 fun v39 w25 =>
 XCall P 27 #[v14, v39] w25 fun v40 w26 =>
 XB P .len #[74] 3 #[p1] w26 fun v43 w27 =>
 XBin P .lss 3 false false u8_i v43 w27 fun v44 w28 =>
 ∃ J2 : Value → World → Prop, (∀ (_jk3 : Env) (u49 : Value) (w29 : World), J2 u49 w29 →
 XPick v44 u49 (Value.bool false) fun q2 =>
 XC q2 (
 XCall P 35 #[v14] w29 fun v52 w30 =>
 XBin P .add 3 false true u8_i (Value.int .i64 1) w30 fun v26 w31 =>
 I1 v26 w31 ∧ m1 v26 w31 < m1 u8_i w5) (
 XBin P .add 3 false true u8_i (Value.int .i64 1) w29 fun v26_2 w32 =>
 I1 v26_2 w32 ∧ m1 v26_2 w32 < m1 u8_i w5)) ∧
 XG v44 true (
 XIdx P 74 p1 u8_i w28 fun v48 w33 =>
 XLoad P 4 v48 w33 fun v49 w34 =>
 J2 v49 w34) (J2 undef w28)) (
 XCall P 29 #[v14] w8 fun v54 w35 =>
 XCall P 33 #[v14] w35 fun v56 w36 =>
 XCall P 31 #[p2, (Value.int .i64 40)] w36 fun v59 w37 =>
 XBin P .sub 3 false true v59 (Value.int .i64 5) w37 fun v60 w38 =>
 XCall P 32 #[v14, v60] w38 fun v61 w39 =>
 XCall P 29 #[v14] w39 fun v63 w40 =>
 XB P .len #[27] 3 #[v63] w40 fun v65 w41 =>
 XBin P .geq 3 false false v65 v56 w41 fun v67 w42 =>
 ∃ J3 : Value → World → Prop, (∀ (_jk4 : Env) (u73 : Value) (w43 : World), J3 u73 w43 →
 XPick v67 u73 (Value.bool false) fun q3 =>
 ∃ J4 : Value → World → Prop, (∀ (_jk5 : Env) (u81 : Value) (w44 : World), J4 u81 w44 →
 XPick q3 u81 (Value.bool false) fun q4 =>
 ∃ J5 : Value → World → Prop, (∀ (_jk6 : Env) (u88 : Value) (w45 : World), J5 u88 w45 →
 XPick q4 u88 (Value.bool false) fun q5 =>
 R q5 w45) ∧
 XG q4 true (
 XCall P 33 #[v14] w44 fun v85 w46 =>
 XB P .len #[27] 3 #[v63] w46 fun v87 w47 =>
 XBin P .eql 3 false false v85 v87 w47 fun v88 w48 =>
 J5 v88 w48) (J5 undef w44)) ∧
 XG q3 true (
 XB P .len #[27] 3 #[v63] w43 fun v79 w49 =>
 XSlice P 27 v54 none (some v79) none w49 fun v80 w50 =>
 XCall P 34 #[v63, v80] w50 fun v81 w51 =>
 J4 v81 w51) (J4 undef w43)) ∧
 XG v67 true (
 XB P .len #[27] 3 #[v63] w42 fun v70 w52 =>
 XB P .len #[27] 3 #[v54] w52 fun v72 w53 =>
 XBin P .leq 3 false false v70 v72 w53 fun v73 w54 =>
 J3 v73 w54) (J3 undef w42))) ∧
 XG v20 true (
 XBin P .lss 3 false true u8_i (Value.int .i64 30) w7 fun v23 w55 =>
 J1 v23 w55) (J1 undef w7)))
noncomputable def C_joinerylaw9_TapeFront : Code := (Tryz.f14.body).getD .skip
noncomputable def an_joinerylaw9_TapeFront : An := (.seq none (.reg []) (.seq none (.seq none (.reg []) (.cond (.seq none (.reg []) .leaf) .leaf)) (.seq none (.reg []) (.seq none (.seq none (.reg []) (.cond (.seq none (.reg []) .leaf) .leaf)) (.seq none (.seq none (.reg []) (.block none (.loop [8] (.seq none (.seq none (.reg [[23]]) (.cond .leaf .leaf)) (.seq none (.block none (.seq none (.draw [0, 0, 0, 0, 1, 0, 0, 0, 0, 0, 1, 0, 2, 2]) (.seq none (.reg [[49]]) (.cond (.reg []) .leaf)))) (.reg [])))))) (.seq none (.reg []) (.seq none (.reg []) (.seq none (.reg []) (.seq none (.reg [[73], [81], [88]]) .leaf)))))))))
theorem S_joinerylaw9_TapeFront_eq (P : Program) (p0 p1 p2 : Value) (w : World) (R : Value → World → Prop) : WPf P C_joinerylaw9_TapeFront Tryz.f14.results.toList an_joinerylaw9_TapeFront #[p0, p1, p2] w R = S_joinerylaw9_TapeFront P p0 p1 p2 w R := by kernel_rfl
theorem ok_joinerylaw9_TapeFront : okC Tryz.f14.ntmps C_joinerylaw9_TapeFront an_joinerylaw9_TapeFront = true := by kernel_rfl
theorem call_joinerylaw9_TapeFront {p0 p1 p2 w R} (h : S_joinerylaw9_TapeFront Tryz.prog p0 p1 p2 w R) : Ret Tryz.prog 14 #[p0, p1, p2] w R :=
  Ret_of_WPf mixed Tryz.func14 (by kernel_rfl) (Nat.le_of_ble_eq_true (by kernel_rfl)) ok_joinerylaw9_TapeFront ((S_joinerylaw9_TapeFront_eq ..).symm ▸ h)

abbrev F_joinerylaw9_TapeOwn : FuncId := 7
theorem en_joinerylaw9_TapeOwn (args : Array Value) (w : World) : (callFunc 7 args).run Tryz.prog w = .ok (.enter 7 args) w := by kernel_rfl
abbrev F_joinerylaw9_TapeLines : FuncId := 8
theorem en_joinerylaw9_TapeLines (args : Array Value) (w : World) : (callFunc 8 args).run Tryz.prog w = .ok (.enter 8 args) w := by kernel_rfl
abbrev F_joinerylaw9_TapeAgain : FuncId := 9
theorem en_joinerylaw9_TapeAgain (args : Array Value) (w : World) : (callFunc 9 args).run Tryz.prog w = .ok (.enter 9 args) w := by kernel_rfl
abbrev F_joinerylaw9_TapeMore : FuncId := 10
theorem en_joinerylaw9_TapeMore (args : Array Value) (w : World) : (callFunc 10 args).run Tryz.prog w = .ok (.enter 10 args) w := by kernel_rfl
abbrev F_joinerylaw9_TapePlays : FuncId := 11
theorem en_joinerylaw9_TapePlays (args : Array Value) (w : World) : (callFunc 11 args).run Tryz.prog w = .ok (.enter 11 args) w := by kernel_rfl
abbrev F_joinerylaw9_TapeKeeps : FuncId := 12
theorem en_joinerylaw9_TapeKeeps (args : Array Value) (w : World) : (callFunc 12 args).run Tryz.prog w = .ok (.enter 12 args) w := by kernel_rfl
abbrev F_joinerylaw9_TapeSyncs : FuncId := 13
theorem en_joinerylaw9_TapeSyncs (args : Array Value) (w : World) : (callFunc 13 args).run Tryz.prog w = .ok (.enter 13 args) w := by kernel_rfl
abbrev F_joinerylaw9_TapeFront : FuncId := 14
theorem en_joinerylaw9_TapeFront (args : Array Value) (w : World) : (callFunc 14 args).run Tryz.prog w = .ok (.enter 14 args) w := by kernel_rfl

end Go.Proofs.YthkgbajldkicfaaGreatDoor
