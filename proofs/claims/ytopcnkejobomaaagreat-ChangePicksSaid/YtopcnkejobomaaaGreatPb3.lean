/- Part 3 of the proof. -/
import Derived.Test.YtopcnkejobomaaaGreatPb2
set_option linter.unusedVariables false
set_option linter.unusedVariables false
namespace Go.Proofs.YtopcnkejobomaaaGreat
def F_bevylaw10_ChangePicks (x0 x1 : Value) (w : World) (R : Ending → World → Prop) : Prop :=
 m R (o_box 45 x0) w fun x2 w1 =>
 mj1 (fun j2 =>
 m R (o_call (fv 22) []) w1 fun x6 w2 =>
 m R (o_un .not x6) w2 fun x7 w3 =>
 mguard x7 false (fun k => m R (o_load 45 x2) w3 k) w3 fun x9 w4 =>
 mguard x7 false (fun k => m R (o_call (fv 23) [x9]) w4 k) w4 fun x10 w5 =>
 mguard x7 false (fun k => m R (o_un .not x10) w5 k) w5 fun x11 w6 =>
 m R (o_pick x7 (.bool true) x11) w6 fun x12 w7 =>
 mguard x12 false (fun k => m R (o_move x1) w7 k) w7 fun x14 w8 =>
 mguard x12 false (fun k => m R (o_builtin .len #[46] 3 [false] [x14]) w8 k) w8 fun x15 w9 =>
 mguard x12 false (fun k => m R (o_bin .gtr 3 true x15 (.int .i64 70)) w9 k) w9 fun x16 w10 =>
 m R (o_pick x12 (.bool true) x16) w10 fun x17 w11 =>
 j2 x17 w11) fun x17 u2 w12 =>
 mif x17 (
 m R (o_call (fv 22) []) w12 fun x18 w13 =>
 R (.returned x18) w13) (
 m R (o_fieldAddr 45 x2 0) w12 fun x19 w14 =>
 m R (o_load 25 x19) w14 fun x20 w15 =>
 m R (o_fieldAddr 45 x2 1) w15 fun x21 w16 =>
 m R (o_load 42 x21) w16 fun x22 w17 =>
 m R (o_fieldAddr 45 x2 2) w17 fun x23 w18 =>
 m R (o_load 43 x23) w18 fun x24 w19 =>
 m R (o_fieldAddr 45 x2 3) w19 fun x25 w20 =>
 m R (o_load 33 x25) w20 fun x26 w21 =>
 m R (o_fieldAddr 45 x2 4) w21 fun x27 w22 =>
 m R (o_load 3 x27) w22 fun x28 w23 =>
 m R (o_fieldAddr 45 x2 5) w23 fun x29 w24 =>
 m R (o_load 3 x29) w24 fun x30 w25 =>
 m R (o_call (fv 24) [x20, x22, x24, x26, x28, x30, x1]) w25 fun x32 w26 =>
 m R (o_fieldAddr 45 x2 0) w26 fun x34 w27 =>
 m R (o_load 25 x34) w27 fun x35 w28 =>
 m R (o_fieldAddr 45 x2 1) w28 fun x36 w29 =>
 m R (o_load 42 x36) w29 fun x37 w30 =>
 m R (o_fieldAddr 45 x2 2) w30 fun x38 w31 =>
 m R (o_load 43 x38) w31 fun x39 w32 =>
 m R (o_fieldAddr 45 x2 3) w32 fun x40 w33 =>
 m R (o_load 33 x40) w33 fun x41 w34 =>
 m R (o_fieldAddr 45 x2 4) w34 fun x42 w35 =>
 m R (o_load 3 x42) w35 fun x43 w36 =>
 m R (o_fieldAddr 45 x2 5) w36 fun x44 w37 =>
 m R (o_load 3 x44) w37 fun x45 w38 =>
 m R (o_call (fv 26) [x35, x37, x39, x41, x43, x45, x1]) w38 fun x47 w39 =>
 m R (o_call (fv 25) [x32, x47]) w39 fun x48 w40 =>
 m R (o_un .not x48) w40 fun x49 w41 =>
 mif x49 (
 R (.returned (.bool false)) w41) (
 m R (o_builtin .len #[46] 3 [false] [x32]) w41 fun x51 w42 =>
 m R (o_bin .eql 3 true x51 (.int .i64 0)) w42 fun x52 w43 =>
 mguard x52 false (fun k => m R (o_fieldAddr 45 x2 0) w43 k) w43 fun x54 w44 =>
 mguard x52 false (fun k => m R (o_load 25 x54) w44 k) w44 fun x55 w45 =>
 mguard x52 false (fun k => m R (o_fieldAddr 45 x2 1) w45 k) w45 fun x56 w46 =>
 mguard x52 false (fun k => m R (o_load 42 x56) w46 k) w46 fun x57 w47 =>
 mguard x52 false (fun k => m R (o_fieldAddr 45 x2 2) w47 k) w47 fun x58 w48 =>
 mguard x52 false (fun k => m R (o_load 43 x58) w48 k) w48 fun x59 w49 =>
 mguard x52 false (fun k => m R (o_fieldAddr 45 x2 3) w49 k) w49 fun x60 w50 =>
 mguard x52 false (fun k => m R (o_load 33 x60) w50 k) w50 fun x61 w51 =>
 mguard x52 false (fun k => m R (o_fieldAddr 45 x2 4) w51 k) w51 fun x62 w52 =>
 mguard x52 false (fun k => m R (o_load 3 x62) w52 k) w52 fun x63 w53 =>
 mguard x52 false (fun k => m R (o_fieldAddr 45 x2 5) w53 k) w53 fun x64 w54 =>
 mguard x52 false (fun k => m R (o_load 3 x64) w54 k) w54 fun x65 w55 =>
 mguard x52 false (fun k => m R (o_move x32) w55 k) w55 fun x66 w56 =>
 mguard x52 false (fun k => m R (o_call (fv 27) [x55, x57, x59, x61, x63, x65, x66]) w56 k) w56 fun x67 w57 =>
 mguard x52 false (fun k => m R (o_bin .eql 50 true x67 (.int .i64 0)) w57 k) w57 fun x68 w58 =>
 m R (o_pick x52 (.bool true) x68) w58 fun x69 w59 =>
 R (.returned x69) w59))
def A_bevylaw10_ChangePicks : Ann := ⟨[], [(2, [17], 262080)], [], [], []⟩
theorem C_bevylaw10_ChangePicks {x0 x1 : Value} {w : World} {R : Ending → World → Prop} (h : F_bevylaw10_ChangePicks x0 x1 w R) : Calls Tryz.prog 4 #[x0, x1] w R :=
 calls_cwp (A := A_bevylaw10_ChangePicks) (args := [x0, x1]) mixed Tryz.func4 (c := Tryz.f4.body.getD .skip) (by kernel_rfl) (by kernel_rfl) (by kernel_rfl) (Eq.mpr (by kernel_rfl) h)
def F_bevyref08_Right (x0 : Value) (w : World) (R : Ending → World → Prop) : Prop :=
 m R (o_box 25 x0) w fun x1 w1 =>
 m R (o_fieldAddr 25 x1 0) w1 fun x11 w2 =>
 m R (o_load 22 x11) w2 fun x12 w3 =>
 m R (o_builtin .len #[22] 3 [false] [x12]) w3 fun x13 w4 =>
 mj1 (fun j3 =>
 m R (o_bin .gtr 3 true x13 (.int .i64 64)) w4 fun x15 w5 =>
 mguard x15 false (fun k => m R (o_move x13) w5 k) w5 fun x17 w6 =>
 mguard x15 false (fun k => m R (o_bin .gtr 3 true x17 (.int .i64 0)) w6 k) w6 fun x18 w7 =>
 mguard x15 false (fun k => m R (o_move x18) w7 k) w7 fun x19 w8 =>
 mguard x19 true (fun k => m R (o_fieldAddr 25 x1 1) w8 k) w8 fun x20 w9 =>
 mguard x19 true (fun k => m R (o_load 23 x20) w9 k) w9 fun x21 w10 =>
 mguard x19 true (fun k => m R (o_builtin .len #[23] 3 [false] [x21]) w10 k) w10 fun x22 w11 =>
 mguard x19 true (fun k => m R (o_move x13) w11 k) w11 fun x23 w12 =>
 mguard x19 true (fun k => m R (o_bin .sub 3 true x23 (.int .i64 1)) w12 k) w12 fun x24 w13 =>
 mguard x19 true (fun k => m R (o_bin .neq 3 false x22 x24) w13 k) w13 fun x25 w14 =>
 mguard x15 false (fun k => m R (o_pick x19 x25 (.bool false)) w14 k) w14 fun x26 w15 =>
 m R (o_pick x15 (.bool true) x26) w15 fun x27 w16 =>
 mguard x27 false (fun k => m R (o_move x13) w16 k) w16 fun x29 w17 =>
 mguard x27 false (fun k => m R (o_bin .eql 3 true x29 (.int .i64 0)) w17 k) w17 fun x30 w18 =>
 mguard x27 false (fun k => m R (o_move x30) w18 k) w18 fun x31 w19 =>
 mguard x31 true (fun k => m R (o_fieldAddr 25 x1 1) w19 k) w19 fun x32 w20 =>
 mguard x31 true (fun k => m R (o_load 23 x32) w20 k) w20 fun x33 w21 =>
 mguard x31 true (fun k => m R (o_builtin .len #[23] 3 [false] [x33]) w21 k) w21 fun x34 w22 =>
 mguard x31 true (fun k => m R (o_bin .gtr 3 true x34 (.int .i64 0)) w22 k) w22 fun x35 w23 =>
 mguard x27 false (fun k => m R (o_pick x31 x35 (.bool false)) w23 k) w23 fun x36 w24 =>
 m R (o_pick x27 (.bool true) x36) w24 fun x37 w25 =>
 j3 x37 w25) fun x37 u3 w26 =>
 mif x37 (
 R (.returned (.bool false)) w26) (
 ml1 (.int .i64 0) w26 fun x4 u5 w27 next5 =>
 m R (o_bin .lss 3 false x4 x13) w27 fun x40 w28 =>
 mif x40 (
 mj0 (fun j6 =>
 m R (o_fieldAddr 25 x1 0) w28 fun x43 w29 =>
 m R (o_load 22 x43) w29 fun x44 w30 =>
 m R (o_indexAddr 22 x44 x4) w30 fun x46 w31 =>
 m R (o_load 57 x46) w31 fun x47 w32 =>
 m R (o_alloc 57) w32 fun x5 w33 =>
 m R (o_store 57 x5 x47) w33 fun _ w34 =>
 m R (o_load 57 x5) w34 fun x48 w35 =>
 m R (o_build 57 []) w35 fun x49 w36 =>
 m R (o_bin .eql 57 false x48 x49) w36 fun x50 w37 =>
 mif x50 (
 j6 w37) (
 mj1 (fun j10 =>
 m R (o_fieldAddr 57 x5 0) w37 fun x51 w38 =>
 m R (o_load 3 x51) w38 fun x52 w39 =>
 m R (o_bin .lss 3 true x52 (.int .i64 1)) w39 fun x53 w40 =>
 mguard x53 false (fun k => m R (o_fieldAddr 57 x5 0) w40 k) w40 fun x55 w41 =>
 mguard x53 false (fun k => m R (o_load 3 x55) w41 k) w41 fun x56 w42 =>
 mguard x53 false (fun k => m R (o_bin .gtr 3 true x56 (.int .i64 64)) w42 k) w42 fun x57 w43 =>
 m R (o_pick x53 (.bool true) x57) w43 fun x58 w44 =>
 j10 x58 w44) fun x58 u10 w45 =>
 mif x58 (
 R (.returned (.bool false)) w45) (
 ml1 (.int .i64 0) w45 fun x6 u12 w46 next12 =>
 m R (o_bin .lss 3 false x6 x4) w46 fun x61 w47 =>
 mif x61 (
 dp Tryz.prog (o_fieldAddr 25 x1 0) fun x64 =>
 dq Tryz.prog w47 (o_load 22 x64) fun x65 =>
 dp Tryz.prog (o_indexAddr 22 x65 x6) fun x67 =>
 dp Tryz.prog (o_fieldAddr 57 x67 0) fun x68 =>
 dq Tryz.prog w47 (o_load 3 x68) fun x69 =>
 dp Tryz.prog (o_fieldAddr 57 x5 0) fun x70 =>
 dq Tryz.prog w47 (o_load 3 x70) fun x71 =>
 dp Tryz.prog (o_bin .eql 3 false x69 x71) fun x72 =>
 dend w47 fun w48 =>
 mif x72 (
 R (.returned (.bool false)) w48) (
 m R (o_bin .add 3 true x6 (.int .i64 1)) w48 fun x63 w49 =>
 next12 x63 w49)) (
 j6 w47)))) fun u6 w50 =>
 m R (o_bin .add 3 true x4 (.int .i64 1)) w50 fun x42 w51 =>
 next5 x42 w51) (
 ml1 (.int .i64 0) w28 fun x7 u17 w52 next17 =>
 m R (o_fieldAddr 25 x1 1) w52 fun x74 w53 =>
 m R (o_load 23 x74) w53 fun x75 w54 =>
 m R (o_builtin .len #[23] 3 [false] [x75]) w54 fun x76 w55 =>
 m R (o_bin .lss 3 false x7 x76) w55 fun x77 w56 =>
 mif x77 (
 m R (o_fieldAddr 25 x1 1) w56 fun x80 w57 =>
 m R (o_load 23 x80) w57 fun x81 w58 =>
 m R (o_indexAddr 23 x81 x7) w58 fun x83 w59 =>
 m R (o_load 61 x83) w59 fun x84 w60 =>
 m R (o_alloc 61) w60 fun x8 w61 =>
 m R (o_store 61 x8 x84) w61 fun _ w62 =>
 mj1 (fun j21 =>
 m R (o_fieldAddr 61 x8 0) w62 fun x85 w63 =>
 m R (o_load 4 x85) w63 fun x86 w64 =>
 m R (o_un .not x86) w64 fun x87 w65 =>
 mguard x87 true (fun k => m R (o_fieldAddr 61 x8 1) w65 k) w65 fun x89 w66 =>
 mguard x87 true (fun k => m R (o_load 33 x89) w66 k) w66 fun x90 w67 =>
 mguard x87 true (fun k => m R (o_build 33 []) w67 k) w67 fun x91 w68 =>
 mguard x87 true (fun k => m R (o_bin .neq 33 false x90 x91) w68 k) w68 fun x92 w69 =>
 mguard x87 true (fun k => m R (o_move x92) w69 k) w69 fun x93 w70 =>
 mguard x93 false (fun k => m R (o_fieldAddr 61 x8 2) w70 k) w70 fun x94 w71 =>
 mguard x93 false (fun k => m R (o_load 33 x94) w71 k) w71 fun x95 w72 =>
 mguard x93 false (fun k => m R (o_build 33 []) w72 k) w72 fun x96 w73 =>
 mguard x93 false (fun k => m R (o_bin .neq 33 false x95 x96) w73 k) w73 fun x97 w74 =>
 mguard x87 true (fun k => m R (o_pick x93 (.bool true) x97) w74 k) w74 fun x98 w75 =>
 mguard x87 true (fun k => m R (o_move x98) w75 k) w75 fun x99 w76 =>
 mguard x99 false (fun k => m R (o_fieldAddr 61 x8 3) w76 k) w76 fun x100 w77 =>
 mguard x99 false (fun k => m R (o_load 29 x100) w77 k) w77 fun x101 w78 =>
 mguard x99 false (fun k => m R (o_builtin .len #[29] 3 [false] [x101]) w78 k) w78 fun x102 w79 =>
 mguard x99 false (fun k => m R (o_bin .gtr 3 true x102 (.int .i64 0)) w79 k) w79 fun x103 w80 =>
 mguard x87 true (fun k => m R (o_pick x99 (.bool true) x103) w80 k) w80 fun x104 w81 =>
 m R (o_pick x87 x104 (.bool false)) w81 fun x105 w82 =>
 j21 x105 w82) fun x105 u21 w83 =>
 mif x105 (
 R (.returned (.bool false)) w83) (
 ml1 (.int .i64 0) w83 fun x9 u23 w84 next23 =>
 m R (o_fieldAddr 61 x8 3) w84 fun x107 w85 =>
 m R (o_load 29 x107) w85 fun x108 w86 =>
 m R (o_builtin .len #[29] 3 [false] [x108]) w86 fun x109 w87 =>
 m R (o_bin .lss 3 false x9 x109) w87 fun x110 w88 =>
 mif x110 (
 m R (o_fieldAddr 61 x8 3) w88 fun x113 w89 =>
 m R (o_load 29 x113) w89 fun x114 w90 =>
 m R (o_indexAddr 29 x114 x9) w90 fun x116 w91 =>
 m R (o_load 3 x116) w91 fun x117 w92 =>
 mj1 (fun j27 =>
 m R (o_bin .mul 3 true (.int .i64 2) x7) w92 fun x120 w93 =>
 m R (o_bin .add 3 true x120 (.int .i64 1)) w93 fun x121 w94 =>
 m R (o_call (fv 30) [x13, x121, x117]) w94 fun x123 w95 =>
 m R (o_un .not x123) w95 fun x124 w96 =>
 mguard x124 false (fun k => m R (o_fieldAddr 25 x1 0) w96 k) w96 fun x126 w97 =>
 mguard x124 false (fun k => m R (o_load 22 x126) w97 k) w97 fun x127 w98 =>
 mguard x124 false (fun k => m R (o_move x117) w98 k) w98 fun x128 w99 =>
 mguard x124 false (fun k => m R (o_indexAddr 22 x127 x128) w99 k) w99 fun x129 w100 =>
 mguard x124 false (fun k => m R (o_fieldAddr 57 x129 0) w100 k) w100 fun x130 w101 =>
 mguard x124 false (fun k => m R (o_load 3 x130) w101 k) w101 fun x131 w102 =>
 mguard x124 false (fun k => m R (o_bin .eql 3 true x131 (.int .i64 0)) w102 k) w102 fun x132 w103 =>
 m R (o_pick x124 (.bool true) x132) w103 fun x133 w104 =>
 mguard x133 false (fun k => m R (o_move x9) w104 k) w104 fun x135 w105 =>
 mguard x133 false (fun k => m R (o_bin .gtr 3 true x135 (.int .i64 0)) w105 k) w105 fun x136 w106 =>
 mguard x133 false (fun k => m R (o_move x136) w106 k) w106 fun x137 w107 =>
 mguard x137 true (fun k => m R (o_fieldAddr 61 x8 3) w107 k) w107 fun x138 w108 =>
 mguard x137 true (fun k => m R (o_load 29 x138) w108 k) w108 fun x139 w109 =>
 mguard x137 true (fun k => m R (o_move x9) w109 k) w109 fun x140 w110 =>
 mguard x137 true (fun k => m R (o_bin .sub 3 true x140 (.int .i64 1)) w110 k) w110 fun x141 w111 =>
 mguard x137 true (fun k => m R (o_indexAddr 29 x139 x141) w111 k) w111 fun x142 w112 =>
 mguard x137 true (fun k => m R (o_load 3 x142) w112 k) w112 fun x143 w113 =>
 mguard x137 true (fun k => m R (o_move x117) w113 k) w113 fun x144 w114 =>
 mguard x137 true (fun k => m R (o_bin .geq 3 false x143 x144) w114 k) w114 fun x145 w115 =>
 mguard x133 false (fun k => m R (o_pick x137 x145 (.bool false)) w115 k) w115 fun x146 w116 =>
 m R (o_pick x133 (.bool true) x146) w116 fun x147 w117 =>
 j27 x147 w117) fun x147 u27 w118 =>
 mif x147 (
 R (.returned (.bool false)) w118) (
 m R (o_bin .add 3 true x9 (.int .i64 1)) w118 fun x112 w119 =>
 next23 x112 w119)) (
 m R (o_bin .add 3 true x7 (.int .i64 1)) w88 fun x79 w120 =>
 next17 x79 w120))) (
 m R (o_bin .eql 3 true x13 (.int .i64 0)) w56 fun x149 w121 =>
 mguard x149 false (fun k => m R (o_fieldAddr 25 x1 0) w121 k) w121 fun x151 w122 =>
 mguard x149 false (fun k => m R (o_load 22 x151) w122 k) w122 fun x152 w123 =>
 mguard x149 false (fun k => m R (o_move x13) w123 k) w123 fun x153 w124 =>
 mguard x149 false (fun k => m R (o_bin .sub 3 true x153 (.int .i64 1)) w124 k) w124 fun x154 w125 =>
 mguard x149 false (fun k => m R (o_indexAddr 22 x152 x154) w125 k) w125 fun x155 w126 =>
 mguard x149 false (fun k => m R (o_fieldAddr 57 x155 0) w126 k) w126 fun x156 w127 =>
 mguard x149 false (fun k => m R (o_load 3 x156) w127 k) w127 fun x157 w128 =>
 mguard x149 false (fun k => m R (o_bin .neq 3 true x157 (.int .i64 0)) w128 k) w128 fun x158 w129 =>
 m R (o_pick x149 (.bool true) x158) w129 fun x159 w130 =>
 R (.returned x159) w130)))
def A_bevyref08_Right : Ann := ⟨[(5, [4], 9444732965464412520564), (12, [6], 9444156504986987003972), (17, [7], 356811923176489970264562047629408044805261188), (23, [9], 356811923176408840626156885680677995090544132)], [(3, [37], 274877890560), (6, [], 9444732956943197405284), (10, [58], 574208952489738240), (21, [105], 81129599728980454027655414546432), (27, [147], 356811922844182971318342524136422019025600512)], [(14, [⟨0, .q none, 2, 0, 18446744073709551616⟩, ⟨1, .q (some 0), 18446744073709551616, 1, 36893488147419103232⟩, ⟨2, .q none, 64, 0, 73786976294838206464⟩, ⟨3, .q none, 110680464442257309696, 7, 147573952589676412928⟩, ⟨4, .q none, 147573952589676412928, 15, 295147905179352825856⟩, ⟨5, .q (some 0), 295147905179352825856, 31, 590295810358705651712⟩, ⟨6, .q none, 32, 0, 1180591620717411303424⟩, ⟨7, .q (some 0), 1180591620717411303424, 64, 2361183241434822606848⟩, ⟨8, .q none, 2951479051793528258560, 255, 4722366482869645213696⟩])], [], []⟩
theorem C_bevyref08_Right {x0 : Value} {w : World} {R : Ending → World → Prop} (h : F_bevyref08_Right x0 w R) : Calls Tryz.prog 7 #[x0] w R :=
 calls_cwp (A := A_bevyref08_Right) (args := [x0]) mixed Tryz.func7 (c := Tryz.f7.body.getD .skip) (by kernel_rfl) (by kernel_rfl) (by kernel_rfl) (Eq.mpr (by kernel_rfl) h)
def F_tree_Right (x0 : Value) (w : World) (R : Ending → World → Prop) : Prop :=
 m R (o_box 25 x0) w fun x1 w1 =>
 m R (o_fieldAddr 25 x1 0) w1 fun x11 w2 =>
 m R (o_load 22 x11) w2 fun x12 w3 =>
 m R (o_builtin .len #[22] 3 [false] [x12]) w3 fun x13 w4 =>
 mj1 (fun j3 =>
 m R (o_bin .gtr 3 true x13 (.int .i64 64)) w4 fun x15 w5 =>
 mguard x15 false (fun k => m R (o_fieldAddr 25 x1 1) w5 k) w5 fun x17 w6 =>
 mguard x15 false (fun k => m R (o_load 23 x17) w6 k) w6 fun x18 w7 =>
 mguard x15 false (fun k => m R (o_builtin .len #[23] 3 [false] [x18]) w7 k) w7 fun x19 w8 =>
 mguard x15 false (fun k => m R (o_move x13) w8 k) w8 fun x20 w9 =>
 mguard x15 false (fun k => m R (o_bin .sub 3 true x20 (.int .i64 1)) w9 k) w9 fun x21 w10 =>
 mguard x15 false (fun k => m R (o_builtin .max #[3, 3] 3 [false, true] [x21, (.int .i64 0)]) w10 k) w10 fun x22 w11 =>
 mguard x15 false (fun k => m R (o_bin .neq 3 false x19 x22) w11 k) w11 fun x23 w12 =>
 m R (o_pick x15 (.bool true) x23) w12 fun x24 w13 =>
 j3 x24 w13) fun x24 u3 w14 =>
 mif x24 (
 R (.returned (.bool false)) w14) (
 m R (o_alloc 63) w14 fun x4 w15 =>
 m R (o_fieldAddr 25 x1 0) w15 fun x25 w16 =>
 m R (o_load 22 x25) w16 fun x26 w17 =>
 m R (o_builtin .len #[22] 3 [false] [x26]) w17 fun x27 w18 =>
 ml1 (.int .i64 0) w18 fun x28 u6 w19 next6 =>
 m R (o_bin .lss 3 false x28 x27) w19 fun x29 w20 =>
 mif x29 (
 mj0 (fun j12 =>
 m R (o_indexAddr 22 x26 x28) w20 fun x30 w21 =>
 m R (o_load 57 x30) w21 fun x31 w22 =>
 m R (o_alloc 57) w22 fun x6 w23 =>
 m R (o_store 57 x6 x31) w23 fun _ w24 =>
 m R (o_load 57 x6) w24 fun x33 w25 =>
 m R (o_build 57 []) w25 fun x34 w26 =>
 m R (o_bin .eql 57 false x33 x34) w26 fun x35 w27 =>
 mif x35 (
 j12 w27) (
 mj1 (fun j10 =>
 m R (o_fieldAddr 57 x6 0) w27 fun x37 w28 =>
 m R (o_load 3 x37) w28 fun x38 w29 =>
 m R (o_bin .lss 3 true x38 (.int .i64 1)) w29 fun x39 w30 =>
 mguard x39 false (fun k => m R (o_fieldAddr 57 x6 0) w30 k) w30 fun x41 w31 =>
 mguard x39 false (fun k => m R (o_load 3 x41) w31 k) w31 fun x42 w32 =>
 mguard x39 false (fun k => m R (o_bin .gtr 3 true x42 (.int .i64 64)) w32 k) w32 fun x43 w33 =>
 m R (o_pick x39 (.bool true) x43) w33 fun x44 w34 =>
 mguard x44 false (fun k => m R (o_fieldAddr 57 x6 0) w34 k) w34 fun x46 w35 =>
 mguard x44 false (fun k => m R (o_load 3 x46) w35 k) w35 fun x47 w36 =>
 mguard x44 false (fun k => m R (o_indexAddr 63 x4 x47) w36 k) w36 fun x48 w37 =>
 mguard x44 false (fun k => m R (o_load 4 x48) w37 k) w37 fun x49 w38 =>
 m R (o_pick x44 (.bool true) x49) w38 fun x50 w39 =>
 j10 x50 w39) fun x36 u10 w40 =>
 mif x36 (
 R (.returned (.bool false)) w40) (
 m R (o_fieldAddr 57 x6 0) w40 fun x51 w41 =>
 m R (o_load 3 x51) w41 fun x52 w42 =>
 m R (o_indexAddr 63 x4 x52) w42 fun x53 w43 =>
 m R (o_store 4 x53 (.bool true)) w43 fun _ w44 =>
 j12 w44))) fun u12 w45 =>
 m R (o_bin .add 3 true x28 (.int .i64 1)) w45 fun x54 w46 =>
 next6 x54 w46) (
 m R (o_fieldAddr 25 x1 1) w20 fun x55 w47 =>
 m R (o_load 23 x55) w47 fun x56 w48 =>
 m R (o_builtin .len #[23] 3 [false] [x56]) w48 fun x57 w49 =>
 ml1 (.int .i64 0) w49 fun x58 u14 w50 next14 =>
 m R (o_bin .lss 3 false x58 x57) w50 fun x59 w51 =>
 mif x59 (
 m R (o_indexAddr 23 x56 x58) w51 fun x61 w52 =>
 m R (o_load 61 x61) w52 fun x62 w53 =>
 m R (o_alloc 61) w53 fun x8 w54 =>
 m R (o_store 61 x8 x62) w54 fun _ w55 =>
 mj1 (fun j17 =>
 m R (o_fieldAddr 61 x8 0) w55 fun x63 w56 =>
 m R (o_load 4 x63) w56 fun x64 w57 =>
 m R (o_un .not x64) w57 fun x65 w58 =>
 mguard x65 true (fun k => m R (o_load 61 x8) w58 k) w58 fun x67 w59 =>
 mguard x65 true (fun k => m R (o_call (fv 31) [x67]) w59 k) w59 fun x68 w60 =>
 mguard x65 true (fun k => m R (o_un .not x68) w60 k) w60 fun x69 w61 =>
 m R (o_pick x65 x69 (.bool false)) w61 fun x70 w62 =>
 j17 x70 w62) fun x70 u17 w63 =>
 mif x70 (
 R (.returned (.bool false)) w63) (
 m R (o_fieldAddr 61 x8 3) w63 fun x71 w64 =>
 m R (o_load 29 x71) w64 fun x72 w65 =>
 m R (o_builtin .len #[29] 3 [false] [x72]) w65 fun x73 w66 =>
 ml1 (.int .i64 0) w66 fun x74 u19 w67 next19 =>
 m R (o_bin .lss 3 false x74 x73) w67 fun x75 w68 =>
 mif x75 (
 m R (o_indexAddr 29 x72 x74) w68 fun x77 w69 =>
 m R (o_load 3 x77) w69 fun x78 w70 =>
 mj1 (fun j22 =>
 m R (o_bin .mul 3 true (.int .i64 2) x58) w70 fun x81 w71 =>
 m R (o_bin .add 3 true x81 (.int .i64 1)) w71 fun x82 w72 =>
 m R (o_call (fv 32) [x13, x82, x78]) w72 fun x84 w73 =>
 m R (o_un .not x84) w73 fun x85 w74 =>
 mguard x85 false (fun k => m R (o_fieldAddr 25 x1 0) w74 k) w74 fun x87 w75 =>
 mguard x85 false (fun k => m R (o_load 22 x87) w75 k) w75 fun x88 w76 =>
 mguard x85 false (fun k => m R (o_move x78) w76 k) w76 fun x89 w77 =>
 mguard x85 false (fun k => m R (o_indexAddr 22 x88 x89) w77 k) w77 fun x90 w78 =>
 mguard x85 false (fun k => m R (o_fieldAddr 57 x90 0) w78 k) w78 fun x91 w79 =>
 mguard x85 false (fun k => m R (o_load 3 x91) w79 k) w79 fun x92 w80 =>
 mguard x85 false (fun k => m R (o_bin .eql 3 true x92 (.int .i64 0)) w80 k) w80 fun x93 w81 =>
 m R (o_pick x85 (.bool true) x93) w81 fun x94 w82 =>
 mguard x94 false (fun k => m R (o_move x74) w82 k) w82 fun x96 w83 =>
 mguard x94 false (fun k => m R (o_bin .gtr 3 true x96 (.int .i64 0)) w83 k) w83 fun x97 w84 =>
 mguard x94 false (fun k => m R (o_move x97) w84 k) w84 fun x98 w85 =>
 mguard x98 true (fun k => m R (o_move x78) w85 k) w85 fun x99 w86 =>
 mguard x98 true (fun k => m R (o_fieldAddr 61 x8 3) w86 k) w86 fun x100 w87 =>
 mguard x98 true (fun k => m R (o_load 29 x100) w87 k) w87 fun x101 w88 =>
 mguard x98 true (fun k => m R (o_move x74) w88 k) w88 fun x102 w89 =>
 mguard x98 true (fun k => m R (o_bin .sub 3 true x102 (.int .i64 1)) w89 k) w89 fun x103 w90 =>
 mguard x98 true (fun k => m R (o_indexAddr 29 x101 x103) w90 k) w90 fun x104 w91 =>
 mguard x98 true (fun k => m R (o_load 3 x104) w91 k) w91 fun x105 w92 =>
 mguard x98 true (fun k => m R (o_bin .leq 3 false x99 x105) w92 k) w92 fun x106 w93 =>
 mguard x94 false (fun k => m R (o_pick x98 x106 (.bool false)) w93 k) w93 fun x107 w94 =>
 m R (o_pick x94 (.bool true) x107) w94 fun x108 w95 =>
 j22 x108 w95) fun x108 u22 w96 =>
 mif x108 (
 R (.returned (.bool false)) w96) (
 m R (o_bin .add 3 true x74 (.int .i64 1)) w96 fun x109 w97 =>
 next19 x109 w97)) (
 m R (o_bin .add 3 true x58 (.int .i64 1)) w68 fun x110 w98 =>
 next14 x110 w98))) (
 m R (o_bin .eql 3 true x13 (.int .i64 0)) w51 fun x112 w99 =>
 mguard x112 false (fun k => m R (o_fieldAddr 25 x1 0) w99 k) w99 fun x114 w100 =>
 mguard x112 false (fun k => m R (o_load 22 x114) w100 k) w100 fun x115 w101 =>
 mguard x112 false (fun k => m R (o_move x13) w101 k) w101 fun x116 w102 =>
 mguard x112 false (fun k => m R (o_bin .sub 3 true x116 (.int .i64 1)) w102 k) w102 fun x117 w103 =>
 mguard x112 false (fun k => m R (o_indexAddr 22 x115 x117) w103 k) w103 fun x118 w104 =>
 mguard x112 false (fun k => m R (o_fieldAddr 57 x118 0) w104 k) w104 fun x119 w105 =>
 mguard x112 false (fun k => m R (o_load 3 x119) w105 k) w105 fun x120 w106 =>
 mguard x112 false (fun k => m R (o_bin .gtr 3 true x120 (.int .i64 0)) w106 k) w106 fun x121 w107 =>
 m R (o_pick x112 (.bool true) x121) w107 fun x122 w108 =>
 R (.returned x122) w108)))
def A_tree_Right : Ann := ⟨[(6, [28], 36028796750528580), (14, [58], 2596148429267413526034872012900228), (19, [74], 1298074214614817441201145501451780)], [(3, [24], 33538048), (12, [], 18014397435740228), (10, [36], 2251731094208512), (17, [70], 2351959869397967831040), (22, [108], 649037106712390543758997453799424)], [], [], []⟩
theorem C_tree_Right {x0 : Value} {w : World} {R : Ending → World → Prop} (h : F_tree_Right x0 w R) : Calls Tryz.prog 8 #[x0] w R :=
 calls_cwp (A := A_tree_Right) (args := [x0]) mixed Tryz.func8 (c := Tryz.f8.body.getD .skip) (by kernel_rfl) (by kernel_rfl) (by kernel_rfl) (Eq.mpr (by kernel_rfl) h)
def F_tree_Place (x0 x1 : Value) (w : World) (R : Ending → World → Prop) : Prop :=
 m R (o_box 25 x0) w fun x2 w1 =>
 m R (o_box 3 x1) w1 fun x3 w2 =>
 m R (o_load 3 x3) w2 fun x5 w3 =>
 m R (o_bin .lss 3 true x5 (.int .i64 1)) w3 fun x6 w4 =>
 mif x6 (
 R (.returned (.int .i64 (-1))) w4) (
 m R (o_load 25 x2) w4 fun x7 w5 =>
 m R (o_call (fv 34) [x7]) w5 fun x8 w6 =>
 m R (o_field 25 x8 0) w6 fun x9 w7 =>
 m R (o_func (.func 35) [] [x3]) w7 fun x10 w8 =>
 m R (o_call (fv 33) [x9, x10]) w8 fun x11 w9 =>
 R (.returned x11) w9)
def A_tree_Place : Ann := ⟨[], [], [], [], []⟩
theorem C_tree_Place {x0 x1 : Value} {w : World} {R : Ending → World → Prop} (h : F_tree_Place x0 x1 w R) : Calls Tryz.prog 9 #[x0, x1] w R :=
 calls_cwp (A := A_tree_Place) (args := [x0, x1]) mixed Tryz.func9 (c := Tryz.f9.body.getD .skip) (by kernel_rfl) (by kernel_rfl) (by kernel_rfl) (Eq.mpr (by kernel_rfl) h)
def F_bevyref08_Place (x0 x1 : Value) (w : World) (R : Ending → World → Prop) : Prop :=
 m R (o_box 25 x0) w fun x2 w1 =>
 ml1 (.int .i64 0) w1 fun x5 u2 w2 next2 =>
 mj0 (fun j4 =>
 m R (o_fieldAddr 25 x2 0) w2 fun x7 w3 =>
 m R (o_load 22 x7) w3 fun x8 w4 =>
 m R (o_builtin .len #[22] 3 [false] [x8]) w4 fun x9 w5 =>
 m R (o_bin .lss 3 false x5 x9) w5 fun x10 w6 =>
 mguard x10 true (fun k => m R (o_move x1) w6 k) w6 fun x12 w7 =>
 mguard x10 true (fun k => m R (o_bin .gtr 3 true x12 (.int .i64 0)) w7 k) w7 fun x13 w8 =>
 m R (o_pick x10 x13 (.bool false)) w8 fun x14 w9 =>
 mif x14 (
 j4 w9) (
 R (.returned (.int .i64 (-1))) w9)) fun u4 w10 =>
 m R (o_fieldAddr 25 x2 0) w10 fun x17 w11 =>
 m R (o_load 22 x17) w11 fun x18 w12 =>
 m R (o_indexAddr 22 x18 x5) w12 fun x20 w13 =>
 m R (o_fieldAddr 57 x20 0) w13 fun x21 w14 =>
 m R (o_load 3 x21) w14 fun x22 w15 =>
 m R (o_bin .eql 3 false x22 x1) w15 fun x24 w16 =>
 mif x24 (
 R (.returned x5) w16) (
 m R (o_bin .add 3 true x5 (.int .i64 1)) w16 fun x16 w17 =>
 next2 x16 w17)
def A_bevyref08_Place : Ann := ⟨[(2, [5], 67108848)], [(4, [], 32704)], [], [], []⟩
theorem C_bevyref08_Place {x0 x1 : Value} {w : World} {R : Ending → World → Prop} (h : F_bevyref08_Place x0 x1 w R) : Calls Tryz.prog 16 #[x0, x1] w R :=
 calls_cwp (A := A_bevyref08_Place) (args := [x0, x1]) mixed Tryz.func16 (c := Tryz.f16.body.getD .skip) (by kernel_rfl) (by kernel_rfl) (by kernel_rfl) (Eq.mpr (by kernel_rfl) h)
def F_bevylaw10_awake (w : World) (R : Ending → World → Prop) : Prop :=
 m R (o_build 85 [(0, (.int .i64 2)), (1, (.int .i64 3))]) w fun x4 w1 =>
 m R (o_build 87 [(2, (.int .i64 3)), (3, (.int .i64 1)), (4, x4)]) w1 fun x5 w2 =>
 m R (o_alloc 87) w2 fun x1 w3 =>
 m R (o_store 87 x1 x5) w3 fun _ w4 =>
 m R (o_build 85 [(0, (.int .i64 3)), (1, (.int .i64 2))]) w4 fun x6 w5 =>
 m R (o_build 87 [(2, (.int .i64 3)), (3, (.int .i64 2)), (4, x6)]) w5 fun x7 w6 =>
 m R (o_alloc 87) w6 fun x2 w7 =>
 m R (o_store 87 x2 x7) w7 fun _ w8 =>
 m R (o_build 33 [(0, (.int .u8 1))]) w8 fun x8 w9 =>
 m R (o_alloc 33) w9 fun x3 w10 =>
 m R (o_store 33 x3 x8) w10 fun _ w11 =>
 dq Tryz.prog w11 (o_load 87 x1) fun x9 =>
 dq Tryz.prog w11 (o_load 87 x2) fun x10 =>
 df Tryz.prog w11 (o_call (fv 56) [x9, x10]) false fun x11 w12 =>
 qguard x11 true (fun k => dq Tryz.prog w12 (o_load 87 x2) k) fun x13 =>
 qguard x11 true (fun k => dq Tryz.prog w12 (o_load 87 x1) k) fun x14 =>
 mguard x11 true (fun k => df Tryz.prog w12 (o_call (fv 56) [x13, x14]) false k) w12 fun x15 w13 =>
 qguard x11 true (fun k => dp Tryz.prog (o_un .not x15) k) fun x16 =>
 dp Tryz.prog (o_pick x11 x16 (.bool false)) fun x17 =>
 qguard x17 true (fun k => dq Tryz.prog w13 (o_load 87 x1) k) fun x19 =>
 qguard x17 true (fun k => dq Tryz.prog w13 (o_load 33 x3) k) fun x20 =>
 mguard x17 true (fun k => df Tryz.prog w13 (o_call (fv 58) [x19, x20]) true k) w13 fun x21 w14 =>
 qguard x17 true (fun k => dq Tryz.prog w13 (o_load 33 x3) k) fun x22 =>
 mguard x17 true (fun k => df Tryz.prog w14 (o_call (fv 59) [x22]) false k) w14 fun x23 w15 =>
 mguard x17 true (fun k => df Tryz.prog w15 (o_call (fv 57) [x21, x23]) false k) w15 fun x24 w16 =>
 dp Tryz.prog (o_pick x17 x24 (.bool false)) fun x25 =>
 qguard x25 true (fun k => dq Tryz.prog w16 (o_load 87 x2) k) fun x27 =>
 mguard x25 true (fun k => df Tryz.prog w16 (o_call (fv 60) [x27]) false k) w16 fun x28 w17 =>
 dp Tryz.prog (o_pick x25 x28 (.bool false)) fun x29 =>
 qguard x29 true (fun k => dp Tryz.prog (o_build 87 []) k) fun x31 =>
 mguard x29 true (fun k => df Tryz.prog w17 (o_call (fv 60) [x31]) false k) w17 fun x32 w18 =>
 qguard x29 true (fun k => dp Tryz.prog (o_un .not x32) k) fun x33 =>
 dp Tryz.prog (o_pick x29 x33 (.bool false)) fun x34 =>
 dend w18 fun w19 =>
 R (.returned x34) w19
def A_bevylaw10_awake : Ann := ⟨[], [], [(4, [⟨0, .q (some 0), 2, 0, 512⟩, ⟨1, .q (some 0), 4, 0, 1024⟩, ⟨2, .f 0 false, 1536, 3, 2048⟩, ⟨3, .q none, 2048, 7, 4096⟩, ⟨4, .q (some 1), 4100, 15, 8192⟩, ⟨5, .q (some 1), 4098, 15, 16384⟩, ⟨6, .f 1 false, 28672, 63, 32768⟩, ⟨7, .q none, 36864, 127, 65536⟩, ⟨8, .q none, 69632, 255, 131072⟩, ⟨9, .q none, 131072, 511, 262144⟩, ⟨10, .q (some 2), 262146, 1023, 524288⟩, ⟨11, .q (some 2), 262152, 1023, 1048576⟩, ⟨12, .f 2 true, 1835008, 4095, 2097152⟩, ⟨13, .q (some 2), 262152, 1023, 4194304⟩, ⟨14, .f 3 false, 4456448, 16383, 8388608⟩, ⟨15, .f 4 false, 10747904, 32767, 16777216⟩, ⟨16, .q none, 17039360, 65535, 33554432⟩, ⟨17, .q none, 33554432, 131071, 67108864⟩, ⟨18, .q (some 5), 67108868, 262143, 134217728⟩, ⟨19, .f 5 false, 201326592, 524287, 268435456⟩, ⟨20, .q none, 335544320, 1048575, 536870912⟩, ⟨21, .q none, 536870912, 2097151, 1073741824⟩, ⟨22, .q none, 1073741824, 4194303, 2147483648⟩, ⟨23, .f 6 false, 3221225472, 8388607, 4294967296⟩, ⟨24, .q none, 5368709120, 16777215, 8589934592⟩, ⟨25, .q none, 9663676416, 33554431, 17179869184⟩, ⟨26, .q none, 17179869184, 67108863, 1⟩])], [], []⟩
theorem C_bevylaw10_awake {w : World} {R : Ending → World → Prop} (h : F_bevylaw10_awake w R) : Calls Tryz.prog 22 #[] w R :=
 calls_cwp (A := A_bevylaw10_awake) (args := []) mixed Tryz.func22 (c := Tryz.f22.body.getD .skip) (by kernel_rfl) (by kernel_rfl) (by kernel_rfl) (Eq.mpr (by kernel_rfl) h)
def F_bevylaw10_few (x0 : Value) (w : World) (R : Ending → World → Prop) : Prop :=
 m R (o_box 45 x0) w fun x1 w1 =>
 mj1 (fun j2 =>
 m R (o_fieldAddr 45 x1 0) w1 fun x5 w2 =>
 m R (o_fieldAddr 25 x5 0) w2 fun x6 w3 =>
 m R (o_load 22 x6) w3 fun x7 w4 =>
 m R (o_builtin .len #[22] 3 [false] [x7]) w4 fun x8 w5 =>
 m R (o_bin .gtr 3 true x8 (.int .i64 70)) w5 fun x9 w6 =>
 mguard x9 false (fun k => m R (o_fieldAddr 45 x1 0) w6 k) w6 fun x11 w7 =>
 mguard x9 false (fun k => m R (o_fieldAddr 25 x11 1) w7 k) w7 fun x12 w8 =>
 mguard x9 false (fun k => m R (o_load 23 x12) w8 k) w8 fun x13 w9 =>
 mguard x9 false (fun k => m R (o_builtin .len #[23] 3 [false] [x13]) w9 k) w9 fun x14 w10 =>
 mguard x9 false (fun k => m R (o_bin .gtr 3 true x14 (.int .i64 70)) w10 k) w10 fun x15 w11 =>
 m R (o_pick x9 (.bool true) x15) w11 fun x16 w12 =>
 mguard x16 false (fun k => m R (o_fieldAddr 45 x1 2) w12 k) w12 fun x18 w13 =>
 mguard x16 false (fun k => m R (o_load 43 x18) w13 k) w13 fun x19 w14 =>
 mguard x16 false (fun k => m R (o_builtin .len #[43] 3 [false] [x19]) w14 k) w14 fun x20 w15 =>
 mguard x16 false (fun k => m R (o_bin .gtr 3 true x20 (.int .i64 70)) w15 k) w15 fun x21 w16 =>
 m R (o_pick x16 (.bool true) x21) w16 fun x22 w17 =>
 j2 x22 w17) fun x22 u2 w18 =>
 mif x22 (
 R (.returned (.bool false)) w18) (
 ml1 (.int .i64 0) w18 fun x3 u4 w19 next4 =>
 m R (o_fieldAddr 45 x1 0) w19 fun x24 w20 =>
 m R (o_fieldAddr 25 x24 1) w20 fun x25 w21 =>
 m R (o_load 23 x25) w21 fun x26 w22 =>
 m R (o_builtin .len #[23] 3 [false] [x26]) w22 fun x27 w23 =>
 m R (o_bin .lss 3 false x3 x27) w23 fun x28 w24 =>
 mif x28 (
 m R (o_fieldAddr 45 x1 0) w24 fun x31 w25 =>
 m R (o_fieldAddr 25 x31 1) w25 fun x32 w26 =>
 m R (o_load 23 x32) w26 fun x33 w27 =>
 m R (o_indexAddr 23 x33 x3) w27 fun x35 w28 =>
 m R (o_fieldAddr 61 x35 3) w28 fun x36 w29 =>
 m R (o_load 29 x36) w29 fun x37 w30 =>
 m R (o_builtin .len #[29] 3 [false] [x37]) w30 fun x38 w31 =>
 m R (o_bin .gtr 3 true x38 (.int .i64 70)) w31 fun x39 w32 =>
 mif x39 (
 R (.returned (.bool false)) w32) (
 m R (o_bin .add 3 true x3 (.int .i64 1)) w32 fun x30 w33 =>
 next4 x30 w33)) (
 ml1 (.int .i64 0) w24 fun x4 u9 w34 next9 =>
 m R (o_fieldAddr 45 x1 2) w34 fun x41 w35 =>
 m R (o_load 43 x41) w35 fun x42 w36 =>
 m R (o_builtin .len #[43] 3 [false] [x42]) w36 fun x43 w37 =>
 m R (o_bin .lss 3 false x4 x43) w37 fun x44 w38 =>
 mif x44 (
 m R (o_fieldAddr 45 x1 2) w38 fun x47 w39 =>
 m R (o_load 43 x47) w39 fun x48 w40 =>
 m R (o_indexAddr 43 x48 x4) w40 fun x50 w41 =>
 m R (o_fieldAddr 95 x50 1) w41 fun x51 w42 =>
 m R (o_load 93 x51) w42 fun x52 w43 =>
 m R (o_builtin .len #[93] 3 [false] [x52]) w43 fun x53 w44 =>
 m R (o_bin .gtr 3 true x53 (.int .i64 70)) w44 fun x54 w45 =>
 mif x54 (
 R (.returned (.bool false)) w45) (
 m R (o_bin .add 3 true x4 (.int .i64 1)) w45 fun x46 w46 =>
 next9 x46 w46)) (
 R (.returned (.bool true)) w38)))
def A_bevylaw10_few : Ann := ⟨[(4, [3], 1099503239180), (9, [4], 36027697507336212)], [(2, [22], 8388576)], [], [], []⟩
theorem C_bevylaw10_few {x0 : Value} {w : World} {R : Ending → World → Prop} (h : F_bevylaw10_few x0 w R) : Calls Tryz.prog 23 #[x0] w R :=
 calls_cwp (A := A_bevylaw10_few) (args := [x0]) mixed Tryz.func23 (c := Tryz.f23.body.getD .skip) (by kernel_rfl) (by kernel_rfl) (by kernel_rfl) (Eq.mpr (by kernel_rfl) h)
def F_change_Pick (x0 x1 x2 x3 x4 x5 x6 : Value) (w : World) (R : Ending → World → Prop) : Prop :=
 m R (o_box 25 x0) w fun x7 w1 =>
 m R (o_box 42 x1) w1 fun x8 w2 =>
 m R (o_box 33 x3) w2 fun x10 w3 =>
 m R (o_call (fv 61) [x6]) w3 fun x21 w4 =>
 m R (o_call (fv 62) [x21, (fv 63)]) w4 fun x23 w5 =>
 mj1 (fun j12 =>
 m R (o_builtin .len #[46] 3 [false] [x21]) w5 fun x25 w6 =>
 ml2 (.slice none 0 0) (.int .i64 0) w6 fun x16 x26 u5 w7 next5 =>
 m R (o_bin .lss 3 false x26 x25) w7 fun x27 w8 =>
 mif x27 (
 mj1 (fun j11 =>
 m R (o_indexAddr 46 x21 x26) w8 fun x28 w9 =>
 m R (o_load 87 x28) w9 fun x29 w10 =>
 m R (o_alloc 87) w10 fun x18 w11 =>
 m R (o_store 87 x18 x29) w11 fun _ w12 =>
 m R (o_builtin .len #[46] 3 [false] [x16]) w12 fun x31 w13 =>
 m R (o_bin .eql 3 true x31 (.int .i64 16)) w13 fun x32 w14 =>
 mif x32 (
 j12 x16 w14) (
 dp Tryz.prog (o_builtin .len #[46] 3 [false] [x16]) fun x35 =>
 dp Tryz.prog (o_builtin .len #[46] 3 [false] [x16]) fun x37 =>
 dp Tryz.prog (o_slice 46 x16 none (some x35) (some x37)) fun x38 =>
 dq Tryz.prog w14 (o_load 87 x18) fun x39 =>
 df Tryz.prog w14 (o_buildSlice 46 1 [(0, x39)]) false fun x40 w15 =>
 df Tryz.prog w15 (o_builtin .append #[46, 46] 46 [false, false] [x38, x40]) false fun x41 w16 =>
 dend w16 fun w17 =>
 m R (o_load 25 x7) w17 fun x42 w18 =>
 m R (o_load 42 x8) w18 fun x43 w19 =>
 m R (o_load 33 x10) w19 fun x45 w20 =>
 m R (o_call (fv 27) [x42, x43, x2, x45, x4, x5, x41]) w20 fun x49 w21 =>
 m R (o_bin .eql 50 true x49 (.int .i64 0)) w21 fun x50 w22 =>
 mif x50 (
 j11 x41 w22) (
 j11 x16 w22))) fun x16 u11 w23 =>
 m R (o_bin .add 3 true x26 (.int .i64 1)) w23 fun x52 w24 =>
 next5 x16 x52 w24) (
 j12 x16 w8)) fun x16 u12 w25 =>
 R (.returned x16) w25
def A_change_Pick : Ann := ⟨[(5, [16, 26], 9007199188484096)], [(12, [16], 9007199238815744), (11, [16], 4503599359787008)], [(8, [⟨0, .q none, 65536, 0, 8589934592⟩, ⟨1, .q none, 65536, 0, 17179869184⟩, ⟨2, .q none, 17179869184, 2, 34359738368⟩, ⟨3, .q none, 65536, 0, 68719476736⟩, ⟨4, .q none, 68719476736, 8, 137438953472⟩, ⟨5, .q none, 180388626432, 31, 274877906944⟩, ⟨6, .q (some 0), 262144, 0, 549755813888⟩, ⟨7, .f 0 false, 549755813888, 64, 1099511627776⟩, ⟨8, .f 1 false, 1374389534720, 255, 2199023255552⟩, ⟨9, .q none, 2199023255552, 511, 524288⟩])], [], []⟩
theorem C_change_Pick {x0 x1 x2 x3 x4 x5 x6 : Value} {w : World} {R : Ending → World → Prop} (h : F_change_Pick x0 x1 x2 x3 x4 x5 x6 w R) : Calls Tryz.prog 24 #[x0, x1, x2, x3, x4, x5, x6] w R :=
 calls_cwp (A := A_change_Pick) (args := [x0, x1, x2, x3, x4, x5, x6]) mixed Tryz.func24 (c := Tryz.f24.body.getD .skip) (by kernel_rfl) (by kernel_rfl) (by kernel_rfl) (Eq.mpr (by kernel_rfl) h)
def F_bevyref10_Same (x0 x1 : Value) (w : World) (R : Ending → World → Prop) : Prop :=
 m R (o_builtin .len #[46] 3 [false] [x0]) w fun x7 w1 =>
 m R (o_builtin .len #[46] 3 [false] [x1]) w1 fun x9 w2 =>
 m R (o_bin .neq 3 false x7 x9) w2 fun x10 w3 =>
 mif x10 (
 R (.returned (.bool false)) w3) (
 ml1 (.int .i64 0) w3 fun x5 u4 w4 next4 =>
 m R (o_builtin .len #[46] 3 [false] [x0]) w4 fun x13 w5 =>
 m R (o_bin .lss 3 false x5 x13) w5 fun x14 w6 =>
 mif x14 (
 dp Tryz.prog (o_indexAddr 46 x0 x5) fun x19 =>
 dq Tryz.prog w6 (o_load 87 x19) fun x20 =>
 dp Tryz.prog (o_indexAddr 46 x1 x5) fun x23 =>
 dq Tryz.prog w6 (o_load 87 x23) fun x24 =>
 dp Tryz.prog (o_bin .neq 87 false x20 x24) fun x25 =>
 dend w6 fun w7 =>
 mif x25 (
 R (.returned (.bool false)) w7) (
 m R (o_bin .add 3 true x5 (.int .i64 1)) w7 fun x16 w8 =>
 next4 x16 w8)) (
 R (.returned (.bool true)) w6))
def A_bevyref10_Same : Ann := ⟨[(4, [5], 67106864)], [], [(6, [⟨0, .q none, 1, 0, 131072⟩, ⟨1, .q none, 32, 0, 262144⟩, ⟨2, .q none, 393216, 3, 524288⟩, ⟨3, .q (some 0), 524288, 7, 1048576⟩, ⟨4, .q none, 2, 0, 2097152⟩, ⟨5, .q none, 32, 0, 4194304⟩, ⟨6, .q none, 6291456, 48, 8388608⟩, ⟨7, .q (some 0), 8388608, 112, 16777216⟩, ⟨8, .q none, 17825792, 255, 33554432⟩])], [], []⟩
theorem C_bevyref10_Same {x0 x1 : Value} {w : World} {R : Ending → World → Prop} (h : F_bevyref10_Same x0 x1 w R) : Calls Tryz.prog 25 #[x0, x1] w R :=
 calls_cwp (A := A_bevyref10_Same) (args := [x0, x1]) mixed Tryz.func25 (c := Tryz.f25.body.getD .skip) (by kernel_rfl) (by kernel_rfl) (by kernel_rfl) (Eq.mpr (by kernel_rfl) h)
def F_bevyref10_Pick (x0 x1 x2 x3 x4 x5 x6 : Value) (w : World) (R : Ending → World → Prop) : Prop :=
 m R (o_box 25 x0) w fun x7 w1 =>
 m R (o_box 42 x1) w1 fun x8 w2 =>
 m R (o_box 33 x3) w2 fun x10 w3 =>
 ml2 (.slice none 0 0) (.int .i64 0) w3 fun x15 x16 u3 w4 next3 =>
 m R (o_builtin .len #[46] 3 [false] [x6]) w4 fun x25 w5 =>
 m R (o_bin .lss 3 false x16 x25) w5 fun x26 w6 =>
 mif x26 (
 m R (o_indexAddr 46 x6 x16) w6 fun x31 w7 =>
 m R (o_load 87 x31) w7 fun x32 w8 =>
 m R (o_alloc 87) w8 fun x17 w9 =>
 m R (o_store 87 x17 x32) w9 fun _ w10 =>
 ml1 (.int .i64 0) w10 fun x18 u7 w11 next7 =>
 mj0 (fun j8 =>
 dp Tryz.prog (o_builtin .len #[46] 3 [false] [x15]) fun x35 =>
 dp Tryz.prog (o_bin .lss 3 false x18 x35) fun x36 =>
 qguard x36 true (fun k => dq Tryz.prog w11 (o_load 87 x17) k) fun x38 =>
 qguard x36 true (fun k => dp Tryz.prog (o_move x15) k) fun x39 =>
 qguard x36 true (fun k => dp Tryz.prog (o_move x18) k) fun x40 =>
 qguard x36 true (fun k => dp Tryz.prog (o_indexAddr 46 x39 x40) k) fun x41 =>
 qguard x36 true (fun k => dq Tryz.prog w11 (o_load 87 x41) k) fun x42 =>
 mguard x36 true (fun k => df Tryz.prog w11 (o_call (fv 66) [x38, x42]) false k) w11 fun x43 w12 =>
 qguard x36 true (fun k => dp Tryz.prog (o_move x43) k) fun x44 =>
 qguard x44 false (fun k => dp Tryz.prog (o_move x15) k) fun x45 =>
 qguard x44 false (fun k => dp Tryz.prog (o_move x18) k) fun x46 =>
 qguard x44 false (fun k => dp Tryz.prog (o_indexAddr 46 x45 x46) k) fun x47 =>
 qguard x44 false (fun k => dq Tryz.prog w12 (o_load 87 x47) k) fun x48 =>
 qguard x44 false (fun k => dq Tryz.prog w12 (o_load 87 x17) k) fun x49 =>
 mguard x44 false (fun k => df Tryz.prog w12 (o_call (fv 66) [x48, x49]) false k) w12 fun x50 w13 =>
 qguard x44 false (fun k => dp Tryz.prog (o_un .not x50) k) fun x51 =>
 qguard x44 false (fun k => dp Tryz.prog (o_move x51) k) fun x52 =>
 qguard x52 true (fun k => dq Tryz.prog w13 (o_load 87 x17) k) fun x53 =>
 mguard x52 true (fun k => df Tryz.prog w13 (o_call (fv 68) [x53]) true k) w13 fun x54 w14 =>
 qguard x52 true (fun k => dp Tryz.prog (o_move x15) k) fun x55 =>
 qguard x52 true (fun k => dp Tryz.prog (o_move x18) k) fun x56 =>
 qguard x52 true (fun k => dp Tryz.prog (o_indexAddr 46 x55 x56) k) fun x57 =>
 qguard x52 true (fun k => dq Tryz.prog w13 (o_load 87 x57) k) fun x58 =>
 mguard x52 true (fun k => df Tryz.prog w14 (o_call (fv 68) [x58]) false k) w14 fun x59 w15 =>
 mguard x52 true (fun k => df Tryz.prog w15 (o_call (fv 67) [x54, x59]) false k) w15 fun x60 w16 =>
 qguard x44 false (fun k => dp Tryz.prog (o_pick x52 x60 (.bool false)) k) fun x61 =>
 qguard x36 true (fun k => dp Tryz.prog (o_pick x44 (.bool true) x61) k) fun x62 =>
 qguard x36 true (fun k => dp Tryz.prog (o_un .not x62) k) fun x63 =>
 dp Tryz.prog (o_pick x36 x63 (.bool false)) fun x64 =>
 dend w16 fun w17 =>
 mif x64 (
 j8 w17) (
 m R (o_slice 46 x15 none (some x18) none) w17 fun x70 w18 =>
 m R (o_builtin .append #[46, 46] 46 [false, false] [(.slice none 0 0), x70]) w18 fun x71 w19 =>
 m R (o_load 87 x17) w19 fun x73 w20 =>
 m R (o_buildSlice 46 1 [(0, x73)]) w20 fun x74 w21 =>
 m R (o_builtin .append #[46, 46] 46 [false, false] [x71, x74]) w21 fun x75 w22 =>
 m R (o_slice 46 x15 (some x18) none none) w22 fun x79 w23 =>
 m R (o_builtin .append #[46, 46] 46 [false, false] [x75, x79]) w23 fun x80 w24 =>
 m R (o_bin .add 3 true x16 (.int .i64 1)) w24 fun x28 w25 =>
 next3 x80 x28 w25)) fun u8 w26 =>
 m R (o_bin .add 3 true x18 (.int .i64 1)) w26 fun x66 w27 =>
 next7 x66 w27) (
 ml2 (.slice none 0 0) (.int .i64 0) w6 fun x20 x21 u15 w28 next15 =>
 mj0 (fun j17 =>
 m R (o_builtin .len #[46] 3 [false] [x15]) w28 fun x83 w29 =>
 m R (o_bin .lss 3 false x21 x83) w29 fun x84 w30 =>
 mguard x84 true (fun k => m R (o_move x20) w30 k) w30 fun x86 w31 =>
 mguard x84 true (fun k => m R (o_builtin .len #[46] 3 [false] [x86]) w31 k) w31 fun x87 w32 =>
 mguard x84 true (fun k => m R (o_bin .lss 3 true x87 (.int .i64 16)) w32 k) w32 fun x88 w33 =>
 m R (o_pick x84 x88 (.bool false)) w33 fun x89 w34 =>
 mif x89 (
 j17 w34) (
 R (.returned x20) w34)) fun u17 w35 =>
 mj1 (fun j16 =>
 m R (o_builtin .append #[46, 46] 46 [false, false] [(.slice none 0 0), x20]) w35 fun x94 w36 =>
 m R (o_indexAddr 46 x15 x21) w36 fun x98 w37 =>
 m R (o_load 87 x98) w37 fun x99 w38 =>
 m R (o_buildSlice 46 1 [(0, x99)]) w38 fun x100 w39 =>
 m R (o_builtin .append #[46, 46] 46 [false, false] [x94, x100]) w39 fun x101 w40 =>
 m R (o_load 25 x7) w40 fun x102 w41 =>
 m R (o_load 42 x8) w41 fun x103 w42 =>
 m R (o_load 33 x10) w42 fun x105 w43 =>
 m R (o_call (fv 69) [x102, x103, x2, x105, x4, x5, x101]) w43 fun x109 w44 =>
 m R (o_bin .eql 3 true x109 (.int .i64 0)) w44 fun x110 w45 =>
 mif x110 (
 j16 x101 w45) (
 j16 x20 w45)) fun x20 u16 w46 =>
 m R (o_bin .add 3 true x21 (.int .i64 1)) w46 fun x91 w47 =>
 next15 x20 x91 w47)
def A_bevyref10_Pick : Ann := ⟨[(3, [15, 16], 2417851639229258342039552), (7, [18], 147573952581086740480), (15, [20, 21], 5192296856116975989301237987147776)], [(8, [], 36893488138829168640), (17, [], 1235522187646151016549711872), (16, [20], 5192291906774670487009396737966080)], [(7, [⟨0, .q none, 262144, 0, 8589934592⟩, ⟨1, .q none, 32768, 0, 17179869184⟩, ⟨2, .q none, 17179869184, 2, 34359738368⟩, ⟨3, .q none, 42949672960, 7, 68719476736⟩, ⟨4, .q none, 68719476736, 15, 137438953472⟩, ⟨5, .q (some 0), 137439084544, 31, 274877906944⟩, ⟨6, .q none, 137438986240, 31, 549755813888⟩, ⟨7, .q none, 137439215616, 31, 1099511627776⟩, ⟨8, .q none, 1786706395136, 223, 2199023255552⟩, ⟨9, .q (some 0), 2336462209024, 479, 4398046511104⟩, ⟨10, .f 0 false, 4810363371520, 1023, 8796093022208⟩, ⟨11, .q none, 8933531975680, 2047, 17592186044416⟩, ⟨12, .q none, 17592186077184, 4095, 35184372088832⟩, ⟨13, .q none, 17592186306560, 4095, 70368744177664⟩, ⟨14, .q none, 123145302310912, 16383, 140737488355328⟩, ⟨15, .q (some 1), 158329674399744, 32767, 281474976710656⟩, ⟨16, .q (some 1), 17592186175488, 4095, 562949953421312⟩, ⟨17, .f 1 false, 862017116176384, 131071, 1125899906842624⟩, ⟨18, .q none, 1143492092887040, 262143, 2251799813685248⟩, ⟨19, .q none, 2269391999729664, 524287, 4503599627370496⟩, ⟨20, .q (some 2), 4503599627501568, 1048575, 9007199254740992⟩, ⟨21, .f 2 true, 13510798882111488, 2097151, 18014398509481984⟩, ⟨22, .q none, 4503599627403264, 1048575, 36028797018963968⟩, ⟨23, .q none, 4503599627632640, 1048575, 72057594037927936⟩, ⟨24, .q none, 112589990684262400, 13631487, 144115188075855872⟩, ⟨25, .q (some 2), 148618787703226368, 30408703, 288230376151711744⟩, ⟨26, .f 3 false, 292733975779082240, 67108863, 576460752303423488⟩, ⟨27, .f 4 false, 598978750440275968, 134217727, 1152921504606846976⟩, ⟨28, .q none, 1157442696420261888, 268435455, 2305843009213693952⟩, ⟨29, .q none, 2305860738838691840, 536870911, 4611686018427387904⟩, ⟨30, .q none, 4611686155866341376, 1073741823, 9223372036854775808⟩, ⟨31, .q none, 9223372174293729280, 2147483647, 18446744073709551616⟩])], [], []⟩
theorem C_bevyref10_Pick {x0 x1 x2 x3 x4 x5 x6 : Value} {w : World} {R : Ending → World → Prop} (h : F_bevyref10_Pick x0 x1 x2 x3 x4 x5 x6 w R) : Calls Tryz.prog 26 #[x0, x1, x2, x3, x4, x5, x6] w R :=
 calls_cwp (A := A_bevyref10_Pick) (args := [x0, x1, x2, x3, x4, x5, x6]) mixed Tryz.func26 (c := Tryz.f26.body.getD .skip) (by kernel_rfl) (by kernel_rfl) (by kernel_rfl) (Eq.mpr (by kernel_rfl) h)
def F_change_Fit (x0 x1 x2 x3 x4 x5 x6 : Value) (w : World) (R : Ending → World → Prop) : Prop :=
 m R (o_box 25 x0) w fun x7 w1 =>
 m R (o_box 42 x1) w1 fun x8 w2 =>
 m R (o_box 33 x3) w2 fun x10 w3 =>
 m R (o_load 25 x7) w3 fun x27 w4 =>
 m R (o_call (fv 8) [x27]) w4 fun x28 w5 =>
 m R (o_un .not x28) w5 fun x29 w6 =>
 mif x29 (
 R (.returned (.int .i64 1)) w6) (
 m R (o_builtin .len #[46] 3 [false] [x6]) w6 fun x32 w7 =>
 m R (o_bin .gtr 3 true x32 (.int .i64 16)) w7 fun x33 w8 =>
 mif x33 (
 R (.returned (.int .i64 5)) w8) (
 m R (o_makeMap 104 none) w8 fun x34 w9 =>
 m R (o_builtin .len #[46] 3 [false] [x6]) w9 fun x36 w10 =>
 ml1 (.int .i64 0) w10 fun x37 u7 w11 next7 =>
 m R (o_bin .lss 3 false x37 x36) w11 fun x38 w12 =>
 mif x38 (
 mj0 (fun j30 =>
 m R (o_indexAddr 46 x6 x37) w12 fun x40 w13 =>
 m R (o_load 87 x40) w13 fun x41 w14 =>
 m R (o_alloc 87) w14 fun x17 w15 =>
 m R (o_store 87 x17 x41) w15 fun _ w16 =>
 m R (o_load 25 x7) w16 fun x42 w17 =>
 m R (o_fieldAddr 87 x17 2) w17 fun x43 w18 =>
 m R (o_load 3 x43) w18 fun x44 w19 =>
 m R (o_call (fv 9) [x42, x44]) w19 fun x45 w20 =>
 m R (o_load 87 x17) w20 fun x47 w21 =>
 m R (o_call (fv 60) [x47]) w21 fun x48 w22 =>
 m R (o_un .not x48) w22 fun x49 w23 =>
 mif x49 (
 R (.returned (.int .i64 3)) w23) (
 mj1 (fun j13 =>
 m R (o_fieldAddr 87 x17 0) w23 fun x51 w24 =>
 m R (o_load 33 x51) w24 fun x52 w25 =>
 m R (o_load 33 x10) w25 fun x53 w26 =>
 m R (o_bin .neq 33 false x52 x53) w26 fun x54 w27 =>
 mguard x54 false (fun k => m R (o_fieldAddr 87 x17 1) w27 k) w27 fun x56 w28 =>
 mguard x54 false (fun k => m R (o_load 3 x56) w28 k) w28 fun x57 w29 =>
 mguard x54 false (fun k => m R (o_move x4) w29 k) w29 fun x58 w30 =>
 mguard x54 false (fun k => m R (o_bin .neq 3 false x57 x58) w30 k) w30 fun x59 w31 =>
 m R (o_pick x54 (.bool true) x59) w31 fun x60 w32 =>
 j13 x60 w32) fun x50 u13 w33 =>
 mif x50 (
 R (.returned (.int .i64 1)) w33) (
 m R (o_bin .lss 3 true x45 (.int .i64 0)) w33 fun x63 w34 =>
 mif x63 (
 R (.returned (.int .i64 12)) w34) (
 dq Tryz.prog w34 (o_load 87 x17) fun x65 =>
 dp Tryz.prog (o_fieldAddr 25 x7 0) fun x66 =>
 dq Tryz.prog w34 (o_load 22 x66) fun x67 =>
 dp Tryz.prog (o_indexAddr 22 x67 x45) fun x69 =>
 dp Tryz.prog (o_fieldAddr 57 x69 2) fun x70 =>
 dq Tryz.prog w34 (o_load 33 x70) fun x71 =>
 df Tryz.prog w34 (o_call (fv 57) [x65, x71]) false fun x72 w35 =>
 dp Tryz.prog (o_un .not x72) fun x73 =>
 dend w35 fun w36 =>
 mif x73 (
 R (.returned (.int .i64 18)) w36) (
 mj1 (fun j19 =>
 dp Tryz.prog (o_bin .gtr 3 true x37 (.int .i64 0)) fun x76 =>
 qguard x76 true (fun k => dp Tryz.prog (o_move x6) k) fun x78 =>
 qguard x76 true (fun k => dp Tryz.prog (o_move x37) k) fun x79 =>
 qguard x76 true (fun k => dp Tryz.prog (o_bin .sub 3 true x79 (.int .i64 1)) k) fun x80 =>
 qguard x76 true (fun k => dp Tryz.prog (o_indexAddr 46 x78 x80) k) fun x81 =>
 qguard x76 true (fun k => dq Tryz.prog w36 (o_load 87 x81) k) fun x82 =>
 qguard x76 true (fun k => dq Tryz.prog w36 (o_load 87 x17) k) fun x83 =>
 mguard x76 true (fun k => df Tryz.prog w36 (o_call (fv 56) [x82, x83]) false k) w36 fun x84 w37 =>
 qguard x76 true (fun k => dp Tryz.prog (o_un .not x84) k) fun x85 =>
 dp Tryz.prog (o_pick x76 x85 (.bool false)) fun x86 =>
 qguard x86 false (fun k => dp Tryz.prog (o_move x34) k) fun x88 =>
 qguard x86 false (fun k => dp Tryz.prog (o_fieldAddr 87 x17 4) k) fun x89 =>
 qguard x86 false (fun k => dp Tryz.prog (o_fieldAddr 85 x89 1) k) fun x90 =>
 qguard x86 false (fun k => dq Tryz.prog w37 (o_load 3 x90) k) fun x91 =>
 qguard x86 false (fun k => dq Tryz.prog w37 (o_lookup 104 x88 x91 false) k) fun x92 =>
 dp Tryz.prog (o_pick x86 (.bool true) x92) fun x93 =>
 qguard x93 false (fun k => dp Tryz.prog (o_fieldAddr 87 x17 4) k) fun x95 =>
 qguard x93 false (fun k => dp Tryz.prog (o_fieldAddr 85 x95 0) k) fun x96 =>
 qguard x93 false (fun k => dq Tryz.prog w37 (o_load 3 x96) k) fun x97 =>
 qguard x93 false (fun k => dp Tryz.prog (o_bin .neq 3 true x97 (.int .i64 1)) k) fun x98 =>
 qguard x93 false (fun k => dp Tryz.prog (o_move x98) k) fun x99 =>
 qguard x99 true (fun k => dp Tryz.prog (o_fieldAddr 87 x17 4) k) fun x100 =>
 qguard x99 true (fun k => dp Tryz.prog (o_fieldAddr 85 x100 1) k) fun x101 =>
 qguard x99 true (fun k => dq Tryz.prog w37 (o_load 3 x101) k) fun x102 =>
 qguard x99 true (fun k => dp Tryz.prog (o_move x5) k) fun x103 =>
 qguard x99 true (fun k => dp Tryz.prog (o_bin .eql 3 false x102 x103) k) fun x104 =>
 qguard x93 false (fun k => dp Tryz.prog (o_pick x99 x104 (.bool false)) k) fun x105 =>
 dp Tryz.prog (o_pick x93 (.bool true) x105) fun x106 =>
 dend w37 fun w38 =>
 j19 x106 w38) fun x74 u19 w39 =>
 mif x74 (
 R (.returned (.int .i64 17)) w39) (
 m R (o_fieldAddr 87 x17 4) w39 fun x108 w40 =>
 m R (o_fieldAddr 85 x108 1) w40 fun x109 w41 =>
 m R (o_load 3 x109) w41 fun x110 w42 =>
 m R (o_mapUpdate 104 x34 x110 (.bool true)) w42 fun _ w43 =>
 m R (o_load 25 x7) w43 fun x111 w44 =>
 m R (o_fieldAddr 87 x17 4) w44 fun x112 w45 =>
 m R (o_fieldAddr 85 x112 1) w45 fun x113 w46 =>
 m R (o_load 3 x113) w46 fun x114 w47 =>
 m R (o_call (fv 9) [x111, x114]) w47 fun x115 w48 =>
 m R (o_bin .geq 3 true x115 (.int .i64 0)) w48 fun x116 w49 =>
 mj1 (fun j23 =>
 m R (o_fieldAddr 87 x17 4) w49 fun x118 w50 =>
 m R (o_fieldAddr 85 x118 0) w50 fun x119 w51 =>
 m R (o_load 3 x119) w51 fun x120 w52 =>
 m R (o_bin .eql 3 true x120 (.int .i64 1)) w52 fun x121 w53 =>
 mguard x121 true (fun k => m R (o_move x116) w53 k) w53 fun x123 w54 =>
 m R (o_pick x121 x123 (.bool false)) w54 fun x124 w55 =>
 j23 x124 w55) fun x117 u23 w56 =>
 mif x117 (
 R (.returned (.int .i64 8)) w56) (
 m R (o_fieldAddr 87 x17 4) w56 fun x126 w57 =>
 m R (o_fieldAddr 85 x126 0) w57 fun x127 w58 =>
 m R (o_load 3 x127) w58 fun x128 w59 =>
 m R (o_bin .eql 3 true x128 (.int .i64 1)) w59 fun x129 w60 =>
 mif x129 (
 m R (o_load 42 x8) w60 fun x131 w61 =>
 m R (o_fieldAddr 87 x17 4) w61 fun x133 w62 =>
 m R (o_fieldAddr 85 x133 1) w62 fun x134 w63 =>
 m R (o_load 3 x134) w63 fun x135 w64 =>
 m R (o_call (fv 70) [x131, x2, x135]) w64 fun x136 w65 =>
 m R (o_extract x136 0) w65 fun x137 w66 =>
 m R (o_extract x136 1) w66 fun x138 w67 =>
 m R (o_alloc 57) w67 fun x20 w68 =>
 m R (o_store 57 x20 x137) w68 fun _ w69 =>
 m R (o_bin .neq 50 true x138 (.int .i64 0)) w69 fun x140 w70 =>
 mif x140 (
 R (.returned x138) w70) (
 j30 w70)) (
 m R (o_un .not x116) w60 fun x144 w71 =>
 mif x144 (
 R (.returned (.int .i64 7)) w71) (
 j30 w71))))))))) fun u30 w72 =>
 m R (o_bin .add 3 true x37 (.int .i64 1)) w72 fun x145 w73 =>
 next7 x145 w73) (
 m R (o_load 25 x7) w12 fun x147 w74 =>
 m R (o_load 42 x8) w74 fun x148 w75 =>
 m R (o_call (fv 71) [x147, x148, x2, x6]) w75 fun x151 w76 =>
 m R (o_extract x151 0) w76 fun x152 w77 =>
 m R (o_extract x151 1) w77 fun x153 w78 =>
 m R (o_extract x151 2) w78 fun x154 w79 =>
 m R (o_extract x151 3) w79 fun x155 w80 =>
 m R (o_alloc 25) w80 fun x22 w81 =>
 m R (o_alloc 42) w81 fun x23 w82 =>
 m R (o_store 25 x22 x152) w82 fun _ w83 =>
 m R (o_store 42 x23 x153) w83 fun _ w84 =>
 R (.returned x155) w84)))
def A_change_Fit : Ann := ⟨[(7, [37], 89202980794122492566142873090593308589113344)], [(30, [], 44601490397061246283071436545296173260292096), (13, [50], 2304717109306851328), (19, [74], 162259276810323897460099429433344), (23, [117], 42369142365644193448808850046435983360)], [(16, [⟨0, .q (some 0), 131072, 0, 36893488147419103232⟩, ⟨1, .q none, 128, 0, 73786976294838206464⟩, ⟨2, .q (some 0), 73786976294838206464, 2, 147573952589676412928⟩, ⟨3, .q none, 262144, 0, 295147905179352825856⟩, ⟨4, .q none, 442721857769029238784, 14, 590295810358705651712⟩, ⟨5, .q none, 590295810358705651712, 30, 1180591620717411303424⟩, ⟨6, .q (some 0), 1180591620717411303424, 62, 2361183241434822606848⟩, ⟨7, .f 0 false, 2398076729582241710080, 127, 4722366482869645213696⟩, ⟨8, .q none, 4722366482869645213696, 255, 9444732965739290427392⟩, ⟨9, .q none, 9444732965739290427392, 511, 18446744073709551616⟩]), (18, [⟨0, .q none, 65536, 0, 37778931862957161709568⟩, ⟨1, .q none, 37778931862957161709568, 1, 75557863725914323419136⟩, ⟨2, .q none, 75557863725914323419136, 3, 151115727451828646838272⟩, ⟨3, .q none, 151115727451828646838336, 7, 302231454903657293676544⟩, ⟨4, .q none, 151115727451828646903808, 7, 604462909807314587353088⟩, ⟨5, .q none, 755578637259143234191360, 23, 1208925819614629174706176⟩, ⟨6, .q none, 1662273001970115115220992, 63, 2417851639229258349412352⟩, ⟨7, .q (some 0), 2568967366681086996250624, 127, 4835703278458516698824704⟩, ⟨8, .q (some 0), 151115727451828646969344, 7, 9671406556917033397649408⟩, ⟨9, .f 0 false, 14658225562827378743312384, 511, 19342813113834066795298816⟩, ⟨10, .q none, 19493928841285895442137088, 1023, 38685626227668133590597632⟩, ⟨11, .q none, 38836741955119962237435904, 2047, 77371252455336267181195264⟩, ⟨12, .q none, 77371252455336267181195264, 4095, 154742504910672534362390528⟩, ⟨13, .q none, 154742504910672534362423296, 8191, 309485009821345068724781056⟩, ⟨14, .q none, 154742504910672534362521600, 8191, 618970019642690137449562112⟩, ⟨15, .q none, 773712524553362671811952640, 24575, 1237940039285380274899124224⟩, ⟨16, .q (some 1), 1392682544196052809261514752, 57343, 2475880078570760549798248448⟩, ⟨17, .q (some 1), 2940107593302778152885420032, 131071, 4951760157141521099596496896⟩, ⟨18, .q none, 5106502662052193633958887424, 262143, 9903520314283042199192993792⟩, ⟨19, .q none, 9903520314283042199192993792, 524287, 19807040628566084398385987584⟩, ⟨20, .q none, 19807040628566084398386118656, 1048575, 39614081257132168796771975168⟩, ⟨21, .q none, 59421121885698253195157962752, 2097151, 79228162514264337593543950336⟩, ⟨22, .q (some 1), 99035203142830421991929937920, 4194303, 158456325028528675187087900672⟩, ⟨23, .q none, 178263365657094759585473888256, 8388607, 316912650057057350374175801344⟩, ⟨24, .q none, 336719690685623434772561788928, 16777215, 633825300114114700748351602688⟩, ⟨25, .q none, 633825300114114700748351733760, 33554431, 1267650600228229401496703205376⟩, ⟨26, .q none, 1901475900342344102245054808064, 67108863, 2535301200456458802993406410752⟩, ⟨27, .q (some 1), 3169126500570573503741758013440, 134217727, 5070602400912917605986812821504⟩, ⟨28, .q none, 633825300114114700748351602720, 33554431, 10141204801825835211973625643008⟩, ⟨29, .q none, 15845632502852867518708790067200, 536870911, 20282409603651670423947251286016⟩, ⟨30, .q none, 20936041944394351209093988876288, 1073741823, 40564819207303340847894502572032⟩, ⟨31, .q none, 40584626247931906932292888559616, 2147483647, 81129638414606681695789005144064⟩, ⟨32, .q none, 81129638414606681695789005144064, 4294967295, 18889465931478580854784⟩])], [], []⟩
theorem C_change_Fit {x0 x1 x2 x3 x4 x5 x6 : Value} {w : World} {R : Ending → World → Prop} (h : F_change_Fit x0 x1 x2 x3 x4 x5 x6 w R) : Calls Tryz.prog 27 #[x0, x1, x2, x3, x4, x5, x6] w R :=
 calls_cwp (A := A_change_Fit) (args := [x0, x1, x2, x3, x4, x5, x6]) mixed Tryz.func27 (c := Tryz.f27.body.getD .skip) (by kernel_rfl) (by kernel_rfl) (by kernel_rfl) (Eq.mpr (by kernel_rfl) h)
def F_tree_Add (x0 x1 : Value) (w : World) (R : Ending → World → Prop) : Prop :=
 m R (o_box 25 x0) w fun x2 w1 =>
 m R (o_box 57 x1) w1 fun x3 w2 =>
 m R (o_alloc 25) w2 fun x4 w3 =>
 mj1 (fun j2 =>
 m R (o_load 25 x2) w3 fun x14 w4 =>
 m R (o_call (fv 8) [x14]) w4 fun x15 w5 =>
 m R (o_un .not x15) w5 fun x16 w6 =>
 mguard x16 false (fun k => m R (o_fieldAddr 57 x3 0) w6 k) w6 fun x18 w7 =>
 mguard x16 false (fun k => m R (o_load 3 x18) w7 k) w7 fun x19 w8 =>
 mguard x16 false (fun k => m R (o_bin .lss 3 true x19 (.int .i64 1)) w8 k) w8 fun x20 w9 =>
 m R (o_pick x16 (.bool true) x20) w9 fun x21 w10 =>
 mguard x21 false (fun k => m R (o_fieldAddr 57 x3 0) w10 k) w10 fun x23 w11 =>
 mguard x21 false (fun k => m R (o_load 3 x23) w11 k) w11 fun x24 w12 =>
 mguard x21 false (fun k => m R (o_bin .gtr 3 true x24 (.int .i64 64)) w12 k) w12 fun x25 w13 =>
 m R (o_pick x21 (.bool true) x25) w13 fun x26 w14 =>
 j2 x26 w14) fun x13 u2 w15 =>
 mif x13 (
 m R (o_build 25 []) w15 fun x27 w16 =>
 m R (o_store 25 x4 x27) w16 fun _ w17 =>
 rcell Tryz.prog 25 x4 w17 fun r4 =>
 R (.returned (.tuple #[r4, (.int .i64 0), (.int .i64 1)])) w17) (
 m R (o_load 25 x2) w15 fun x29 w18 =>
 m R (o_fieldAddr 57 x3 0) w18 fun x30 w19 =>
 m R (o_load 3 x30) w19 fun x31 w20 =>
 m R (o_call (fv 9) [x29, x31]) w20 fun x32 w21 =>
 m R (o_bin .geq 3 true x32 (.int .i64 0)) w21 fun x33 w22 =>
 mif x33 (
 m R (o_build 25 []) w22 fun x34 w23 =>
 m R (o_store 25 x4 x34) w23 fun _ w24 =>
 rcell Tryz.prog 25 x4 w24 fun r4 =>
 R (.returned (.tuple #[r4, (.int .i64 0), (.int .i64 8)])) w24) (
 m R (o_load 25 x2) w22 fun x35 w25 =>
 m R (o_call (fv 72) [x35]) w25 fun x36 w26 =>
 m R (o_store 25 x2 x36) w26 fun _ w27 =>
 m R (o_fieldAddr 25 x2 0) w27 fun x37 w28 =>
 m R (o_load 22 x37) w28 fun x38 w29 =>
 m R (o_build 57 []) w29 fun x39 w30 =>
 m R (o_call (fv 73) [x38, x39]) w30 fun x40 w31 =>
 mj1 (fun j14 =>
 m R (o_bin .lss 3 true x40 (.int .i64 0)) w31 fun x42 w32 =>
 mif x42 (
 m R (o_fieldAddr 25 x2 0) w32 fun x43 w33 =>
 m R (o_load 22 x43) w33 fun x44 w34 =>
 m R (o_builtin .len #[22] 3 [false] [x44]) w34 fun x45 w35 =>
 m R (o_bin .eql 3 true x45 (.int .i64 64)) w35 fun x47 w36 =>
 mif x47 (
 m R (o_build 25 []) w36 fun x48 w37 =>
 m R (o_store 25 x4 x48) w37 fun _ w38 =>
 rcell Tryz.prog 25 x4 w38 fun r4 =>
 R (.returned (.tuple #[r4, (.int .i64 0), (.int .i64 9)])) w38) (
 mj0 (fun j13 =>
 m R (o_bin .gtr 3 true x45 (.int .i64 0)) w36 fun x50 w39 =>
 mif x50 (
 m R (o_fieldAddr 25 x2 1) w39 fun x51 w40 =>
 m R (o_load 23 x51) w40 fun x52 w41 =>
 m R (o_build 61 []) w41 fun x53 w42 =>
 m R (o_buildSlice 23 1 [(0, x53)]) w42 fun x54 w43 =>
 m R (o_builtin .append #[23, 23] 23 [false, false] [x52, x54]) w43 fun x55 w44 =>
 m R (o_fieldAddr 25 x2 1) w44 fun x56 w45 =>
 m R (o_store 23 x56 x55) w45 fun _ w46 =>
 j13 w46) (
 j13 w39)) fun u13 w47 =>
 m R (o_fieldAddr 25 x2 0) w47 fun x57 w48 =>
 m R (o_load 22 x57) w48 fun x58 w49 =>
 m R (o_build 57 []) w49 fun x59 w50 =>
 m R (o_buildSlice 22 1 [(0, x59)]) w50 fun x60 w51 =>
 m R (o_builtin .append #[22, 22] 22 [false, false] [x58, x60]) w51 fun x61 w52 =>
 m R (o_fieldAddr 25 x2 0) w52 fun x62 w53 =>
 m R (o_store 22 x62 x61) w53 fun _ w54 =>
 j14 x45 w54)) (
 j14 x40 w32)) fun x7 u14 w55 =>
 m R (o_fieldAddr 25 x2 0) w55 fun x63 w56 =>
 m R (o_load 22 x63) w56 fun x64 w57 =>
 m R (o_load 57 x3) w57 fun x66 w58 =>
 m R (o_indexAddr 22 x64 x7) w58 fun x67 w59 =>
 m R (o_store 57 x67 x66) w59 fun _ w60 =>
 m R (o_fieldAddr 25 x2 0) w60 fun x68 w61 =>
 m R (o_load 22 x68) w61 fun x69 w62 =>
 m R (o_builtin .len #[22] 3 [false] [x69]) w62 fun x70 w63 =>
 m R (o_call (fv 74) [x70, x7]) w63 fun x72 w64 =>
 m R (o_builtin .len #[29] 3 [false] [x72]) w64 fun x73 w65 =>
 ml1 (.int .i64 0) w65 fun x74 u16 w66 next16 =>
 m R (o_bin .lss 3 false x74 x73) w66 fun x75 w67 =>
 mif x75 (
 mj0 (fun j22 =>
 m R (o_indexAddr 29 x72 x74) w67 fun x76 w68 =>
 m R (o_load 3 x76) w68 fun x77 w69 =>
 m R (o_fieldAddr 25 x2 1) w69 fun x78 w70 =>
 m R (o_load 23 x78) w70 fun x79 w71 =>
 m R (o_bin .quo 3 true x77 (.int .i64 2)) w71 fun x81 w72 =>
 m R (o_indexAddr 23 x79 x81) w72 fun x82 w73 =>
 m R (o_nilCheck x82) w73 fun x84 w74 =>
 m R (o_fieldAddr 61 x84 0) w74 fun x85 w75 =>
 m R (o_load 4 x85) w75 fun x86 w76 =>
 mif x86 (
 m R (o_nilCheck x82) w76 fun x89 w77 =>
 m R (o_fieldAddr 61 x89 3) w77 fun x90 w78 =>
 m R (o_load 29 x90) w78 fun x91 w79 =>
 m R (o_call (fv 75) [x91, x7]) w79 fun x93 w80 =>
 m R (o_extract x93 0) w80 fun x94 w81 =>
 m R (o_extract x93 1) w81 fun x95 w82 =>
 m R (o_nilCheck x82) w82 fun x98 w83 =>
 m R (o_fieldAddr 61 x98 3) w83 fun x99 w84 =>
 m R (o_load 29 x99) w84 fun x100 w85 =>
 m R (o_buildSlice 29 1 [(0, x7)]) w85 fun x103 w86 =>
 m R (o_call (fv 76) [x100, x94, x103]) w86 fun x104 w87 =>
 m R (o_nilCheck x82) w87 fun x105 w88 =>
 m R (o_fieldAddr 61 x105 3) w88 fun x106 w89 =>
 m R (o_store 29 x106 x104) w89 fun _ w90 =>
 j22 w90) (
 j22 w76)) fun u22 w91 =>
 m R (o_bin .add 3 true x74 (.int .i64 1)) w91 fun x107 w92 =>
 next16 x107 w92) (
 m R (o_load 25 x2) w67 fun x108 w93 =>
 m R (o_store 25 x4 x108) w93 fun _ w94 =>
 rcell Tryz.prog 25 x4 w94 fun r4 =>
 R (.returned (.tuple #[r4, x7, (.int .i64 0)])) w94)))
def A_tree_Add : Ann := ⟨[(16, [74], 324518553639537260851677439729152)], [(2, [13], 134209536), (14, [7], 9223369837831520480), (13, [], 143552238122434560), (22, [], 162259276753655499665663686876672)], [], [], []⟩
theorem C_tree_Add {x0 x1 : Value} {w : World} {R : Ending → World → Prop} (h : F_tree_Add x0 x1 w R) : Calls Tryz.prog 28 #[x0, x1] w R :=
 calls_cwp (A := A_tree_Add) (args := [x0, x1]) mixed Tryz.func28 (c := Tryz.f28.body.getD .skip) (by kernel_rfl) (by kernel_rfl) (by kernel_rfl) (Eq.mpr (by kernel_rfl) h)
def F_tree_Remove (x0 x1 : Value) (w : World) (R : Ending → World → Prop) : Prop :=
 m R (o_box 25 x0) w fun x2 w1 =>
 m R (o_alloc 25) w1 fun x4 w2 =>
 m R (o_load 25 x2) w2 fun x8 w3 =>
 m R (o_call (fv 8) [x8]) w3 fun x9 w4 =>
 m R (o_un .not x9) w4 fun x10 w5 =>
 mif x10 (
 m R (o_build 25 []) w5 fun x11 w6 =>
 m R (o_store 25 x4 x11) w6 fun _ w7 =>
 rcell Tryz.prog 25 x4 w7 fun r4 =>
 R (.returned (.tuple #[r4, (.int .i64 1)])) w7) (
 m R (o_load 25 x2) w5 fun x13 w8 =>
 m R (o_call (fv 77) [x13, x1]) w8 fun x15 w9 =>
 mif x15 (
 m R (o_build 25 []) w9 fun x16 w10 =>
 m R (o_store 25 x4 x16) w10 fun _ w11 =>
 rcell Tryz.prog 25 x4 w11 fun r4 =>
 R (.returned (.tuple #[r4, (.int .i64 7)])) w11) (
 m R (o_load 25 x2) w9 fun x17 w12 =>
 m R (o_call (fv 72) [x17]) w12 fun x18 w13 =>
 m R (o_store 25 x2 x18) w13 fun _ w14 =>
 m R (o_fieldAddr 25 x2 0) w14 fun x19 w15 =>
 m R (o_load 22 x19) w15 fun x20 w16 =>
 m R (o_build 57 []) w16 fun x22 w17 =>
 m R (o_indexAddr 22 x20 x1) w17 fun x23 w18 =>
 m R (o_store 57 x23 x22) w18 fun _ w19 =>
 m R (o_load 25 x2) w19 fun x24 w20 =>
 m R (o_call (fv 78) [x24, x1]) w20 fun x26 w21 =>
 m R (o_fieldAddr 25 x2 0) w21 fun x27 w22 =>
 m R (o_load 22 x27) w22 fun x28 w23 =>
 m R (o_builtin .len #[22] 3 [false] [x28]) w23 fun x29 w24 =>
 ml1 x29 w24 fun x6 u9 w25 next9 =>
 mj0 (fun j10 =>
 m R (o_bin .gtr 3 true x6 (.int .i64 0)) w25 fun x31 w26 =>
 mguard x31 true (fun k => m R (o_fieldAddr 25 x2 0) w26 k) w26 fun x33 w27 =>
 mguard x31 true (fun k => m R (o_load 22 x33) w27 k) w27 fun x34 w28 =>
 mguard x31 true (fun k => m R (o_move x6) w28 k) w28 fun x35 w29 =>
 mguard x31 true (fun k => m R (o_bin .sub 3 true x35 (.int .i64 1)) w29 k) w29 fun x36 w30 =>
 mguard x31 true (fun k => m R (o_indexAddr 22 x34 x36) w30 k) w30 fun x37 w31 =>
 mguard x31 true (fun k => m R (o_fieldAddr 57 x37 0) w31 k) w31 fun x38 w32 =>
 mguard x31 true (fun k => m R (o_load 3 x38) w32 k) w32 fun x39 w33 =>
 mguard x31 true (fun k => m R (o_bin .eql 3 true x39 (.int .i64 0)) w33 k) w33 fun x40 w34 =>
 m R (o_pick x31 x40 (.bool false)) w34 fun x41 w35 =>
 mif x41 (
 j10 w35) (
 dp Tryz.prog (o_fieldAddr 25 x2 0) fun x44 =>
 dq Tryz.prog w35 (o_load 22 x44) fun x45 =>
 dp Tryz.prog (o_slice 22 x45 none (some x6) none) fun x47 =>
 dp Tryz.prog (o_fieldAddr 25 x2 1) fun x48 =>
 dq Tryz.prog w35 (o_load 23 x48) fun x49 =>
 dp Tryz.prog (o_bin .sub 3 true x6 (.int .i64 1)) fun x51 =>
 dp Tryz.prog (o_builtin .max #[3, 3] 3 [false, true] [x51, (.int .i64 0)]) fun x52 =>
 dp Tryz.prog (o_slice 23 x49 none (some x52) none) fun x53 =>
 dp Tryz.prog (o_fieldAddr 25 x2 0) fun x54 =>
 df Tryz.prog w35 (o_store 22 x54 x47) false fun _ w36 =>
 dp Tryz.prog (o_fieldAddr 25 x2 1) fun x55 =>
 df Tryz.prog w36 (o_store 23 x55 x53) false fun _ w37 =>
 dend w37 fun w38 =>
 m R (o_load 25 x2) w38 fun x56 w39 =>
 m R (o_store 25 x4 x56) w39 fun _ w40 =>
 rcell Tryz.prog 25 x4 w40 fun r4 =>
 R (.returned (.tuple #[r4, (.int .i64 0)])) w40)) fun u10 w41 =>
 m R (o_bin .sub 3 true x6 (.int .i64 1)) w41 fun x43 w42 =>
 next9 x43 w42))
def A_tree_Remove : Ann := ⟨[(9, [6], 17591112302656)], [(10, [], 4396972769280)], [(11, [⟨0, .q none, 4, 0, 17592186044416⟩, ⟨1, .q (some 0), 17592186044416, 1, 35184372088832⟩, ⟨2, .q none, 64, 0, 70368744177664⟩, ⟨3, .q none, 105553116266496, 7, 140737488355328⟩, ⟨4, .q none, 4, 0, 281474976710656⟩, ⟨5, .q (some 0), 281474976710656, 16, 562949953421312⟩, ⟨6, .q none, 64, 0, 1125899906842624⟩, ⟨7, .q none, 1125899906842624, 64, 2251799813685248⟩, ⟨8, .q none, 2251799813685248, 192, 4503599627370496⟩, ⟨9, .q none, 5066549580791808, 496, 9007199254740992⟩, ⟨10, .q none, 4, 63, 18014398509481984⟩, ⟨11, .f 0 false, 18155135997837312, 1087, 0⟩, ⟨12, .q none, 4, 4095, 36028797018963968⟩, ⟨13, .f 1 false, 45035996273704960, 8191, 0⟩])], [], []⟩
theorem C_tree_Remove {x0 x1 : Value} {w : World} {R : Ending → World → Prop} (h : F_tree_Remove x0 x1 w R) : Calls Tryz.prog 29 #[x0, x1] w R :=
 calls_cwp (A := A_tree_Remove) (args := [x0, x1]) mixed Tryz.func29 (c := Tryz.f29.body.getD .skip) (by kernel_rfl) (by kernel_rfl) (by kernel_rfl) (Eq.mpr (by kernel_rfl) h)
def F_bevyref07_Holds (x0 x1 x2 : Value) (w : World) (R : Ending → World → Prop) : Prop :=
 m R (o_call (fv 79) [x0, x1]) w fun x12 w1 =>
 m R (o_extract x12 0) w1 fun x13 w2 =>
 m R (o_extract x12 1) w2 fun x14 w3 =>
 m R (o_bin .geq 3 false x2 x13) w3 fun x17 w4 =>
 mguard x17 true (fun k => m R (o_move x2) w4 k) w4 fun x19 w5 =>
 mguard x17 true (fun k => m R (o_move x14) w5 k) w5 fun x20 w6 =>
 mguard x17 true (fun k => m R (o_bin .lss 3 false x19 x20) w6 k) w6 fun x21 w7 =>
 m R (o_pick x17 x21 (.bool false)) w7 fun x22 w8 =>
 R (.returned x22) w8
def A_bevyref07_Holds : Ann := ⟨[], [], [], [], []⟩
theorem C_bevyref07_Holds {x0 x1 x2 : Value} {w : World} {R : Ending → World → Prop} (h : F_bevyref07_Holds x0 x1 x2 w R) : Calls Tryz.prog 30 #[x0, x1, x2] w R :=
 calls_cwp (A := A_bevyref07_Holds) (args := [x0, x1, x2]) mixed Tryz.func30 (c := Tryz.f30.body.getD .skip) (by kernel_rfl) (by kernel_rfl) (by kernel_rfl) (Eq.mpr (by kernel_rfl) h)
def F_tree_zero (x0 : Value) (w : World) (R : Ending → World → Prop) : Prop :=
 m R (o_box 61 x0) w fun x1 w1 =>
 m R (o_fieldAddr 61 x1 0) w1 fun x3 w2 =>
 m R (o_load 4 x3) w2 fun x4 w3 =>
 m R (o_un .not x4) w3 fun x5 w4 =>
 mguard x5 true (fun k => m R (o_fieldAddr 61 x1 1) w4 k) w4 fun x7 w5 =>
 mguard x5 true (fun k => m R (o_load 33 x7) w5 k) w5 fun x8 w6 =>
 mguard x5 true (fun k => m R (o_build 33 []) w6 k) w6 fun x9 w7 =>
 mguard x5 true (fun k => m R (o_bin .eql 33 false x8 x9) w7 k) w7 fun x10 w8 =>
 m R (o_pick x5 x10 (.bool false)) w8 fun x11 w9 =>
 mguard x11 true (fun k => m R (o_fieldAddr 61 x1 2) w9 k) w9 fun x13 w10 =>
 mguard x11 true (fun k => m R (o_load 33 x13) w10 k) w10 fun x14 w11 =>
 mguard x11 true (fun k => m R (o_build 33 []) w11 k) w11 fun x15 w12 =>
 mguard x11 true (fun k => m R (o_bin .eql 33 false x14 x15) w12 k) w12 fun x16 w13 =>
 m R (o_pick x11 x16 (.bool false)) w13 fun x17 w14 =>
 mguard x17 true (fun k => m R (o_fieldAddr 61 x1 3) w14 k) w14 fun x19 w15 =>
 mguard x17 true (fun k => m R (o_load 29 x19) w15 k) w15 fun x20 w16 =>
 mguard x17 true (fun k => m R (o_builtin .len #[29] 3 [false] [x20]) w16 k) w16 fun x21 w17 =>
 mguard x17 true (fun k => m R (o_bin .eql 3 true x21 (.int .i64 0)) w17 k) w17 fun x22 w18 =>
 m R (o_pick x17 x22 (.bool false)) w18 fun x23 w19 =>
 R (.returned x23) w19
def A_tree_zero : Ann := ⟨[], [], [], [], []⟩
theorem C_tree_zero {x0 : Value} {w : World} {R : Ending → World → Prop} (h : F_tree_zero x0 w R) : Calls Tryz.prog 31 #[x0] w R :=
 calls_cwp (A := A_tree_zero) (args := [x0]) mixed Tryz.func31 (c := Tryz.f31.body.getD .skip) (by kernel_rfl) (by kernel_rfl) (by kernel_rfl) (Eq.mpr (by kernel_rfl) h)
def F_bough_Holds (x0 x1 x2 : Value) (w : World) (R : Ending → World → Prop) : Prop :=
 m R (o_call (fv 80) [x0, x1]) w fun x12 w1 =>
 m R (o_extract x12 0) w1 fun x13 w2 =>
 m R (o_extract x12 1) w2 fun x14 w3 =>
 m R (o_bin .geq 3 false x2 x13) w3 fun x17 w4 =>
 mguard x17 true (fun k => m R (o_move x2) w4 k) w4 fun x19 w5 =>
 mguard x17 true (fun k => m R (o_move x14) w5 k) w5 fun x20 w6 =>
 mguard x17 true (fun k => m R (o_bin .lss 3 false x19 x20) w6 k) w6 fun x21 w7 =>
 m R (o_pick x17 x21 (.bool false)) w7 fun x22 w8 =>
 R (.returned x22) w8
def A_bough_Holds : Ann := ⟨[], [], [], [], []⟩
theorem C_bough_Holds {x0 x1 x2 : Value} {w : World} {R : Ending → World → Prop} (h : F_bough_Holds x0 x1 x2 w R) : Calls Tryz.prog 32 #[x0, x1, x2] w R :=
 calls_cwp (A := A_bough_Holds) (args := [x0, x1, x2]) mixed Tryz.func32 (c := Tryz.f32.body.getD .skip) (by kernel_rfl) (by kernel_rfl) (by kernel_rfl) (Eq.mpr (by kernel_rfl) h)
def F_slices_IndexFunc_api_Leaf_api_Leaf (x0 x1 : Value) (w : World) (R : Ending → World → Prop) : Prop :=
 m R (o_builtin .len #[22] 3 [false] [x0]) w fun x7 w1 =>
 ml1 (.int .i64 0) w1 fun x8 u2 w2 next2 =>
 m R (o_bin .lss 3 false x8 x7) w2 fun x9 w3 =>
 mif x9 (
 m R (o_indexAddr 22 x0 x8) w3 fun x14 w4 =>
 m R (o_load 57 x14) w4 fun x15 w5 =>
 m R (o_call x1 [x15]) w5 fun x16 w6 =>
 mif x16 (
 R (.returned x8) w6) (
 m R (o_bin .add 3 true x8 (.int .i64 1)) w6 fun x18 w7 =>
 next2 x18 w7)) (
 R (.returned (.int .i64 (-1))) w3)
def A_slices_IndexFunc_api_Leaf_api_Leaf : Ann := ⟨[(2, [8], 524080)], [], [], [], []⟩
theorem C_slices_IndexFunc_api_Leaf_api_Leaf {x0 x1 : Value} {w : World} {R : Ending → World → Prop} (h : F_slices_IndexFunc_api_Leaf_api_Leaf x0 x1 w R) : Calls Tryz.prog 33 #[x0, x1] w R :=
 calls_cwp (A := A_slices_IndexFunc_api_Leaf_api_Leaf) (args := [x0, x1]) mixed Tryz.func33 (c := Tryz.f33.body.getD .skip) (by kernel_rfl) (by kernel_rfl) (by kernel_rfl) (Eq.mpr (by kernel_rfl) h)
def F_tree_sound (x0 : Value) (w : World) (R : Ending → World → Prop) : Prop :=
 m R (o_box 25 x0) w fun x1 w1 =>
 m R (o_alloc 25) w1 fun x2 w2 =>
 m R (o_load 25 x1) w2 fun x3 w3 =>
 m R (o_call (fv 8) [x3]) w3 fun x4 w4 =>
 mif x4 (
 m R (o_load 25 x1) w4 fun x5 w5 =>
 m R (o_store 25 x2 x5) w5 fun _ w6 =>
 rcell Tryz.prog 25 x2 w6 fun r2 =>
 R (.returned r2) w6) (
 m R (o_build 25 []) w4 fun x6 w7 =>
 m R (o_store 25 x2 x6) w7 fun _ w8 =>
 rcell Tryz.prog 25 x2 w8 fun r2 =>
 R (.returned r2) w8)
def A_tree_sound : Ann := ⟨[], [], [], [], []⟩
theorem C_tree_sound {x0 : Value} {w : World} {R : Ending → World → Prop} (h : F_tree_sound x0 w R) : Calls Tryz.prog 34 #[x0] w R :=
 calls_cwp (A := A_tree_sound) (args := [x0]) mixed Tryz.func34 (c := Tryz.f34.body.getD .skip) (by kernel_rfl) (by kernel_rfl) (by kernel_rfl) (Eq.mpr (by kernel_rfl) h)
def F_tree_Place_1 (x0 x1 : Value) (w : World) (R : Ending → World → Prop) : Prop :=
 m R (o_box 57 x0) w fun x2 w1 =>
 m R (o_fieldAddr 57 x2 0) w1 fun x4 w2 =>
 m R (o_load 3 x4) w2 fun x5 w3 =>
 m R (o_load 3 x1) w3 fun x6 w4 =>
 m R (o_bin .eql 3 false x5 x6) w4 fun x7 w5 =>
 R (.returned x7) w5
def A_tree_Place_1 : Ann := ⟨[], [], [], [], []⟩
theorem C_tree_Place_1 {x0 x1 : Value} {w : World} {R : Ending → World → Prop} (h : F_tree_Place_1 x0 x1 w R) : Calls Tryz.prog 35 #[x0, x1] w R :=
 calls_cwp (A := A_tree_Place_1) (args := [x0, x1]) mixed Tryz.func35 (c := Tryz.f35.body.getD .skip) (by kernel_rfl) (by kernel_rfl) (by kernel_rfl) (Eq.mpr (by kernel_rfl) h)
def F_sha_Sum (x0 : Value) (w : World) (R : Ending → World → Prop) : Prop :=
 m R (o_alloc 33) w fun x2 w1 =>
 m R (o_build 126 [(0, (.int .u32 1779033703)), (1, (.int .u32 3144134277)), (2, (.int .u32 1013904242)), (3, (.int .u32 2773480762)), (4, (.int .u32 1359893119)), (5, (.int .u32 2600822924)), (6, (.int .u32 528734635)), (7, (.int .u32 1541459225))]) w1 fun x11 w2 =>
 m R (o_call (fv 85) []) w2 fun x12 w3 =>
 m R (o_build 131 [(0, x11), (3, x12)]) w3 fun x13 w4 =>
 m R (o_box 131 x13) w4 fun x14 w5 =>
 m R (o_builtin .len #[123] 3 [false] [x0]) w5 fun x16 w6 =>
 ml1 (.int .i64 0) w6 fun x17 u3 w7 next3 =>
 m R (o_bin .lss 3 false x17 x16) w7 fun x18 w8 =>
 mif x18 (
 m R (o_indexAddr 123 x0 x17) w8 fun x19 w9 =>
 m R (o_load 9 x19) w9 fun x20 w10 =>
 m R (o_call (fv 86) [x14, x20]) w10 fun x23 w11 =>
 m R (o_bin .add 3 true x17 (.int .i64 1)) w11 fun x24 w12 =>
 next3 x24 w12) (
 m R (o_alloc 133) w8 fun x6 w13 =>
 m R (o_indexAddr 133 x6 (.int .i64 0)) w13 fun x25 w14 =>
 m R (o_store 5 x25 (.int .u8 128)) w14 fun _ w15 =>
 m R (o_nilCheck x14) w15 fun x27 w16 =>
 m R (o_fieldAddr 131 x27 2) w16 fun x28 w17 =>
 m R (o_load 3 x28) w17 fun x29 w18 =>
 m R (o_bin .add 3 true x29 (.int .i64 8)) w18 fun x30 w19 =>
 m R (o_bin .rem 3 true x30 (.int .i64 64)) w19 fun x31 w20 =>
 m R (o_bin .sub 3 true (.int .i64 64) x31) w20 fun x32 w21 =>
 ml1 (.int .i64 0) w21 fun x33 u11 w22 next11 =>
 m R (o_bin .lss 3 true x33 (.int .i64 8)) w22 fun x34 w23 =>
 mif x34 (
 m R (o_bin .add 3 false x32 x33) w23 fun x38 w24 =>
 m R (o_nilCheck x14) w24 fun x40 w25 =>
 m R (o_fieldAddr 131 x40 2) w25 fun x41 w26 =>
 m R (o_load 3 x41) w26 fun x42 w27 =>
 m R (o_conv 3 134 x42) w27 fun x43 w28 =>
 m R (o_bin .mul 134 true x43 (.int .u64 8)) w28 fun x44 w29 =>
 m R (o_bin .mul 3 true (.int .i64 8) x33) w29 fun x46 w30 =>
 m R (o_bin .sub 3 true (.int .i64 56) x46) w30 fun x47 w31 =>
 m R (o_bin .shr 134 false x44 x47) w31 fun x48 w32 =>
 m R (o_conv 134 5 x48) w32 fun x49 w33 =>
 m R (o_indexAddr 133 x6 x38) w33 fun x50 w34 =>
 m R (o_store 5 x50 x49) w34 fun _ w35 =>
 m R (o_bin .add 3 true x33 (.int .i64 1)) w35 fun x51 w36 =>
 next11 x51 w36) (
 m R (o_bin .add 3 true x32 (.int .i64 8)) w23 fun x54 w37 =>
 m R (o_slice 133 x6 none (some x54) none) w37 fun x55 w38 =>
 m R (o_conv 135 9 x55) w38 fun x56 w39 =>
 m R (o_call (fv 86) [x14, x56]) w39 fun x57 w40 =>
 m R (o_alloc 33) w40 fun x9 w41 =>
 ml1 (.int .i64 0) w41 fun x58 u18 w42 next18 =>
 m R (o_bin .lss 3 true x58 (.int .i64 32)) w42 fun x59 w43 =>
 mif x59 (
 m R (o_bin .quo 3 true x58 (.int .i64 4)) w43 fun x64 w44 =>
 m R (o_nilCheck x14) w44 fun x65 w45 =>
 m R (o_fieldAddr 131 x65 0) w45 fun x66 w46 =>
 m R (o_indexAddr 126 x66 x64) w46 fun x67 w47 =>
 m R (o_load 125 x67) w47 fun x68 w48 =>
 m R (o_bin .rem 3 true x58 (.int .i64 4)) w48 fun x70 w49 =>
 m R (o_bin .mul 3 true (.int .i64 8) x70) w49 fun x71 w50 =>
 m R (o_bin .sub 3 true (.int .i64 24) x71) w50 fun x72 w51 =>
 m R (o_bin .shr 125 false x68 x72) w51 fun x73 w52 =>
 m R (o_conv 125 5 x73) w52 fun x74 w53 =>
 m R (o_indexAddr 33 x9 x58) w53 fun x75 w54 =>
 m R (o_store 5 x75 x74) w54 fun _ w55 =>
 m R (o_bin .add 3 true x58 (.int .i64 1)) w55 fun x76 w56 =>
 next18 x76 w56) (
 m R (o_load 33 x9) w43 fun x77 w57 =>
 m R (o_store 33 x2 x77) w57 fun _ w58 =>
 rcell Tryz.prog 33 x2 w58 fun r2 =>
 R (.returned r2) w58)))
def A_sha_Sum : Ann := ⟨[(3, [17], 33423392), (11, [33], 4503591037436160), (18, [58], 151115439221452495127552)], [], [], [], []⟩
theorem C_sha_Sum {x0 : Value} {w : World} {R : Ending → World → Prop} (h : F_sha_Sum x0 w R) : Calls Tryz.prog 40 #[x0] w R :=
 calls_cwp (A := A_sha_Sum) (args := [x0]) mixed Tryz.func40 (c := Tryz.f40.body.getD .skip) (by kernel_rfl) (by kernel_rfl) (by kernel_rfl) (Eq.mpr (by kernel_rfl) h)
def F_bough_Root (x0 : Value) (w : World) (R : Ending → World → Prop) : Prop :=
 m R (o_call (fv 83) [x0, (.int .i64 0)]) w fun x5 w1 =>
 m R (o_un .not x5) w1 fun x6 w2 =>
 mif x6 (
 R (.returned (.int .i64 (-1))) w2) (
 ml1 (.int .i64 1) w2 fun x3 u4 w3 next4 =>
 m R (o_bin .lss 3 false x3 x0) w3 fun x9 w4 =>
 mif x9 (
 m R (o_bin .mul 3 true x3 (.int .i64 2)) w4 fun x11 w5 =>
 next4 x11 w5) (
 m R (o_bin .sub 3 true x3 (.int .i64 1)) w4 fun x13 w6 =>
 R (.returned x13) w6))
def A_bough_Root : Ann := ⟨[(4, [3], 3976)], [], [], [], []⟩
theorem C_bough_Root {x0 : Value} {w : World} {R : Ending → World → Prop} (h : F_bough_Root x0 w R) : Calls Tryz.prog 42 #[x0] w R :=
 calls_cwp (A := A_bough_Root) (args := [x0]) mixed Tryz.func42 (c := Tryz.f42.body.getD .skip) (by kernel_rfl) (by kernel_rfl) (by kernel_rfl) (Eq.mpr (by kernel_rfl) h)
def F_bevyref02_Sum (x0 : Value) (w : World) (R : Ending → World → Prop) : Prop :=
 m R (o_alloc 32) w fun x2 w1 =>
 m R (o_build 127 [(0, (.int .u32 1116352408)), (1, (.int .u32 1899447441)), (2, (.int .u32 3049323471)), (3, (.int .u32 3921009573)), (4, (.int .u32 961987163)), (5, (.int .u32 1508970993)), (6, (.int .u32 2453635748)), (7, (.int .u32 2870763221)), (8, (.int .u32 3624381080)), (9, (.int .u32 310598401)), (10, (.int .u32 607225278)), (11, (.int .u32 1426881987)), (12, (.int .u32 1925078388)), (13, (.int .u32 2162078206)), (14, (.int .u32 2614888103)), (15, (.int .u32 3248222580)), (16, (.int .u32 3835390401)), (17, (.int .u32 4022224774)), (18, (.int .u32 264347078)), (19, (.int .u32 604807628)), (20, (.int .u32 770255983)), (21, (.int .u32 1249150122)), (22, (.int .u32 1555081692)), (23, (.int .u32 1996064986)), (24, (.int .u32 2554220882)), (25, (.int .u32 2821834349)), (26, (.int .u32 2952996808)), (27, (.int .u32 3210313671)), (28, (.int .u32 3336571891)), (29, (.int .u32 3584528711)), (30, (.int .u32 113926993)), (31, (.int .u32 338241895)), (32, (.int .u32 666307205)), (33, (.int .u32 773529912)), (34, (.int .u32 1294757372)), (35, (.int .u32 1396182291)), (36, (.int .u32 1695183700)), (37, (.int .u32 1986661051)), (38, (.int .u32 2177026350)), (39, (.int .u32 2456956037)), (40, (.int .u32 2730485921)), (41, (.int .u32 2820302411)), (42, (.int .u32 3259730800)), (43, (.int .u32 3345764771)), (44, (.int .u32 3516065817)), (45, (.int .u32 3600352804)), (46, (.int .u32 4094571909)), (47, (.int .u32 275423344)), (48, (.int .u32 430227734)), (49, (.int .u32 506948616)), (50, (.int .u32 659060556)), (51, (.int .u32 883997877)), (52, (.int .u32 958139571)), (53, (.int .u32 1322822218)), (54, (.int .u32 1537002063)), (55, (.int .u32 1747873779)), (56, (.int .u32 1955562222)), (57, (.int .u32 2024104815)), (58, (.int .u32 2227730452)), (59, (.int .u32 2361852424)), (60, (.int .u32 2428436474)), (61, (.int .u32 2756734187)), (62, (.int .u32 3204031479)), (63, (.int .u32 3329325298))]) w1 fun x23 w2 =>
 m R (o_alloc 127) w2 fun x3 w3 =>
 m R (o_store 127 x3 x23) w3 fun _ w4 =>
 m R (o_conv 9 135 x0) w4 fun x25 w5 =>
 m R (o_buildSlice 135 1 [(0, (.int .u8 128))]) w5 fun x27 w6 =>
 m R (o_builtin .append #[135, 135] 135 [false, false] [x25, x27]) w6 fun x28 w7 =>
 ml1 x28 w7 fun x4 u4 w8 next4 =>
 m R (o_builtin .len #[135] 3 [false] [x4]) w8 fun x30 w9 =>
 m R (o_bin .rem 3 true x30 (.int .i64 64)) w9 fun x31 w10 =>
 m R (o_bin .neq 3 true x31 (.int .i64 56)) w10 fun x32 w11 =>
 mif x32 (
 m R (o_buildSlice 135 1 [(0, (.int .u8 0))]) w11 fun x34 w12 =>
 m R (o_builtin .append #[135, 135] 135 [false, false] [x4, x34]) w12 fun x35 w13 =>
 next4 x35 w13) (
 m R (o_builtin .len #[9] 3 [false] [x0]) w11 fun x37 w14 =>
 m R (o_conv 3 134 x37) w14 fun x38 w15 =>
 m R (o_bin .mul 134 true x38 (.int .u64 8)) w15 fun x39 w16 =>
 ml2 x4 (.int .i64 0) w16 fun x4 x6 u8 w17 next8 =>
 m R (o_bin .lss 3 true x6 (.int .i64 8)) w17 fun x41 w18 =>
 mif x41 (
 m R (o_bin .mul 3 true (.int .i64 8) x6) w18 fun x47 w19 =>
 m R (o_bin .sub 3 true (.int .i64 56) x47) w19 fun x48 w20 =>
 m R (o_conv 3 121 x48) w20 fun x49 w21 =>
 m R (o_bin .shr 134 false x39 x49) w21 fun x50 w22 =>
 m R (o_conv 134 5 x50) w22 fun x51 w23 =>
 m R (o_buildSlice 135 1 [(0, x51)]) w23 fun x52 w24 =>
 m R (o_builtin .append #[135, 135] 135 [false, false] [x4, x52]) w24 fun x53 w25 =>
 m R (o_bin .add 3 true x6 (.int .i64 1)) w25 fun x43 w26 =>
 next8 x53 x43 w26) (
 m R (o_build 126 [(0, (.int .u32 1779033703)), (1, (.int .u32 3144134277)), (2, (.int .u32 1013904242)), (3, (.int .u32 2773480762)), (4, (.int .u32 1359893119)), (5, (.int .u32 2600822924)), (6, (.int .u32 528734635)), (7, (.int .u32 1541459225))]) w18 fun x54 w27 =>
 m R (o_alloc 126) w27 fun x7 w28 =>
 m R (o_store 126 x7 x54) w28 fun _ w29 =>
 ml1 (.int .i64 0) w29 fun x8 u13 w30 next13 =>
 m R (o_builtin .len #[135] 3 [false] [x4]) w30 fun x57 w31 =>
 m R (o_bin .lss 3 false x8 x57) w31 fun x58 w32 =>
 mif x58 (
 m R (o_alloc 127) w32 fun x9 w33 =>
 ml1 (.int .i64 0) w33 fun x10 u17 w34 next17 =>
 m R (o_bin .lss 3 true x10 (.int .i64 16)) w34 fun x62 w35 =>
 mif x62 (
 m R (o_bin .mul 3 true (.int .i64 4) x10) w35 fun x69 w36 =>
 m R (o_bin .add 3 false x8 x69) w36 fun x70 w37 =>
 m R (o_call (fv 88) [x4, x70]) w37 fun x71 w38 =>
 m R (o_indexAddr 127 x9 x10) w38 fun x72 w39 =>
 m R (o_store 125 x72 x71) w39 fun _ w40 =>
 m R (o_bin .add 3 true x10 (.int .i64 1)) w40 fun x64 w41 =>
 next17 x64 w41) (
 ml1 (.int .i64 16) w35 fun x11 u21 w42 next21 =>
 m R (o_bin .lss 3 true x11 (.int .i64 64)) w42 fun x74 w43 =>
 mif x74 (
 m R (o_bin .sub 3 true x11 (.int .i64 15)) w43 fun x78 w44 =>
 m R (o_indexAddr 127 x9 x78) w44 fun x79 w45 =>
 m R (o_load 125 x79) w45 fun x80 w46 =>
 m R (o_bin .sub 3 true x11 (.int .i64 2)) w46 fun x82 w47 =>
 m R (o_indexAddr 127 x9 x82) w47 fun x83 w48 =>
 m R (o_load 125 x83) w48 fun x84 w49 =>
 dp Tryz.prog (o_bin .sub 3 true x11 (.int .i64 16)) fun x87 =>
 dp Tryz.prog (o_indexAddr 127 x9 x87) fun x88 =>
 dq Tryz.prog w49 (o_load 125 x88) fun x89 =>
 dp Tryz.prog (o_bin .sub 3 true x11 (.int .i64 7)) fun x91 =>
 dp Tryz.prog (o_indexAddr 127 x9 x91) fun x92 =>
 dq Tryz.prog w49 (o_load 125 x92) fun x93 =>
 dp Tryz.prog (o_bin .add 125 false x89 x93) fun x94 =>
 df Tryz.prog w49 (o_call (fv 89) [x80, (.int .u64 7)]) true fun x96 w50 =>
 df Tryz.prog w50 (o_call (fv 89) [x80, (.int .u64 18)]) true fun x98 w51 =>
 dp Tryz.prog (o_bin .xor 125 false x96 x98) fun x99 =>
 dp Tryz.prog (o_bin .shr 125 true x80 (.int .u64 3)) fun x101 =>
 dp Tryz.prog (o_bin .xor 125 false x99 x101) fun x102 =>
 dp Tryz.prog (o_bin .add 125 false x94 x102) fun x103 =>
 df Tryz.prog w51 (o_call (fv 89) [x84, (.int .u64 17)]) true fun x105 w52 =>
 df Tryz.prog w52 (o_call (fv 89) [x84, (.int .u64 19)]) true fun x107 w53 =>
 dp Tryz.prog (o_bin .xor 125 false x105 x107) fun x108 =>
 dp Tryz.prog (o_bin .shr 125 true x84 (.int .u64 10)) fun x110 =>
 dp Tryz.prog (o_bin .xor 125 false x108 x110) fun x111 =>
 dp Tryz.prog (o_bin .add 125 false x103 x111) fun x112 =>
 dp Tryz.prog (o_indexAddr 127 x9 x11) fun x113 =>
 df Tryz.prog w53 (o_store 125 x113 x112) false fun _ w54 =>
 dend w54 fun w55 =>
 m R (o_bin .add 3 true x11 (.int .i64 1)) w55 fun x76 w56 =>
 next21 x76 w56) (
 m R (o_load 126 x7) w43 fun x114 w57 =>
 m R (o_alloc 126) w57 fun x14 w58 =>
 m R (o_store 126 x14 x114) w58 fun _ w59 =>
 ml1 (.int .i64 0) w59 fun x15 u28 w60 next28 =>
 m R (o_bin .lss 3 true x15 (.int .i64 64)) w60 fun x116 w61 =>
 mif x116 (
 m R (o_indexAddr 126 x14 (.int .i64 4)) w61 fun x119 w62 =>
 m R (o_load 125 x119) w62 fun x120 w63 =>
 m R (o_indexAddr 126 x14 (.int .i64 0)) w63 fun x121 w64 =>
 m R (o_load 125 x121) w64 fun x122 w65 =>
 dp Tryz.prog (o_indexAddr 126 x14 (.int .i64 7)) fun x123 =>
 dq Tryz.prog w65 (o_load 125 x123) fun x124 =>
 df Tryz.prog w65 (o_call (fv 89) [x120, (.int .u64 6)]) true fun x126 w66 =>
 df Tryz.prog w66 (o_call (fv 89) [x120, (.int .u64 11)]) true fun x128 w67 =>
 dp Tryz.prog (o_bin .xor 125 false x126 x128) fun x129 =>
 df Tryz.prog w67 (o_call (fv 89) [x120, (.int .u64 25)]) true fun x131 w68 =>
 dp Tryz.prog (o_bin .xor 125 false x129 x131) fun x132 =>
 dp Tryz.prog (o_bin .add 125 false x124 x132) fun x133 =>
 dp Tryz.prog (o_indexAddr 126 x14 (.int .i64 5)) fun x135 =>
 dq Tryz.prog w65 (o_load 125 x135) fun x136 =>
 dp Tryz.prog (o_bin .and 125 false x120 x136) fun x137 =>
 dp Tryz.prog (o_un .xor x120) fun x139 =>
 dp Tryz.prog (o_indexAddr 126 x14 (.int .i64 6)) fun x140 =>
 dq Tryz.prog w65 (o_load 125 x140) fun x141 =>
 dp Tryz.prog (o_bin .and 125 false x139 x141) fun x142 =>
 dp Tryz.prog (o_bin .xor 125 false x137 x142) fun x143 =>
 dp Tryz.prog (o_bin .add 125 false x133 x143) fun x144 =>
 dp Tryz.prog (o_indexAddr 127 x3 x15) fun x146 =>
 dq Tryz.prog w65 (o_load 125 x146) fun x147 =>
 dp Tryz.prog (o_bin .add 125 false x144 x147) fun x148 =>
 dp Tryz.prog (o_indexAddr 127 x9 x15) fun x150 =>
 dq Tryz.prog w65 (o_load 125 x150) fun x151 =>
 dp Tryz.prog (o_bin .add 125 false x148 x151) fun x152 =>
 dend w68 fun w69 =>
 df Tryz.prog w69 (o_call (fv 89) [x122, (.int .u64 2)]) true fun x154 w70 =>
 df Tryz.prog w70 (o_call (fv 89) [x122, (.int .u64 13)]) true fun x156 w71 =>
 dp Tryz.prog (o_bin .xor 125 false x154 x156) fun x157 =>
 df Tryz.prog w71 (o_call (fv 89) [x122, (.int .u64 22)]) true fun x159 w72 =>
 dp Tryz.prog (o_bin .xor 125 false x157 x159) fun x160 =>
 dp Tryz.prog (o_indexAddr 126 x14 (.int .i64 1)) fun x162 =>
 dq Tryz.prog w69 (o_load 125 x162) fun x163 =>
 dp Tryz.prog (o_bin .and 125 false x122 x163) fun x164 =>
 dp Tryz.prog (o_indexAddr 126 x14 (.int .i64 2)) fun x166 =>
 dq Tryz.prog w69 (o_load 125 x166) fun x167 =>
 dp Tryz.prog (o_bin .and 125 false x122 x167) fun x168 =>
 dp Tryz.prog (o_bin .xor 125 false x164 x168) fun x169 =>
 dp Tryz.prog (o_indexAddr 126 x14 (.int .i64 1)) fun x170 =>
 dq Tryz.prog w69 (o_load 125 x170) fun x171 =>
 dp Tryz.prog (o_indexAddr 126 x14 (.int .i64 2)) fun x172 =>
 dq Tryz.prog w69 (o_load 125 x172) fun x173 =>
 dp Tryz.prog (o_bin .and 125 false x171 x173) fun x174 =>
 dp Tryz.prog (o_bin .xor 125 false x169 x174) fun x175 =>
 dp Tryz.prog (o_bin .add 125 false x160 x175) fun x176 =>
 dend w72 fun w73 =>
 m R (o_bin .add 125 false x152 x176) w73 fun x179 w74 =>
 m R (o_indexAddr 126 x14 (.int .i64 0)) w74 fun x180 w75 =>
 m R (o_load 125 x180) w75 fun x181 w76 =>
 m R (o_indexAddr 126 x14 (.int .i64 1)) w76 fun x182 w77 =>
 m R (o_load 125 x182) w77 fun x183 w78 =>
 m R (o_indexAddr 126 x14 (.int .i64 2)) w78 fun x184 w79 =>
 m R (o_load 125 x184) w79 fun x185 w80 =>
 m R (o_indexAddr 126 x14 (.int .i64 3)) w80 fun x186 w81 =>
 m R (o_load 125 x186) w81 fun x187 w82 =>
 m R (o_bin .add 125 false x187 x152) w82 fun x189 w83 =>
 m R (o_indexAddr 126 x14 (.int .i64 4)) w83 fun x190 w84 =>
 m R (o_load 125 x190) w84 fun x191 w85 =>
 m R (o_indexAddr 126 x14 (.int .i64 5)) w85 fun x192 w86 =>
 m R (o_load 125 x192) w86 fun x193 w87 =>
 m R (o_indexAddr 126 x14 (.int .i64 6)) w87 fun x194 w88 =>
 m R (o_load 125 x194) w88 fun x195 w89 =>
 m R (o_build 126 [(0, x179), (1, x181), (2, x183), (3, x185), (4, x189), (5, x191), (6, x193), (7, x195)]) w89 fun x196 w90 =>
 m R (o_store 126 x14 x196) w90 fun _ w91 =>
 m R (o_bin .add 3 true x15 (.int .i64 1)) w91 fun x118 w92 =>
 next28 x118 w92) (
 ml1 (.int .i64 0) w61 fun x20 u36 w93 next36 =>
 m R (o_bin .lss 3 true x20 (.int .i64 8)) w93 fun x198 w94 =>
 mif x198 (
 dp Tryz.prog (o_indexAddr 126 x7 x20) fun x203 =>
 dq Tryz.prog w94 (o_load 125 x203) fun x204 =>
 dp Tryz.prog (o_indexAddr 126 x14 x20) fun x206 =>
 dq Tryz.prog w94 (o_load 125 x206) fun x207 =>
 dp Tryz.prog (o_bin .add 125 false x204 x207) fun x208 =>
 dp Tryz.prog (o_indexAddr 126 x7 x20) fun x209 =>
 df Tryz.prog w94 (o_store 125 x209 x208) false fun _ w95 =>
 dend w95 fun w96 =>
 m R (o_bin .add 3 true x20 (.int .i64 1)) w96 fun x200 w97 =>
 next36 x200 w97) (
 m R (o_bin .add 3 true x8 (.int .i64 64)) w94 fun x60 w98 =>
 next13 x60 w98))))) (
 m R (o_alloc 32) w32 fun x21 w99 =>
 ml1 (.int .i64 0) w99 fun x22 u41 w100 next41 =>
 m R (o_bin .lss 3 true x22 (.int .i64 32)) w100 fun x211 w101 =>
 mif x211 (
 m R (o_bin .quo 3 true x22 (.int .i64 4)) w101 fun x216 w102 =>
 m R (o_indexAddr 126 x7 x216) w102 fun x217 w103 =>
 m R (o_load 125 x217) w103 fun x218 w104 =>
 m R (o_bin .rem 3 true x22 (.int .i64 4)) w104 fun x220 w105 =>
 m R (o_bin .mul 3 true (.int .i64 8) x220) w105 fun x221 w106 =>
 m R (o_bin .sub 3 true (.int .i64 24) x221) w106 fun x222 w107 =>
 m R (o_conv 3 121 x222) w107 fun x223 w108 =>
 m R (o_bin .shr 125 false x218 x223) w108 fun x224 w109 =>
 m R (o_conv 125 5 x224) w109 fun x225 w110 =>
 m R (o_indexAddr 32 x21 x22) w110 fun x226 w111 =>
 m R (o_store 5 x226 x225) w111 fun _ w112 =>
 m R (o_bin .add 3 true x22 (.int .i64 1)) w112 fun x213 w113 =>
 next41 x213 w113) (
 m R (o_load 32 x21) w101 fun x227 w114 =>
 m R (o_store 32 x2 x227) w114 fun _ w115 =>
 rcell Tryz.prog 32 x2 w115 fun r2 =>
 R (.returned r2) w115))))
def A_bevyref02_Sum : Ann := ⟨[(4, [4], 68182605840), (8, [4, 6], 18013298997854288), (13, [8], 1645504557321206042154969182557350504982735865597551066331741952), (17, [10], 9442427122730076734464), (21, [11], 20769187434129865781156246026467328), (28, [15], 200867255532373784442745220004270457036654345978878471667712), (36, [20], 1645303690065673668370526437295807859657420590259357014245244928), (41, [22], 215677927832647797151293965726974488038592172644458946268965537579008)], [], [(25, [⟨0, .q none, 2048, 0, 38685626227668133590597632⟩, ⟨1, .q none, 2048, 0, 77371252455336267181195264⟩, ⟨2, .q none, 77371252455336267181195264, 2, 154742504910672534362390528⟩, ⟨3, .q none, 154742504910672534362391040, 6, 309485009821345068724781056⟩, ⟨4, .q (some 0), 309485009821345068724781056, 14, 618970019642690137449562112⟩, ⟨5, .q none, 2048, 0, 1237940039285380274899124224⟩, ⟨6, .q none, 1237940039285380274899124224, 32, 2475880078570760549798248448⟩, ⟨7, .q none, 2475880078570760549798248960, 96, 4951760157141521099596496896⟩, ⟨8, .q (some 0), 4951760157141521099596496896, 224, 9903520314283042199192993792⟩, ⟨9, .q none, 10522490333925732336642555904, 510, 19807040628566084398385987584⟩, ⟨10, .q none, 4096, 0, 39614081257132168796771975168⟩, ⟨11, .f 0 true, 39614081257132168796771975168, 1024, 79228162514264337593543950336⟩, ⟨12, .q none, 4096, 0, 158456325028528675187087900672⟩, ⟨13, .f 1 true, 158456325028528675187087900672, 7168, 316912650057057350374175801344⟩, ⟨14, .q none, 396140812571321687967719751680, 15360, 633825300114114700748351602688⟩, ⟨15, .q none, 4096, 0, 1267650600228229401496703205376⟩, ⟨16, .q none, 1267650600228229401496703205376, 32768, 2535301200456458802993406410752⟩, ⟨17, .q none, 3169126500570573503741758013440, 130048, 5070602400912917605986812821504⟩, ⟨18, .q none, 5090409441541483690385198809088, 262142, 10141204801825835211973625643008⟩, ⟨19, .q none, 8192, 0, 20282409603651670423947251286016⟩, ⟨20, .f 2 true, 20282409603651670423947251286016, 539648, 40564819207303340847894502572032⟩, ⟨21, .q none, 8192, 0, 81129638414606681695789005144064⟩, ⟨22, .f 3 true, 81129638414606681695789005144064, 3685376, 162259276829213363391578010288128⟩, ⟨23, .q none, 202824096036516704239472512860160, 7879680, 324518553658426726783156020576256⟩, ⟨24, .q none, 8192, 0, 649037107316853453566312041152512⟩, ⟨25, .q none, 649037107316853453566312041152512, 16777216, 1298074214633706907132624082305024⟩, ⟨26, .q none, 1622592768292133633915780102881280, 66599936, 2596148429267413814265248164610048⟩, ⟨27, .q none, 2606289634069239649477221790253056, 134217726, 5192296858534827628530496329220096⟩, ⟨28, .q none, 38685626227668133590598144, 268435455, 10384593717069655257060992658440192⟩, ⟨29, .f 4 false, 15576890575604482885591488987660288, 536870911, 0⟩]), (32, [⟨0, .q none, 16384, 0, 10633823966279326983230456482242756608⟩, ⟨1, .q (some 0), 10633823966279326983230456482242756608, 1, 21267647932558653966460912964485513216⟩, ⟨2, .q none, 65536, 0, 42535295865117307932921825928971026432⟩, ⟨3, .f 0 true, 42535295865117307932921825928971026432, 4, 85070591730234615865843651857942052864⟩, ⟨4, .q none, 65536, 0, 170141183460469231731687303715884105728⟩, ⟨5, .f 1 true, 170141183460469231731687303715884105728, 28, 340282366920938463463374607431768211456⟩, ⟨6, .q none, 425352958651173079329218259289710264320, 60, 680564733841876926926749214863536422912⟩, ⟨7, .q none, 65536, 0, 1361129467683753853853498429727072845824⟩, ⟨8, .f 2 true, 1361129467683753853853498429727072845824, 188, 2722258935367507707706996859454145691648⟩, ⟨9, .q none, 3402823669209384634633746074317682114560, 508, 5444517870735015415413993718908291383296⟩, ⟨10, .q none, 5465785518667574069380454631872776896512, 1023, 10889035741470030830827987437816582766592⟩, ⟨11, .q none, 65536, 0, 21778071482940061661655974875633165533184⟩, ⟨12, .q none, 16384, 0, 43556142965880123323311949751266331066368⟩, ⟨13, .q (some 0), 43556142965880123323311949751266331066368, 4096, 87112285931760246646623899502532662132736⟩, ⟨14, .q none, 108890357414700308308279874378165827665920, 14336, 174224571863520493293247799005065324265472⟩, ⟨15, .q none, 65536, 0, 348449143727040986586495598010130648530944⟩, ⟨16, .q none, 348449143727040986586495598010130648530944, 32768, 696898287454081973172991196020261297061888⟩, ⟨17, .q none, 16384, 0, 1393796574908163946345982392040522594123776⟩, ⟨18, .q (some 0), 1393796574908163946345982392040522594123776, 131072, 2787593149816327892691964784081045188247552⟩, ⟨19, .q none, 3484491437270409865864955980101306485309440, 491520, 5575186299632655785383929568162090376495104⟩, ⟨20, .q none, 5749410871496176278677177367167155700760576, 1046528, 11150372599265311570767859136324180752990208⟩, ⟨21, .q none, 11161261635006781601598687123761997335756800, 2097151, 22300745198530623141535718272648361505980416⟩, ⟨22, .q none, 32768, 0, 44601490397061246283071436545296723011960832⟩, ⟨23, .q none, 44601490397061246283071436545296723011960840, 4194304, 89202980794122492566142873090593446023921664⟩, ⟨24, .q (some 0), 89202980794122492566142873090593446023921664, 12582912, 178405961588244985132285746181186892047843328⟩, ⟨25, .q none, 200706706786775608273821464453835253553823744, 33554431, 356811923176489970264571492362373784095686656⟩, ⟨26, .q none, 32768, 0, 713623846352979940529142984724747568191373312⟩, ⟨27, .q none, 713623846352979940529142984724747568191373824, 67108864, 1427247692705959881058285969449495136382746624⟩, ⟨28, .q (some 0), 1427247692705959881058285969449495136382746624, 201326592, 2854495385411919762116571938898990272765493248⟩, ⟨29, .q none, 3211307308588409732381143431261364056861179904, 536870911, 5708990770823839524233143877797980545530986496⟩, ⟨30, .q none, 5708990770823839524233143877797980545530986496, 1073741823, 262144⟩]), (33, [⟨0, .q none, 131072, 0, 11417981541647679048466287755595961091061972992⟩, ⟨1, .f 0 true, 11417981541647679048466287755595961091061972992, 1, 22835963083295358096932575511191922182123945984⟩, ⟨2, .q none, 131072, 0, 45671926166590716193865151022383844364247891968⟩, ⟨3, .f 1 true, 45671926166590716193865151022383844364247891968, 7, 91343852333181432387730302044767688728495783936⟩, ⟨4, .q none, 114179815416476790484662877555959610910619729920, 15, 182687704666362864775460604089535377456991567872⟩, ⟨5, .q none, 131072, 0, 365375409332725729550921208179070754913983135744⟩, ⟨6, .f 2 true, 365375409332725729550921208179070754913983135744, 47, 730750818665451459101842416358141509827966271488⟩, ⟨7, .q none, 913438523331814323877303020447676887284957839360, 127, 1461501637330902918203684832716283019655932542976⟩, ⟨8, .q none, 131072, 0, 2923003274661805836407369665432566039311865085952⟩, ⟨9, .q none, 16384, 0, 5846006549323611672814739330865132078623730171904⟩, ⟨10, .q (some 0), 5846006549323611672814739330865132078623730171904, 512, 11692013098647223345629478661730264157247460343808⟩, ⟨11, .q none, 14615016373309029182036848327162830196559325429760, 1792, 23384026197294446691258957323460528314494920687616⟩, ⟨12, .q none, 131072, 0, 46768052394588893382517914646921056628989841375232⟩, ⟨13, .q none, 16384, 0, 93536104789177786765035829293842113257979682750464⟩, ⟨14, .q (some 0), 93536104789177786765035829293842113257979682750464, 8192, 187072209578355573530071658587684226515959365500928⟩, ⟨15, .q none, 233840261972944466912589573234605283144949206876160, 28672, 374144419156711147060143317175368453031918731001856⟩, ⟨16, .q none, 397528445354005593751402274498828981346413651689472, 65280, 748288838313422294120286634350736906063837462003712⟩, ⟨17, .q none, 16384, 0, 1496577676626844588240573268701473812127674924007424⟩, ⟨18, .q (some 0), 1496577676626844588240573268701473812127674924007424, 131072, 2993155353253689176481146537402947624255349848014848⟩, ⟨19, .q none, 16384, 0, 5986310706507378352962293074805895248510699696029696⟩, ⟨20, .q (some 0), 5986310706507378352962293074805895248510699696029696, 524288, 11972621413014756705924586149611790497021399392059392⟩, ⟨21, .q none, 14965776766268445882405732687014738121276749240074240, 1966080, 23945242826029513411849172299223580994042798784118784⟩, ⟨22, .q none, 24693531664342935705969458933574317900106636246122496, 4194048, 47890485652059026823698344598447161988085597568237568⟩, ⟨23, .q none, 47891947153696357726616548283279878271105253500780544, 8388607, 95780971304118053647396689196894323976171195136475136⟩, ⟨24, .q none, 95780971304118053647396689196894323976171195136475136, 16777215, 524288⟩]), (38, [⟨0, .q none, 1048576, 0, 3213876088517980551083924184682325205044405987565585670602752⟩, ⟨1, .q none, 1048576, 0, 6427752177035961102167848369364650410088811975131171341205504⟩, ⟨2, .q none, 6427752177035961102167848369364650410088811975131171341205632, 2, 12855504354071922204335696738729300820177623950262342682411008⟩, ⟨3, .q (some 0), 12855504354071922204335696738729300820177623950262342682411008, 6, 25711008708143844408671393477458601640355247900524685364822016⟩, ⟨4, .q none, 1048576, 0, 51422017416287688817342786954917203280710495801049370729644032⟩, ⟨5, .q none, 51422017416287688817342786954917203280710495801049370729660416, 16, 102844034832575377634685573909834406561420991602098741459288064⟩, ⟨6, .q (some 0), 102844034832575377634685573909834406561420991602098741459288064, 48, 205688069665150755269371147819668813122841983204197482918576128⟩, ⟨7, .q none, 231399078373294599678042541297127414763197231104722168283398144, 126, 411376139330301510538742295639337626245683966408394965837152256⟩, ⟨8, .q none, 3213876088517980551083924184682325205044405987565585670602880, 255, 822752278660603021077484591278675252491367932816789931674304512⟩, ⟨9, .f 0 false, 1234128417990904531616226886918012878737051899225184897511456768, 511, 0⟩])], [], []⟩
theorem C_bevyref02_Sum {x0 : Value} {w : World} {R : Ending → World → Prop} (h : F_bevyref02_Sum x0 w R) : Calls Tryz.prog 43 #[x0] w R :=
 calls_cwp (A := A_bevyref02_Sum) (args := [x0]) mixed Tryz.func43 (c := Tryz.f43.body.getD .skip) (by kernel_rfl) (by kernel_rfl) (by kernel_rfl) (Eq.mpr (by kernel_rfl) h)
def F_wire_New (w : World) (R : Ending → World → Prop) : Prop :=
 m R (o_build 140 []) w fun x1 w1 =>
 m R (o_box 140 x1) w1 fun x2 w2 =>
 R (.returned x2) w2
def A_wire_New : Ann := ⟨[], [], [], [], []⟩
theorem C_wire_New {w : World} {R : Ending → World → Prop} (h : F_wire_New w R) : Calls Tryz.prog 45 #[] w R :=
 calls_cwp (A := A_wire_New) (args := []) mixed Tryz.func45 (c := Tryz.f45.body.getD .skip) (by kernel_rfl) (by kernel_rfl) (by kernel_rfl) (Eq.mpr (by kernel_rfl) h)
def F_wire_Writer_Num (x0 x1 : Value) (w : World) (R : Ending → World → Prop) : Prop :=
 m R (o_bin .eql 74 true x0 (.pointer none)) w fun x9 w1 =>
 mif x9 (
 R (.returned (.tuple #[])) w1) (
 mj1 (fun j2 =>
 m R (o_bin .lss 3 true x1 (.int .i64 0)) w1 fun x11 w2 =>
 mguard x11 false (fun k => m R (o_move x1) w2 k) w2 fun x13 w3 =>
 mguard x11 false (fun k => m R (o_bin .gtr 3 true x13 (.int .i64 4611686018427387903)) w3 k) w3 fun x14 w4 =>
 m R (o_pick x11 (.bool true) x14) w4 fun x15 w5 =>
 j2 x15 w5) fun x15 u2 w6 =>
 mif x15 (
 m R (o_nilCheck x0) w6 fun x17 w7 =>
 m R (o_fieldAddr 140 x17 1) w7 fun x18 w8 =>
 m R (o_store 4 x18 (.bool true)) w8 fun _ w9 =>
 R (.returned (.tuple #[])) w9) (
 ml1 (.int .i64 0) w6 fun x4 u4 w10 next4 =>
 mj0 (fun j5 =>
 m R (o_bin .lss 3 true x4 (.int .i64 3)) w10 fun x20 w11 =>
 mguard x20 true (fun k => m R (o_move x1) w11 k) w11 fun x22 w12 =>
 mguard x20 true (fun k => m R (o_call (fv 92) []) w12 k) w12 fun x23 w13 =>
 mguard x20 true (fun k => m R (o_move x4) w13 k) w13 fun x24 w14 =>
 mguard x20 true (fun k => m R (o_index 141 x23 x24) w14 k) w14 fun x25 w15 =>
 mguard x20 true (fun k => m R (o_bin .geq 3 false x22 x25) w15 k) w15 fun x26 w16 =>
 m R (o_pick x20 x26 (.bool false)) w16 fun x27 w17 =>
 mif x27 (
 j5 w17) (
 m R (o_bin .shl 3 true (.int .i64 1) x4) w17 fun x31 w18 =>
 ml1 (.int .i64 0) w18 fun x33 u8 w19 next8 =>
 m R (o_bin .lss 3 false x33 x31) w19 fun x34 w20 =>
 mif x34 (
 m R (o_bin .sub 3 true x31 (.int .i64 1)) w20 fun x38 w21 =>
 m R (o_bin .sub 3 false x38 x33) w21 fun x40 w22 =>
 m R (o_bin .mul 3 true (.int .i64 8) x40) w22 fun x41 w23 =>
 m R (o_bin .shr 3 false x1 x41) w23 fun x42 w24 =>
 m R (o_conv 3 5 x42) w24 fun x43 w25 =>
 mj1 (fun j13 =>
 m R (o_bin .eql 3 true x33 (.int .i64 0)) w25 fun x45 w26 =>
 mif x45 (
 m R (o_bin .shl 3 true x4 (.int .u64 6)) w26 fun x48 w27 =>
 m R (o_conv 3 5 x48) w27 fun x49 w28 =>
 m R (o_bin .or 5 false x43 x49) w28 fun x50 w29 =>
 j13 x50 w29) (
 j13 x43 w26)) fun x7 u13 w30 =>
 m R (o_nilCheck x0) w30 fun x53 w31 =>
 m R (o_fieldAddr 140 x53 0) w31 fun x54 w32 =>
 m R (o_load 135 x54) w32 fun x55 w33 =>
 m R (o_buildSlice 135 1 [(0, x7)]) w33 fun x57 w34 =>
 m R (o_builtin .append #[135, 135] 135 [false, false] [x55, x57]) w34 fun x58 w35 =>
 m R (o_nilCheck x0) w35 fun x59 w36 =>
 m R (o_fieldAddr 140 x59 0) w36 fun x60 w37 =>
 m R (o_store 135 x60 x58) w37 fun _ w38 =>
 m R (o_bin .add 3 true x33 (.int .i64 1)) w38 fun x61 w39 =>
 next8 x61 w39) (
 R (.returned (.tuple #[])) w20))) fun u5 w40 =>
 m R (o_bin .add 3 true x4 (.int .i64 1)) w40 fun x29 w41 =>
 next4 x29 w41))
def A_wire_Writer_Num : Ann := ⟨[(4, [4], 1073217552), (8, [33], 4611686009837453504)], [(2, [15], 64512), (5, [], 267911168), (13, [7], 2234207627640960)], [], [], []⟩
theorem C_wire_Writer_Num {x0 x1 : Value} {w : World} {R : Ending → World → Prop} (h : F_wire_Writer_Num x0 x1 w R) : Calls Tryz.prog 46 #[x0, x1] w R :=
 calls_cwp (A := A_wire_Writer_Num) (args := [x0, x1]) mixed Tryz.func46 (c := Tryz.f46.body.getD .skip) (by kernel_rfl) (by kernel_rfl) (by kernel_rfl) (Eq.mpr (by kernel_rfl) h)
def F_wire_Writer_End (x0 : Value) (w : World) (R : Ending → World → Prop) : Prop :=
 mj1 (fun j2 =>
 m R (o_bin .eql 74 true x0 (.pointer none)) w fun x5 w1 =>
 mguard x5 false (fun k => m R (o_move x0) w1 k) w1 fun x7 w2 =>
 mguard x5 false (fun k => m R (o_nilCheck x7) w2 k) w2 fun x8 w3 =>
 mguard x5 false (fun k => m R (o_fieldAddr 140 x8 1) w3 k) w3 fun x9 w4 =>
 mguard x5 false (fun k => m R (o_load 4 x9) w4 k) w4 fun x10 w5 =>
 m R (o_pick x5 (.bool true) x10) w5 fun x11 w6 =>
 j2 x11 w6) fun x11 u2 w7 =>
 mif x11 (
 R (.returned (.tuple #[(.string (ByteArray.mk #[])), (.int .i64 1)])) w7) (
 m R (o_nilCheck x0) w7 fun x13 w8 =>
 m R (o_fieldAddr 140 x13 0) w8 fun x14 w9 =>
 m R (o_load 135 x14) w9 fun x15 w10 =>
 m R (o_conv 135 9 x15) w10 fun x16 w11 =>
 R (.returned (.tuple #[x16, (.int .i64 0)])) w11)
def A_wire_Writer_End : Ann := ⟨[], [(2, [11], 4080)], [], [], []⟩
theorem C_wire_Writer_End {x0 : Value} {w : World} {R : Ending → World → Prop} (h : F_wire_Writer_End x0 w R) : Calls Tryz.prog 49 #[x0] w R :=
 calls_cwp (A := A_wire_Writer_End) (args := [x0]) mixed Tryz.func49 (c := Tryz.f49.body.getD .skip) (by kernel_rfl) (by kernel_rfl) (by kernel_rfl) (Eq.mpr (by kernel_rfl) h)
def F_bevyref01_Num (x0 : Value) (w : World) (R : Ending → World → Prop) : Prop :=
 m R (o_bin .lss 3 true x0 (.int .i64 64)) w fun x6 w1 =>
 mif x6 (
 m R (o_conv 3 5 x0) w1 fun x8 w2 =>
 m R (o_buildSlice 135 1 [(0, x8)]) w2 fun x9 w3 =>
 m R (o_conv 135 9 x9) w3 fun x10 w4 =>
 R (.returned x10) w4) (
 m R (o_bin .lss 3 true x0 (.int .i64 16384)) w1 fun x12 w5 =>
 mif x12 (
 m R (o_bin .quo 3 true x0 (.int .i64 256)) w5 fun x14 w6 =>
 m R (o_bin .add 3 true (.int .i64 64) x14) w6 fun x15 w7 =>
 m R (o_conv 3 5 x15) w7 fun x16 w8 =>
 m R (o_bin .rem 3 true x0 (.int .i64 256)) w8 fun x18 w9 =>
 m R (o_conv 3 5 x18) w9 fun x19 w10 =>
 m R (o_buildSlice 135 2 [(0, x16), (1, x19)]) w10 fun x20 w11 =>
 m R (o_conv 135 9 x20) w11 fun x21 w12 =>
 R (.returned x21) w12) (
 m R (o_bin .lss 3 true x0 (.int .i64 1073741824)) w5 fun x23 w13 =>
 mif x23 (
 m R (o_bin .quo 3 true x0 (.int .i64 16777216)) w13 fun x25 w14 =>
 m R (o_bin .add 3 true (.int .i64 128) x25) w14 fun x26 w15 =>
 m R (o_conv 3 5 x26) w15 fun x27 w16 =>
 m R (o_bin .quo 3 true x0 (.int .i64 65536)) w16 fun x29 w17 =>
 m R (o_bin .rem 3 true x29 (.int .i64 256)) w17 fun x30 w18 =>
 m R (o_conv 3 5 x30) w18 fun x31 w19 =>
 m R (o_bin .quo 3 true x0 (.int .i64 256)) w19 fun x33 w20 =>
 m R (o_bin .rem 3 true x33 (.int .i64 256)) w20 fun x34 w21 =>
 m R (o_conv 3 5 x34) w21 fun x35 w22 =>
 m R (o_bin .rem 3 true x0 (.int .i64 256)) w22 fun x37 w23 =>
 m R (o_conv 3 5 x37) w23 fun x38 w24 =>
 m R (o_buildSlice 135 4 [(0, x27), (1, x31), (2, x35), (3, x38)]) w24 fun x39 w25 =>
 m R (o_conv 135 9 x39) w25 fun x40 w26 =>
 R (.returned x40) w26) (
 m R (o_alloc 144) w13 fun x3 w27 =>
 ml2 x0 (.int .i64 7) w27 fun x0 x4 u9 w28 next9 =>
 m R (o_bin .geq 3 true x4 (.int .i64 0)) w28 fun x42 w29 =>
 mif x42 (
 m R (o_bin .rem 3 true x0 (.int .i64 256)) w29 fun x47 w30 =>
 m R (o_conv 3 5 x47) w30 fun x48 w31 =>
 m R (o_indexAddr 144 x3 x4) w31 fun x49 w32 =>
 m R (o_store 5 x49 x48) w32 fun _ w33 =>
 m R (o_bin .quo 3 true x0 (.int .i64 256)) w33 fun x51 w34 =>
 m R (o_bin .sub 3 true x4 (.int .i64 1)) w34 fun x44 w35 =>
 next9 x51 x44 w35) (
 m R (o_indexAddr 144 x3 (.int .i64 0)) w29 fun x52 w36 =>
 m R (o_load 5 x52) w36 fun x53 w37 =>
 m R (o_bin .add 5 true x53 (.int .u8 192)) w37 fun x54 w38 =>
 m R (o_indexAddr 144 x3 (.int .i64 0)) w38 fun x55 w39 =>
 m R (o_store 5 x55 x54) w39 fun _ w40 =>
 m R (o_slice 144 x3 none none none) w40 fun x56 w41 =>
 m R (o_conv 135 9 x56) w41 fun x57 w42 =>
 R (.returned x57) w42))))
def A_bevyref01_Num : Ann := ⟨[(9, [0, 4], 4501400604114961)], [], [], [], []⟩
theorem C_bevyref01_Num {x0 : Value} {w : World} {R : Ending → World → Prop} (h : F_bevyref01_Num x0 w R) : Calls Tryz.prog 50 #[x0] w R :=
 calls_cwp (A := A_bevyref01_Num) (args := [x0]) mixed Tryz.func50 (c := Tryz.f50.body.getD .skip) (by kernel_rfl) (by kernel_rfl) (by kernel_rfl) (Eq.mpr (by kernel_rfl) h)
def F_bevyref07_Right (x0 x1 : Value) (w : World) (R : Ending → World → Prop) : Prop :=
 m R (o_call (fv 90) [x0, x1]) w fun x11 w1 =>
 m R (o_un .not x11) w1 fun x12 w2 =>
 mif x12 (
 R (.returned (.int .i64 (-1))) w2) (
 m R (o_call (fv 95) [(.int .i64 0), x0, x1, (.int .i64 (-1)), (.int .i64 (-1))]) w2 fun x16 w3 =>
 m R (o_extract x16 0) w3 fun x17 w4 =>
 m R (o_extract x16 1) w4 fun x18 w5 =>
 m R (o_extract x16 2) w5 fun x19 w6 =>
 m R (o_extract x16 3) w6 fun x20 w7 =>
 m R (o_bin .eql 3 true x18 (.int .i64 1)) w7 fun x22 w8 =>
 mif x22 (
 R (.returned (.int .i64 (-1))) w8) (
 m R (o_call (fv 96) [x18]) w8 fun x25 w9 =>
 m R (o_bin .add 3 false x17 x25) w9 fun x26 w10 =>
 m R (o_call (fv 96) [x18]) w10 fun x29 w11 =>
 m R (o_bin .sub 3 false x18 x29) w11 fun x30 w12 =>
 m R (o_call (fv 91) [x26, x30]) w12 fun x31 w13 =>
 R (.returned x31) w13))
def A_bevyref07_Right : Ann := ⟨[], [], [], [], []⟩
theorem C_bevyref07_Right {x0 x1 : Value} {w : World} {R : Ending → World → Prop} (h : F_bevyref07_Right x0 x1 w R) : Calls Tryz.prog 54 #[x0, x1] w R :=
 calls_cwp (A := A_bevyref07_Right) (args := [x0, x1]) mixed Tryz.func54 (c := Tryz.f54.body.getD .skip) (by kernel_rfl) (by kernel_rfl) (by kernel_rfl) (Eq.mpr (by kernel_rfl) h)
def F_change_Less (x0 x1 : Value) (w : World) (R : Ending → World → Prop) : Prop :=
 m R (o_box 87 x0) w fun x2 w1 =>
 m R (o_box 87 x1) w1 fun x3 w2 =>
 dp Tryz.prog (o_fieldAddr 87 x2 4) fun x7 =>
 dp Tryz.prog (o_fieldAddr 85 x7 0) fun x8 =>
 dq Tryz.prog w2 (o_load 3 x8) fun x9 =>
 df Tryz.prog w2 (o_call (fv 97) [x9]) true fun x10 w3 =>
 dp Tryz.prog (o_fieldAddr 87 x3 4) fun x11 =>
 dp Tryz.prog (o_fieldAddr 85 x11 0) fun x12 =>
 dq Tryz.prog w2 (o_load 3 x12) fun x13 =>
 df Tryz.prog w3 (o_call (fv 97) [x13]) false fun x14 w4 =>
 dend w4 fun w5 =>
 m R (o_bin .lss 3 false x10 x14) w5 fun x17 w6 =>
 mguard x17 false (fun k => m R (o_move x10) w6 k) w6 fun x19 w7 =>
 mguard x17 false (fun k => m R (o_move x14) w7 k) w7 fun x20 w8 =>
 mguard x17 false (fun k => m R (o_bin .eql 3 false x19 x20) w8 k) w8 fun x21 w9 =>
 mguard x17 false (fun k => m R (o_move x21) w9 k) w9 fun x22 w10 =>
 mguard x22 true (fun k => m R (o_fieldAddr 87 x2 4) w10 k) w10 fun x23 w11 =>
 mguard x22 true (fun k => m R (o_fieldAddr 85 x23 1) w11 k) w11 fun x24 w12 =>
 mguard x22 true (fun k => m R (o_load 3 x24) w12 k) w12 fun x25 w13 =>
 mguard x22 true (fun k => m R (o_fieldAddr 87 x3 4) w13 k) w13 fun x26 w14 =>
 mguard x22 true (fun k => m R (o_fieldAddr 85 x26 1) w14 k) w14 fun x27 w15 =>
 mguard x22 true (fun k => m R (o_load 3 x27) w15 k) w15 fun x28 w16 =>
 mguard x22 true (fun k => m R (o_bin .lss 3 false x25 x28) w16 k) w16 fun x29 w17 =>
 mguard x17 false (fun k => m R (o_pick x22 x29 (.bool false)) w17 k) w17 fun x30 w18 =>
 m R (o_pick x17 (.bool true) x30) w18 fun x31 w19 =>
 R (.returned x31) w19
def A_change_Less : Ann := ⟨[], [], [(1, [⟨0, .q none, 4, 0, 128⟩, ⟨1, .q none, 128, 1, 256⟩, ⟨2, .q (some 0), 256, 3, 512⟩, ⟨3, .f 0 true, 512, 7, 1024⟩, ⟨4, .q none, 8, 0, 2048⟩, ⟨5, .q none, 2048, 16, 4096⟩, ⟨6, .q (some 0), 4096, 48, 8192⟩, ⟨7, .f 1 false, 8192, 127, 16384⟩, ⟨8, .q none, 1024, 255, 32⟩, ⟨9, .q none, 16384, 511, 64⟩])], [], []⟩
theorem C_change_Less {x0 x1 : Value} {w : World} {R : Ending → World → Prop} (h : F_change_Less x0 x1 w R) : Calls Tryz.prog 56 #[x0, x1] w R :=
 calls_cwp (A := A_change_Less) (args := [x0, x1]) mixed Tryz.func56 (c := Tryz.f56.body.getD .skip) (by kernel_rfl) (by kernel_rfl) (by kernel_rfl) (Eq.mpr (by kernel_rfl) h)
def F_change_Check (x0 x1 : Value) (w : World) (R : Ending → World → Prop) : Prop :=
 m R (o_box 87 x0) w fun x2 w1 =>
 m R (o_box 33 x1) w1 fun x3 w2 =>
 dq Tryz.prog w2 (o_load 87 x2) fun x5 =>
 df Tryz.prog w2 (o_call (fv 60) [x5]) false fun x6 w3 =>
 qguard x6 true (fun k => dq Tryz.prog w3 (o_load 33 x3) k) fun x8 =>
 qguard x6 true (fun k => dq Tryz.prog w3 (o_load 87 x2) k) fun x9 =>
 mguard x6 true (fun k => df Tryz.prog w3 (o_call (fv 99) [x9]) true k) w3 fun x10 w4 =>
 qguard x6 true (fun k => dp Tryz.prog (o_fieldAddr 87 x2 5) k) fun x11 =>
 qguard x6 true (fun k => dq Tryz.prog w3 (o_load 33 x11) k) fun x12 =>
 mguard x6 true (fun k => df Tryz.prog w4 (o_call (fv 98) [x8, x10, x12]) false k) w4 fun x13 w5 =>
 dp Tryz.prog (o_pick x6 x13 (.bool false)) fun x14 =>
 dend w5 fun w6 =>
 R (.returned x14) w6
def A_change_Check : Ann := ⟨[], [], [(1, [⟨0, .q (some 0), 4, 0, 32⟩, ⟨1, .f 0 false, 32, 1, 64⟩, ⟨2, .q none, 64, 3, 128⟩, ⟨3, .q (some 1), 136, 7, 256⟩, ⟨4, .q (some 1), 132, 7, 512⟩, ⟨5, .f 1 true, 640, 23, 1024⟩, ⟨6, .q none, 132, 7, 2048⟩, ⟨7, .q (some 1), 2176, 71, 4096⟩, ⟨8, .f 2 false, 5504, 255, 8192⟩, ⟨9, .q none, 8320, 511, 16384⟩, ⟨10, .q none, 16384, 1023, 16⟩])], [], []⟩
theorem C_change_Check {x0 x1 : Value} {w : World} {R : Ending → World → Prop} (h : F_change_Check x0 x1 w R) : Calls Tryz.prog 57 #[x0, x1] w R :=
 calls_cwp (A := A_change_Check) (args := [x0, x1]) mixed Tryz.func57 (c := Tryz.f57.body.getD .skip) (by kernel_rfl) (by kernel_rfl) (by kernel_rfl) (Eq.mpr (by kernel_rfl) h)
def F_change_Sign (x0 x1 : Value) (w : World) (R : Ending → World → Prop) : Prop :=
 m R (o_box 87 x0) w fun x2 w1 =>
 m R (o_box 33 x1) w1 fun x3 w2 =>
 m R (o_alloc 87) w2 fun x4 w3 =>
 mj0 (fun j3 =>
 m R (o_load 87 x2) w3 fun x5 w4 =>
 m R (o_call (fv 60) [x5]) w4 fun x6 w5 =>
 mif x6 (
 dq Tryz.prog w5 (o_load 33 x3) fun x7 =>
 dq Tryz.prog w5 (o_load 87 x2) fun x8 =>
 df Tryz.prog w5 (o_call (fv 99) [x8]) true fun x9 w6 =>
 df Tryz.prog w6 (o_call (fv 100) [x7, x9]) false fun x10 w7 =>
 dp Tryz.prog (o_fieldAddr 87 x2 5) fun x11 =>
 df Tryz.prog w7 (o_store 33 x11 x10) false fun _ w8 =>
 dend w8 fun w9 =>
 j3 w9) (
 j3 w5)) fun u3 w10 =>
 m R (o_load 87 x2) w10 fun x12 w11 =>
 m R (o_store 87 x4 x12) w11 fun _ w12 =>
 rcell Tryz.prog 87 x4 w12 fun r4 =>
 R (.returned r4) w12
def A_change_Sign : Ann := ⟨[], [(3, [], 4064)], [(2, [⟨0, .q (some 0), 8, 0, 128⟩, ⟨1, .q (some 0), 4, 0, 256⟩, ⟨2, .f 0 true, 256, 2, 512⟩, ⟨3, .f 1 false, 640, 7, 1024⟩, ⟨4, .q none, 4, 15, 2048⟩, ⟨5, .f 2 false, 3072, 31, 0⟩])], [], []⟩
theorem C_change_Sign {x0 x1 : Value} {w : World} {R : Ending → World → Prop} (h : F_change_Sign x0 x1 w R) : Calls Tryz.prog 58 #[x0, x1] w R :=
 calls_cwp (A := A_change_Sign) (args := [x0, x1]) mixed Tryz.func58 (c := Tryz.f58.body.getD .skip) (by kernel_rfl) (by kernel_rfl) (by kernel_rfl) (Eq.mpr (by kernel_rfl) h)
def F_bevylaw10_verify (x0 : Value) (w : World) (R : Ending → World → Prop) : Prop :=
 m R (o_box 33 x0) w fun x1 w1 =>
 m R (o_alloc 33) w1 fun x2 w2 =>
 m R (o_load 33 x1) w2 fun x3 w3 =>
 m R (o_call (fv 101) [x3]) w3 fun x4 w4 =>
 m R (o_store 33 x2 x4) w4 fun _ w5 =>
 rcell Tryz.prog 33 x2 w5 fun r2 =>
 R (.returned r2) w5
def A_bevylaw10_verify : Ann := ⟨[], [], [], [], []⟩
theorem C_bevylaw10_verify {x0 : Value} {w : World} {R : Ending → World → Prop} (h : F_bevylaw10_verify x0 w R) : Calls Tryz.prog 59 #[x0] w R :=
 calls_cwp (A := A_bevylaw10_verify) (args := [x0]) mixed Tryz.func59 (c := Tryz.f59.body.getD .skip) (by kernel_rfl) (by kernel_rfl) (by kernel_rfl) (Eq.mpr (by kernel_rfl) h)
def F_change_Right (x0 : Value) (w : World) (R : Ending → World → Prop) : Prop :=
 m R (o_box 87 x0) w fun x1 w1 =>
 m R (o_fieldAddr 87 x1 4) w1 fun x4 w2 =>
 m R (o_load 85 x4) w2 fun x5 w3 =>
 m R (o_alloc 85) w3 fun x3 w4 =>
 m R (o_store 85 x3 x5) w4 fun _ w5 =>
 mj1 (fun j3 =>
 m R (o_fieldAddr 87 x1 1) w5 fun x6 w6 =>
 m R (o_load 3 x6) w6 fun x7 w7 =>
 m R (o_bin .lss 3 true x7 (.int .i64 0)) w7 fun x8 w8 =>
 mguard x8 false (fun k => m R (o_fieldAddr 87 x1 1) w8 k) w8 fun x10 w9 =>
 mguard x8 false (fun k => m R (o_load 3 x10) w9 k) w9 fun x11 w10 =>
 mguard x8 false (fun k => m R (o_bin .gtr 3 true x11 (.int .i64 4611686018427387903)) w10 k) w10 fun x12 w11 =>
 m R (o_pick x8 (.bool true) x12) w11 fun x13 w12 =>
 mguard x13 false (fun k => m R (o_fieldAddr 87 x1 2) w12 k) w12 fun x15 w13 =>
 mguard x13 false (fun k => m R (o_load 3 x15) w13 k) w13 fun x16 w14 =>
 mguard x13 false (fun k => m R (o_call (fv 102) [x16]) w14 k) w14 fun x17 w15 =>
 mguard x13 false (fun k => m R (o_un .not x17) w15 k) w15 fun x18 w16 =>
 m R (o_pick x13 (.bool true) x18) w16 fun x19 w17 =>
 mguard x19 false (fun k => m R (o_fieldAddr 85 x3 1) w17 k) w17 fun x21 w18 =>
 mguard x19 false (fun k => m R (o_load 3 x21) w18 k) w18 fun x22 w19 =>
 mguard x19 false (fun k => m R (o_call (fv 102) [x22]) w19 k) w19 fun x23 w20 =>
 mguard x19 false (fun k => m R (o_un .not x23) w20 k) w20 fun x24 w21 =>
 m R (o_pick x19 (.bool true) x24) w21 fun x25 w22 =>
 mguard x25 false (fun k => m R (o_fieldAddr 87 x1 3) w22 k) w22 fun x27 w23 =>
 mguard x25 false (fun k => m R (o_load 3 x27) w23 k) w23 fun x28 w24 =>
 mguard x25 false (fun k => m R (o_bin .lss 3 true x28 (.int .i64 1)) w24 k) w24 fun x29 w25 =>
 m R (o_pick x25 (.bool true) x29) w25 fun x30 w26 =>
 mguard x30 false (fun k => m R (o_fieldAddr 87 x1 3) w26 k) w26 fun x32 w27 =>
 mguard x30 false (fun k => m R (o_load 3 x32) w27 k) w27 fun x33 w28 =>
 mguard x30 false (fun k => m R (o_bin .gtr 3 true x33 (.int .i64 4611686018427387903)) w28 k) w28 fun x34 w29 =>
 m R (o_pick x30 (.bool true) x34) w29 fun x35 w30 =>
 j3 x35 w30) fun x35 u3 w31 =>
 mif x35 (
 R (.returned (.bool false)) w31) (
 m R (o_fieldAddr 85 x3 0) w31 fun x36 w32 =>
 m R (o_load 3 x36) w32 fun x37 w33 =>
 m R (o_bin .eql 3 true x37 (.int .i64 2)) w33 fun x39 w34 =>
 mif x39 (
 m R (o_fieldAddr 85 x3 1) w34 fun x40 w35 =>
 m R (o_load 3 x40) w35 fun x41 w36 =>
 m R (o_fieldAddr 87 x1 2) w36 fun x42 w37 =>
 m R (o_load 3 x42) w37 fun x43 w38 =>
 m R (o_bin .eql 3 false x41 x43) w38 fun x44 w39 =>
 R (.returned x44) w39) (
 mj1 (fun j9 =>
 m R (o_bin .eql 3 true x37 (.int .i64 1)) w34 fun x46 w40 =>
 mif x46 (
 j9 x46 w40) (
 m R (o_bin .eql 3 true x37 (.int .i64 3)) w40 fun x47 w41 =>
 j9 x47 w41)) fun x45 u9 w42 =>
 mif x45 (
 m R (o_fieldAddr 85 x3 2) w42 fun x48 w43 =>
 m R (o_load 33 x48) w43 fun x49 w44 =>
 m R (o_build 33 []) w44 fun x50 w45 =>
 m R (o_bin .eql 33 false x49 x50) w45 fun x51 w46 =>
 R (.returned x51) w46) (
 R (.returned (.bool false)) w42)))
def A_change_Right : Ann := ⟨[], [(3, [35], 68719476672), (9, [45], 246290604621824)], [], [], []⟩
theorem C_change_Right {x0 : Value} {w : World} {R : Ending → World → Prop} (h : F_change_Right x0 w R) : Calls Tryz.prog 60 #[x0] w R :=
 calls_cwp (A := A_change_Right) (args := [x0]) mixed Tryz.func60 (c := Tryz.f60.body.getD .skip) (by kernel_rfl) (by kernel_rfl) (by kernel_rfl) (Eq.mpr (by kernel_rfl) h)
def F_slices_Clone_api_Proposal_api_Proposal (x0 : Value) (w : World) (R : Ending → World → Prop) : Prop :=
 m R (o_bin .eql 46 true x0 (.slice none 0 0)) w fun x4 w1 =>
 mif x4 (
 R (.returned (.slice none 0 0)) w1) (
 m R (o_buildSlice 46 0 []) w1 fun x5 w2 =>
 m R (o_builtin .append #[46, 46] 46 [false, false] [x5, x0]) w2 fun x7 w3 =>
 R (.returned x7) w3)
def A_slices_Clone_api_Proposal_api_Proposal : Ann := ⟨[], [], [], [], []⟩
theorem C_slices_Clone_api_Proposal_api_Proposal {x0 : Value} {w : World} {R : Ending → World → Prop} (h : F_slices_Clone_api_Proposal_api_Proposal x0 w R) : Calls Tryz.prog 61 #[x0] w R :=
 calls_cwp (A := A_slices_Clone_api_Proposal_api_Proposal) (args := [x0]) mixed Tryz.func61 (c := Tryz.f61.body.getD .skip) (by kernel_rfl) (by kernel_rfl) (by kernel_rfl) (Eq.mpr (by kernel_rfl) h)
def F_slices_SortStableFunc_api_Proposal_api_Proposal (x0 x1 : Value) (w : World) (R : Ending → World → Prop) : Prop :=
 m R (o_builtin .len #[46] 3 [false] [x0]) w fun x6 w1 =>
 m R (o_call (fv 103) [x0, x6, x1]) w1 fun x8 w2 =>
 R (.returned (.tuple #[])) w2
def A_slices_SortStableFunc_api_Proposal_api_Proposal : Ann := ⟨[], [], [], [], []⟩
theorem C_slices_SortStableFunc_api_Proposal_api_Proposal {x0 x1 : Value} {w : World} {R : Ending → World → Prop} (h : F_slices_SortStableFunc_api_Proposal_api_Proposal x0 x1 w R) : Calls Tryz.prog 62 #[x0, x1] w R :=
 calls_cwp (A := A_slices_SortStableFunc_api_Proposal_api_Proposal) (args := [x0, x1]) mixed Tryz.func62 (c := Tryz.f62.body.getD .skip) (by kernel_rfl) (by kernel_rfl) (by kernel_rfl) (Eq.mpr (by kernel_rfl) h)
def F_change_Pick_1 (x0 x1 : Value) (w : World) (R : Ending → World → Prop) : Prop :=
 m R (o_box 87 x0) w fun x2 w1 =>
 m R (o_box 87 x1) w1 fun x3 w2 =>
 m R (o_load 87 x2) w2 fun x6 w3 =>
 m R (o_load 87 x3) w3 fun x7 w4 =>
 m R (o_call (fv 56) [x6, x7]) w4 fun x8 w5 =>
 mif x8 (
 R (.returned (.int .i64 (-1))) w5) (
 m R (o_load 87 x3) w5 fun x10 w6 =>
 m R (o_load 87 x2) w6 fun x11 w7 =>
 m R (o_call (fv 56) [x10, x11]) w7 fun x12 w8 =>
 mif x12 (
 R (.returned (.int .i64 1)) w8) (
 dq Tryz.prog w8 (o_load 87 x2) fun x13 =>
 df Tryz.prog w8 (o_call (fv 65) [x13]) true fun x14 w9 =>
 dq Tryz.prog w8 (o_load 87 x3) fun x15 =>
 df Tryz.prog w9 (o_call (fv 65) [x15]) false fun x16 w10 =>
 df Tryz.prog w10 (o_call (fv 64) [x14, x16]) false fun x17 w11 =>
 dend w11 fun w12 =>
 R (.returned x17) w12))
def A_change_Pick_1 : Ann := ⟨[], [], [(5, [⟨0, .q (some 0), 4, 0, 8192⟩, ⟨1, .f 0 true, 8192, 1, 16384⟩, ⟨2, .q (some 0), 8, 0, 32768⟩, ⟨3, .f 1 false, 32768, 7, 65536⟩, ⟨4, .f 2 false, 81920, 15, 131072⟩, ⟨5, .q none, 131072, 31, 16⟩])], [], []⟩
theorem C_change_Pick_1 {x0 x1 : Value} {w : World} {R : Ending → World → Prop} (h : F_change_Pick_1 x0 x1 w R) : Calls Tryz.prog 63 #[x0, x1] w R :=
 calls_cwp (A := A_change_Pick_1) (args := [x0, x1]) mixed Tryz.func63 (c := Tryz.f63.body.getD .skip) (by kernel_rfl) (by kernel_rfl) (by kernel_rfl) (Eq.mpr (by kernel_rfl) h)
def F_sha_Cmp (x0 x1 : Value) (w : World) (R : Ending → World → Prop) : Prop :=
 m R (o_box 33 x0) w fun x2 w1 =>
 m R (o_box 33 x1) w1 fun x3 w2 =>
 ml1 (.int .i64 0) w2 fun x6 u2 w3 next2 =>
 m R (o_bin .lss 3 true x6 (.int .i64 32)) w3 fun x7 w4 =>
 mif x7 (
 dp Tryz.prog (o_indexAddr 33 x2 x6) fun x11 =>
 dq Tryz.prog w4 (o_load 5 x11) fun x12 =>
 dp Tryz.prog (o_indexAddr 33 x3 x6) fun x14 =>
 dq Tryz.prog w4 (o_load 5 x14) fun x15 =>
 dp Tryz.prog (o_bin .lss 5 false x12 x15) fun x16 =>
 dend w4 fun w5 =>
 mif x16 (
 R (.returned (.int .i64 (-1))) w5) (
 dp Tryz.prog (o_indexAddr 33 x2 x6) fun x19 =>
 dq Tryz.prog w5 (o_load 5 x19) fun x20 =>
 dp Tryz.prog (o_indexAddr 33 x3 x6) fun x22 =>
 dq Tryz.prog w5 (o_load 5 x22) fun x23 =>
 dp Tryz.prog (o_bin .gtr 5 false x20 x23) fun x24 =>
 dend w5 fun w6 =>
 mif x24 (
 R (.returned (.int .i64 1)) w6) (
 m R (o_bin .add 3 true x6 (.int .i64 1)) w6 fun x25 w7 =>
 next2 x25 w7))) (
 R (.returned (.int .i64 0)) w4)
def A_sha_Cmp : Ann := ⟨[(2, [6], 67108848)], [], [(4, [⟨0, .q none, 32, 0, 1024⟩, ⟨1, .q none, 1028, 1, 2048⟩, ⟨2, .q (some 0), 2048, 3, 4096⟩, ⟨3, .q none, 32, 0, 8192⟩, ⟨4, .q none, 8200, 8, 16384⟩, ⟨5, .q (some 0), 16384, 24, 32768⟩, ⟨6, .q none, 36864, 63, 65536⟩, ⟨7, .q none, 65536, 127, 512⟩]), (6, [⟨0, .q none, 32, 0, 262144⟩, ⟨1, .q none, 262148, 1, 524288⟩, ⟨2, .q (some 0), 524288, 3, 1048576⟩, ⟨3, .q none, 32, 0, 2097152⟩, ⟨4, .q none, 2097160, 8, 4194304⟩, ⟨5, .q (some 0), 4194304, 24, 8388608⟩, ⟨6, .q none, 9437184, 63, 16777216⟩, ⟨7, .q none, 16777216, 127, 131072⟩])], [], []⟩
theorem C_sha_Cmp {x0 x1 : Value} {w : World} {R : Ending → World → Prop} (h : F_sha_Cmp x0 x1 w R) : Calls Tryz.prog 64 #[x0, x1] w R :=
 calls_cwp (A := A_sha_Cmp) (args := [x0, x1]) mixed Tryz.func64 (c := Tryz.f64.body.getD .skip) (by kernel_rfl) (by kernel_rfl) (by kernel_rfl) (Eq.mpr (by kernel_rfl) h)
def F_change_Id (x0 : Value) (w : World) (R : Ending → World → Prop) : Prop :=
 m R (o_box 87 x0) w fun x1 w1 =>
 m R (o_alloc 33) w1 fun x2 w2 =>
 m R (o_load 87 x1) w2 fun x3 w3 =>
 m R (o_call (fv 60) [x3]) w3 fun x4 w4 =>
 m R (o_un .not x4) w4 fun x5 w5 =>
 mif x5 (
 m R (o_build 33 []) w5 fun x6 w6 =>
 m R (o_store 33 x2 x6) w6 fun _ w7 =>
 rcell Tryz.prog 33 x2 w7 fun r2 =>
 R (.returned r2) w7) (
 m R (o_load 87 x1) w5 fun x7 w8 =>
 m R (o_call (fv 104) [x7]) w8 fun x8 w9 =>
 m R (o_buildSlice 123 2 [(0, (.string (ByteArray.mk #[99, 104, 97, 110, 103, 101]))), (1, x8)]) w9 fun x9 w10 =>
 m R (o_call (fv 40) [x9]) w10 fun x10 w11 =>
 m R (o_store 33 x2 x10) w11 fun _ w12 =>
 rcell Tryz.prog 33 x2 w12 fun r2 =>
 R (.returned r2) w12)
def A_change_Id : Ann := ⟨[], [], [], [], []⟩
theorem C_change_Id {x0 : Value} {w : World} {R : Ending → World → Prop} (h : F_change_Id x0 w R) : Calls Tryz.prog 65 #[x0] w R :=
 calls_cwp (A := A_change_Id) (args := [x0]) mixed Tryz.func65 (c := Tryz.f65.body.getD .skip) (by kernel_rfl) (by kernel_rfl) (by kernel_rfl) (Eq.mpr (by kernel_rfl) h)
def F_bevyref10_Less (x0 x1 : Value) (w : World) (R : Ending → World → Prop) : Prop :=
 m R (o_box 87 x0) w fun x2 w1 =>
 m R (o_box 87 x1) w1 fun x3 w2 =>
 dp Tryz.prog (o_fieldAddr 87 x2 4) fun x5 =>
 dp Tryz.prog (o_fieldAddr 85 x5 0) fun x6 =>
 dq Tryz.prog w2 (o_load 3 x6) fun x7 =>
 df Tryz.prog w2 (o_call (fv 105) [x7]) true fun x8 w3 =>
 dp Tryz.prog (o_fieldAddr 87 x3 4) fun x9 =>
 dp Tryz.prog (o_fieldAddr 85 x9 0) fun x10 =>
 dq Tryz.prog w2 (o_load 3 x10) fun x11 =>
 df Tryz.prog w3 (o_call (fv 105) [x11]) false fun x12 w4 =>
 dp Tryz.prog (o_bin .neq 3 false x8 x12) fun x13 =>
 dend w4 fun w5 =>
 mif x13 (
 dp Tryz.prog (o_fieldAddr 87 x2 4) fun x14 =>
 dp Tryz.prog (o_fieldAddr 85 x14 0) fun x15 =>
 dq Tryz.prog w5 (o_load 3 x15) fun x16 =>
 df Tryz.prog w5 (o_call (fv 105) [x16]) true fun x17 w6 =>
 dp Tryz.prog (o_fieldAddr 87 x3 4) fun x18 =>
 dp Tryz.prog (o_fieldAddr 85 x18 0) fun x19 =>
 dq Tryz.prog w5 (o_load 3 x19) fun x20 =>
 df Tryz.prog w6 (o_call (fv 105) [x20]) false fun x21 w7 =>
 dp Tryz.prog (o_bin .lss 3 false x17 x21) fun x22 =>
 dend w7 fun w8 =>
 R (.returned x22) w8) (
 m R (o_fieldAddr 87 x2 4) w5 fun x23 w9 =>
 m R (o_fieldAddr 85 x23 1) w9 fun x24 w10 =>
 m R (o_load 3 x24) w10 fun x25 w11 =>
 m R (o_fieldAddr 87 x3 4) w11 fun x26 w12 =>
 m R (o_fieldAddr 85 x26 1) w12 fun x27 w13 =>
 m R (o_load 3 x27) w13 fun x28 w14 =>
 m R (o_bin .lss 3 false x25 x28) w14 fun x29 w15 =>
 R (.returned x29) w15)
def A_bevyref10_Less : Ann := ⟨[], [], [(1, [⟨0, .q none, 4, 0, 32⟩, ⟨1, .q none, 32, 1, 64⟩, ⟨2, .q (some 0), 64, 3, 128⟩, ⟨3, .f 0 true, 128, 7, 256⟩, ⟨4, .q none, 8, 0, 512⟩, ⟨5, .q none, 512, 16, 1024⟩, ⟨6, .q (some 0), 1024, 48, 2048⟩, ⟨7, .f 1 false, 2048, 127, 4096⟩, ⟨8, .q none, 4352, 255, 8192⟩]), (2, [⟨0, .q none, 4, 0, 16384⟩, ⟨1, .q none, 16384, 1, 32768⟩, ⟨2, .q (some 0), 32768, 3, 65536⟩, ⟨3, .f 0 true, 65536, 7, 131072⟩, ⟨4, .q none, 8, 0, 262144⟩, ⟨5, .q none, 262144, 16, 524288⟩, ⟨6, .q (some 0), 524288, 48, 1048576⟩, ⟨7, .f 1 false, 1048576, 127, 2097152⟩, ⟨8, .q none, 2228224, 255, 4194304⟩, ⟨9, .q none, 4194304, 511, 16⟩])], [], []⟩
theorem C_bevyref10_Less {x0 x1 : Value} {w : World} {R : Ending → World → Prop} (h : F_bevyref10_Less x0 x1 w R) : Calls Tryz.prog 66 #[x0, x1] w R :=
 calls_cwp (A := A_bevyref10_Less) (args := [x0, x1]) mixed Tryz.func66 (c := Tryz.f66.body.getD .skip) (by kernel_rfl) (by kernel_rfl) (by kernel_rfl) (Eq.mpr (by kernel_rfl) h)
def F_bevyref02_Less (x0 x1 : Value) (w : World) (R : Ending → World → Prop) : Prop :=
 m R (o_box 32 x0) w fun x2 w1 =>
 m R (o_box 32 x1) w1 fun x3 w2 =>
 dp Tryz.prog (o_slice 32 x2 none none none) fun x5 =>
 dq Tryz.prog w2 (o_conv 135 9 x5) fun x6 =>
 dp Tryz.prog (o_slice 32 x3 none none none) fun x7 =>
 dq Tryz.prog w2 (o_conv 135 9 x7) fun x8 =>
 dp Tryz.prog (o_bin .lss 9 false x6 x8) fun x9 =>
 dend w2 fun w3 =>
 R (.returned x9) w3
def A_bevyref02_Less : Ann := ⟨[], [], [(1, [⟨0, .q none, 4, 0, 32⟩, ⟨1, .q (some 0), 32, 1, 64⟩, ⟨2, .q none, 8, 0, 128⟩, ⟨3, .q (some 0), 128, 4, 256⟩, ⟨4, .q none, 320, 15, 512⟩, ⟨5, .q none, 512, 31, 16⟩])], [], []⟩
theorem C_bevyref02_Less {x0 x1 : Value} {w : World} {R : Ending → World → Prop} (h : F_bevyref02_Less x0 x1 w R) : Calls Tryz.prog 67 #[x0, x1] w R :=
 calls_cwp (A := A_bevyref02_Less) (args := [x0, x1]) mixed Tryz.func67 (c := Tryz.f67.body.getD .skip) (by kernel_rfl) (by kernel_rfl) (by kernel_rfl) (Eq.mpr (by kernel_rfl) h)
def F_bevyref10_key (x0 : Value) (w : World) (R : Ending → World → Prop) : Prop :=
 m R (o_box 87 x0) w fun x1 w1 =>
 m R (o_alloc 32) w1 fun x2 w2 =>
 m R (o_load 87 x1) w2 fun x3 w3 =>
 m R (o_call (fv 106) [x3]) w3 fun x4 w4 =>
 m R (o_un .not x4) w4 fun x5 w5 =>
 mif x5 (
 m R (o_build 32 []) w5 fun x6 w6 =>
 m R (o_store 32 x2 x6) w6 fun _ w7 =>
 rcell Tryz.prog 32 x2 w7 fun r2 =>
 R (.returned r2) w7) (
 m R (o_load 87 x1) w5 fun x7 w8 =>
 m R (o_call (fv 107) [x7]) w8 fun x8 w9 =>
 m R (o_store 32 x2 x8) w9 fun _ w10 =>
 rcell Tryz.prog 32 x2 w10 fun r2 =>
 R (.returned r2) w10)
def A_bevyref10_key : Ann := ⟨[], [], [], [], []⟩
theorem C_bevyref10_key {x0 : Value} {w : World} {R : Ending → World → Prop} (h : F_bevyref10_key x0 w R) : Calls Tryz.prog 68 #[x0] w R :=
 calls_cwp (A := A_bevyref10_key) (args := [x0]) mixed Tryz.func68 (c := Tryz.f68.body.getD .skip) (by kernel_rfl) (by kernel_rfl) (by kernel_rfl) (Eq.mpr (by kernel_rfl) h)
def F_bevyref10_Fit (x0 x1 x2 x3 x4 x5 x6 : Value) (w : World) (R : Ending → World → Prop) : Prop :=
 m R (o_box 25 x0) w fun x7 w1 =>
 m R (o_box 42 x1) w1 fun x8 w2 =>
 m R (o_box 33 x3) w2 fun x10 w3 =>
 m R (o_load 25 x7) w3 fun x21 w4 =>
 m R (o_call (fv 7) [x21]) w4 fun x22 w5 =>
 m R (o_un .not x22) w5 fun x23 w6 =>
 mif x23 (
 R (.returned (.int .i64 1)) w6) (
 m R (o_builtin .len #[46] 3 [false] [x6]) w6 fun x25 w7 =>
 m R (o_bin .gtr 3 true x25 (.int .i64 16)) w7 fun x26 w8 =>
 mif x26 (
 R (.returned (.int .i64 5)) w8) (
 ml1 (.int .i64 0) w8 fun x15 u6 w9 next6 =>
 m R (o_builtin .len #[46] 3 [false] [x6]) w9 fun x29 w10 =>
 m R (o_bin .lss 3 false x15 x29) w10 fun x30 w11 =>
 mif x30 (
 m R (o_load 25 x7) w11 fun x33 w12 =>
 m R (o_load 42 x8) w12 fun x34 w13 =>
 m R (o_load 33 x10) w13 fun x36 w14 =>
 m R (o_call (fv 108) [x33, x34, x2, x36, x4, x5, x6, x15]) w14 fun x41 w15 =>
 m R (o_bin .neq 3 true x41 (.int .i64 0)) w15 fun x43 w16 =>
 mif x43 (
 R (.returned x41) w16) (
 m R (o_bin .add 3 true x15 (.int .i64 1)) w16 fun x32 w17 =>
 next6 x32 w17)) (
 m R (o_load 25 x7) w11 fun x46 w18 =>
 m R (o_load 42 x8) w18 fun x47 w19 =>
 m R (o_call (fv 109) [x46, x47, x2, x6]) w19 fun x50 w20 =>
 m R (o_extract x50 0) w20 fun x51 w21 =>
 m R (o_extract x50 1) w21 fun x52 w22 =>
 m R (o_extract x50 2) w22 fun x53 w23 =>
 m R (o_extract x50 3) w23 fun x54 w24 =>
 m R (o_alloc 25) w24 fun x17 w25 =>
 m R (o_alloc 42) w25 fun x18 w26 =>
 m R (o_store 25 x17 x51) w26 fun _ w27 =>
 m R (o_store 42 x18 x52) w27 fun _ w28 =>
 R (.returned x54) w28)))
def A_bevyref10_Fit : Ann := ⟨[(6, [15], 35184237985792)], [], [], [], []⟩
theorem C_bevyref10_Fit {x0 x1 x2 x3 x4 x5 x6 : Value} {w : World} {R : Ending → World → Prop} (h : F_bevyref10_Fit x0 x1 x2 x3 x4 x5 x6 w R) : Calls Tryz.prog 69 #[x0, x1, x2, x3, x4, x5, x6] w R :=
 calls_cwp (A := A_bevyref10_Fit) (args := [x0, x1, x2, x3, x4, x5, x6]) mixed Tryz.func69 (c := Tryz.f69.body.getD .skip) (by kernel_rfl) (by kernel_rfl) (by kernel_rfl) (Eq.mpr (by kernel_rfl) h)
def F_change_card (x0 x1 x2 : Value) (w : World) (R : Ending → World → Prop) : Prop :=
 m R (o_box 42 x0) w fun x3 w1 =>
 m R (o_alloc 57) w1 fun x6 w2 =>
 mj1 (fun j2 =>
 m R (o_call (fv 102) [x2]) w2 fun x11 w3 =>
 m R (o_un .not x11) w3 fun x12 w4 =>
 mguard x12 false (fun k => m R (o_move x2) w4 k) w4 fun x14 w5 =>
 mguard x12 false (fun k => m R (o_move x1) w5 k) w5 fun x15 w6 =>
 mguard x12 false (fun k => m R (o_builtin .len #[43] 3 [false] [x15]) w6 k) w6 fun x16 w7 =>
 mguard x12 false (fun k => m R (o_bin .gtr 3 false x14 x16) w7 k) w7 fun x17 w8 =>
 m R (o_pick x12 (.bool true) x17) w8 fun x18 w9 =>
 j2 x18 w9) fun x18 u2 w10 =>
 mif x18 (
 m R (o_build 57 []) w10 fun x19 w11 =>
 m R (o_store 57 x6 x19) w11 fun _ w12 =>
 rcell Tryz.prog 57 x6 w12 fun r6 =>
 R (.returned (.tuple #[r6, (.int .i64 7)])) w12) (
 ∃ S : Rl,
 dp Tryz.prog (o_bin .sub 3 true x2 (.int .i64 1)) fun x22 =>
 dp Tryz.prog (o_indexAddr 43 x1 x22) fun x23 =>
 dqS Tryz.prog S w10 (o_load 95 x23) fun x24 =>
 dp Tryz.prog (o_bin .sub 3 true x2 (.int .i64 1)) fun x26 =>
 dp Tryz.prog (o_indexAddr 42 x3 x26) fun x27 =>
 dqS Tryz.prog S w10 (o_load 3 x27) fun x28 =>
 dfS Tryz.prog S w10 (o_alloc 95) true fun x8 w13 =>
 dfS Tryz.prog S w13 (o_store 95 x8 x24) true fun _ w14 =>
 dend w14 fun w15 =>
 mj1 (fun j5 =>
 m R (o_bin .lss 3 true x28 (.int .i64 0)) w15 fun x30 w16 =>
 mguard x30 false (fun k => m R (o_move x28) w16 k) w16 fun x32 w17 =>
 mguard x30 false (fun k => m R (o_fieldAddr 95 x8 1) w17 k) w17 fun x33 w18 =>
 mguard x30 false (fun k => m R (o_load 93 x33) w18 k) w18 fun x34 w19 =>
 mguard x30 false (fun k => m R (o_builtin .len #[93] 3 [false] [x34]) w19 k) w19 fun x35 w20 =>
 mguard x30 false (fun k => m R (o_bin .geq 3 false x32 x35) w20 k) w20 fun x36 w21 =>
 m R (o_pick x30 (.bool true) x36) w21 fun x37 w22 =>
 j5 x37 w22) fun x37 u5 w23 =>
 mif x37 (
 m R (o_build 57 []) w23 fun x38 w24 =>
 m R (o_store 57 x6 x38) w24 fun _ w25 =>
 rcell Tryz.prog 57 x6 w25 fun r6 =>
 R (.returned (.tuple #[r6, (.int .i64 10)])) w25) (
 dp Tryz.prog (o_fieldAddr 95 x8 1) fun x40 =>
 dq Tryz.prog w23 (o_load 93 x40) fun x41 =>
 dp Tryz.prog (o_indexAddr 93 x41 x28) fun x43 =>
 dp Tryz.prog (o_fieldAddr 158 x43 1) fun x44 =>
 dq Tryz.prog w23 (o_load 33 x44) fun x45 =>
 dp Tryz.prog (o_fieldAddr 95 x8 0) fun x46 =>
 dq Tryz.prog w23 (o_load 33 x46) fun x47 =>
 dp Tryz.prog (o_build 57 [(0, x2), (1, x45), (2, x47)]) fun x48 =>
 df Tryz.prog w23 (o_store 57 x6 x48) false fun _ w26 =>
 dend w26 fun w27 =>
 rcell Tryz.prog 57 x6 w27 fun r6 =>
 R (.returned (.tuple #[r6, (.int .i64 0)])) w27))
def A_change_card : Ann := ⟨[], [(2, [18], 523264), (5, [37], 274341036032)], [(3, [⟨0, .q none, 2, 0, 1048576⟩, ⟨1, .q none, 4, 0, 2097152⟩, ⟨2, .q none, 2097152, 2, 4194304⟩, ⟨3, .q none, 5242880, 7, 8388608⟩, ⟨4, .q (some 0), 8388608, 15, 16777216⟩, ⟨5, .q none, 4, 0, 33554432⟩, ⟨6, .q none, 33554432, 32, 67108864⟩, ⟨7, .q none, 67108872, 96, 134217728⟩, ⟨8, .q (some 0), 134217728, 224, 268435456⟩, ⟨9, .f 0 true, 0, 0, 256⟩, ⟨10, .f 1 true, 16777472, 543, 0⟩, ⟨11, .q none, 268435456, 2047, 512⟩]), (6, [⟨0, .q none, 4, 0, 549755813888⟩, ⟨1, .q none, 256, 0, 1099511627776⟩, ⟨2, .q (some 0), 1099511627776, 2, 2199023255552⟩, ⟨3, .q none, 512, 0, 4398046511104⟩, ⟨4, .q none, 6597069766656, 14, 8796093022208⟩, ⟨5, .q none, 8796093022208, 30, 17592186044416⟩, ⟨6, .q (some 0), 17592186044416, 62, 35184372088832⟩, ⟨7, .q none, 256, 0, 70368744177664⟩, ⟨8, .q (some 0), 70368744177664, 128, 140737488355328⟩, ⟨9, .q none, 176471616258048, 511, 281474976710656⟩, ⟨10, .f 0 false, 281474976710720, 1023, 0⟩, ⟨11, .q none, 0, 2047, 128⟩])], [], [3]⟩
theorem C_change_card {x0 x1 x2 : Value} {w : World} {R : Ending → World → Prop} (h : F_change_card x0 x1 x2 w R) : Calls Tryz.prog 70 #[x0, x1, x2] w R :=
 calls_cwp (A := A_change_card) (args := [x0, x1, x2]) mixed Tryz.func70 (c := Tryz.f70.body.getD .skip) (by kernel_rfl) (by kernel_rfl) (by kernel_rfl) (Eq.mpr (by kernel_rfl) h)
def F_change_Apply (x0 x1 x2 x3 : Value) (w : World) (R : Ending → World → Prop) : Prop :=
 m R (o_box 25 x0) w fun x4 w1 =>
 m R (o_box 42 x1) w1 fun x5 w2 =>
 m R (o_alloc 25) w2 fun x8 w3 =>
 m R (o_alloc 42) w3 fun x9 w4 =>
 m R (o_load 25 x4) w4 fun x20 w5 =>
 m R (o_call (fv 8) [x20]) w5 fun x21 w6 =>
 m R (o_un .not x21) w6 fun x22 w7 =>
 mif x22 (
 m R (o_build 25 []) w7 fun x23 w8 =>
 m R (o_build 42 []) w8 fun x24 w9 =>
 m R (o_store 25 x8 x23) w9 fun _ w10 =>
 m R (o_store 42 x9 x24) w10 fun _ w11 =>
 rcell Tryz.prog 25 x8 w11 fun r8 =>
 rcell Tryz.prog 42 x9 w11 fun r9 =>
 R (.returned (.tuple #[r8, r9, (.slice none 0 0), (.int .i64 1)])) w11) (
 dp Tryz.prog (o_fieldAddr 25 x4 0) fun x25 =>
 dq Tryz.prog w7 (o_load 22 x25) fun x26 =>
 df Tryz.prog w7 (o_call (fv 110) [x26]) true fun x27 w12 =>
 dp Tryz.prog (o_fieldAddr 25 x4 1) fun x28 =>
 dq Tryz.prog w7 (o_load 23 x28) fun x29 =>
 df Tryz.prog w12 (o_call (fv 111) [x29]) false fun x30 w13 =>
 dp Tryz.prog (o_fieldAddr 25 x4 0) fun x31 =>
 df Tryz.prog w13 (o_store 22 x31 x27) false fun _ w14 =>
 dp Tryz.prog (o_fieldAddr 25 x4 1) fun x32 =>
 df Tryz.prog w14 (o_store 23 x32 x30) false fun _ w15 =>
 dend w15 fun w16 =>
 m R (o_fieldAddr 25 x4 1) w16 fun x33 w17 =>
 m R (o_load 23 x33) w17 fun x34 w18 =>
 m R (o_builtin .len #[23] 3 [false] [x34]) w18 fun x35 w19 =>
 ml1 (.int .i64 0) w19 fun x36 u6 w20 next6 =>
 m R (o_bin .lss 3 false x36 x35) w20 fun x37 w21 =>
 mif x37 (
 dp Tryz.prog (o_fieldAddr 25 x4 1) fun x39 =>
 dq Tryz.prog w21 (o_load 23 x39) fun x40 =>
 dp Tryz.prog (o_fieldAddr 25 x4 1) fun x42 =>
 dq Tryz.prog w21 (o_load 23 x42) fun x43 =>
 dp Tryz.prog (o_indexAddr 23 x43 x36) fun x45 =>
 dp Tryz.prog (o_fieldAddr 61 x45 3) fun x46 =>
 dq Tryz.prog w21 (o_load 29 x46) fun x47 =>
 df Tryz.prog w21 (o_call (fv 112) [x47]) true fun x48 w22 =>
 dp Tryz.prog (o_indexAddr 23 x40 x36) fun x49 =>
 dp Tryz.prog (o_fieldAddr 61 x49 3) fun x50 =>
 df Tryz.prog w22 (o_store 29 x50 x48) false fun _ w23 =>
 dend w23 fun w24 =>
 m R (o_bin .add 3 true x36 (.int .i64 1)) w24 fun x51 w25 =>
 next6 x51 w25) (
 m R (o_builtin .len #[46] 3 [false] [x3]) w21 fun x53 w26 =>
 ml2 (.slice none 0 0) (.int .i64 0) w26 fun x12 x54 u11 w27 next11 =>
 m R (o_bin .lss 3 false x54 x53) w27 fun x55 w28 =>
 mif x55 (
 m R (o_indexAddr 46 x3 x54) w28 fun x56 w29 =>
 m R (o_load 87 x56) w29 fun x57 w30 =>
 m R (o_alloc 87) w30 fun x15 w31 =>
 m R (o_store 87 x15 x57) w31 fun _ w32 =>
 m R (o_fieldAddr 87 x15 4) w32 fun x58 w33 =>
 m R (o_load 85 x58) w33 fun x59 w34 =>
 m R (o_alloc 85) w34 fun x16 w35 =>
 m R (o_store 85 x16 x59) w35 fun _ w36 =>
 mj2 (fun j30 =>
 m R (o_fieldAddr 85 x16 0) w36 fun x60 w37 =>
 m R (o_load 3 x60) w37 fun x61 w38 =>
 m R (o_bin .eql 3 true x61 (.int .i64 2)) w38 fun x63 w39 =>
 mif x63 (
 dq Tryz.prog w39 (o_load 25 x4) fun x65 =>
 dq Tryz.prog w39 (o_load 25 x4) fun x66 =>
 dp Tryz.prog (o_fieldAddr 85 x16 1) fun x67 =>
 dq Tryz.prog w39 (o_load 3 x67) fun x68 =>
 df Tryz.prog w39 (o_call (fv 9) [x66, x68]) true fun x69 w40 =>
 dp Tryz.prog (o_fieldAddr 85 x16 2) fun x70 =>
 dq Tryz.prog w39 (o_load 33 x70) fun x71 =>
 df Tryz.prog w40 (o_call (fv 113) [x65, x69, x71]) false fun x72 w41 =>
 dp Tryz.prog (o_extract x72 0) fun x73 =>
 dp Tryz.prog (o_extract x72 1) fun x74 =>
 df Tryz.prog w41 (o_store 25 x4 x73) false fun _ w42 =>
 dend w42 fun w43 =>
 j30 x12 x74 w43) (
 m R (o_bin .eql 3 true x61 (.int .i64 3)) w39 fun x76 w44 =>
 mif x76 (
 dq Tryz.prog w44 (o_load 25 x4) fun x78 =>
 dq Tryz.prog w44 (o_load 25 x4) fun x79 =>
 dp Tryz.prog (o_fieldAddr 85 x16 1) fun x80 =>
 dq Tryz.prog w44 (o_load 3 x80) fun x81 =>
 df Tryz.prog w44 (o_call (fv 9) [x79, x81]) true fun x82 w45 =>
 df Tryz.prog w45 (o_call (fv 29) [x78, x82]) false fun x83 w46 =>
 dp Tryz.prog (o_extract x83 0) fun x84 =>
 dp Tryz.prog (o_extract x83 1) fun x85 =>
 df Tryz.prog w46 (o_store 25 x4 x84) false fun _ w47 =>
 dend w47 fun w48 =>
 j30 x12 x85 w48) (
 m R (o_bin .eql 3 true x61 (.int .i64 1)) w44 fun x87 w49 =>
 mif x87 (
 m R (o_alloc 57) w49 fun x18 w50 =>
 m R (o_load 42 x5) w50 fun x89 w51 =>
 m R (o_fieldAddr 85 x16 1) w51 fun x91 w52 =>
 m R (o_load 3 x91) w52 fun x92 w53 =>
 m R (o_call (fv 70) [x89, x2, x92]) w53 fun x93 w54 =>
 m R (o_extract x93 0) w54 fun x94 w55 =>
 m R (o_extract x93 1) w55 fun x95 w56 =>
 m R (o_store 57 x18 x94) w56 fun _ w57 =>
 m R (o_bin .eql 50 true x95 (.int .i64 0)) w57 fun x97 w58 =>
 mif x97 (
 m R (o_load 25 x4) w58 fun x99 w59 =>
 m R (o_load 57 x18) w59 fun x100 w60 =>
 m R (o_call (fv 28) [x99, x100]) w60 fun x101 w61 =>
 m R (o_extract x101 0) w61 fun x102 w62 =>
 m R (o_extract x101 1) w62 fun x103 w63 =>
 m R (o_extract x101 2) w63 fun x104 w64 =>
 m R (o_store 25 x4 x102) w64 fun _ w65 =>
 m R (o_bin .eql 50 true x104 (.int .i64 0)) w65 fun x106 w66 =>
 mif x106 (
 m R (o_fieldAddr 85 x16 1) w66 fun x107 w67 =>
 m R (o_load 3 x107) w67 fun x108 w68 =>
 m R (o_bin .sub 3 true x108 (.int .i64 1)) w68 fun x109 w69 =>
 m R (o_indexAddr 42 x5 x109) w69 fun x110 w70 =>
 m R (o_load 3 x110) w70 fun x111 w71 =>
 m R (o_bin .add 3 true x111 (.int .i64 1)) w71 fun x112 w72 =>
 m R (o_indexAddr 42 x5 x109) w72 fun x113 w73 =>
 m R (o_store 3 x113 x112) w73 fun _ w74 =>
 m R (o_buildSlice 29 1 [(0, x103)]) w74 fun x116 w75 =>
 m R (o_builtin .append #[29, 29] 29 [false, false] [x12, x116]) w75 fun x117 w76 =>
 j30 x117 x104 w76) (
 j30 x12 x104 w66)) (
 j30 x12 x95 w58)) (
 j30 x12 (.int .i64 7) w49)))) fun x12 x17 u30 w77 =>
 m R (o_bin .neq 50 true x17 (.int .i64 0)) w77 fun x119 w78 =>
 mif x119 (
 m R (o_build 25 []) w78 fun x120 w79 =>
 m R (o_build 42 []) w79 fun x121 w80 =>
 m R (o_store 25 x8 x120) w80 fun _ w81 =>
 m R (o_store 42 x9 x121) w81 fun _ w82 =>
 rcell Tryz.prog 25 x8 w82 fun r8 =>
 rcell Tryz.prog 42 x9 w82 fun r9 =>
 R (.returned (.tuple #[r8, r9, (.slice none 0 0), x17])) w82) (
 m R (o_bin .add 3 true x54 (.int .i64 1)) w78 fun x123 w83 =>
 next11 x12 x123 w83)) (
 ∃ S : Rl,
 dqS Tryz.prog S w28 (o_load 25 x4) fun x124 =>
 dqS Tryz.prog S w28 (o_load 42 x5) fun x125 =>
 dfS Tryz.prog S w28 (o_store 25 x8 x124) true fun _ w84 =>
 dfS Tryz.prog S w84 (o_store 42 x9 x125) false fun _ w85 =>
 dend w85 fun w86 =>
 rcell Tryz.prog 25 x8 w86 fun r8 =>
 rcell Tryz.prog 42 x9 w86 fun r9 =>
 R (.returned (.tuple #[r8, r9, x12, (.int .i64 0)])) w86)))
def A_change_Apply : Ann := ⟨[(6, [36], 4503530907901952), (11, [12, 54], 21267647932558653966442898565977054208)], [(30, [12, 17], 332306998946228967073030260464160768)], [(4, [⟨0, .q none, 16, 0, 33554432⟩, ⟨1, .q (some 0), 33554432, 1, 67108864⟩, ⟨2, .f 0 true, 67108864, 3, 134217728⟩, ⟨3, .q none, 16, 0, 268435456⟩, ⟨4, .q (some 0), 268435456, 8, 536870912⟩, ⟨5, .f 1 false, 536870912, 31, 1073741824⟩, ⟨6, .q none, 16, 31, 2147483648⟩, ⟨7, .f 2 false, 2281701376, 127, 0⟩, ⟨8, .q none, 16, 255, 4294967296⟩, ⟨9, .f 3 false, 5368709120, 511, 0⟩]), (8, [⟨0, .q none, 16, 0, 549755813888⟩, ⟨1, .q (some 0), 549755813888, 1, 1099511627776⟩, ⟨2, .q none, 8192, 0, 2199023255552⟩, ⟨3, .q none, 16, 0, 4398046511104⟩, ⟨4, .q (some 0), 4398046511104, 8, 8796093022208⟩, ⟨5, .q none, 8192, 0, 17592186044416⟩, ⟨6, .q none, 26388279066624, 56, 35184372088832⟩, ⟨7, .q none, 35184372088832, 120, 70368744177664⟩, ⟨8, .q (some 0), 70368744177664, 248, 140737488355328⟩, ⟨9, .f 0 true, 140737488355328, 504, 281474976710656⟩, ⟨10, .q none, 3298534883328, 1023, 562949953421312⟩, ⟨11, .q none, 562949953421312, 2047, 1125899906842624⟩, ⟨12, .f 1 false, 1407374883553280, 4095, 0⟩]), (18, [⟨0, .q (some 0), 16, 0, 36893488147419103232⟩, ⟨1, .q (some 0), 16, 0, 73786976294838206464⟩, ⟨2, .q none, 65536, 0, 147573952589676412928⟩, ⟨3, .q (some 0), 147573952589676412928, 4, 295147905179352825856⟩, ⟨4, .f 0 true, 368934881474191032320, 14, 590295810358705651712⟩, ⟨5, .q none, 65536, 0, 1180591620717411303424⟩, ⟨6, .q (some 0), 1180591620717411303424, 32, 2361183241434822606848⟩, ⟨7, .f 1 false, 2988372539940947361792, 127, 4722366482869645213696⟩, ⟨8, .q none, 4722366482869645213696, 255, 18446744073709551616⟩, ⟨9, .q none, 18446744073709551616, 511, 9444732965739290427392⟩, ⟨10, .q none, 18446744073709551616, 511, 18889465931478580854784⟩, ⟨11, .f 2 false, 9444732965739290427408, 1023, 0⟩, ⟨12, .q none, 18889465931478580854784, 4095, 131072⟩]), (20, [⟨0, .q (some 0), 16, 0, 302231454903657293676544⟩, ⟨1, .q (some 0), 16, 0, 604462909807314587353088⟩, ⟨2, .q none, 65536, 0, 1208925819614629174706176⟩, ⟨3, .q (some 0), 1208925819614629174706176, 4, 2417851639229258349412352⟩, ⟨4, .f 0 true, 3022314549036572936765440, 14, 4835703278458516698824704⟩, ⟨5, .f 1 false, 5137934733362173992501248, 31, 9671406556917033397649408⟩, ⟨6, .q none, 9671406556917033397649408, 63, 151115727451828646838272⟩, ⟨7, .q none, 151115727451828646838272, 127, 19342813113834066795298816⟩, ⟨8, .q none, 151115727451828646838272, 127, 38685626227668133590597632⟩, ⟨9, .f 2 false, 19342813113834066795298832, 255, 0⟩, ⟨10, .q none, 38685626227668133590597632, 1023, 131072⟩]), (33, [⟨0, .q (some 0), 16, 0, 21267647932558653966460912964485513216⟩, ⟨1, .q (some 0), 32, 0, 42535295865117307932921825928971026432⟩, ⟨2, .q none, 4096, 0, 85070591730234615865843651857942052864⟩, ⟨3, .f 0 true, 21267647932558653966460912964485513472, 1, 0⟩, ⟨4, .f 1 false, 42535295865117307932921825928971026944, 11, 0⟩, ⟨5, .q none, 85070591730234615865843651857942052864, 31, 1024⟩, ⟨6, .q none, 0, 63, 2048⟩])], [], [33]⟩
theorem C_change_Apply {x0 x1 x2 x3 : Value} {w : World} {R : Ending → World → Prop} (h : F_change_Apply x0 x1 x2 x3 w R) : Calls Tryz.prog 71 #[x0, x1, x2, x3] w R :=
 calls_cwp (A := A_change_Apply) (args := [x0, x1, x2, x3]) mixed Tryz.func71 (c := Tryz.f71.body.getD .skip) (by kernel_rfl) (by kernel_rfl) (by kernel_rfl) (Eq.mpr (by kernel_rfl) h)
def F_tree_clone (x0 : Value) (w : World) (R : Ending → World → Prop) : Prop :=
 m R (o_box 25 x0) w fun x1 w1 =>
 m R (o_alloc 25) w1 fun x2 w2 =>
 mj1 (fun j2 =>
 ((
 dp Tryz.prog (o_fieldAddr 25 x1 0) fun x5 =>
 dq Tryz.prog w2 (o_load 22 x5) fun x6 =>
 dp Tryz.prog (o_fieldAddr 25 x1 1) fun x8 =>
 dq Tryz.prog w2 (o_load 23 x8) fun x9 =>
 df Tryz.prog w2 (o_call (fv 110) [x6]) true fun x7 w3 =>
 df Tryz.prog w3 (o_call (fv 111) [x9]) false fun x10 w4 =>
 dp Tryz.prog (o_build 25 [(0, x7), (1, x10)]) fun x11 =>
 df Tryz.prog w4 (o_alloc 25) true fun x3 w5 =>
 df Tryz.prog w5 (o_store 25 x3 x11) false fun _ w6 =>
 dend w6 fun w7 =>
 j2 x3 w7) ∧ (
 dp Tryz.prog (o_fieldAddr 25 x1 0) fun x5 =>
 dq Tryz.prog w2 (o_load 22 x5) fun x6 =>
 dp Tryz.prog (o_fieldAddr 25 x1 1) fun x8 =>
 dq Tryz.prog w2 (o_load 23 x8) fun x9 =>
 df Tryz.prog w2 (o_call (fv 110) [x6]) true fun x7 w8 =>
 df Tryz.prog w8 (o_alloc 25) true fun x3 w9 =>
 df Tryz.prog w9 (o_call (fv 111) [x9]) false fun x10 w10 =>
 dp Tryz.prog (o_build 25 [(0, x7), (1, x10)]) fun x11 =>
 df Tryz.prog w10 (o_store 25 x3 x11) false fun _ w11 =>
 dend w11 fun w12 =>
 j2 x3 w12) ∧ (
 dp Tryz.prog (o_fieldAddr 25 x1 0) fun x5 =>
 dq Tryz.prog w2 (o_load 22 x5) fun x6 =>
 dp Tryz.prog (o_fieldAddr 25 x1 1) fun x8 =>
 dq Tryz.prog w2 (o_load 23 x8) fun x9 =>
 df Tryz.prog w2 (o_alloc 25) true fun x3 w13 =>
 df Tryz.prog w13 (o_call (fv 110) [x6]) true fun x7 w14 =>
 df Tryz.prog w14 (o_call (fv 111) [x9]) false fun x10 w15 =>
 dp Tryz.prog (o_build 25 [(0, x7), (1, x10)]) fun x11 =>
 df Tryz.prog w15 (o_store 25 x3 x11) false fun _ w16 =>
 dend w16 fun w17 =>
 j2 x3 w17))) fun x3 u2 w18 =>
 m R (o_fieldAddr 25 x3 1) w18 fun x12 w19 =>
 m R (o_load 23 x12) w19 fun x13 w20 =>
 m R (o_builtin .len #[23] 3 [false] [x13]) w20 fun x14 w21 =>
 ml1 (.int .i64 0) w21 fun x15 u3 w22 next3 =>
 m R (o_bin .lss 3 false x15 x14) w22 fun x16 w23 =>
 mif x16 (
 dp Tryz.prog (o_fieldAddr 25 x3 1) fun x18 =>
 dq Tryz.prog w23 (o_load 23 x18) fun x19 =>
 dp Tryz.prog (o_fieldAddr 25 x3 1) fun x21 =>
 dq Tryz.prog w23 (o_load 23 x21) fun x22 =>
 dp Tryz.prog (o_indexAddr 23 x22 x15) fun x24 =>
 dp Tryz.prog (o_fieldAddr 61 x24 3) fun x25 =>
 dq Tryz.prog w23 (o_load 29 x25) fun x26 =>
 df Tryz.prog w23 (o_call (fv 112) [x26]) true fun x27 w24 =>
 dp Tryz.prog (o_indexAddr 23 x19 x15) fun x28 =>
 dp Tryz.prog (o_fieldAddr 61 x28 3) fun x29 =>
 df Tryz.prog w24 (o_store 29 x29 x27) false fun _ w25 =>
 dend w25 fun w26 =>
 m R (o_bin .add 3 true x15 (.int .i64 1)) w26 fun x30 w27 =>
 next3 x30 w27) (
 m R (o_load 25 x3) w23 fun x31 w28 =>
 m R (o_store 25 x2 x31) w28 fun _ w29 =>
 rcell Tryz.prog 25 x2 w29 fun r2 =>
 R (.returned r2) w29)
def A_tree_clone : Ann := ⟨[(3, [15], 2147450896)], [(2, [3], 4072)], [(5, [⟨0, .q none, 8, 0, 262144⟩, ⟨1, .q (some 0), 262144, 1, 524288⟩, ⟨2, .q none, 16, 0, 1048576⟩, ⟨3, .q none, 8, 0, 2097152⟩, ⟨4, .q (some 0), 2097152, 8, 4194304⟩, ⟨5, .q none, 16, 0, 8388608⟩, ⟨6, .q none, 12582912, 56, 16777216⟩, ⟨7, .q none, 16777216, 120, 33554432⟩, ⟨8, .q (some 0), 33554432, 248, 67108864⟩, ⟨9, .f 0 true, 67108864, 504, 134217728⟩, ⟨10, .q none, 1572864, 1023, 268435456⟩, ⟨11, .q none, 268435456, 2047, 536870912⟩, ⟨12, .f 1 false, 671088640, 4095, 0⟩])], [(1, [⟨[0, 1, 3, 4, 2, 5, 6, 7, 8], [⟨0, .q none, 2, 0, 32⟩, ⟨1, .q (some 0), 32, 1, 64⟩, ⟨2, .f 0 true, 64, 3, 128⟩, ⟨3, .q none, 2, 0, 256⟩, ⟨4, .q (some 0), 256, 8, 512⟩, ⟨5, .f 1 false, 512, 31, 1024⟩, ⟨6, .q none, 1152, 63, 2048⟩, ⟨7, .f 2 true, 0, 0, 8⟩, ⟨8, .f 3 false, 2056, 255, 0⟩]⟩, ⟨[0, 1, 3, 4, 2, 7, 5, 6, 8], [⟨0, .q none, 2, 0, 32⟩, ⟨1, .q (some 0), 32, 1, 64⟩, ⟨2, .f 0 true, 64, 3, 128⟩, ⟨3, .q none, 2, 0, 256⟩, ⟨4, .q (some 0), 256, 8, 512⟩, ⟨5, .f 2 false, 512, 31, 1024⟩, ⟨6, .q none, 1152, 63, 2048⟩, ⟨7, .f 1 true, 0, 0, 8⟩, ⟨8, .f 3 false, 2056, 255, 0⟩]⟩, ⟨[0, 1, 3, 4, 7, 2, 5, 6, 8], [⟨0, .q none, 2, 0, 32⟩, ⟨1, .q (some 0), 32, 1, 64⟩, ⟨2, .f 1 true, 64, 3, 128⟩, ⟨3, .q none, 2, 0, 256⟩, ⟨4, .q (some 0), 256, 8, 512⟩, ⟨5, .f 2 false, 512, 31, 1024⟩, ⟨6, .q none, 1152, 63, 2048⟩, ⟨7, .f 0 true, 0, 0, 8⟩, ⟨8, .f 3 false, 2056, 255, 0⟩]⟩])], []⟩
theorem C_tree_clone {x0 : Value} {w : World} {R : Ending → World → Prop} (h : F_tree_clone x0 w R) : Calls Tryz.prog 72 #[x0] w R :=
 calls_cwp (A := A_tree_clone) (args := [x0]) mixed Tryz.func72 (c := Tryz.f72.body.getD .skip) (by kernel_rfl) (by kernel_rfl) (by kernel_rfl) (Eq.mpr (by kernel_rfl) h)
def F_slices_Index_api_Leaf_api_Leaf (x0 x1 : Value) (w : World) (R : Ending → World → Prop) : Prop :=
 m R (o_box 57 x1) w fun x3 w1 =>
 m R (o_builtin .len #[22] 3 [false] [x0]) w1 fun x7 w2 =>
 ml1 (.int .i64 0) w2 fun x8 u2 w3 next2 =>
 m R (o_bin .lss 3 false x8 x7) w3 fun x9 w4 =>
 mif x9 (
 dq Tryz.prog w4 (o_load 57 x3) fun x11 =>
 dp Tryz.prog (o_indexAddr 22 x0 x8) fun x14 =>
 dq Tryz.prog w4 (o_load 57 x14) fun x15 =>
 dp Tryz.prog (o_bin .eql 57 false x11 x15) fun x16 =>
 dend w4 fun w5 =>
 mif x16 (
 R (.returned x8) w5) (
 m R (o_bin .add 3 true x8 (.int .i64 1)) w5 fun x18 w6 =>
 next2 x18 w6)) (
 R (.returned (.int .i64 (-1))) w4)
def A_slices_Index_api_Leaf_api_Leaf : Ann := ⟨[(2, [8], 524080)], [], [(4, [⟨0, .q (some 0), 8, 0, 2048⟩, ⟨1, .q none, 1, 0, 4096⟩, ⟨2, .q none, 32, 0, 8192⟩, ⟨3, .q none, 12288, 6, 16384⟩, ⟨4, .q (some 0), 16384, 14, 32768⟩, ⟨5, .q none, 34816, 31, 65536⟩])], [], []⟩
theorem C_slices_Index_api_Leaf_api_Leaf {x0 x1 : Value} {w : World} {R : Ending → World → Prop} (h : F_slices_Index_api_Leaf_api_Leaf x0 x1 w R) : Calls Tryz.prog 73 #[x0, x1] w R :=
 calls_cwp (A := A_slices_Index_api_Leaf_api_Leaf) (args := [x0, x1]) mixed Tryz.func73 (c := Tryz.f73.body.getD .skip) (by kernel_rfl) (by kernel_rfl) (by kernel_rfl) (Eq.mpr (by kernel_rfl) h)
def F_slices_BinarySearch_int_int (x0 x1 : Value) (w : World) (R : Ending → World → Prop) : Prop :=
 m R (o_builtin .len #[29] 3 [false] [x0]) w fun x11 w1 =>
 ml2 (.int .i64 0) x11 w1 fun x7 x8 u3 w2 next3 =>
 m R (o_bin .lss 3 false x7 x8) w2 fun x15 w3 =>
 mif x15 (
 m R (o_bin .add 3 false x7 x8) w3 fun x18 w4 =>
 m R (o_conv 3 121 x18) w4 fun x19 w5 =>
 m R (o_bin .shr 121 true x19 (.int .u64 1)) w5 fun x20 w6 =>
 m R (o_conv 121 3 x20) w6 fun x21 w7 =>
 m R (o_indexAddr 29 x0 x21) w7 fun x24 w8 =>
 m R (o_load 3 x24) w8 fun x25 w9 =>
 m R (o_call (fv 115) [x25, x1]) w9 fun x27 w10 =>
 mif x27 (
 m R (o_bin .add 3 true x21 (.int .i64 1)) w10 fun x29 w11 =>
 next3 x29 x8 w11) (
 next3 x7 x21 w10)) (
 m R (o_bin .lss 3 false x7 x11) w3 fun x34 w12 =>
 mguard x34 true (fun k => m R (o_move x0) w12 k) w12 fun x36 w13 =>
 mguard x34 true (fun k => m R (o_move x7) w13 k) w13 fun x37 w14 =>
 mguard x34 true (fun k => m R (o_indexAddr 29 x36 x37) w14 k) w14 fun x38 w15 =>
 mguard x34 true (fun k => m R (o_load 3 x38) w15 k) w15 fun x39 w16 =>
 mguard x34 true (fun k => m R (o_move x1) w16 k) w16 fun x40 w17 =>
 mguard x34 true (fun k => m R (o_bin .eql 3 false x39 x40) w17 k) w17 fun x41 w18 =>
 mguard x34 true (fun k => m R (o_move x41) w18 k) w18 fun x42 w19 =>
 mguard x42 false (fun k => m R (o_move x0) w19 k) w19 fun x43 w20 =>
 mguard x42 false (fun k => m R (o_move x7) w20 k) w20 fun x44 w21 =>
 mguard x42 false (fun k => m R (o_indexAddr 29 x43 x44) w21 k) w21 fun x45 w22 =>
 mguard x42 false (fun k => m R (o_load 3 x45) w22 k) w22 fun x46 w23 =>
 mguard x42 false (fun k => m R (o_call (fv 116) [x46]) w23 k) w23 fun x47 w24 =>
 mguard x42 false (fun k => m R (o_move x47) w24 k) w24 fun x48 w25 =>
 mguard x48 true (fun k => m R (o_move x1) w25 k) w25 fun x49 w26 =>
 mguard x48 true (fun k => m R (o_call (fv 116) [x49]) w26 k) w26 fun x50 w27 =>
 mguard x42 false (fun k => m R (o_pick x48 x50 (.bool false)) w27 k) w27 fun x51 w28 =>
 mguard x34 true (fun k => m R (o_pick x42 (.bool true) x51) w28 k) w28 fun x52 w29 =>
 m R (o_pick x34 x52 (.bool false)) w29 fun x53 w30 =>
 R (.returned (.tuple #[x7, x53])) w30)
def A_slices_BinarySearch_int_int : Ann := ⟨[(3, [7, 8], 2147476352)], [], [], [], []⟩
theorem C_slices_BinarySearch_int_int {x0 x1 : Value} {w : World} {R : Ending → World → Prop} (h : F_slices_BinarySearch_int_int x0 x1 w R) : Calls Tryz.prog 75 #[x0, x1] w R :=
 calls_cwp (A := A_slices_BinarySearch_int_int) (args := [x0, x1]) mixed Tryz.func75 (c := Tryz.f75.body.getD .skip) (by kernel_rfl) (by kernel_rfl) (by kernel_rfl) (Eq.mpr (by kernel_rfl) h)
def F_slices_Insert_int_int (x0 x1 x2 : Value) (w : World) (R : Ending → World → Prop) : Prop :=
 m R (o_slice 29 x0 (some x1) none none) w fun x12 w1 =>
 m R (o_builtin .len #[29] 3 [false] [x2]) w1 fun x14 w2 =>
 m R (o_bin .eql 3 true x14 (.int .i64 0)) w2 fun x16 w3 =>
 mif x16 (
 R (.returned x0) w3) (
 m R (o_builtin .len #[29] 3 [false] [x0]) w3 fun x19 w4 =>
 m R (o_bin .eql 3 false x1 x19) w4 fun x22 w5 =>
 mif x22 (
 m R (o_builtin .append #[29, 29] 29 [false, false] [x0, x2]) w5 fun x25 w6 =>
 R (.returned x25) w6) (
 m R (o_bin .add 3 false x19 x14) w5 fun x28 w7 =>
 m R (o_builtin .cap #[29] 3 [false] [x0]) w7 fun x30 w8 =>
 m R (o_bin .gtr 3 false x28 x30) w8 fun x31 w9 =>
 mif x31 (
 m R (o_slice 29 x0 none (some x1) none) w9 fun x34 w10 =>
 m R (o_bin .add 3 false x19 x14) w10 fun x37 w11 =>
 m R (o_bin .sub 3 false x37 x1) w11 fun x39 w12 =>
 m R (o_builtin .append #[29, 3] 29 [false, false] [x34, x39]) w12 fun x40 w13 =>
 m R (o_slice 29 x40 (some x1) none none) w13 fun x43 w14 =>
 m R (o_builtin .copy #[29, 29] 3 [false, false] [x43, x2]) w14 fun x45 w15 =>
 dp Tryz.prog (o_bin .add 3 false x1 x14) fun x49 =>
 dp Tryz.prog (o_slice 29 x40 (some x49) none none) fun x50 =>
 dp Tryz.prog (o_slice 29 x0 (some x1) none none) fun x53 =>
 df Tryz.prog w15 (o_builtin .copy #[29, 29] 3 [false, false] [x50, x53]) false fun x54 w16 =>
 dend w16 fun w17 =>
 R (.returned x40) w17) (
 m R (o_bin .add 3 false x19 x14) w9 fun x59 w18 =>
 m R (o_slice 29 x0 none (some x59) none) w18 fun x60 w19 =>
 m R (o_bin .add 3 false x1 x14) w19 fun x65 w20 =>
 m R (o_slice 29 x60 (some x65) none none) w20 fun x66 w21 =>
 m R (o_call (fv 117) [x2, x66]) w21 fun x67 w22 =>
 m R (o_un .not x67) w22 fun x68 w23 =>
 mif x68 (
 dp Tryz.prog (o_bin .add 3 false x1 x14) fun x72 =>
 dp Tryz.prog (o_slice 29 x60 (some x72) none none) fun x73 =>
 dp Tryz.prog (o_slice 29 x60 (some x1) none none) fun x76 =>
 df Tryz.prog w23 (o_builtin .copy #[29, 29] 3 [false, false] [x73, x76]) false fun x77 w24 =>
 dend w24 fun w25 =>
 m R (o_slice 29 x60 (some x1) none none) w25 fun x80 w26 =>
 m R (o_builtin .copy #[29, 29] 3 [false, false] [x80, x2]) w26 fun x82 w27 =>
 R (.returned x60) w27) (
 m R (o_slice 29 x60 (some x19) none none) w23 fun x86 w28 =>
 m R (o_builtin .copy #[29, 29] 3 [false, false] [x86, x2]) w28 fun x88 w29 =>
 m R (o_slice 29 x60 (some x1) none none) w29 fun x91 w30 =>
 m R (o_call (fv 118) [x91, x14]) w30 fun x93 w31 =>
 R (.returned x60) w31))))
def A_slices_Insert_int_int : Ann := ⟨[], [], [(11, [⟨0, .q none, 512, 0, 70368744177664⟩, ⟨1, .q none, 2, 0, 140737488355328⟩, ⟨2, .q none, 128, 0, 281474976710656⟩, ⟨3, .q none, 422212465065984, 6, 562949953421312⟩, ⟨4, .q none, 633318697598976, 15, 1125899906842624⟩, ⟨5, .q none, 1, 0, 2251799813685248⟩, ⟨6, .q none, 2, 0, 4503599627370496⟩, ⟨7, .q none, 6755399441055744, 96, 9007199254740992⟩, ⟨8, .f 0 false, 10133099161583616, 255, 18014398509481984⟩]), (15, [⟨0, .q none, 1, 0, 590295810358705651712⟩, ⟨1, .q none, 2, 0, 1180591620717411303424⟩, ⟨2, .q none, 128, 0, 2361183241434822606848⟩, ⟨3, .q none, 3541774862152233910272, 6, 4722366482869645213696⟩, ⟨4, .q none, 5312662293228350865408, 15, 9444732965739290427392⟩, ⟨5, .q none, 1, 0, 18889465931478580854784⟩, ⟨6, .q none, 2, 0, 37778931862957161709568⟩, ⟨7, .q none, 56668397794435742564352, 96, 75557863725914323419136⟩, ⟨8, .f 0 false, 85002596691653613846528, 255, 151115727451828646838272⟩])], [], []⟩
theorem C_slices_Insert_int_int {x0 x1 x2 : Value} {w : World} {R : Ending → World → Prop} (h : F_slices_Insert_int_int x0 x1 x2 w R) : Calls Tryz.prog 76 #[x0, x1, x2] w R :=
 calls_cwp (A := A_slices_Insert_int_int) (args := [x0, x1, x2]) mixed Tryz.func76 (c := Tryz.f76.body.getD .skip) (by kernel_rfl) (by kernel_rfl) (by kernel_rfl) (Eq.mpr (by kernel_rfl) h)
def F_tree_none (x0 x1 : Value) (w : World) (R : Ending → World → Prop) : Prop :=
 m R (o_box 25 x0) w fun x2 w1 =>
 m R (o_bin .lss 3 true x1 (.int .i64 0)) w1 fun x6 w2 =>
 mguard x6 false (fun k => m R (o_move x1) w2 k) w2 fun x8 w3 =>
 mguard x6 false (fun k => m R (o_fieldAddr 25 x2 0) w3 k) w3 fun x9 w4 =>
 mguard x6 false (fun k => m R (o_load 22 x9) w4 k) w4 fun x10 w5 =>
 mguard x6 false (fun k => m R (o_builtin .len #[22] 3 [false] [x10]) w5 k) w5 fun x11 w6 =>
 mguard x6 false (fun k => m R (o_bin .geq 3 false x8 x11) w6 k) w6 fun x12 w7 =>
 m R (o_pick x6 (.bool true) x12) w7 fun x13 w8 =>
 mguard x13 false (fun k => m R (o_fieldAddr 25 x2 0) w8 k) w8 fun x15 w9 =>
 mguard x13 false (fun k => m R (o_load 22 x15) w9 k) w9 fun x16 w10 =>
 mguard x13 false (fun k => m R (o_move x1) w10 k) w10 fun x17 w11 =>
 mguard x13 false (fun k => m R (o_indexAddr 22 x16 x17) w11 k) w11 fun x18 w12 =>
 mguard x13 false (fun k => m R (o_fieldAddr 57 x18 0) w12 k) w12 fun x19 w13 =>
 mguard x13 false (fun k => m R (o_load 3 x19) w13 k) w13 fun x20 w14 =>
 mguard x13 false (fun k => m R (o_bin .eql 3 true x20 (.int .i64 0)) w14 k) w14 fun x21 w15 =>
 m R (o_pick x13 (.bool true) x21) w15 fun x22 w16 =>
 R (.returned x22) w16
def A_tree_none : Ann := ⟨[], [], [], [], []⟩
theorem C_tree_none {x0 x1 : Value} {w : World} {R : Ending → World → Prop} (h : F_tree_none x0 x1 w R) : Calls Tryz.prog 77 #[x0, x1] w R :=
 calls_cwp (A := A_tree_none) (args := [x0, x1]) mixed Tryz.func77 (c := Tryz.f77.body.getD .skip) (by kernel_rfl) (by kernel_rfl) (by kernel_rfl) (Eq.mpr (by kernel_rfl) h)
def F_tree_blank (x0 x1 : Value) (w : World) (R : Ending → World → Prop) : Prop :=
 m R (o_box 25 x0) w fun x2 w1 =>
 m R (o_fieldAddr 25 x2 0) w1 fun x6 w2 =>
 m R (o_load 22 x6) w2 fun x7 w3 =>
 m R (o_builtin .len #[22] 3 [false] [x7]) w3 fun x8 w4 =>
 m R (o_call (fv 74) [x8, x1]) w4 fun x10 w5 =>
 m R (o_builtin .len #[29] 3 [false] [x10]) w5 fun x11 w6 =>
 ml1 (.int .i64 0) w6 fun x12 u2 w7 next2 =>
 m R (o_bin .lss 3 false x12 x11) w7 fun x13 w8 =>
 mif x13 (
 m R (o_indexAddr 29 x10 x12) w8 fun x14 w9 =>
 m R (o_load 3 x14) w9 fun x15 w10 =>
 m R (o_fieldAddr 25 x2 1) w10 fun x16 w11 =>
 m R (o_load 23 x16) w11 fun x17 w12 =>
 m R (o_bin .quo 3 true x15 (.int .i64 2)) w12 fun x19 w13 =>
 m R (o_build 61 []) w13 fun x20 w14 =>
 m R (o_indexAddr 23 x17 x19) w14 fun x21 w15 =>
 m R (o_store 61 x21 x20) w15 fun _ w16 =>
 m R (o_bin .add 3 true x12 (.int .i64 1)) w16 fun x22 w17 =>
 next2 x22 w17) (
 R (.returned (.tuple #[])) w8)
def A_tree_blank : Ann := ⟨[(2, [12], 8384544)], [], [], [], []⟩
theorem C_tree_blank {x0 x1 : Value} {w : World} {R : Ending → World → Prop} (h : F_tree_blank x0 x1 w R) : Calls Tryz.prog 78 #[x0, x1] w R :=
 calls_cwp (A := A_tree_blank) (args := [x0, x1]) mixed Tryz.func78 (c := Tryz.f78.body.getD .skip) (by kernel_rfl) (by kernel_rfl) (by kernel_rfl) (Eq.mpr (by kernel_rfl) h)
def F_bevyref07_Leaves (x0 x1 : Value) (w : World) (R : Ending → World → Prop) : Prop :=
 m R (o_call (fv 90) [x0, x1]) w fun x12 w1 =>
 m R (o_un .not x12) w1 fun x13 w2 =>
 mif x13 (
 R (.returned (.tuple #[(.int .i64 0), (.int .i64 0)])) w2) (
 m R (o_call (fv 95) [(.int .i64 0), x0, x1, (.int .i64 (-1)), (.int .i64 (-1))]) w2 fun x17 w3 =>
 m R (o_extract x17 0) w3 fun x18 w4 =>
 m R (o_extract x17 1) w4 fun x19 w5 =>
 m R (o_extract x17 2) w5 fun x20 w6 =>
 m R (o_extract x17 3) w6 fun x21 w7 =>
 m R (o_bin .add 3 false x18 x19) w7 fun x25 w8 =>
 R (.returned (.tuple #[x18, x25])) w8)
def A_bevyref07_Leaves : Ann := ⟨[], [], [], [], []⟩
theorem C_bevyref07_Leaves {x0 x1 : Value} {w : World} {R : Ending → World → Prop} (h : F_bevyref07_Leaves x0 x1 w R) : Calls Tryz.prog 79 #[x0, x1] w R :=
 calls_cwp (A := A_bevyref07_Leaves) (args := [x0, x1]) mixed Tryz.func79 (c := Tryz.f79.body.getD .skip) (by kernel_rfl) (by kernel_rfl) (by kernel_rfl) (Eq.mpr (by kernel_rfl) h)
def F_bough_Leaves (x0 x1 : Value) (w : World) (R : Ending → World → Prop) : Prop :=
 m R (o_call (fv 83) [x0, x1]) w fun x9 w1 =>
 m R (o_un .not x9) w1 fun x10 w2 =>
 mif x10 (
 R (.returned (.tuple #[(.int .i64 0), (.int .i64 0)])) w2) (
 m R (o_call (fv 84) [x1]) w2 fun x12 w3 =>
 m R (o_bin .shl 3 true (.int .i64 1) x12) w3 fun x13 w4 =>
 m R (o_bin .add 3 true x1 (.int .i64 1)) w4 fun x15 w5 =>
 m R (o_bin .sub 3 false x15 x13) w5 fun x17 w6 =>
 m R (o_bin .quo 3 true x17 (.int .i64 2)) w6 fun x18 w7 =>
 m R (o_bin .add 3 true x1 (.int .i64 1)) w7 fun x20 w8 =>
 m R (o_bin .add 3 false x20 x13) w8 fun x22 w9 =>
 m R (o_bin .quo 3 true x22 (.int .i64 2)) w9 fun x23 w10 =>
 m R (o_builtin .min #[3, 3] 3 [false, false] [x23, x0]) w10 fun x25 w11 =>
 R (.returned (.tuple #[x18, x25])) w11)
def A_bough_Leaves : Ann := ⟨[], [], [], [], []⟩
theorem C_bough_Leaves {x0 x1 : Value} {w : World} {R : Ending → World → Prop} (h : F_bough_Leaves x0 x1 w R) : Calls Tryz.prog 80 #[x0, x1] w R :=
 calls_cwp (A := A_bough_Leaves) (args := [x0, x1]) mixed Tryz.func80 (c := Tryz.f80.body.getD .skip) (by kernel_rfl) (by kernel_rfl) (by kernel_rfl) (Eq.mpr (by kernel_rfl) h)
def F_bough_there (x0 x1 : Value) (w : World) (R : Ending → World → Prop) : Prop :=
 m R (o_bin .geq 3 true x0 (.int .i64 1)) w fun x6 w1 =>
 mguard x6 true (fun k => m R (o_move x0) w1 k) w1 fun x8 w2 =>
 mguard x6 true (fun k => m R (o_bin .leq 3 true x8 (.int .i64 64)) w2 k) w2 fun x9 w3 =>
 m R (o_pick x6 x9 (.bool false)) w3 fun x10 w4 =>
 mguard x10 true (fun k => m R (o_move x1) w4 k) w4 fun x12 w5 =>
 mguard x10 true (fun k => m R (o_bin .geq 3 true x12 (.int .i64 0)) w5 k) w5 fun x13 w6 =>
 m R (o_pick x10 x13 (.bool false)) w6 fun x14 w7 =>
 mguard x14 true (fun k => m R (o_move x1) w7 k) w7 fun x16 w8 =>
 mguard x14 true (fun k => m R (o_move x0) w8 k) w8 fun x17 w9 =>
 mguard x14 true (fun k => m R (o_bin .mul 3 true (.int .i64 2) x17) w9 k) w9 fun x18 w10 =>
 mguard x14 true (fun k => m R (o_bin .sub 3 true x18 (.int .i64 2)) w10 k) w10 fun x19 w11 =>
 mguard x14 true (fun k => m R (o_bin .leq 3 false x16 x19) w11 k) w11 fun x20 w12 =>
 m R (o_pick x14 x20 (.bool false)) w12 fun x21 w13 =>
 R (.returned x21) w13
def A_bough_there : Ann := ⟨[], [], [], [], []⟩
theorem C_bough_there {x0 x1 : Value} {w : World} {R : Ending → World → Prop} (h : F_bough_there x0 x1 w R) : Calls Tryz.prog 83 #[x0, x1] w R :=
 calls_cwp (A := A_bough_there) (args := [x0, x1]) mixed Tryz.func83 (c := Tryz.f83.body.getD .skip) (by kernel_rfl) (by kernel_rfl) (by kernel_rfl) (Eq.mpr (by kernel_rfl) h)
def F_bough_level (x0 : Value) (w : World) (R : Ending → World → Prop) : Prop :=
 ml2 x0 (.int .i64 0) w fun x0 x3 u2 w1 next2 =>
 m R (o_bin .and 3 true x0 (.int .i64 1)) w1 fun x5 w2 =>
 m R (o_bin .eql 3 true x5 (.int .i64 1)) w2 fun x6 w3 =>
 mif x6 (
 m R (o_bin .shr 3 true x0 (.int .u64 1)) w3 fun x8 w4 =>
 m R (o_bin .add 3 true x3 (.int .i64 1)) w4 fun x10 w5 =>
 next2 x8 x10 w5) (
 R (.returned x3) w3)
def A_bough_level : Ann := ⟨[(2, [0, 3], 2041)], [], [], [], []⟩
theorem C_bough_level {x0 : Value} {w : World} {R : Ending → World → Prop} (h : F_bough_level x0 w R) : Calls Tryz.prog 84 #[x0] w R :=
 calls_cwp (A := A_bough_level) (args := [x0]) mixed Tryz.func84 (c := Tryz.f84.body.getD .skip) (by kernel_rfl) (by kernel_rfl) (by kernel_rfl) (Eq.mpr (by kernel_rfl) h)
def F_sha_rounds (w : World) (R : Ending → World → Prop) : Prop :=
 m R (o_alloc 127) w fun x0 w1 =>
 m R (o_build 127 [(0, (.int .u32 1116352408)), (1, (.int .u32 1899447441)), (2, (.int .u32 3049323471)), (3, (.int .u32 3921009573)), (4, (.int .u32 961987163)), (5, (.int .u32 1508970993)), (6, (.int .u32 2453635748)), (7, (.int .u32 2870763221)), (8, (.int .u32 3624381080)), (9, (.int .u32 310598401)), (10, (.int .u32 607225278)), (11, (.int .u32 1426881987)), (12, (.int .u32 1925078388)), (13, (.int .u32 2162078206)), (14, (.int .u32 2614888103)), (15, (.int .u32 3248222580)), (16, (.int .u32 3835390401)), (17, (.int .u32 4022224774)), (18, (.int .u32 264347078)), (19, (.int .u32 604807628)), (20, (.int .u32 770255983)), (21, (.int .u32 1249150122)), (22, (.int .u32 1555081692)), (23, (.int .u32 1996064986)), (24, (.int .u32 2554220882)), (25, (.int .u32 2821834349)), (26, (.int .u32 2952996808)), (27, (.int .u32 3210313671)), (28, (.int .u32 3336571891)), (29, (.int .u32 3584528711)), (30, (.int .u32 113926993)), (31, (.int .u32 338241895)), (32, (.int .u32 666307205)), (33, (.int .u32 773529912)), (34, (.int .u32 1294757372)), (35, (.int .u32 1396182291)), (36, (.int .u32 1695183700)), (37, (.int .u32 1986661051)), (38, (.int .u32 2177026350)), (39, (.int .u32 2456956037)), (40, (.int .u32 2730485921)), (41, (.int .u32 2820302411)), (42, (.int .u32 3259730800)), (43, (.int .u32 3345764771)), (44, (.int .u32 3516065817)), (45, (.int .u32 3600352804)), (46, (.int .u32 4094571909)), (47, (.int .u32 275423344)), (48, (.int .u32 430227734)), (49, (.int .u32 506948616)), (50, (.int .u32 659060556)), (51, (.int .u32 883997877)), (52, (.int .u32 958139571)), (53, (.int .u32 1322822218)), (54, (.int .u32 1537002063)), (55, (.int .u32 1747873779)), (56, (.int .u32 1955562222)), (57, (.int .u32 2024104815)), (58, (.int .u32 2227730452)), (59, (.int .u32 2361852424)), (60, (.int .u32 2428436474)), (61, (.int .u32 2756734187)), (62, (.int .u32 3204031479)), (63, (.int .u32 3329325298))]) w1 fun x1 w2 =>
 m R (o_store 127 x0 x1) w2 fun _ w3 =>
 rcell Tryz.prog 127 x0 w3 fun r0 =>
 R (.returned r0) w3
def A_sha_rounds : Ann := ⟨[], [], [], [], []⟩
theorem C_sha_rounds {w : World} {R : Ending → World → Prop} (h : F_sha_rounds w R) : Calls Tryz.prog 85 #[] w R :=
 calls_cwp (A := A_sha_rounds) (args := []) mixed Tryz.func85 (c := Tryz.f85.body.getD .skip) (by kernel_rfl) (by kernel_rfl) (by kernel_rfl) (Eq.mpr (by kernel_rfl) h)
def F_sha_state_put (x0 x1 : Value) (w : World) (R : Ending → World → Prop) : Prop :=
 ml1 x1 w fun x1 u0 w1 next0 =>
 m R (o_builtin .len #[9] 3 [false] [x1]) w1 fun x6 w2 =>
 m R (o_bin .gtr 3 true x6 (.int .i64 0)) w2 fun x7 w3 =>
 mif x7 (
 dp Tryz.prog (o_nilCheck x0) fun x9 =>
 dp Tryz.prog (o_fieldAddr 131 x9 1) fun x10 =>
 dp Tryz.prog (o_nilCheck x0) fun x12 =>
 dp Tryz.prog (o_fieldAddr 131 x12 2) fun x13 =>
 dq Tryz.prog w3 (o_load 3 x13) fun x14 =>
 dp Tryz.prog (o_bin .rem 3 true x14 (.int .i64 64)) fun x15 =>
 dp Tryz.prog (o_slice 129 x10 (some x15) none none) fun x16 =>
 df Tryz.prog w3 (o_builtin .copy #[135, 9] 3 [false, false] [x16, x1]) false fun x18 w4 =>
 dend w4 fun w5 =>
 m R (o_slice 9 x1 (some x18) none none) w5 fun x21 w6 =>
 m R (o_nilCheck x0) w6 fun x23 w7 =>
 m R (o_fieldAddr 131 x23 2) w7 fun x24 w8 =>
 m R (o_load 3 x24) w8 fun x25 w9 =>
 m R (o_bin .add 3 false x25 x18) w9 fun x27 w10 =>
 m R (o_nilCheck x0) w10 fun x28 w11 =>
 m R (o_fieldAddr 131 x28 2) w11 fun x29 w12 =>
 m R (o_store 3 x29 x27) w12 fun _ w13 =>
 m R (o_nilCheck x0) w13 fun x31 w14 =>
 m R (o_fieldAddr 131 x31 2) w14 fun x32 w15 =>
 m R (o_load 3 x32) w15 fun x33 w16 =>
 m R (o_bin .rem 3 true x33 (.int .i64 64)) w16 fun x34 w17 =>
 m R (o_bin .eql 3 true x34 (.int .i64 0)) w17 fun x35 w18 =>
 mif x35 (
 m R (o_call (fv 129) [x0]) w18 fun x37 w19 =>
 next0 x21 w19) (
 next0 x21 w18)) (
 R (.returned (.tuple #[])) w3)
def A_sha_state_put : Ann := ⟨[(0, [1], 274877906930)], [], [(1, [⟨0, .q none, 1, 0, 256⟩, ⟨1, .q none, 256, 1, 512⟩, ⟨2, .q none, 512, 3, 1024⟩, ⟨3, .q none, 1, 0, 2048⟩, ⟨4, .q none, 2048, 8, 4096⟩, ⟨5, .q none, 4096, 24, 8192⟩, ⟨6, .q (some 0), 8192, 56, 16384⟩, ⟨7, .q none, 16384, 120, 32768⟩, ⟨8, .q none, 33792, 255, 65536⟩, ⟨9, .q none, 2, 0, 131072⟩, ⟨10, .f 0 false, 196608, 1023, 262144⟩, ⟨11, .q none, 262144, 2047, 16⟩])], [], []⟩
theorem C_sha_state_put {x0 x1 : Value} {w : World} {R : Ending → World → Prop} (h : F_sha_state_put x0 x1 w R) : Calls Tryz.prog 86 #[x0, x1] w R :=
 calls_cwp (A := A_sha_state_put) (args := [x0, x1]) mixed Tryz.func86 (c := Tryz.f86.body.getD .skip) (by kernel_rfl) (by kernel_rfl) (by kernel_rfl) (Eq.mpr (by kernel_rfl) h)
def F_wire_Writer_Hash (x0 x1 : Value) (w : World) (R : Ending → World → Prop) : Prop :=
 m R (o_box 33 x1) w fun x3 w1 =>
 m R (o_bin .neq 74 true x0 (.pointer none)) w1 fun x5 w2 =>
 mif x5 (
 dp Tryz.prog (o_nilCheck x0) fun x8 =>
 dp Tryz.prog (o_fieldAddr 140 x8 0) fun x9 =>
 dq Tryz.prog w2 (o_load 135 x9) fun x10 =>
 dp Tryz.prog (o_slice 33 x3 none none none) fun x11 =>
 df Tryz.prog w2 (o_builtin .append #[135, 135] 135 [false, false] [x10, x11]) false fun x12 w3 =>
 dp Tryz.prog (o_nilCheck x0) fun x13 =>
 dp Tryz.prog (o_fieldAddr 140 x13 0) fun x14 =>
 df Tryz.prog w3 (o_store 135 x14 x12) false fun _ w4 =>
 dend w4 fun w5 =>
 R (.returned (.tuple #[])) w5) (
 R (.returned (.tuple #[])) w2)
def A_wire_Writer_Hash : Ann := ⟨[], [], [(2, [⟨0, .q none, 1, 0, 64⟩, ⟨1, .q none, 1, 0, 128⟩, ⟨2, .q none, 128, 2, 256⟩, ⟨3, .q none, 256, 6, 512⟩, ⟨4, .q (some 0), 512, 14, 1024⟩, ⟨5, .q none, 8, 0, 2048⟩, ⟨6, .f 0 false, 3072, 62, 4096⟩, ⟨7, .q none, 64, 127, 8192⟩, ⟨8, .q none, 8192, 255, 16384⟩, ⟨9, .f 1 false, 20480, 511, 0⟩])], [], []⟩
theorem C_wire_Writer_Hash {x0 x1 : Value} {w : World} {R : Ending → World → Prop} (h : F_wire_Writer_Hash x0 x1 w R) : Calls Tryz.prog 87 #[x0, x1] w R :=
 calls_cwp (A := A_wire_Writer_Hash) (args := [x0, x1]) mixed Tryz.func87 (c := Tryz.f87.body.getD .skip) (by kernel_rfl) (by kernel_rfl) (by kernel_rfl) (Eq.mpr (by kernel_rfl) h)
def F_bevyref02_word (x0 x1 : Value) (w : World) (R : Ending → World → Prop) : Prop :=
 dp Tryz.prog (o_indexAddr 135 x0 x1) fun x7 =>
 dq Tryz.prog w (o_load 5 x7) fun x8 =>
 dp Tryz.prog (o_conv 5 125 x8) fun x9 =>
 dp Tryz.prog (o_bin .shl 125 true x9 (.int .u64 24)) fun x10 =>
 dp Tryz.prog (o_bin .add 3 true x1 (.int .i64 1)) fun x13 =>
 dp Tryz.prog (o_indexAddr 135 x0 x13) fun x14 =>
 dq Tryz.prog w (o_load 5 x14) fun x15 =>
 dp Tryz.prog (o_conv 5 125 x15) fun x16 =>
 dp Tryz.prog (o_bin .shl 125 true x16 (.int .u64 16)) fun x17 =>
 dp Tryz.prog (o_bin .or 125 false x10 x17) fun x18 =>
 dp Tryz.prog (o_bin .add 3 true x1 (.int .i64 2)) fun x21 =>
 dp Tryz.prog (o_indexAddr 135 x0 x21) fun x22 =>
 dq Tryz.prog w (o_load 5 x22) fun x23 =>
 dp Tryz.prog (o_conv 5 125 x23) fun x24 =>
 dp Tryz.prog (o_bin .shl 125 true x24 (.int .u64 8)) fun x25 =>
 dp Tryz.prog (o_bin .or 125 false x18 x25) fun x26 =>
 dp Tryz.prog (o_bin .add 3 true x1 (.int .i64 3)) fun x29 =>
 dp Tryz.prog (o_indexAddr 135 x0 x29) fun x30 =>
 dq Tryz.prog w (o_load 5 x30) fun x31 =>
 dp Tryz.prog (o_conv 5 125 x31) fun x32 =>
 dp Tryz.prog (o_bin .or 125 false x26 x32) fun x33 =>
 dend w fun w1 =>
 R (.returned x33) w1
def A_bevyref02_word : Ann := ⟨[], [], [(1, [⟨0, .q none, 1, 0, 32⟩, ⟨1, .q none, 2, 0, 64⟩, ⟨2, .q none, 96, 3, 128⟩, ⟨3, .q (some 0), 128, 7, 256⟩, ⟨4, .q none, 256, 15, 512⟩, ⟨5, .q none, 512, 31, 1024⟩, ⟨6, .q none, 1, 0, 2048⟩, ⟨7, .q none, 2, 0, 4096⟩, ⟨8, .q none, 4096, 128, 8192⟩, ⟨9, .q none, 10240, 448, 16384⟩, ⟨10, .q (some 0), 16384, 960, 32768⟩, ⟨11, .q none, 32768, 1984, 65536⟩, ⟨12, .q none, 65536, 4032, 131072⟩, ⟨13, .q none, 132096, 8191, 262144⟩, ⟨14, .q none, 1, 0, 524288⟩, ⟨15, .q none, 2, 0, 1048576⟩, ⟨16, .q none, 1048576, 32768, 2097152⟩, ⟨17, .q none, 2621440, 114688, 4194304⟩, ⟨18, .q (some 0), 4194304, 245760, 8388608⟩, ⟨19, .q none, 8388608, 507904, 16777216⟩, ⟨20, .q none, 16777216, 1032192, 33554432⟩, ⟨21, .q none, 33816576, 2097151, 67108864⟩, ⟨22, .q none, 1, 0, 134217728⟩, ⟨23, .q none, 2, 0, 268435456⟩, ⟨24, .q none, 268435456, 8388608, 536870912⟩, ⟨25, .q none, 671088640, 29360128, 1073741824⟩, ⟨26, .q (some 0), 1073741824, 62914560, 2147483648⟩, ⟨27, .q none, 2147483648, 130023424, 4294967296⟩, ⟨28, .q none, 4362076160, 268435455, 8589934592⟩, ⟨29, .q none, 8589934592, 536870911, 16⟩])], [], []⟩
theorem C_bevyref02_word {x0 x1 : Value} {w : World} {R : Ending → World → Prop} (h : F_bevyref02_word x0 x1 w R) : Calls Tryz.prog 88 #[x0, x1] w R :=
 calls_cwp (A := A_bevyref02_word) (args := [x0, x1]) mixed Tryz.func88 (c := Tryz.f88.body.getD .skip) (by kernel_rfl) (by kernel_rfl) (by kernel_rfl) (Eq.mpr (by kernel_rfl) h)
def F_bevyref02_turned (x0 x1 : Value) (w : World) (R : Ending → World → Prop) : Prop :=
 m R (o_bin .shr 125 false x0 x1) w fun x7 w1 =>
 m R (o_bin .sub 121 true (.int .u64 32) x1) w1 fun x10 w2 =>
 m R (o_bin .shl 125 false x0 x10) w2 fun x11 w3 =>
 m R (o_bin .or 125 false x7 x11) w3 fun x12 w4 =>
 R (.returned x12) w4
def A_bevyref02_turned : Ann := ⟨[], [], [], [], []⟩
theorem C_bevyref02_turned {x0 x1 : Value} {w : World} {R : Ending → World → Prop} (h : F_bevyref02_turned x0 x1 w R) : Calls Tryz.prog 89 #[x0, x1] w R :=
 calls_cwp (A := A_bevyref02_turned) (args := [x0, x1]) mixed Tryz.func89 (c := Tryz.f89.body.getD .skip) (by kernel_rfl) (by kernel_rfl) (by kernel_rfl) (Eq.mpr (by kernel_rfl) h)
def F_bevyref07_There (x0 x1 : Value) (w : World) (R : Ending → World → Prop) : Prop :=
 m R (o_bin .geq 3 true x0 (.int .i64 1)) w fun x6 w1 =>
 mguard x6 true (fun k => m R (o_move x0) w1 k) w1 fun x8 w2 =>
 mguard x6 true (fun k => m R (o_bin .leq 3 true x8 (.int .i64 64)) w2 k) w2 fun x9 w3 =>
 m R (o_pick x6 x9 (.bool false)) w3 fun x10 w4 =>
 mguard x10 true (fun k => m R (o_move x1) w4 k) w4 fun x12 w5 =>
 mguard x10 true (fun k => m R (o_bin .geq 3 true x12 (.int .i64 0)) w5 k) w5 fun x13 w6 =>
 m R (o_pick x10 x13 (.bool false)) w6 fun x14 w7 =>
 mguard x14 true (fun k => m R (o_move x1) w7 k) w7 fun x16 w8 =>
 mguard x14 true (fun k => m R (o_move x0) w8 k) w8 fun x17 w9 =>
 mguard x14 true (fun k => m R (o_bin .mul 3 true (.int .i64 2) x17) w9 k) w9 fun x18 w10 =>
 mguard x14 true (fun k => m R (o_bin .sub 3 true x18 (.int .i64 2)) w10 k) w10 fun x19 w11 =>
 mguard x14 true (fun k => m R (o_bin .leq 3 false x16 x19) w11 k) w11 fun x20 w12 =>
 m R (o_pick x14 x20 (.bool false)) w12 fun x21 w13 =>
 R (.returned x21) w13
def A_bevyref07_There : Ann := ⟨[], [], [], [], []⟩
theorem C_bevyref07_There {x0 x1 : Value} {w : World} {R : Ending → World → Prop} (h : F_bevyref07_There x0 x1 w R) : Calls Tryz.prog 90 #[x0, x1] w R :=
 calls_cwp (A := A_bevyref07_There) (args := [x0, x1]) mixed Tryz.func90 (c := Tryz.f90.body.getD .skip) (by kernel_rfl) (by kernel_rfl) (by kernel_rfl) (Eq.mpr (by kernel_rfl) h)
def F_bevyref07_root (x0 x1 : Value) (w : World) (R : Ending → World → Prop) : Prop :=
 m R (o_bin .eql 3 true x1 (.int .i64 1)) w fun x6 w1 =>
 mif x6 (
 m R (o_bin .mul 3 true (.int .i64 2) x0) w1 fun x8 w2 =>
 R (.returned x8) w2) (
 m R (o_call (fv 96) [x1]) w1 fun x11 w3 =>
 m R (o_bin .add 3 false x0 x11) w3 fun x12 w4 =>
 m R (o_bin .mul 3 true (.int .i64 2) x12) w4 fun x13 w5 =>
 m R (o_bin .sub 3 true x13 (.int .i64 1)) w5 fun x14 w6 =>
 R (.returned x14) w6)
def A_bevyref07_root : Ann := ⟨[], [], [], [], []⟩
theorem C_bevyref07_root {x0 x1 : Value} {w : World} {R : Ending → World → Prop} (h : F_bevyref07_root x0 x1 w R) : Calls Tryz.prog 91 #[x0, x1] w R :=
 calls_cwp (A := A_bevyref07_root) (args := [x0, x1]) mixed Tryz.func91 (c := Tryz.f91.body.getD .skip) (by kernel_rfl) (by kernel_rfl) (by kernel_rfl) (Eq.mpr (by kernel_rfl) h)
def F_wire_bounds (w : World) (R : Ending → World → Prop) : Prop :=
 m R (o_alloc 141) w fun x0 w1 =>
 m R (o_build 141 [(0, (.int .i64 64)), (1, (.int .i64 16384)), (2, (.int .i64 1073741824)), (3, (.int .i64 4611686018427387903))]) w1 fun x1 w2 =>
 m R (o_store 141 x0 x1) w2 fun _ w3 =>
 rcell Tryz.prog 141 x0 w3 fun r0 =>
 R (.returned r0) w3
def A_wire_bounds : Ann := ⟨[], [], [], [], []⟩
theorem C_wire_bounds {w : World} {R : Ending → World → Prop} (h : F_wire_bounds w R) : Calls Tryz.prog 92 #[] w R :=
 calls_cwp (A := A_wire_bounds) (args := []) mixed Tryz.func92 (c := Tryz.f92.body.getD .skip) (by kernel_rfl) (by kernel_rfl) (by kernel_rfl) (Eq.mpr (by kernel_rfl) h)
def F_bevyref07_find (x0 x1 x2 x3 x4 : Value) (w : World) (R : Ending → World → Prop) : Prop :=
 m R (o_call (fv 91) [x0, x1]) w fun x20 w1 =>
 m R (o_bin .eql 3 false x20 x2) w1 fun x23 w2 =>
 mif x23 (
 R (.returned (.tuple #[x0, x1, x3, x4])) w2) (
 m R (o_call (fv 96) [x1]) w2 fun x29 w3 =>
 m R (o_call (fv 91) [x0, x29]) w3 fun x32 w4 =>
 m R (o_bin .add 3 false x0 x29) w4 fun x35 w5 =>
 m R (o_bin .sub 3 false x1 x29) w5 fun x38 w6 =>
 m R (o_call (fv 91) [x35, x38]) w6 fun x39 w7 =>
 m R (o_bin .lss 3 false x2 x20) w7 fun x42 w8 =>
 mif x42 (
 m R (o_call (fv 95) [x0, x29, x2, x20, x39]) w8 fun x48 w9 =>
 m R (o_extract x48 0) w9 fun x49 w10 =>
 m R (o_extract x48 1) w10 fun x50 w11 =>
 m R (o_extract x48 2) w11 fun x51 w12 =>
 m R (o_extract x48 3) w12 fun x52 w13 =>
 R (.returned (.tuple #[x49, x50, x51, x52])) w13) (
 m R (o_bin .add 3 false x0 x29) w8 fun x55 w14 =>
 m R (o_bin .sub 3 false x1 x29) w14 fun x58 w15 =>
 m R (o_call (fv 95) [x55, x58, x2, x20, x32]) w15 fun x62 w16 =>
 m R (o_extract x62 0) w16 fun x63 w17 =>
 m R (o_extract x62 1) w17 fun x64 w18 =>
 m R (o_extract x62 2) w18 fun x65 w19 =>
 m R (o_extract x62 3) w19 fun x66 w20 =>
 R (.returned (.tuple #[x63, x64, x65, x66])) w20))
def A_bevyref07_find : Ann := ⟨[], [], [], [], []⟩
theorem C_bevyref07_find {x0 x1 x2 x3 x4 : Value} {w : World} {R : Ending → World → Prop} (h : F_bevyref07_find x0 x1 x2 x3 x4 w R) : Calls Tryz.prog 95 #[x0, x1, x2, x3, x4] w R :=
 calls_cwp (A := A_bevyref07_find) (args := [x0, x1, x2, x3, x4]) mixed Tryz.func95 (c := Tryz.f95.body.getD .skip) (by kernel_rfl) (by kernel_rfl) (by kernel_rfl) (Eq.mpr (by kernel_rfl) h)
def F_bevyref07_half (x0 : Value) (w : World) (R : Ending → World → Prop) : Prop :=
 ml1 (.int .i64 1) w fun x3 u2 w1 next2 =>
 m R (o_bin .mul 3 true (.int .i64 2) x3) w1 fun x5 w2 =>
 m R (o_bin .lss 3 false x5 x0) w2 fun x7 w3 =>
 mif x7 (
 m R (o_bin .mul 3 true (.int .i64 2) x3) w3 fun x9 w4 =>
 next2 x9 w4) (
 R (.returned x3) w3)
def A_bevyref07_half : Ann := ⟨[(2, [3], 1016)], [], [], [], []⟩
theorem C_bevyref07_half {x0 : Value} {w : World} {R : Ending → World → Prop} (h : F_bevyref07_half x0 w R) : Calls Tryz.prog 96 #[x0] w R :=
 calls_cwp (A := A_bevyref07_half) (args := [x0]) mixed Tryz.func96 (c := Tryz.f96.body.getD .skip) (by kernel_rfl) (by kernel_rfl) (by kernel_rfl) (Eq.mpr (by kernel_rfl) h)
def F_change_rank (x0 : Value) (w : World) (R : Ending → World → Prop) : Prop :=
 m R (o_bin .eql 3 true x0 (.int .i64 2)) w fun x5 w1 =>
 mif x5 (
 R (.returned (.int .i64 0)) w1) (
 m R (o_bin .eql 3 true x0 (.int .i64 3)) w1 fun x7 w2 =>
 mif x7 (
 R (.returned (.int .i64 1)) w2) (
 m R (o_bin .eql 3 true x0 (.int .i64 1)) w2 fun x9 w3 =>
 mif x9 (
 R (.returned (.int .i64 2)) w3) (
 R (.returned (.int .i64 3)) w3)))
def A_change_rank : Ann := ⟨[], [], [], [], []⟩
theorem C_change_rank {x0 : Value} {w : World} {R : Ending → World → Prop} (h : F_change_rank x0 w R) : Calls Tryz.prog 97 #[x0] w R :=
 calls_cwp (A := A_change_rank) (args := [x0]) mixed Tryz.func97 (c := Tryz.f97.body.getD .skip) (by kernel_rfl) (by kernel_rfl) (by kernel_rfl) (Eq.mpr (by kernel_rfl) h)
def F_prim_Check (x0 x1 x2 : Value) (w : World) (R : Ending → World → Prop) : Prop :=
 m R (o_box 33 x0) w fun x3 w1 =>
 m R (o_box 33 x2) w1 fun x5 w2 =>
 dq Tryz.prog w2 (o_load 33 x3) fun x7 =>
 df Tryz.prog w2 (o_call (fv 130) [x7, x1]) true fun x9 w3 =>
 dq Tryz.prog w2 (o_load 33 x5) fun x10 =>
 dp Tryz.prog (o_bin .eql 33 false x9 x10) fun x11 =>
 dend w3 fun w4 =>
 R (.returned x11) w4
def A_prim_Check : Ann := ⟨[], [], [(1, [⟨0, .q (some 0), 8, 0, 128⟩, ⟨1, .q none, 2, 0, 256⟩, ⟨2, .f 0 true, 384, 3, 512⟩, ⟨3, .q (some 0), 32, 0, 1024⟩, ⟨4, .q none, 1536, 15, 2048⟩, ⟨5, .q none, 2048, 31, 64⟩])], [], []⟩
theorem C_prim_Check {x0 x1 x2 : Value} {w : World} {R : Ending → World → Prop} (h : F_prim_Check x0 x1 x2 w R) : Calls Tryz.prog 98 #[x0, x1, x2] w R :=
 calls_cwp (A := A_prim_Check) (args := [x0, x1, x2]) mixed Tryz.func98 (c := Tryz.f98.body.getD .skip) (by kernel_rfl) (by kernel_rfl) (by kernel_rfl) (Eq.mpr (by kernel_rfl) h)
def F_change_text (x0 : Value) (w : World) (R : Ending → World → Prop) : Prop :=
 m R (o_box 87 x0) w fun x1 w1 =>
 m R (o_call (fv 45) []) w1 fun x8 w2 =>
 m R (o_fieldAddr 87 x1 0) w2 fun x10 w3 =>
 m R (o_load 33 x10) w3 fun x11 w4 =>
 m R (o_call (fv 87) [x8, x11]) w4 fun x12 w5 =>
 m R (o_fieldAddr 87 x1 1) w5 fun x13 w6 =>
 m R (o_load 3 x13) w6 fun x14 w7 =>
 m R (o_fieldAddr 87 x1 2) w7 fun x15 w8 =>
 m R (o_load 3 x15) w8 fun x16 w9 =>
 m R (o_fieldAddr 87 x1 3) w9 fun x17 w10 =>
 m R (o_load 3 x17) w10 fun x18 w11 =>
 m R (o_fieldAddr 87 x1 4) w11 fun x19 w12 =>
 m R (o_fieldAddr 85 x19 0) w12 fun x20 w13 =>
 m R (o_load 3 x20) w13 fun x21 w14 =>
 m R (o_fieldAddr 87 x1 4) w14 fun x22 w15 =>
 m R (o_fieldAddr 85 x22 1) w15 fun x23 w16 =>
 m R (o_load 3 x23) w16 fun x24 w17 =>
 m R (o_build 176 [(0, x14), (1, x16), (2, x18), (3, x21), (4, x24)]) w17 fun x25 w18 =>
 ml1 (.int .i64 0) w18 fun x26 u4 w19 next4 =>
 m R (o_bin .lss 3 true x26 (.int .i64 5)) w19 fun x27 w20 =>
 mif x27 (
 m R (o_index 176 x25 x26) w20 fun x28 w21 =>
 m R (o_call (fv 46) [x8, x28]) w21 fun x31 w22 =>
 m R (o_bin .add 3 true x26 (.int .i64 1)) w22 fun x32 w23 =>
 next4 x32 w23) (
 m R (o_fieldAddr 87 x1 4) w20 fun x34 w24 =>
 m R (o_fieldAddr 85 x34 2) w24 fun x35 w25 =>
 m R (o_load 33 x35) w25 fun x36 w26 =>
 m R (o_call (fv 87) [x8, x36]) w26 fun x37 w27 =>
 m R (o_call (fv 49) [x8]) w27 fun x40 w28 =>
 m R (o_extract x40 0) w28 fun x41 w29 =>
 m R (o_extract x40 1) w29 fun x42 w30 =>
 R (.returned x41) w30)
def A_change_text : Ann := ⟨[(4, [26], 8522825760)], [], [], [], []⟩
theorem C_change_text {x0 : Value} {w : World} {R : Ending → World → Prop} (h : F_change_text x0 w R) : Calls Tryz.prog 99 #[x0] w R :=
 calls_cwp (A := A_change_text) (args := [x0]) mixed Tryz.func99 (c := Tryz.f99.body.getD .skip) (by kernel_rfl) (by kernel_rfl) (by kernel_rfl) (Eq.mpr (by kernel_rfl) h)
def F_prim_Sign (x0 x1 : Value) (w : World) (R : Ending → World → Prop) : Prop :=
 m R (o_box 33 x0) w fun x2 w1 =>
 m R (o_alloc 33) w1 fun x4 w2 =>
 m R (o_load 33 x2) w2 fun x5 w3 =>
 m R (o_call (fv 131) [x5]) w3 fun x6 w4 =>
 m R (o_call (fv 130) [x6, x1]) w4 fun x8 w5 =>
 m R (o_store 33 x4 x8) w5 fun _ w6 =>
 rcell Tryz.prog 33 x4 w6 fun r4 =>
 R (.returned r4) w6
def A_prim_Sign : Ann := ⟨[], [], [], [], []⟩
theorem C_prim_Sign {x0 x1 : Value} {w : World} {R : Ending → World → Prop} (h : F_prim_Sign x0 x1 w R) : Calls Tryz.prog 100 #[x0, x1] w R :=
 calls_cwp (A := A_prim_Sign) (args := [x0, x1]) mixed Tryz.func100 (c := Tryz.f100.body.getD .skip) (by kernel_rfl) (by kernel_rfl) (by kernel_rfl) (Eq.mpr (by kernel_rfl) h)
def F_bevyref05_Verify (x0 : Value) (w : World) (R : Ending → World → Prop) : Prop :=
 m R (o_box 32 x0) w fun x1 w1 =>
 m R (o_alloc 32) w1 fun x2 w2 =>
 m R (o_load 32 x1) w2 fun x3 w3 =>
 m R (o_call (fv 132) [x3]) w3 fun x4 w4 =>
 m R (o_bin .add 9 true (.string (ByteArray.mk #[118, 101, 114])) x4) w4 fun x5 w5 =>
 m R (o_call (fv 43) [x5]) w5 fun x6 w6 =>
 m R (o_store 32 x2 x6) w6 fun _ w7 =>
 rcell Tryz.prog 32 x2 w7 fun r2 =>
 R (.returned r2) w7
def A_bevyref05_Verify : Ann := ⟨[], [], [], [], []⟩
theorem C_bevyref05_Verify {x0 : Value} {w : World} {R : Ending → World → Prop} (h : F_bevyref05_Verify x0 w R) : Calls Tryz.prog 101 #[x0] w R :=
 calls_cwp (A := A_bevyref05_Verify) (args := [x0]) mixed Tryz.func101 (c := Tryz.f101.body.getD .skip) (by kernel_rfl) (by kernel_rfl) (by kernel_rfl) (Eq.mpr (by kernel_rfl) h)
def F_change_named (x0 : Value) (w : World) (R : Ending → World → Prop) : Prop :=
 m R (o_bin .geq 3 true x0 (.int .i64 1)) w fun x4 w1 =>
 mguard x4 true (fun k => m R (o_move x0) w1 k) w1 fun x6 w2 =>
 mguard x4 true (fun k => m R (o_bin .leq 3 true x6 (.int .i64 64)) w2 k) w2 fun x7 w3 =>
 m R (o_pick x4 x7 (.bool false)) w3 fun x8 w4 =>
 R (.returned x8) w4
def A_change_named : Ann := ⟨[], [], [], [], []⟩
theorem C_change_named {x0 : Value} {w : World} {R : Ending → World → Prop} (h : F_change_named x0 w R) : Calls Tryz.prog 102 #[x0] w R :=
 calls_cwp (A := A_change_named) (args := [x0]) mixed Tryz.func102 (c := Tryz.f102.body.getD .skip) (by kernel_rfl) (by kernel_rfl) (by kernel_rfl) (Eq.mpr (by kernel_rfl) h)
end Go.Proofs.YtopcnkejobomaaaGreat
