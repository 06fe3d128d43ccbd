/- Part 3 of the proof. -/
import Derived.Test.YtpjodlnlmaaihaaGreatPk2
import Derived.OpenShut
set_option linter.unusedVariables false
set_option linter.unusedVariables false
namespace Go.Proofs.YtpjodlnlmaaihaaGreat
def F_bevyref02_Sum (x0 : Value) (w : World) (R : Ending → World → Prop) : Prop :=
 m R (o_alloc 33) w fun x2 w1 =>
 m R (o_build 160 [(0, (.int .u32 1116352408)), (1, (.int .u32 1899447441)), (2, (.int .u32 3049323471)), (3, (.int .u32 3921009573)), (4, (.int .u32 961987163)), (5, (.int .u32 1508970993)), (6, (.int .u32 2453635748)), (7, (.int .u32 2870763221)), (8, (.int .u32 3624381080)), (9, (.int .u32 310598401)), (10, (.int .u32 607225278)), (11, (.int .u32 1426881987)), (12, (.int .u32 1925078388)), (13, (.int .u32 2162078206)), (14, (.int .u32 2614888103)), (15, (.int .u32 3248222580)), (16, (.int .u32 3835390401)), (17, (.int .u32 4022224774)), (18, (.int .u32 264347078)), (19, (.int .u32 604807628)), (20, (.int .u32 770255983)), (21, (.int .u32 1249150122)), (22, (.int .u32 1555081692)), (23, (.int .u32 1996064986)), (24, (.int .u32 2554220882)), (25, (.int .u32 2821834349)), (26, (.int .u32 2952996808)), (27, (.int .u32 3210313671)), (28, (.int .u32 3336571891)), (29, (.int .u32 3584528711)), (30, (.int .u32 113926993)), (31, (.int .u32 338241895)), (32, (.int .u32 666307205)), (33, (.int .u32 773529912)), (34, (.int .u32 1294757372)), (35, (.int .u32 1396182291)), (36, (.int .u32 1695183700)), (37, (.int .u32 1986661051)), (38, (.int .u32 2177026350)), (39, (.int .u32 2456956037)), (40, (.int .u32 2730485921)), (41, (.int .u32 2820302411)), (42, (.int .u32 3259730800)), (43, (.int .u32 3345764771)), (44, (.int .u32 3516065817)), (45, (.int .u32 3600352804)), (46, (.int .u32 4094571909)), (47, (.int .u32 275423344)), (48, (.int .u32 430227734)), (49, (.int .u32 506948616)), (50, (.int .u32 659060556)), (51, (.int .u32 883997877)), (52, (.int .u32 958139571)), (53, (.int .u32 1322822218)), (54, (.int .u32 1537002063)), (55, (.int .u32 1747873779)), (56, (.int .u32 1955562222)), (57, (.int .u32 2024104815)), (58, (.int .u32 2227730452)), (59, (.int .u32 2361852424)), (60, (.int .u32 2428436474)), (61, (.int .u32 2756734187)), (62, (.int .u32 3204031479)), (63, (.int .u32 3329325298))]) w1 fun x23 w2 =>
 m R (o_alloc 160) w2 fun x3 w3 =>
 m R (o_store 160 x3 x23) w3 fun _ w4 =>
 m R (o_conv 9 99 x0) w4 fun x25 w5 =>
 m R (o_buildSlice 99 1 [(0, (.int .u8 128))]) w5 fun x27 w6 =>
 m R (o_builtin .append #[99, 99] 99 [false, false] [x25, x27]) w6 fun x28 w7 =>
 ml1 x28 w7 fun x4 u4 w8 next4 =>
 m R (o_builtin .len #[99] 3 [false] [x4]) w8 fun x30 w9 =>
 m R (o_bin .rem 3 true x30 (.int .i64 64)) w9 fun x31 w10 =>
 m R (o_bin .neq 3 true x31 (.int .i64 56)) w10 fun x32 w11 =>
 mif x32 (
 m R (o_buildSlice 99 1 [(0, (.int .u8 0))]) w11 fun x34 w12 =>
 m R (o_builtin .append #[99, 99] 99 [false, false] [x4, x34]) w12 fun x35 w13 =>
 next4 x35 w13) (
 m R (o_builtin .len #[9] 3 [false] [x0]) w11 fun x37 w14 =>
 m R (o_conv 3 161 x37) w14 fun x38 w15 =>
 m R (o_bin .mul 161 true x38 (.int .u64 8)) w15 fun x39 w16 =>
 ml2 x4 (.int .i64 0) w16 fun x4 x6 u8 w17 next8 =>
 m R (o_bin .lss 3 true x6 (.int .i64 8)) w17 fun x41 w18 =>
 mif x41 (
 m R (o_bin .mul 3 true (.int .i64 8) x6) w18 fun x47 w19 =>
 m R (o_bin .sub 3 true (.int .i64 56) x47) w19 fun x48 w20 =>
 m R (o_conv 3 59 x48) w20 fun x49 w21 =>
 m R (o_bin .shr 161 false x39 x49) w21 fun x50 w22 =>
 m R (o_conv 161 5 x50) w22 fun x51 w23 =>
 m R (o_buildSlice 99 1 [(0, x51)]) w23 fun x52 w24 =>
 m R (o_builtin .append #[99, 99] 99 [false, false] [x4, x52]) w24 fun x53 w25 =>
 m R (o_bin .add 3 true x6 (.int .i64 1)) w25 fun x43 w26 =>
 next8 x53 x43 w26) (
 m R (o_build 162 [(0, (.int .u32 1779033703)), (1, (.int .u32 3144134277)), (2, (.int .u32 1013904242)), (3, (.int .u32 2773480762)), (4, (.int .u32 1359893119)), (5, (.int .u32 2600822924)), (6, (.int .u32 528734635)), (7, (.int .u32 1541459225))]) w18 fun x54 w27 =>
 m R (o_alloc 162) w27 fun x7 w28 =>
 m R (o_store 162 x7 x54) w28 fun _ w29 =>
 ml1 (.int .i64 0) w29 fun x8 u13 w30 next13 =>
 m R (o_builtin .len #[99] 3 [false] [x4]) w30 fun x57 w31 =>
 m R (o_bin .lss 3 false x8 x57) w31 fun x58 w32 =>
 mif x58 (
 m R (o_alloc 160) w32 fun x9 w33 =>
 ml1 (.int .i64 0) w33 fun x10 u17 w34 next17 =>
 m R (o_bin .lss 3 true x10 (.int .i64 16)) w34 fun x62 w35 =>
 mif x62 (
 m R (o_bin .mul 3 true (.int .i64 4) x10) w35 fun x69 w36 =>
 m R (o_bin .add 3 false x8 x69) w36 fun x70 w37 =>
 m R (o_call (fv 104) [x4, x70]) w37 fun x71 w38 =>
 m R (o_indexAddr 160 x9 x10) w38 fun x72 w39 =>
 m R (o_store 159 x72 x71) w39 fun _ w40 =>
 m R (o_bin .add 3 true x10 (.int .i64 1)) w40 fun x64 w41 =>
 next17 x64 w41) (
 ml1 (.int .i64 16) w35 fun x11 u21 w42 next21 =>
 m R (o_bin .lss 3 true x11 (.int .i64 64)) w42 fun x74 w43 =>
 mif x74 (
 m R (o_bin .sub 3 true x11 (.int .i64 15)) w43 fun x78 w44 =>
 m R (o_indexAddr 160 x9 x78) w44 fun x79 w45 =>
 m R (o_load 159 x79) w45 fun x80 w46 =>
 m R (o_bin .sub 3 true x11 (.int .i64 2)) w46 fun x82 w47 =>
 m R (o_indexAddr 160 x9 x82) w47 fun x83 w48 =>
 m R (o_load 159 x83) w48 fun x84 w49 =>
 dp Tryz.prog (o_bin .sub 3 true x11 (.int .i64 16)) fun x87 =>
 dp Tryz.prog (o_indexAddr 160 x9 x87) fun x88 =>
 dq Tryz.prog w49 (o_load 159 x88) fun x89 =>
 dp Tryz.prog (o_bin .sub 3 true x11 (.int .i64 7)) fun x91 =>
 dp Tryz.prog (o_indexAddr 160 x9 x91) fun x92 =>
 dq Tryz.prog w49 (o_load 159 x92) fun x93 =>
 dp Tryz.prog (o_bin .add 159 false x89 x93) fun x94 =>
 df Tryz.prog w49 (o_call (fv 105) [x80, (.int .u64 7)]) true fun x96 w50 =>
 df Tryz.prog w50 (o_call (fv 105) [x80, (.int .u64 18)]) true fun x98 w51 =>
 dp Tryz.prog (o_bin .xor 159 false x96 x98) fun x99 =>
 dp Tryz.prog (o_bin .shr 159 true x80 (.int .u64 3)) fun x101 =>
 dp Tryz.prog (o_bin .xor 159 false x99 x101) fun x102 =>
 dp Tryz.prog (o_bin .add 159 false x94 x102) fun x103 =>
 df Tryz.prog w51 (o_call (fv 105) [x84, (.int .u64 17)]) true fun x105 w52 =>
 df Tryz.prog w52 (o_call (fv 105) [x84, (.int .u64 19)]) true fun x107 w53 =>
 dp Tryz.prog (o_bin .xor 159 false x105 x107) fun x108 =>
 dp Tryz.prog (o_bin .shr 159 true x84 (.int .u64 10)) fun x110 =>
 dp Tryz.prog (o_bin .xor 159 false x108 x110) fun x111 =>
 dp Tryz.prog (o_bin .add 159 false x103 x111) fun x112 =>
 dp Tryz.prog (o_indexAddr 160 x9 x11) fun x113 =>
 df Tryz.prog w53 (o_store 159 x113 x112) false fun _ w54 =>
 dend w54 fun w55 =>
 m R (o_bin .add 3 true x11 (.int .i64 1)) w55 fun x76 w56 =>
 next21 x76 w56) (
 m R (o_load 162 x7) w43 fun x114 w57 =>
 m R (o_alloc 162) w57 fun x14 w58 =>
 m R (o_store 162 x14 x114) w58 fun _ w59 =>
 ml1 (.int .i64 0) w59 fun x15 u28 w60 next28 =>
 m R (o_bin .lss 3 true x15 (.int .i64 64)) w60 fun x116 w61 =>
 mif x116 (
 m R (o_indexAddr 162 x14 (.int .i64 4)) w61 fun x119 w62 =>
 m R (o_load 159 x119) w62 fun x120 w63 =>
 m R (o_indexAddr 162 x14 (.int .i64 0)) w63 fun x121 w64 =>
 m R (o_load 159 x121) w64 fun x122 w65 =>
 dp Tryz.prog (o_indexAddr 162 x14 (.int .i64 7)) fun x123 =>
 dq Tryz.prog w65 (o_load 159 x123) fun x124 =>
 df Tryz.prog w65 (o_call (fv 105) [x120, (.int .u64 6)]) true fun x126 w66 =>
 df Tryz.prog w66 (o_call (fv 105) [x120, (.int .u64 11)]) true fun x128 w67 =>
 dp Tryz.prog (o_bin .xor 159 false x126 x128) fun x129 =>
 df Tryz.prog w67 (o_call (fv 105) [x120, (.int .u64 25)]) true fun x131 w68 =>
 dp Tryz.prog (o_bin .xor 159 false x129 x131) fun x132 =>
 dp Tryz.prog (o_bin .add 159 false x124 x132) fun x133 =>
 dp Tryz.prog (o_indexAddr 162 x14 (.int .i64 5)) fun x135 =>
 dq Tryz.prog w65 (o_load 159 x135) fun x136 =>
 dp Tryz.prog (o_bin .and 159 false x120 x136) fun x137 =>
 dp Tryz.prog (o_un .xor x120) fun x139 =>
 dp Tryz.prog (o_indexAddr 162 x14 (.int .i64 6)) fun x140 =>
 dq Tryz.prog w65 (o_load 159 x140) fun x141 =>
 dp Tryz.prog (o_bin .and 159 false x139 x141) fun x142 =>
 dp Tryz.prog (o_bin .xor 159 false x137 x142) fun x143 =>
 dp Tryz.prog (o_bin .add 159 false x133 x143) fun x144 =>
 dp Tryz.prog (o_indexAddr 160 x3 x15) fun x146 =>
 dq Tryz.prog w65 (o_load 159 x146) fun x147 =>
 dp Tryz.prog (o_bin .add 159 false x144 x147) fun x148 =>
 dp Tryz.prog (o_indexAddr 160 x9 x15) fun x150 =>
 dq Tryz.prog w65 (o_load 159 x150) fun x151 =>
 dp Tryz.prog (o_bin .add 159 false x148 x151) fun x152 =>
 dend w68 fun w69 =>
 df Tryz.prog w69 (o_call (fv 105) [x122, (.int .u64 2)]) true fun x154 w70 =>
 df Tryz.prog w70 (o_call (fv 105) [x122, (.int .u64 13)]) true fun x156 w71 =>
 dp Tryz.prog (o_bin .xor 159 false x154 x156) fun x157 =>
 df Tryz.prog w71 (o_call (fv 105) [x122, (.int .u64 22)]) true fun x159 w72 =>
 dp Tryz.prog (o_bin .xor 159 false x157 x159) fun x160 =>
 dp Tryz.prog (o_indexAddr 162 x14 (.int .i64 1)) fun x162 =>
 dq Tryz.prog w69 (o_load 159 x162) fun x163 =>
 dp Tryz.prog (o_bin .and 159 false x122 x163) fun x164 =>
 dp Tryz.prog (o_indexAddr 162 x14 (.int .i64 2)) fun x166 =>
 dq Tryz.prog w69 (o_load 159 x166) fun x167 =>
 dp Tryz.prog (o_bin .and 159 false x122 x167) fun x168 =>
 dp Tryz.prog (o_bin .xor 159 false x164 x168) fun x169 =>
 dp Tryz.prog (o_indexAddr 162 x14 (.int .i64 1)) fun x170 =>
 dq Tryz.prog w69 (o_load 159 x170) fun x171 =>
 dp Tryz.prog (o_indexAddr 162 x14 (.int .i64 2)) fun x172 =>
 dq Tryz.prog w69 (o_load 159 x172) fun x173 =>
 dp Tryz.prog (o_bin .and 159 false x171 x173) fun x174 =>
 dp Tryz.prog (o_bin .xor 159 false x169 x174) fun x175 =>
 dp Tryz.prog (o_bin .add 159 false x160 x175) fun x176 =>
 dend w72 fun w73 =>
 m R (o_bin .add 159 false x152 x176) w73 fun x179 w74 =>
 m R (o_indexAddr 162 x14 (.int .i64 0)) w74 fun x180 w75 =>
 m R (o_load 159 x180) w75 fun x181 w76 =>
 m R (o_indexAddr 162 x14 (.int .i64 1)) w76 fun x182 w77 =>
 m R (o_load 159 x182) w77 fun x183 w78 =>
 m R (o_indexAddr 162 x14 (.int .i64 2)) w78 fun x184 w79 =>
 m R (o_load 159 x184) w79 fun x185 w80 =>
 m R (o_indexAddr 162 x14 (.int .i64 3)) w80 fun x186 w81 =>
 m R (o_load 159 x186) w81 fun x187 w82 =>
 m R (o_bin .add 159 false x187 x152) w82 fun x189 w83 =>
 m R (o_indexAddr 162 x14 (.int .i64 4)) w83 fun x190 w84 =>
 m R (o_load 159 x190) w84 fun x191 w85 =>
 m R (o_indexAddr 162 x14 (.int .i64 5)) w85 fun x192 w86 =>
 m R (o_load 159 x192) w86 fun x193 w87 =>
 m R (o_indexAddr 162 x14 (.int .i64 6)) w87 fun x194 w88 =>
 m R (o_load 159 x194) w88 fun x195 w89 =>
 m R (o_build 162 [(0, x179), (1, x181), (2, x183), (3, x185), (4, x189), (5, x191), (6, x193), (7, x195)]) w89 fun x196 w90 =>
 m R (o_store 162 x14 x196) w90 fun _ w91 =>
 m R (o_bin .add 3 true x15 (.int .i64 1)) w91 fun x118 w92 =>
 next28 x118 w92) (
 ml1 (.int .i64 0) w61 fun x20 u36 w93 next36 =>
 m R (o_bin .lss 3 true x20 (.int .i64 8)) w93 fun x198 w94 =>
 mif x198 (
 dp Tryz.prog (o_indexAddr 162 x7 x20) fun x203 =>
 dq Tryz.prog w94 (o_load 159 x203) fun x204 =>
 dp Tryz.prog (o_indexAddr 162 x14 x20) fun x206 =>
 dq Tryz.prog w94 (o_load 159 x206) fun x207 =>
 dp Tryz.prog (o_bin .add 159 false x204 x207) fun x208 =>
 dp Tryz.prog (o_indexAddr 162 x7 x20) fun x209 =>
 df Tryz.prog w94 (o_store 159 x209 x208) false fun _ w95 =>
 dend w95 fun w96 =>
 m R (o_bin .add 3 true x20 (.int .i64 1)) w96 fun x200 w97 =>
 next36 x200 w97) (
 m R (o_bin .add 3 true x8 (.int .i64 64)) w94 fun x60 w98 =>
 next13 x60 w98))))) (
 m R (o_alloc 33) w32 fun x21 w99 =>
 ml1 (.int .i64 0) w99 fun x22 u41 w100 next41 =>
 m R (o_bin .lss 3 true x22 (.int .i64 32)) w100 fun x211 w101 =>
 mif x211 (
 m R (o_bin .quo 3 true x22 (.int .i64 4)) w101 fun x216 w102 =>
 m R (o_indexAddr 162 x7 x216) w102 fun x217 w103 =>
 m R (o_load 159 x217) w103 fun x218 w104 =>
 m R (o_bin .rem 3 true x22 (.int .i64 4)) w104 fun x220 w105 =>
 m R (o_bin .mul 3 true (.int .i64 8) x220) w105 fun x221 w106 =>
 m R (o_bin .sub 3 true (.int .i64 24) x221) w106 fun x222 w107 =>
 m R (o_conv 3 59 x222) w107 fun x223 w108 =>
 m R (o_bin .shr 159 false x218 x223) w108 fun x224 w109 =>
 m R (o_conv 159 5 x224) w109 fun x225 w110 =>
 m R (o_indexAddr 33 x21 x22) w110 fun x226 w111 =>
 m R (o_store 5 x226 x225) w111 fun _ w112 =>
 m R (o_bin .add 3 true x22 (.int .i64 1)) w112 fun x213 w113 =>
 next41 x213 w113) (
 m R (o_load 33 x21) w101 fun x227 w114 =>
 m R (o_store 33 x2 x227) w114 fun _ w115 =>
 rcell Tryz.prog 33 x2 w115 fun r2 =>
 R (.returned r2) w115))))
def A_bevyref02_Sum : Ann := ⟨[(4, [4], 68182605840), (8, [4, 6], 18013298997854288), (13, [8], 1645504557321206042154969182557350504982735865597551066331741952), (17, [10], 9442427122730076734464), (21, [11], 20769187434129865781156246026467328), (28, [15], 200867255532373784442745220004270457036654345978878471667712), (36, [20], 1645303690065673668370526437295807859657420590259357014245244928), (41, [22], 215677927832647797151293965726974488038592172644458946268965537579008)], [], [(25, [⟨0, .q none, 2048, 0, 38685626227668133590597632⟩, ⟨1, .q none, 2048, 0, 77371252455336267181195264⟩, ⟨2, .q none, 77371252455336267181195264, 2, 154742504910672534362390528⟩, ⟨3, .q none, 154742504910672534362391040, 6, 309485009821345068724781056⟩, ⟨4, .q (some 0), 309485009821345068724781056, 14, 618970019642690137449562112⟩, ⟨5, .q none, 2048, 0, 1237940039285380274899124224⟩, ⟨6, .q none, 1237940039285380274899124224, 32, 2475880078570760549798248448⟩, ⟨7, .q none, 2475880078570760549798248960, 96, 4951760157141521099596496896⟩, ⟨8, .q (some 0), 4951760157141521099596496896, 224, 9903520314283042199192993792⟩, ⟨9, .q none, 10522490333925732336642555904, 510, 19807040628566084398385987584⟩, ⟨10, .q none, 4096, 0, 39614081257132168796771975168⟩, ⟨11, .f 0 true, 39614081257132168796771975168, 1024, 79228162514264337593543950336⟩, ⟨12, .q none, 4096, 0, 158456325028528675187087900672⟩, ⟨13, .f 1 true, 158456325028528675187087900672, 7168, 316912650057057350374175801344⟩, ⟨14, .q none, 396140812571321687967719751680, 15360, 633825300114114700748351602688⟩, ⟨15, .q none, 4096, 0, 1267650600228229401496703205376⟩, ⟨16, .q none, 1267650600228229401496703205376, 32768, 2535301200456458802993406410752⟩, ⟨17, .q none, 3169126500570573503741758013440, 130048, 5070602400912917605986812821504⟩, ⟨18, .q none, 5090409441541483690385198809088, 262142, 10141204801825835211973625643008⟩, ⟨19, .q none, 8192, 0, 20282409603651670423947251286016⟩, ⟨20, .f 2 true, 20282409603651670423947251286016, 539648, 40564819207303340847894502572032⟩, ⟨21, .q none, 8192, 0, 81129638414606681695789005144064⟩, ⟨22, .f 3 true, 81129638414606681695789005144064, 3685376, 162259276829213363391578010288128⟩, ⟨23, .q none, 202824096036516704239472512860160, 7879680, 324518553658426726783156020576256⟩, ⟨24, .q none, 8192, 0, 649037107316853453566312041152512⟩, ⟨25, .q none, 649037107316853453566312041152512, 16777216, 1298074214633706907132624082305024⟩, ⟨26, .q none, 1622592768292133633915780102881280, 66599936, 2596148429267413814265248164610048⟩, ⟨27, .q none, 2606289634069239649477221790253056, 134217726, 5192296858534827628530496329220096⟩, ⟨28, .q none, 38685626227668133590598144, 268435455, 10384593717069655257060992658440192⟩, ⟨29, .f 4 false, 15576890575604482885591488987660288, 536870911, 0⟩]), (32, [⟨0, .q none, 16384, 0, 10633823966279326983230456482242756608⟩, ⟨1, .q (some 0), 10633823966279326983230456482242756608, 1, 21267647932558653966460912964485513216⟩, ⟨2, .q none, 65536, 0, 42535295865117307932921825928971026432⟩, ⟨3, .f 0 true, 42535295865117307932921825928971026432, 4, 85070591730234615865843651857942052864⟩, ⟨4, .q none, 65536, 0, 170141183460469231731687303715884105728⟩, ⟨5, .f 1 true, 170141183460469231731687303715884105728, 28, 340282366920938463463374607431768211456⟩, ⟨6, .q none, 425352958651173079329218259289710264320, 60, 680564733841876926926749214863536422912⟩, ⟨7, .q none, 65536, 0, 1361129467683753853853498429727072845824⟩, ⟨8, .f 2 true, 1361129467683753853853498429727072845824, 188, 2722258935367507707706996859454145691648⟩, ⟨9, .q none, 3402823669209384634633746074317682114560, 508, 5444517870735015415413993718908291383296⟩, ⟨10, .q none, 5465785518667574069380454631872776896512, 1023, 10889035741470030830827987437816582766592⟩, ⟨11, .q none, 65536, 0, 21778071482940061661655974875633165533184⟩, ⟨12, .q none, 16384, 0, 43556142965880123323311949751266331066368⟩, ⟨13, .q (some 0), 43556142965880123323311949751266331066368, 4096, 87112285931760246646623899502532662132736⟩, ⟨14, .q none, 108890357414700308308279874378165827665920, 14336, 174224571863520493293247799005065324265472⟩, ⟨15, .q none, 65536, 0, 348449143727040986586495598010130648530944⟩, ⟨16, .q none, 348449143727040986586495598010130648530944, 32768, 696898287454081973172991196020261297061888⟩, ⟨17, .q none, 16384, 0, 1393796574908163946345982392040522594123776⟩, ⟨18, .q (some 0), 1393796574908163946345982392040522594123776, 131072, 2787593149816327892691964784081045188247552⟩, ⟨19, .q none, 3484491437270409865864955980101306485309440, 491520, 5575186299632655785383929568162090376495104⟩, ⟨20, .q none, 5749410871496176278677177367167155700760576, 1046528, 11150372599265311570767859136324180752990208⟩, ⟨21, .q none, 11161261635006781601598687123761997335756800, 2097151, 22300745198530623141535718272648361505980416⟩, ⟨22, .q none, 32768, 0, 44601490397061246283071436545296723011960832⟩, ⟨23, .q none, 44601490397061246283071436545296723011960840, 4194304, 89202980794122492566142873090593446023921664⟩, ⟨24, .q (some 0), 89202980794122492566142873090593446023921664, 12582912, 178405961588244985132285746181186892047843328⟩, ⟨25, .q none, 200706706786775608273821464453835253553823744, 33554431, 356811923176489970264571492362373784095686656⟩, ⟨26, .q none, 32768, 0, 713623846352979940529142984724747568191373312⟩, ⟨27, .q none, 713623846352979940529142984724747568191373824, 67108864, 1427247692705959881058285969449495136382746624⟩, ⟨28, .q (some 0), 1427247692705959881058285969449495136382746624, 201326592, 2854495385411919762116571938898990272765493248⟩, ⟨29, .q none, 3211307308588409732381143431261364056861179904, 536870911, 5708990770823839524233143877797980545530986496⟩, ⟨30, .q none, 5708990770823839524233143877797980545530986496, 1073741823, 262144⟩]), (33, [⟨0, .q none, 131072, 0, 11417981541647679048466287755595961091061972992⟩, ⟨1, .f 0 true, 11417981541647679048466287755595961091061972992, 1, 22835963083295358096932575511191922182123945984⟩, ⟨2, .q none, 131072, 0, 45671926166590716193865151022383844364247891968⟩, ⟨3, .f 1 true, 45671926166590716193865151022383844364247891968, 7, 91343852333181432387730302044767688728495783936⟩, ⟨4, .q none, 114179815416476790484662877555959610910619729920, 15, 182687704666362864775460604089535377456991567872⟩, ⟨5, .q none, 131072, 0, 365375409332725729550921208179070754913983135744⟩, ⟨6, .f 2 true, 365375409332725729550921208179070754913983135744, 47, 730750818665451459101842416358141509827966271488⟩, ⟨7, .q none, 913438523331814323877303020447676887284957839360, 127, 1461501637330902918203684832716283019655932542976⟩, ⟨8, .q none, 131072, 0, 2923003274661805836407369665432566039311865085952⟩, ⟨9, .q none, 16384, 0, 5846006549323611672814739330865132078623730171904⟩, ⟨10, .q (some 0), 5846006549323611672814739330865132078623730171904, 512, 11692013098647223345629478661730264157247460343808⟩, ⟨11, .q none, 14615016373309029182036848327162830196559325429760, 1792, 23384026197294446691258957323460528314494920687616⟩, ⟨12, .q none, 131072, 0, 46768052394588893382517914646921056628989841375232⟩, ⟨13, .q none, 16384, 0, 93536104789177786765035829293842113257979682750464⟩, ⟨14, .q (some 0), 93536104789177786765035829293842113257979682750464, 8192, 187072209578355573530071658587684226515959365500928⟩, ⟨15, .q none, 233840261972944466912589573234605283144949206876160, 28672, 374144419156711147060143317175368453031918731001856⟩, ⟨16, .q none, 397528445354005593751402274498828981346413651689472, 65280, 748288838313422294120286634350736906063837462003712⟩, ⟨17, .q none, 16384, 0, 1496577676626844588240573268701473812127674924007424⟩, ⟨18, .q (some 0), 1496577676626844588240573268701473812127674924007424, 131072, 2993155353253689176481146537402947624255349848014848⟩, ⟨19, .q none, 16384, 0, 5986310706507378352962293074805895248510699696029696⟩, ⟨20, .q (some 0), 5986310706507378352962293074805895248510699696029696, 524288, 11972621413014756705924586149611790497021399392059392⟩, ⟨21, .q none, 14965776766268445882405732687014738121276749240074240, 1966080, 23945242826029513411849172299223580994042798784118784⟩, ⟨22, .q none, 24693531664342935705969458933574317900106636246122496, 4194048, 47890485652059026823698344598447161988085597568237568⟩, ⟨23, .q none, 47891947153696357726616548283279878271105253500780544, 8388607, 95780971304118053647396689196894323976171195136475136⟩, ⟨24, .q none, 95780971304118053647396689196894323976171195136475136, 16777215, 524288⟩]), (38, [⟨0, .q none, 1048576, 0, 3213876088517980551083924184682325205044405987565585670602752⟩, ⟨1, .q none, 1048576, 0, 6427752177035961102167848369364650410088811975131171341205504⟩, ⟨2, .q none, 6427752177035961102167848369364650410088811975131171341205632, 2, 12855504354071922204335696738729300820177623950262342682411008⟩, ⟨3, .q (some 0), 12855504354071922204335696738729300820177623950262342682411008, 6, 25711008708143844408671393477458601640355247900524685364822016⟩, ⟨4, .q none, 1048576, 0, 51422017416287688817342786954917203280710495801049370729644032⟩, ⟨5, .q none, 51422017416287688817342786954917203280710495801049370729660416, 16, 102844034832575377634685573909834406561420991602098741459288064⟩, ⟨6, .q (some 0), 102844034832575377634685573909834406561420991602098741459288064, 48, 205688069665150755269371147819668813122841983204197482918576128⟩, ⟨7, .q none, 231399078373294599678042541297127414763197231104722168283398144, 126, 411376139330301510538742295639337626245683966408394965837152256⟩, ⟨8, .q none, 3213876088517980551083924184682325205044405987565585670602880, 255, 822752278660603021077484591278675252491367932816789931674304512⟩, ⟨9, .f 0 false, 1234128417990904531616226886918012878737051899225184897511456768, 511, 0⟩])], [], []⟩
theorem C_bevyref02_Sum {x0 : Value} {w : World} {R : Ending → World → Prop} (h : F_bevyref02_Sum x0 w R) : Calls Tryz.prog 64 #[x0] w R :=
 calls_cwp (A := A_bevyref02_Sum) (args := [x0]) mixed Tryz.func64 (c := Tryz.f64.body.getD .skip) (by kernel_rfl) (by kernel_rfl) (by kernel_rfl) (Eq.mpr (by kernel_rfl) h)
def F_bevyref05_text (x0 : Value) (w : World) (R : Ending → World → Prop) : Prop :=
 m R (o_box 33 x0) w fun x1 w1 =>
 m R (o_slice 33 x1 none none none) w1 fun x3 w2 =>
 m R (o_conv 99 9 x3) w2 fun x4 w3 =>
 R (.returned x4) w3
def A_bevyref05_text : Ann := ⟨[], [], [], [], []⟩
theorem C_bevyref05_text {x0 : Value} {w : World} {R : Ending → World → Prop} (h : F_bevyref05_text x0 w R) : Calls Tryz.prog 65 #[x0] w R :=
 calls_cwp (A := A_bevyref05_text) (args := [x0]) mixed Tryz.func65 (c := Tryz.f65.body.getD .skip) (by kernel_rfl) (by kernel_rfl) (by kernel_rfl) (Eq.mpr (by kernel_rfl) h)
def F_tree_zero (x0 : Value) (w : World) (R : Ending → World → Prop) : Prop :=
 m R (o_box 69 x0) w fun x1 w1 =>
 m R (o_fieldAddr 69 x1 0) w1 fun x3 w2 =>
 m R (o_load 4 x3) w2 fun x4 w3 =>
 m R (o_un .not x4) w3 fun x5 w4 =>
 mguard x5 true (fun k => m R (o_fieldAddr 69 x1 1) w4 k) w4 fun x7 w5 =>
 mguard x5 true (fun k => m R (o_load 34 x7) w5 k) w5 fun x8 w6 =>
 mguard x5 true (fun k => m R (o_build 34 []) w6 k) w6 fun x9 w7 =>
 mguard x5 true (fun k => m R (o_bin .eql 34 false x8 x9) w7 k) w7 fun x10 w8 =>
 m R (o_pick x5 x10 (.bool false)) w8 fun x11 w9 =>
 mguard x11 true (fun k => m R (o_fieldAddr 69 x1 2) w9 k) w9 fun x13 w10 =>
 mguard x11 true (fun k => m R (o_load 34 x13) w10 k) w10 fun x14 w11 =>
 mguard x11 true (fun k => m R (o_build 34 []) w11 k) w11 fun x15 w12 =>
 mguard x11 true (fun k => m R (o_bin .eql 34 false x14 x15) w12 k) w12 fun x16 w13 =>
 m R (o_pick x11 x16 (.bool false)) w13 fun x17 w14 =>
 mguard x17 true (fun k => m R (o_fieldAddr 69 x1 3) w14 k) w14 fun x19 w15 =>
 mguard x17 true (fun k => m R (o_load 47 x19) w15 k) w15 fun x20 w16 =>
 mguard x17 true (fun k => m R (o_builtin .len #[47] 3 [false] [x20]) w16 k) w16 fun x21 w17 =>
 mguard x17 true (fun k => m R (o_bin .eql 3 true x21 (.int .i64 0)) w17 k) w17 fun x22 w18 =>
 m R (o_pick x17 x22 (.bool false)) w18 fun x23 w19 =>
 R (.returned x23) w19
def A_tree_zero : Ann := ⟨[], [], [], [], []⟩
theorem C_tree_zero {x0 : Value} {w : World} {R : Ending → World → Prop} (h : F_tree_zero x0 w R) : Calls Tryz.prog 66 #[x0] w R :=
 calls_cwp (A := A_tree_zero) (args := [x0]) mixed Tryz.func66 (c := Tryz.f66.body.getD .skip) (by kernel_rfl) (by kernel_rfl) (by kernel_rfl) (Eq.mpr (by kernel_rfl) h)
def F_slices_Clone_api_Key_api_Key (x0 : Value) (w : World) (R : Ending → World → Prop) : Prop :=
 m R (o_bin .eql 26 true x0 (.slice none 0 0)) w fun x4 w1 =>
 mif x4 (
 R (.returned (.slice none 0 0)) w1) (
 m R (o_buildSlice 26 0 []) w1 fun x5 w2 =>
 m R (o_builtin .append #[26, 26] 26 [false, false] [x5, x0]) w2 fun x7 w3 =>
 R (.returned x7) w3)
def A_slices_Clone_api_Key_api_Key : Ann := ⟨[], [], [], [], []⟩
theorem C_slices_Clone_api_Key_api_Key {x0 : Value} {w : World} {R : Ending → World → Prop} (h : F_slices_Clone_api_Key_api_Key x0 w R) : Calls Tryz.prog 67 #[x0] w R :=
 calls_cwp (A := A_slices_Clone_api_Key_api_Key) (args := [x0]) mixed Tryz.func67 (c := Tryz.f67.body.getD .skip) (by kernel_rfl) (by kernel_rfl) (by kernel_rfl) (Eq.mpr (by kernel_rfl) h)
def F_slices_SortStableFunc_api_Key_api_Key (x0 x1 : Value) (w : World) (R : Ending → World → Prop) : Prop :=
 m R (o_builtin .len #[26] 3 [false] [x0]) w fun x6 w1 =>
 m R (o_call (fv 106) [x0, x6, x1]) w1 fun x8 w2 =>
 R (.returned (.tuple #[])) w2
def A_slices_SortStableFunc_api_Key_api_Key : Ann := ⟨[], [], [], [], []⟩
theorem C_slices_SortStableFunc_api_Key_api_Key {x0 x1 : Value} {w : World} {R : Ending → World → Prop} (h : F_slices_SortStableFunc_api_Key_api_Key x0 x1 w R) : Calls Tryz.prog 68 #[x0, x1] w R :=
 calls_cwp (A := A_slices_SortStableFunc_api_Key_api_Key) (args := [x0, x1]) mixed Tryz.func68 (c := Tryz.f68.body.getD .skip) (by kernel_rfl) (by kernel_rfl) (by kernel_rfl) (Eq.mpr (by kernel_rfl) h)
def F_climb_sorted_1 (x0 x1 : Value) (w : World) (R : Ending → World → Prop) : Prop :=
 m R (o_box 43 x0) w fun x2 w1 =>
 m R (o_box 43 x1) w1 fun x3 w2 =>
 m R (o_fieldAddr 43 x2 0) w2 fun x5 w3 =>
 m R (o_load 3 x5) w3 fun x6 w4 =>
 m R (o_fieldAddr 43 x3 0) w4 fun x7 w5 =>
 m R (o_load 3 x7) w5 fun x8 w6 =>
 m R (o_bin .sub 3 false x6 x8) w6 fun x9 w7 =>
 R (.returned x9) w7
def A_climb_sorted_1 : Ann := ⟨[], [], [], [], []⟩
theorem C_climb_sorted_1 {x0 x1 : Value} {w : World} {R : Ending → World → Prop} (h : F_climb_sorted_1 x0 x1 w R) : Calls Tryz.prog 69 #[x0, x1] w R :=
 calls_cwp (A := A_climb_sorted_1) (args := [x0, x1]) mixed Tryz.func69 (c := Tryz.f69.body.getD .skip) (by kernel_rfl) (by kernel_rfl) (by kernel_rfl) (Eq.mpr (by kernel_rfl) h)
def F_slices_CompactFunc_api_Key_api_Key (x0 x1 : Value) (w : World) (R : Ending → World → Prop) : Prop :=
 m R (o_builtin .len #[26] 3 [false] [x0]) w fun x9 w1 =>
 m R (o_bin .lss 3 true x9 (.int .i64 2)) w1 fun x10 w2 =>
 mif x10 (
 R (.returned x0) w2) (
 ml1 (.int .i64 1) w2 fun x5 u4 w3 next4 =>
 m R (o_builtin .len #[26] 3 [false] [x0]) w3 fun x14 w4 =>
 m R (o_bin .lss 3 false x5 x14) w4 fun x15 w5 =>
 mif x15 (
 dp Tryz.prog (o_indexAddr 26 x0 x5) fun x21 =>
 dq Tryz.prog w5 (o_load 43 x21) fun x22 =>
 dp Tryz.prog (o_bin .sub 3 true x5 (.int .i64 1)) fun x25 =>
 dp Tryz.prog (o_indexAddr 26 x0 x25) fun x26 =>
 dq Tryz.prog w5 (o_load 43 x26) fun x27 =>
 df Tryz.prog w5 (o_call x1 [x22, x27]) false fun x28 w6 =>
 dend w6 fun w7 =>
 mif x28 (
 m R (o_slice 26 x0 (some x5) none none) w7 fun x31 w8 =>
 ml2 x5 (.int .i64 1) w8 fun x5 x7 u9 w9 next9 =>
 m R (o_builtin .len #[26] 3 [false] [x31]) w9 fun x34 w10 =>
 m R (o_bin .lss 3 false x7 x34) w10 fun x35 w11 =>
 mif x35 (
 mj1 (fun j10 =>
 dp Tryz.prog (o_indexAddr 26 x31 x7) fun x41 =>
 dq Tryz.prog w11 (o_load 43 x41) fun x42 =>
 dp Tryz.prog (o_bin .sub 3 true x7 (.int .i64 1)) fun x45 =>
 dp Tryz.prog (o_indexAddr 26 x31 x45) fun x46 =>
 dq Tryz.prog w11 (o_load 43 x46) fun x47 =>
 df Tryz.prog w11 (o_call x1 [x42, x47]) false fun x48 w12 =>
 dp Tryz.prog (o_un .not x48) fun x49 =>
 dend w12 fun w13 =>
 mif x49 (
 m R (o_indexAddr 26 x31 x7) w13 fun x54 w14 =>
 m R (o_load 43 x54) w14 fun x55 w15 =>
 m R (o_indexAddr 26 x0 x5) w15 fun x56 w16 =>
 m R (o_store 43 x56 x55) w16 fun _ w17 =>
 m R (o_bin .add 3 true x5 (.int .i64 1)) w17 fun x58 w18 =>
 j10 x58 w18) (
 j10 x5 w13)) fun x5 u10 w19 =>
 m R (o_bin .add 3 true x7 (.int .i64 1)) w19 fun x37 w20 =>
 next9 x5 x37 w20) (
 m R (o_slice 26 x0 (some x5) none none) w11 fun x61 w21 =>
 m R (o_builtin .clear #[26] 0 [false] [x61]) w21 fun _ w22 =>
 m R (o_slice 26 x0 none (some x5) none) w22 fun x64 w23 =>
 R (.returned x64) w23)) (
 m R (o_bin .add 3 true x5 (.int .i64 1)) w7 fun x17 w24 =>
 next4 x17 w24)) (
 R (.returned x0) w5))
def A_slices_CompactFunc_api_Key_api_Key : Ann := ⟨[(4, [5], 36893488147419099376), (9, [5, 7], 576460748008456352)], [(10, [5], 576460477425516576)], [(6, [⟨0, .q none, 2, 0, 262144⟩, ⟨1, .q none, 1, 0, 524288⟩, ⟨2, .q none, 32, 0, 1048576⟩, ⟨3, .q none, 1572864, 6, 2097152⟩, ⟨4, .q (some 0), 2097152, 14, 4194304⟩, ⟨5, .q none, 1, 0, 8388608⟩, ⟨6, .q none, 32, 0, 16777216⟩, ⟨7, .q none, 16777216, 64, 33554432⟩, ⟨8, .q none, 41943040, 224, 67108864⟩, ⟨9, .q (some 0), 67108864, 480, 134217728⟩, ⟨10, .f 0 false, 138674176, 1023, 268435456⟩]), (11, [⟨0, .q none, 2, 0, 274877906944⟩, ⟨1, .q none, 64, 0, 549755813888⟩, ⟨2, .q none, 128, 0, 1099511627776⟩, ⟨3, .q none, 1649267441664, 6, 2199023255552⟩, ⟨4, .q (some 0), 2199023255552, 14, 4398046511104⟩, ⟨5, .q none, 64, 0, 8796093022208⟩, ⟨6, .q none, 128, 0, 17592186044416⟩, ⟨7, .q none, 17592186044416, 64, 35184372088832⟩, ⟨8, .q none, 43980465111040, 224, 70368744177664⟩, ⟨9, .q (some 0), 70368744177664, 480, 140737488355328⟩, ⟨10, .f 0 false, 145410412773376, 1023, 281474976710656⟩, ⟨11, .q none, 281474976710656, 2047, 562949953421312⟩])], [], []⟩
theorem C_slices_CompactFunc_api_Key_api_Key {x0 x1 : Value} {w : World} {R : Ending → World → Prop} (h : F_slices_CompactFunc_api_Key_api_Key x0 x1 w R) : Calls Tryz.prog 70 #[x0, x1] w R :=
 calls_cwp (A := A_slices_CompactFunc_api_Key_api_Key) (args := [x0, x1]) mixed Tryz.func70 (c := Tryz.f70.body.getD .skip) (by kernel_rfl) (by kernel_rfl) (by kernel_rfl) (Eq.mpr (by kernel_rfl) h)
def F_climb_sorted_2 (x0 x1 : Value) (w : World) (R : Ending → World → Prop) : Prop :=
 m R (o_box 43 x0) w fun x2 w1 =>
 m R (o_box 43 x1) w1 fun x3 w2 =>
 m R (o_fieldAddr 43 x2 0) w2 fun x5 w3 =>
 m R (o_load 3 x5) w3 fun x6 w4 =>
 m R (o_fieldAddr 43 x3 0) w4 fun x7 w5 =>
 m R (o_load 3 x7) w5 fun x8 w6 =>
 m R (o_bin .eql 3 false x6 x8) w6 fun x9 w7 =>
 R (.returned x9) w7
def A_climb_sorted_2 : Ann := ⟨[], [], [], [], []⟩
theorem C_climb_sorted_2 {x0 x1 : Value} {w : World} {R : Ending → World → Prop} (h : F_climb_sorted_2 x0 x1 w R) : Calls Tryz.prog 71 #[x0, x1] w R :=
 calls_cwp (A := A_climb_sorted_2) (args := [x0, x1]) mixed Tryz.func71 (c := Tryz.f71.body.getD .skip) (by kernel_rfl) (by kernel_rfl) (by kernel_rfl) (Eq.mpr (by kernel_rfl) h)
def F_slices_Clone_api_Leaf_api_Leaf (x0 : Value) (w : World) (R : Ending → World → Prop) : Prop :=
 m R (o_bin .eql 22 true x0 (.slice none 0 0)) w fun x4 w1 =>
 mif x4 (
 R (.returned (.slice none 0 0)) w1) (
 m R (o_buildSlice 22 0 []) w1 fun x5 w2 =>
 m R (o_builtin .append #[22, 22] 22 [false, false] [x5, x0]) w2 fun x7 w3 =>
 R (.returned x7) w3)
def A_slices_Clone_api_Leaf_api_Leaf : Ann := ⟨[], [], [], [], []⟩
theorem C_slices_Clone_api_Leaf_api_Leaf {x0 : Value} {w : World} {R : Ending → World → Prop} (h : F_slices_Clone_api_Leaf_api_Leaf x0 w R) : Calls Tryz.prog 72 #[x0] w R :=
 calls_cwp (A := A_slices_Clone_api_Leaf_api_Leaf) (args := [x0]) mixed Tryz.func72 (c := Tryz.f72.body.getD .skip) (by kernel_rfl) (by kernel_rfl) (by kernel_rfl) (Eq.mpr (by kernel_rfl) h)
def F_slices_Clone_api_Parent_api_Parent (x0 : Value) (w : World) (R : Ending → World → Prop) : Prop :=
 m R (o_bin .eql 23 true x0 (.slice none 0 0)) w fun x4 w1 =>
 mif x4 (
 R (.returned (.slice none 0 0)) w1) (
 m R (o_buildSlice 23 0 []) w1 fun x5 w2 =>
 m R (o_builtin .append #[23, 23] 23 [false, false] [x5, x0]) w2 fun x7 w3 =>
 R (.returned x7) w3)
def A_slices_Clone_api_Parent_api_Parent : Ann := ⟨[], [], [], [], []⟩
theorem C_slices_Clone_api_Parent_api_Parent {x0 : Value} {w : World} {R : Ending → World → Prop} (h : F_slices_Clone_api_Parent_api_Parent x0 w R) : Calls Tryz.prog 73 #[x0] w R :=
 calls_cwp (A := A_slices_Clone_api_Parent_api_Parent) (args := [x0]) mixed Tryz.func73 (c := Tryz.f73.body.getD .skip) (by kernel_rfl) (by kernel_rfl) (by kernel_rfl) (Eq.mpr (by kernel_rfl) h)
def F_slices_Clone_int_int (x0 : Value) (w : World) (R : Ending → World → Prop) : Prop :=
 m R (o_bin .eql 47 true x0 (.slice none 0 0)) w fun x4 w1 =>
 mif x4 (
 R (.returned (.slice none 0 0)) w1) (
 m R (o_buildSlice 47 0 []) w1 fun x5 w2 =>
 m R (o_builtin .append #[47, 47] 47 [false, false] [x5, x0]) w2 fun x7 w3 =>
 R (.returned x7) w3)
def A_slices_Clone_int_int : Ann := ⟨[], [], [], [], []⟩
theorem C_slices_Clone_int_int {x0 : Value} {w : World} {R : Ending → World → Prop} (h : F_slices_Clone_int_int x0 w R) : Calls Tryz.prog 74 #[x0] w R :=
 calls_cwp (A := A_slices_Clone_int_int) (args := [x0]) mixed Tryz.func74 (c := Tryz.f74.body.getD .skip) (by kernel_rfl) (by kernel_rfl) (by kernel_rfl) (Eq.mpr (by kernel_rfl) h)
def F_bough_up (x0 x1 : Value) (w : World) (R : Ending → World → Prop) : Prop :=
 m R (o_box 3 x0) w fun x2 w1 =>
 m R (o_box 3 x1) w1 fun x3 w2 =>
 m R (o_func (.func 107) [] [x2, x3]) w2 fun x5 w3 =>
 R (.returned x5) w3
def A_bough_up : Ann := ⟨[], [], [], [], []⟩
theorem C_bough_up {x0 x1 : Value} {w : World} {R : Ending → World → Prop} (h : F_bough_up x0 x1 w R) : Calls Tryz.prog 75 #[x0, x1] w R :=
 calls_cwp (A := A_bough_up) (args := [x0, x1]) mixed Tryz.func75 (c := Tryz.f75.body.getD .skip) (by kernel_rfl) (by kernel_rfl) (by kernel_rfl) (Eq.mpr (by kernel_rfl) h)
def F_sha_Sum (x0 : Value) (w : World) (R : Ending → World → Prop) : Prop :=
 m R (o_alloc 34) w fun x2 w1 =>
 m R (o_build 162 [(0, (.int .u32 1779033703)), (1, (.int .u32 3144134277)), (2, (.int .u32 1013904242)), (3, (.int .u32 2773480762)), (4, (.int .u32 1359893119)), (5, (.int .u32 2600822924)), (6, (.int .u32 528734635)), (7, (.int .u32 1541459225))]) w1 fun x11 w2 =>
 m R (o_call (fv 111) []) w2 fun x12 w3 =>
 m R (o_build 170 [(0, x11), (3, x12)]) w3 fun x13 w4 =>
 m R (o_box 170 x13) w4 fun x14 w5 =>
 m R (o_builtin .len #[70] 3 [false] [x0]) w5 fun x16 w6 =>
 ml1 (.int .i64 0) w6 fun x17 u3 w7 next3 =>
 m R (o_bin .lss 3 false x17 x16) w7 fun x18 w8 =>
 mif x18 (
 m R (o_indexAddr 70 x0 x17) w8 fun x19 w9 =>
 m R (o_load 9 x19) w9 fun x20 w10 =>
 m R (o_call (fv 112) [x14, x20]) w10 fun x23 w11 =>
 m R (o_bin .add 3 true x17 (.int .i64 1)) w11 fun x24 w12 =>
 next3 x24 w12) (
 m R (o_alloc 172) w8 fun x6 w13 =>
 m R (o_indexAddr 172 x6 (.int .i64 0)) w13 fun x25 w14 =>
 m R (o_store 5 x25 (.int .u8 128)) w14 fun _ w15 =>
 m R (o_nilCheck x14) w15 fun x27 w16 =>
 m R (o_fieldAddr 170 x27 2) w16 fun x28 w17 =>
 m R (o_load 3 x28) w17 fun x29 w18 =>
 m R (o_bin .add 3 true x29 (.int .i64 8)) w18 fun x30 w19 =>
 m R (o_bin .rem 3 true x30 (.int .i64 64)) w19 fun x31 w20 =>
 m R (o_bin .sub 3 true (.int .i64 64) x31) w20 fun x32 w21 =>
 ml1 (.int .i64 0) w21 fun x33 u11 w22 next11 =>
 m R (o_bin .lss 3 true x33 (.int .i64 8)) w22 fun x34 w23 =>
 mif x34 (
 m R (o_bin .add 3 false x32 x33) w23 fun x38 w24 =>
 m R (o_nilCheck x14) w24 fun x40 w25 =>
 m R (o_fieldAddr 170 x40 2) w25 fun x41 w26 =>
 m R (o_load 3 x41) w26 fun x42 w27 =>
 m R (o_conv 3 161 x42) w27 fun x43 w28 =>
 m R (o_bin .mul 161 true x43 (.int .u64 8)) w28 fun x44 w29 =>
 m R (o_bin .mul 3 true (.int .i64 8) x33) w29 fun x46 w30 =>
 m R (o_bin .sub 3 true (.int .i64 56) x46) w30 fun x47 w31 =>
 m R (o_bin .shr 161 false x44 x47) w31 fun x48 w32 =>
 m R (o_conv 161 5 x48) w32 fun x49 w33 =>
 m R (o_indexAddr 172 x6 x38) w33 fun x50 w34 =>
 m R (o_store 5 x50 x49) w34 fun _ w35 =>
 m R (o_bin .add 3 true x33 (.int .i64 1)) w35 fun x51 w36 =>
 next11 x51 w36) (
 m R (o_bin .add 3 true x32 (.int .i64 8)) w23 fun x54 w37 =>
 m R (o_slice 172 x6 none (some x54) none) w37 fun x55 w38 =>
 m R (o_conv 99 9 x55) w38 fun x56 w39 =>
 m R (o_call (fv 112) [x14, x56]) w39 fun x57 w40 =>
 m R (o_alloc 34) w40 fun x9 w41 =>
 ml1 (.int .i64 0) w41 fun x58 u18 w42 next18 =>
 m R (o_bin .lss 3 true x58 (.int .i64 32)) w42 fun x59 w43 =>
 mif x59 (
 m R (o_bin .quo 3 true x58 (.int .i64 4)) w43 fun x64 w44 =>
 m R (o_nilCheck x14) w44 fun x65 w45 =>
 m R (o_fieldAddr 170 x65 0) w45 fun x66 w46 =>
 m R (o_indexAddr 162 x66 x64) w46 fun x67 w47 =>
 m R (o_load 159 x67) w47 fun x68 w48 =>
 m R (o_bin .rem 3 true x58 (.int .i64 4)) w48 fun x70 w49 =>
 m R (o_bin .mul 3 true (.int .i64 8) x70) w49 fun x71 w50 =>
 m R (o_bin .sub 3 true (.int .i64 24) x71) w50 fun x72 w51 =>
 m R (o_bin .shr 159 false x68 x72) w51 fun x73 w52 =>
 m R (o_conv 159 5 x73) w52 fun x74 w53 =>
 m R (o_indexAddr 34 x9 x58) w53 fun x75 w54 =>
 m R (o_store 5 x75 x74) w54 fun _ w55 =>
 m R (o_bin .add 3 true x58 (.int .i64 1)) w55 fun x76 w56 =>
 next18 x76 w56) (
 m R (o_load 34 x9) w43 fun x77 w57 =>
 m R (o_store 34 x2 x77) w57 fun _ w58 =>
 rcell Tryz.prog 34 x2 w58 fun r2 =>
 R (.returned r2) w58)))
def A_sha_Sum : Ann := ⟨[(3, [17], 33423392), (11, [33], 4503591037436160), (18, [58], 151115439221452495127552)], [], [], [], []⟩
theorem C_sha_Sum {x0 : Value} {w : World} {R : Ending → World → Prop} (h : F_sha_Sum x0 w R) : Calls Tryz.prog 80 #[x0] w R :=
 calls_cwp (A := A_sha_Sum) (args := [x0]) mixed Tryz.func80 (c := Tryz.f80.body.getD .skip) (by kernel_rfl) (by kernel_rfl) (by kernel_rfl) (Eq.mpr (by kernel_rfl) h)
def F_slices_Clone_api_Hash_api_Hash (x0 : Value) (w : World) (R : Ending → World → Prop) : Prop :=
 m R (o_bin .eql 54 true x0 (.slice none 0 0)) w fun x4 w1 =>
 mif x4 (
 R (.returned (.slice none 0 0)) w1) (
 m R (o_buildSlice 54 0 []) w1 fun x5 w2 =>
 m R (o_builtin .append #[54, 54] 54 [false, false] [x5, x0]) w2 fun x7 w3 =>
 R (.returned x7) w3)
def A_slices_Clone_api_Hash_api_Hash : Ann := ⟨[], [], [], [], []⟩
theorem C_slices_Clone_api_Hash_api_Hash {x0 : Value} {w : World} {R : Ending → World → Prop} (h : F_slices_Clone_api_Hash_api_Hash x0 w R) : Calls Tryz.prog 82 #[x0] w R :=
 calls_cwp (A := A_slices_Clone_api_Hash_api_Hash) (args := [x0]) mixed Tryz.func82 (c := Tryz.f82.body.getD .skip) (by kernel_rfl) (by kernel_rfl) (by kernel_rfl) (Eq.mpr (by kernel_rfl) h)
def F_mac_Derive (x0 x1 x2 : Value) (w : World) (R : Ending → World → Prop) : Prop :=
 m R (o_box 34 x0) w fun x3 w1 =>
 m R (o_alloc 34) w1 fun x6 w2 =>
 dp Tryz.prog (o_slice 34 x3 none none none) fun x7 =>
 dq Tryz.prog w2 (o_conv 99 9 x7) fun x8 =>
 dp Tryz.prog (o_builtin .len #[9] 3 [false] [x1]) fun x10 =>
 df Tryz.prog w2 (o_call (fv 124) [x10]) true fun x11 w3 =>
 df Tryz.prog w3 (o_buildSlice 70 3 [(0, x11), (1, x1), (2, x2)]) true fun x14 w4 =>
 df Tryz.prog w4 (o_call (fv 123) [x8, x14]) false fun x15 w5 =>
 df Tryz.prog w5 (o_store 34 x6 x15) false fun _ w6 =>
 dend w6 fun w7 =>
 rcell Tryz.prog 34 x6 w7 fun r6 =>
 R (.returned r6) w7
def A_mac_Derive : Ann := ⟨[], [], [(1, [⟨0, .q none, 8, 0, 128⟩, ⟨1, .q (some 0), 128, 1, 256⟩, ⟨2, .q none, 2, 0, 512⟩, ⟨3, .q none, 512, 4, 1024⟩, ⟨4, .f 0 true, 1024, 12, 2048⟩, ⟨5, .q none, 2, 0, 4096⟩, ⟨6, .q none, 4, 0, 8192⟩, ⟨7, .f 1 true, 14336, 124, 16384⟩, ⟨8, .f 2 false, 16640, 255, 32768⟩, ⟨9, .f 3 false, 32832, 511, 0⟩])], [], []⟩
theorem C_mac_Derive {x0 x1 x2 : Value} {w : World} {R : Ending → World → Prop} (h : F_mac_Derive x0 x1 x2 w R) : Calls Tryz.prog 85 #[x0, x1, x2] w R :=
 calls_cwp (A := A_mac_Derive) (args := [x0, x1, x2]) mixed Tryz.func85 (c := Tryz.f85.body.getD .skip) (by kernel_rfl) (by kernel_rfl) (by kernel_rfl) (Eq.mpr (by kernel_rfl) h)
def F_tree_Resolve (x0 x1 : Value) (w : World) (R : Ending → World → Prop) : Prop :=
 m R (o_box 25 x0) w fun x2 w1 =>
 m R (o_load 25 x2) w1 fun x8 w2 =>
 m R (o_call (fv 38) [x8]) w2 fun x9 w3 =>
 m R (o_store 25 x2 x9) w3 fun _ w4 =>
 m R (o_fieldAddr 25 x2 0) w4 fun x10 w5 =>
 m R (o_load 22 x10) w5 fun x11 w6 =>
 m R (o_builtin .len #[22] 3 [false] [x11]) w6 fun x12 w7 =>
 m R (o_alloc 3) w7 fun x5 w8 =>
 m R (o_store 3 x5 x12) w8 fun _ w9 =>
 m R (o_alloc 47) w9 fun x6 w10 =>
 m R (o_alloc 148) w10 fun x7 w11 =>
 m R (o_func (.func 125) [] [x2, x6, x7, x5]) w11 fun x13 w12 =>
 m R (o_store 148 x7 x13) w12 fun _ w13 =>
 mj0 (fun j8 =>
 mj1 (fun j7 =>
 m R (o_bin .geq 3 true x1 (.int .i64 0)) w13 fun x15 w14 =>
 mguard x15 true (fun k => m R (o_move x1) w14 k) w14 fun x17 w15 =>
 mguard x15 true (fun k => m R (o_load 3 x5) w15 k) w15 fun x18 w16 =>
 mguard x15 true (fun k => m R (o_bin .mul 3 true (.int .i64 2) x18) w16 k) w16 fun x19 w17 =>
 mguard x15 true (fun k => m R (o_bin .sub 3 true x19 (.int .i64 1)) w17 k) w17 fun x20 w18 =>
 mguard x15 true (fun k => m R (o_bin .lss 3 false x17 x20) w18 k) w18 fun x21 w19 =>
 m R (o_pick x15 x21 (.bool false)) w19 fun x22 w20 =>
 j7 x22 w20) fun x22 u7 w21 =>
 mif x22 (
 m R (o_load 148 x7) w21 fun x23 w22 =>
 m R (o_call x23 [x1]) w22 fun x25 w23 =>
 j8 w23) (
 j8 w21)) fun u8 w24 =>
 m R (o_load 47 x6) w24 fun x26 w25 =>
 R (.returned x26) w25
def A_tree_Resolve : Ann := ⟨[], [(8, [], 67092480), (7, [22], 8372224)], [], [], []⟩
theorem C_tree_Resolve {x0 x1 : Value} {w : World} {R : Ending → World → Prop} (h : F_tree_Resolve x0 x1 w R) : Calls Tryz.prog 86 #[x0, x1] w R :=
 calls_cwp (A := A_tree_Resolve) (args := [x0, x1]) mixed Tryz.func86 (c := Tryz.f86.body.getD .skip) (by kernel_rfl) (by kernel_rfl) (by kernel_rfl) (Eq.mpr (by kernel_rfl) h)
def F_bough_Beside (x0 x1 : Value) (w : World) (R : Ending → World → Prop) : Prop :=
 m R (o_call (fv 108) [x0, x1]) w fun x8 w1 =>
 m R (o_bin .lss 3 true x8 (.int .i64 0)) w1 fun x11 w2 =>
 mif x11 (
 R (.returned (.int .i64 (-1))) w2) (
 m R (o_bin .lss 3 false x1 x8) w2 fun x15 w3 =>
 mif x15 (
 m R (o_call (fv 127) [x0, x8]) w3 fun x18 w4 =>
 R (.returned x18) w4) (
 m R (o_call (fv 126) [x0, x8]) w3 fun x21 w5 =>
 R (.returned x21) w5))
def A_bough_Beside : Ann := ⟨[], [], [], [], []⟩
theorem C_bough_Beside {x0 x1 : Value} {w : World} {R : Ending → World → Prop} (h : F_bough_Beside x0 x1 w R) : Calls Tryz.prog 87 #[x0, x1] w R :=
 calls_cwp (A := A_bough_Beside) (args := [x0, x1]) mixed Tryz.func87 (c := Tryz.f87.body.getD .skip) (by kernel_rfl) (by kernel_rfl) (by kernel_rfl) (Eq.mpr (by kernel_rfl) h)
def F_slices_DeleteFunc_int_int (x0 x1 : Value) (w : World) (R : Ending → World → Prop) : Prop :=
 m R (o_call (fv 58) [x0, x1]) w fun x10 w1 =>
 m R (o_bin .eql 3 true x10 (.int .i64 (-1))) w1 fun x12 w2 =>
 mif x12 (
 R (.returned x0) w2) (
 m R (o_bin .add 3 true x10 (.int .i64 1)) w2 fun x15 w3 =>
 ml2 x10 x15 w3 fun x5 x6 u5 w4 next5 =>
 m R (o_builtin .len #[47] 3 [false] [x0]) w4 fun x18 w5 =>
 m R (o_bin .lss 3 false x6 x18) w5 fun x19 w6 =>
 mif x19 (
 mj1 (fun j6 =>
 m R (o_indexAddr 47 x0 x6) w6 fun x24 w7 =>
 m R (o_load 3 x24) w7 fun x25 w8 =>
 m R (o_call x1 [x25]) w8 fun x28 w9 =>
 m R (o_un .not x28) w9 fun x29 w10 =>
 mif x29 (
 m R (o_indexAddr 47 x0 x5) w10 fun x33 w11 =>
 m R (o_store 3 x33 x25) w11 fun _ w12 =>
 m R (o_bin .add 3 true x5 (.int .i64 1)) w12 fun x35 w13 =>
 j6 x35 w13) (
 j6 x5 w10)) fun x5 u6 w14 =>
 m R (o_bin .add 3 true x6 (.int .i64 1)) w14 fun x21 w15 =>
 next5 x5 x21 w15) (
 m R (o_slice 47 x0 (some x5) none none) w6 fun x38 w16 =>
 m R (o_builtin .clear #[47] 0 [false] [x38]) w16 fun _ w17 =>
 m R (o_slice 47 x0 none (some x5) none) w17 fun x41 w18 =>
 R (.returned x41) w18))
def A_slices_DeleteFunc_int_int : Ann := ⟨[(5, [5, 6], 68719411424)], [(6, [5], 68715282592)], [], [], []⟩
theorem C_slices_DeleteFunc_int_int {x0 x1 : Value} {w : World} {R : Ending → World → Prop} (h : F_slices_DeleteFunc_int_int x0 x1 w R) : Calls Tryz.prog 88 #[x0, x1] w R :=
 calls_cwp (A := A_slices_DeleteFunc_int_int) (args := [x0, x1]) mixed Tryz.func88 (c := Tryz.f88.body.getD .skip) (by kernel_rfl) (by kernel_rfl) (by kernel_rfl) (Eq.mpr (by kernel_rfl) h)
def F_climb_beside_1 (x0 x1 : Value) (w : World) (R : Ending → World → Prop) : Prop :=
 m R (o_bin .rem 3 true x0 (.int .i64 2)) w fun x5 w1 =>
 m R (o_bin .eql 3 true x5 (.int .i64 0)) w1 fun x6 w2 =>
 mguard x6 true (fun k => m R (o_load 47 x1) w2 k) w2 fun x8 w3 =>
 mguard x6 true (fun k => m R (o_move x0) w3 k) w3 fun x9 w4 =>
 mguard x6 true (fun k => m R (o_bin .quo 3 true x9 (.int .i64 2)) w4 k) w4 fun x10 w5 =>
 mguard x6 true (fun k => m R (o_call (fv 90) [x8, x10]) w5 k) w5 fun x11 w6 =>
 m R (o_pick x6 x11 (.bool false)) w6 fun x12 w7 =>
 R (.returned x12) w7
def A_climb_beside_1 : Ann := ⟨[], [], [], [], []⟩
theorem C_climb_beside_1 {x0 x1 : Value} {w : World} {R : Ending → World → Prop} (h : F_climb_beside_1 x0 x1 w R) : Calls Tryz.prog 89 #[x0, x1] w R :=
 calls_cwp (A := A_climb_beside_1) (args := [x0, x1]) mixed Tryz.func89 (c := Tryz.f89.body.getD .skip) (by kernel_rfl) (by kernel_rfl) (by kernel_rfl) (Eq.mpr (by kernel_rfl) h)
def F_slices_Contains_int_int (x0 x1 : Value) (w : World) (R : Ending → World → Prop) : Prop :=
 m R (o_call (fv 54) [x0, x1]) w fun x7 w1 =>
 m R (o_bin .geq 3 true x7 (.int .i64 0)) w1 fun x8 w2 =>
 R (.returned x8) w2
def A_slices_Contains_int_int : Ann := ⟨[], [], [], [], []⟩
theorem C_slices_Contains_int_int {x0 x1 : Value} {w : World} {R : Ending → World → Prop} (h : F_slices_Contains_int_int x0 x1 w R) : Calls Tryz.prog 90 #[x0, x1] w R :=
 calls_cwp (A := A_slices_Contains_int_int) (args := [x0, x1]) mixed Tryz.func90 (c := Tryz.f90.body.getD .skip) (by kernel_rfl) (by kernel_rfl) (by kernel_rfl) (Eq.mpr (by kernel_rfl) h)
def F_prim_shared (x0 x1 : Value) (w : World) (R : Ending → World → Prop) : Prop :=
 m R (o_box 34 x0) w fun x2 w1 =>
 m R (o_alloc 34) w1 fun x4 w2 =>
 m R (o_slice 34 x2 none none none) w2 fun x5 w3 =>
 m R (o_conv 99 9 x5) w3 fun x6 w4 =>
 m R (o_buildSlice 70 3 [(0, (.string (ByteArray.mk #[107, 101, 109]))), (1, x6), (2, x1)]) w4 fun x8 w5 =>
 m R (o_call (fv 80) [x8]) w5 fun x9 w6 =>
 m R (o_store 34 x4 x9) w6 fun _ w7 =>
 rcell Tryz.prog 34 x4 w7 fun r4 =>
 R (.returned r4) w7
def A_prim_shared : Ann := ⟨[], [], [], [], []⟩
theorem C_prim_shared {x0 x1 : Value} {w : World} {R : Ending → World → Prop} (h : F_prim_shared x0 x1 w R) : Calls Tryz.prog 91 #[x0, x1] w R :=
 calls_cwp (A := A_prim_shared) (args := [x0, x1]) mixed Tryz.func91 (c := Tryz.f91.body.getD .skip) (by kernel_rfl) (by kernel_rfl) (by kernel_rfl) (Eq.mpr (by kernel_rfl) h)
def F_prim_Seal (x0 x1 x2 x3 x4 : Value) (w : World) (R : Ending → World → Prop) : Prop :=
 m R (o_box 34 x1) w fun x6 w1 =>
 m R (o_builtin .len #[9] 3 [false] [x3]) w1 fun x13 w2 =>
 m R (o_bin .gtr 3 true x13 (.int .i64 65536)) w2 fun x14 w3 =>
 mif x14 (
 R (.returned (.string (ByteArray.mk #[]))) w3) (
 mj0 (fun j5 =>
 m R (o_builtin .len #[54] 3 [false] [x4]) w3 fun x16 w4 =>
 m R (o_bin .gtr 3 true x16 (.int .i64 0)) w4 fun x17 w5 =>
 mif x17 (
 ((
 dq Tryz.prog w5 (o_load 34 x6) fun x19 =>
 df Tryz.prog w5 (o_buildSlice 54 1 [(0, x19)]) false fun x20 w6 =>
 df Tryz.prog w6 (o_call (fv 82) [x4]) true fun x22 w7 =>
 dp Tryz.prog (o_build 86 [(0, x20), (1, x22)]) fun x23 =>
 df Tryz.prog w7 (o_call (fv 36) [x0, x23]) false fun x24 w8 =>
 dend w8 fun w9 =>
 j5 w9) ∧ (
 dq Tryz.prog w5 (o_load 34 x6) fun x19 =>
 df Tryz.prog w5 (o_call (fv 82) [x4]) true fun x22 w10 =>
 df Tryz.prog w10 (o_buildSlice 54 1 [(0, x19)]) false fun x20 w11 =>
 dp Tryz.prog (o_build 86 [(0, x20), (1, x22)]) fun x23 =>
 df Tryz.prog w11 (o_call (fv 36) [x0, x23]) false fun x24 w12 =>
 dend w12 fun w13 =>
 j5 w13))) (
 j5 w5)) fun u5 w14 =>
 m R (o_load 34 x6) w14 fun x25 w15 =>
 m R (o_call (fv 128) [x25, x3]) w15 fun x27 w16 =>
 m R (o_load 34 x6) w16 fun x29 w17 =>
 m R (o_call (fv 129) [x29, x2, x27]) w17 fun x32 w18 =>
 m R (o_bin .add 9 false x27 x32) w18 fun x33 w19 =>
 R (.returned x33) w19)
def A_prim_Seal : Ann := ⟨[], [(5, [], 33521664)], [], [(4, [⟨[0, 1, 3, 2, 4, 5, 6], [⟨0, .q none, 1, 0, 262144⟩, ⟨1, .q (some 0), 64, 0, 524288⟩, ⟨2, .f 0 false, 524288, 2, 1048576⟩, ⟨3, .q none, 16, 0, 2097152⟩, ⟨4, .f 1 true, 2097152, 8, 4194304⟩, ⟨5, .q none, 5242880, 30, 8388608⟩, ⟨6, .f 2 false, 8650752, 63, 16777216⟩]⟩, ⟨[0, 1, 3, 4, 2, 5, 6], [⟨0, .q none, 1, 0, 262144⟩, ⟨1, .q (some 0), 64, 0, 524288⟩, ⟨2, .f 1 false, 524288, 2, 1048576⟩, ⟨3, .q none, 16, 0, 2097152⟩, ⟨4, .f 0 true, 2097152, 8, 4194304⟩, ⟨5, .q none, 5242880, 30, 8388608⟩, ⟨6, .f 2 false, 8650752, 63, 16777216⟩]⟩])], []⟩
theorem C_prim_Seal {x0 x1 x2 x3 x4 : Value} {w : World} {R : Ending → World → Prop} (h : F_prim_Seal x0 x1 x2 x3 x4 w R) : Calls Tryz.prog 92 #[x0, x1, x2, x3, x4] w R :=
 calls_cwp (A := A_prim_Seal) (args := [x0, x1, x2, x3, x4]) mixed Tryz.func92 (c := Tryz.f92.body.getD .skip) (by kernel_rfl) (by kernel_rfl) (by kernel_rfl) (Eq.mpr (by kernel_rfl) h)
def F_wire_New (w : World) (R : Ending → World → Prop) : Prop :=
 m R (o_build 188 []) w fun x1 w1 =>
 m R (o_box 188 x1) w1 fun x2 w2 =>
 R (.returned x2) w2
def A_wire_New : Ann := ⟨[], [], [], [], []⟩
theorem C_wire_New {w : World} {R : Ending → World → Prop} (h : F_wire_New w R) : Calls Tryz.prog 93 #[] w R :=
 calls_cwp (A := A_wire_New) (args := []) mixed Tryz.func93 (c := Tryz.f93.body.getD .skip) (by kernel_rfl) (by kernel_rfl) (by kernel_rfl) (Eq.mpr (by kernel_rfl) h)
def F_wire_Writer_Num (x0 x1 : Value) (w : World) (R : Ending → World → Prop) : Prop :=
 m R (o_bin .eql 146 true x0 (.pointer none)) w fun x9 w1 =>
 mif x9 (
 R (.returned (.tuple #[])) w1) (
 mj1 (fun j2 =>
 m R (o_bin .lss 3 true x1 (.int .i64 0)) w1 fun x11 w2 =>
 mguard x11 false (fun k => m R (o_move x1) w2 k) w2 fun x13 w3 =>
 mguard x11 false (fun k => m R (o_bin .gtr 3 true x13 (.int .i64 4611686018427387903)) w3 k) w3 fun x14 w4 =>
 m R (o_pick x11 (.bool true) x14) w4 fun x15 w5 =>
 j2 x15 w5) fun x15 u2 w6 =>
 mif x15 (
 m R (o_nilCheck x0) w6 fun x17 w7 =>
 m R (o_fieldAddr 188 x17 1) w7 fun x18 w8 =>
 m R (o_store 4 x18 (.bool true)) w8 fun _ w9 =>
 R (.returned (.tuple #[])) w9) (
 ml1 (.int .i64 0) w6 fun x4 u4 w10 next4 =>
 mj0 (fun j5 =>
 m R (o_bin .lss 3 true x4 (.int .i64 3)) w10 fun x20 w11 =>
 mguard x20 true (fun k => m R (o_move x1) w11 k) w11 fun x22 w12 =>
 mguard x20 true (fun k => m R (o_call (fv 130) []) w12 k) w12 fun x23 w13 =>
 mguard x20 true (fun k => m R (o_move x4) w13 k) w13 fun x24 w14 =>
 mguard x20 true (fun k => m R (o_index 189 x23 x24) w14 k) w14 fun x25 w15 =>
 mguard x20 true (fun k => m R (o_bin .geq 3 false x22 x25) w15 k) w15 fun x26 w16 =>
 m R (o_pick x20 x26 (.bool false)) w16 fun x27 w17 =>
 mif x27 (
 j5 w17) (
 m R (o_bin .shl 3 true (.int .i64 1) x4) w17 fun x31 w18 =>
 ml1 (.int .i64 0) w18 fun x33 u8 w19 next8 =>
 m R (o_bin .lss 3 false x33 x31) w19 fun x34 w20 =>
 mif x34 (
 m R (o_bin .sub 3 true x31 (.int .i64 1)) w20 fun x38 w21 =>
 m R (o_bin .sub 3 false x38 x33) w21 fun x40 w22 =>
 m R (o_bin .mul 3 true (.int .i64 8) x40) w22 fun x41 w23 =>
 m R (o_bin .shr 3 false x1 x41) w23 fun x42 w24 =>
 m R (o_conv 3 5 x42) w24 fun x43 w25 =>
 mj1 (fun j13 =>
 m R (o_bin .eql 3 true x33 (.int .i64 0)) w25 fun x45 w26 =>
 mif x45 (
 m R (o_bin .shl 3 true x4 (.int .u64 6)) w26 fun x48 w27 =>
 m R (o_conv 3 5 x48) w27 fun x49 w28 =>
 m R (o_bin .or 5 false x43 x49) w28 fun x50 w29 =>
 j13 x50 w29) (
 j13 x43 w26)) fun x7 u13 w30 =>
 m R (o_nilCheck x0) w30 fun x53 w31 =>
 m R (o_fieldAddr 188 x53 0) w31 fun x54 w32 =>
 m R (o_load 99 x54) w32 fun x55 w33 =>
 m R (o_buildSlice 99 1 [(0, x7)]) w33 fun x57 w34 =>
 m R (o_builtin .append #[99, 99] 99 [false, false] [x55, x57]) w34 fun x58 w35 =>
 m R (o_nilCheck x0) w35 fun x59 w36 =>
 m R (o_fieldAddr 188 x59 0) w36 fun x60 w37 =>
 m R (o_store 99 x60 x58) w37 fun _ w38 =>
 m R (o_bin .add 3 true x33 (.int .i64 1)) w38 fun x61 w39 =>
 next8 x61 w39) (
 R (.returned (.tuple #[])) w20))) fun u5 w40 =>
 m R (o_bin .add 3 true x4 (.int .i64 1)) w40 fun x29 w41 =>
 next4 x29 w41))
def A_wire_Writer_Num : Ann := ⟨[(4, [4], 1073217552), (8, [33], 4611686009837453504)], [(2, [15], 64512), (5, [], 267911168), (13, [7], 2234207627640960)], [], [], []⟩
theorem C_wire_Writer_Num {x0 x1 : Value} {w : World} {R : Ending → World → Prop} (h : F_wire_Writer_Num x0 x1 w R) : Calls Tryz.prog 94 #[x0, x1] w R :=
 calls_cwp (A := A_wire_Writer_Num) (args := [x0, x1]) mixed Tryz.func94 (c := Tryz.f94.body.getD .skip) (by kernel_rfl) (by kernel_rfl) (by kernel_rfl) (Eq.mpr (by kernel_rfl) h)
def F_wire_Writer_End (x0 : Value) (w : World) (R : Ending → World → Prop) : Prop :=
 mj1 (fun j2 =>
 m R (o_bin .eql 146 true x0 (.pointer none)) w fun x5 w1 =>
 mguard x5 false (fun k => m R (o_move x0) w1 k) w1 fun x7 w2 =>
 mguard x5 false (fun k => m R (o_nilCheck x7) w2 k) w2 fun x8 w3 =>
 mguard x5 false (fun k => m R (o_fieldAddr 188 x8 1) w3 k) w3 fun x9 w4 =>
 mguard x5 false (fun k => m R (o_load 4 x9) w4 k) w4 fun x10 w5 =>
 m R (o_pick x5 (.bool true) x10) w5 fun x11 w6 =>
 j2 x11 w6) fun x11 u2 w7 =>
 mif x11 (
 R (.returned (.tuple #[(.string (ByteArray.mk #[])), (.int .i64 1)])) w7) (
 m R (o_nilCheck x0) w7 fun x13 w8 =>
 m R (o_fieldAddr 188 x13 0) w8 fun x14 w9 =>
 m R (o_load 99 x14) w9 fun x15 w10 =>
 m R (o_conv 99 9 x15) w10 fun x16 w11 =>
 R (.returned (.tuple #[x16, (.int .i64 0)])) w11)
def A_wire_Writer_End : Ann := ⟨[], [(2, [11], 4080)], [], [], []⟩
theorem C_wire_Writer_End {x0 : Value} {w : World} {R : Ending → World → Prop} (h : F_wire_Writer_End x0 w R) : Calls Tryz.prog 95 #[x0] w R :=
 calls_cwp (A := A_wire_Writer_End) (args := [x0]) mixed Tryz.func95 (c := Tryz.f95.body.getD .skip) (by kernel_rfl) (by kernel_rfl) (by kernel_rfl) (Eq.mpr (by kernel_rfl) h)
def F_tree_HashAt (x0 x1 : Value) (w : World) (R : Ending → World → Prop) : Prop :=
 m R (o_box 25 x0) w fun x2 w1 =>
 m R (o_alloc 34) w1 fun x4 w2 =>
 m R (o_load 25 x2) w2 fun x5 w3 =>
 m R (o_call (fv 38) [x5]) w3 fun x6 w4 =>
 m R (o_store 25 x2 x6) w4 fun _ w5 =>
 mj1 (fun j3 =>
 m R (o_bin .lss 3 true x1 (.int .i64 0)) w5 fun x8 w6 =>
 mguard x8 false (fun k => m R (o_move x1) w6 k) w6 fun x10 w7 =>
 mguard x8 false (fun k => m R (o_fieldAddr 25 x2 0) w7 k) w7 fun x11 w8 =>
 mguard x8 false (fun k => m R (o_load 22 x11) w8 k) w8 fun x12 w9 =>
 mguard x8 false (fun k => m R (o_builtin .len #[22] 3 [false] [x12]) w9 k) w9 fun x13 w10 =>
 mguard x8 false (fun k => m R (o_bin .mul 3 true (.int .i64 2) x13) w10 k) w10 fun x14 w11 =>
 mguard x8 false (fun k => m R (o_bin .sub 3 true x14 (.int .i64 1)) w11 k) w11 fun x15 w12 =>
 mguard x8 false (fun k => m R (o_bin .geq 3 false x10 x15) w12 k) w12 fun x16 w13 =>
 m R (o_pick x8 (.bool true) x16) w13 fun x17 w14 =>
 j3 x17 w14) fun x17 u3 w15 =>
 mif x17 (
 m R (o_build 34 []) w15 fun x18 w16 =>
 m R (o_store 34 x4 x18) w16 fun _ w17 =>
 rcell Tryz.prog 34 x4 w17 fun r4 =>
 R (.returned r4) w17) (
 m R (o_load 25 x2) w15 fun x19 w18 =>
 m R (o_call (fv 131) [x19, x1]) w18 fun x21 w19 =>
 m R (o_store 34 x4 x21) w19 fun _ w20 =>
 rcell Tryz.prog 34 x4 w20 fun r4 =>
 R (.returned r4) w20)
def A_tree_HashAt : Ann := ⟨[], [(3, [17], 262016)], [], [], []⟩
theorem C_tree_HashAt {x0 x1 : Value} {w : World} {R : Ending → World → Prop} (h : F_tree_HashAt x0 x1 w R) : Calls Tryz.prog 96 #[x0, x1] w R :=
 calls_cwp (A := A_tree_HashAt) (args := [x0, x1]) mixed Tryz.func96 (c := Tryz.f96.body.getD .skip) (by kernel_rfl) (by kernel_rfl) (by kernel_rfl) (Eq.mpr (by kernel_rfl) h)
def F_bevyref07_find (x0 x1 x2 x3 x4 : Value) (w : World) (R : Ending → World → Prop) : Prop :=
 m R (o_call (fv 132) [x0, x1]) w fun x20 w1 =>
 m R (o_bin .eql 3 false x20 x2) w1 fun x23 w2 =>
 mif x23 (
 R (.returned (.tuple #[x0, x1, x3, x4])) w2) (
 m R (o_call (fv 133) [x1]) w2 fun x29 w3 =>
 m R (o_call (fv 132) [x0, x29]) w3 fun x32 w4 =>
 m R (o_bin .add 3 false x0 x29) w4 fun x35 w5 =>
 m R (o_bin .sub 3 false x1 x29) w5 fun x38 w6 =>
 m R (o_call (fv 132) [x35, x38]) w6 fun x39 w7 =>
 m R (o_bin .lss 3 false x2 x20) w7 fun x42 w8 =>
 mif x42 (
 m R (o_call (fv 97) [x0, x29, x2, x20, x39]) w8 fun x48 w9 =>
 m R (o_extract x48 0) w9 fun x49 w10 =>
 m R (o_extract x48 1) w10 fun x50 w11 =>
 m R (o_extract x48 2) w11 fun x51 w12 =>
 m R (o_extract x48 3) w12 fun x52 w13 =>
 R (.returned (.tuple #[x49, x50, x51, x52])) w13) (
 m R (o_bin .add 3 false x0 x29) w8 fun x55 w14 =>
 m R (o_bin .sub 3 false x1 x29) w14 fun x58 w15 =>
 m R (o_call (fv 97) [x55, x58, x2, x20, x32]) w15 fun x62 w16 =>
 m R (o_extract x62 0) w16 fun x63 w17 =>
 m R (o_extract x62 1) w17 fun x64 w18 =>
 m R (o_extract x62 2) w18 fun x65 w19 =>
 m R (o_extract x62 3) w19 fun x66 w20 =>
 R (.returned (.tuple #[x63, x64, x65, x66])) w20))
def A_bevyref07_find : Ann := ⟨[], [], [], [], []⟩
theorem C_bevyref07_find {x0 x1 x2 x3 x4 : Value} {w : World} {R : Ending → World → Prop} (h : F_bevyref07_find x0 x1 x2 x3 x4 w R) : Calls Tryz.prog 97 #[x0, x1, x2, x3, x4] w R :=
 calls_cwp (A := A_bevyref07_find) (args := [x0, x1, x2, x3, x4]) mixed Tryz.func97 (c := Tryz.f97.body.getD .skip) (by kernel_rfl) (by kernel_rfl) (by kernel_rfl) (Eq.mpr (by kernel_rfl) h)
def F_bevyref07_Leaves (x0 x1 : Value) (w : World) (R : Ending → World → Prop) : Prop :=
 m R (o_call (fv 51) [x0, x1]) w fun x12 w1 =>
 m R (o_un .not x12) w1 fun x13 w2 =>
 mif x13 (
 R (.returned (.tuple #[(.int .i64 0), (.int .i64 0)])) w2) (
 m R (o_call (fv 97) [(.int .i64 0), x0, x1, (.int .i64 (-1)), (.int .i64 (-1))]) w2 fun x17 w3 =>
 m R (o_extract x17 0) w3 fun x18 w4 =>
 m R (o_extract x17 1) w4 fun x19 w5 =>
 m R (o_extract x17 2) w5 fun x20 w6 =>
 m R (o_extract x17 3) w6 fun x21 w7 =>
 m R (o_bin .add 3 false x18 x19) w7 fun x25 w8 =>
 R (.returned (.tuple #[x18, x25])) w8)
def A_bevyref07_Leaves : Ann := ⟨[], [], [], [], []⟩
theorem C_bevyref07_Leaves {x0 x1 : Value} {w : World} {R : Ending → World → Prop} (h : F_bevyref07_Leaves x0 x1 w R) : Calls Tryz.prog 98 #[x0, x1] w R :=
 calls_cwp (A := A_bevyref07_Leaves) (args := [x0, x1]) mixed Tryz.func98 (c := Tryz.f98.body.getD .skip) (by kernel_rfl) (by kernel_rfl) (by kernel_rfl) (Eq.mpr (by kernel_rfl) h)
def F_bough_there (x0 x1 : Value) (w : World) (R : Ending → World → Prop) : Prop :=
 m R (o_bin .geq 3 true x0 (.int .i64 1)) w fun x6 w1 =>
 mguard x6 true (fun k => m R (o_move x0) w1 k) w1 fun x8 w2 =>
 mguard x6 true (fun k => m R (o_bin .leq 3 true x8 (.int .i64 64)) w2 k) w2 fun x9 w3 =>
 m R (o_pick x6 x9 (.bool false)) w3 fun x10 w4 =>
 mguard x10 true (fun k => m R (o_move x1) w4 k) w4 fun x12 w5 =>
 mguard x10 true (fun k => m R (o_bin .geq 3 true x12 (.int .i64 0)) w5 k) w5 fun x13 w6 =>
 m R (o_pick x10 x13 (.bool false)) w6 fun x14 w7 =>
 mguard x14 true (fun k => m R (o_move x1) w7 k) w7 fun x16 w8 =>
 mguard x14 true (fun k => m R (o_move x0) w8 k) w8 fun x17 w9 =>
 mguard x14 true (fun k => m R (o_bin .mul 3 true (.int .i64 2) x17) w9 k) w9 fun x18 w10 =>
 mguard x14 true (fun k => m R (o_bin .sub 3 true x18 (.int .i64 2)) w10 k) w10 fun x19 w11 =>
 mguard x14 true (fun k => m R (o_bin .leq 3 false x16 x19) w11 k) w11 fun x20 w12 =>
 m R (o_pick x14 x20 (.bool false)) w12 fun x21 w13 =>
 R (.returned x21) w13
def A_bough_there : Ann := ⟨[], [], [], [], []⟩
theorem C_bough_there {x0 x1 : Value} {w : World} {R : Ending → World → Prop} (h : F_bough_there x0 x1 w R) : Calls Tryz.prog 99 #[x0, x1] w R :=
 calls_cwp (A := A_bough_there) (args := [x0, x1]) mixed Tryz.func99 (c := Tryz.f99.body.getD .skip) (by kernel_rfl) (by kernel_rfl) (by kernel_rfl) (Eq.mpr (by kernel_rfl) h)
def F_bough_Leaves (x0 x1 : Value) (w : World) (R : Ending → World → Prop) : Prop :=
 m R (o_call (fv 99) [x0, x1]) w fun x9 w1 =>
 m R (o_un .not x9) w1 fun x10 w2 =>
 mif x10 (
 R (.returned (.tuple #[(.int .i64 0), (.int .i64 0)])) w2) (
 m R (o_call (fv 134) [x1]) w2 fun x12 w3 =>
 m R (o_bin .shl 3 true (.int .i64 1) x12) w3 fun x13 w4 =>
 m R (o_bin .add 3 true x1 (.int .i64 1)) w4 fun x15 w5 =>
 m R (o_bin .sub 3 false x15 x13) w5 fun x17 w6 =>
 m R (o_bin .quo 3 true x17 (.int .i64 2)) w6 fun x18 w7 =>
 m R (o_bin .add 3 true x1 (.int .i64 1)) w7 fun x20 w8 =>
 m R (o_bin .add 3 false x20 x13) w8 fun x22 w9 =>
 m R (o_bin .quo 3 true x22 (.int .i64 2)) w9 fun x23 w10 =>
 m R (o_builtin .min #[3, 3] 3 [false, false] [x23, x0]) w10 fun x25 w11 =>
 R (.returned (.tuple #[x18, x25])) w11)
def A_bough_Leaves : Ann := ⟨[], [], [], [], []⟩
theorem C_bough_Leaves {x0 x1 : Value} {w : World} {R : Ending → World → Prop} (h : F_bough_Leaves x0 x1 w R) : Calls Tryz.prog 100 #[x0, x1] w R :=
 calls_cwp (A := A_bough_Leaves) (args := [x0, x1]) mixed Tryz.func100 (c := Tryz.f100.body.getD .skip) (by kernel_rfl) (by kernel_rfl) (by kernel_rfl) (Eq.mpr (by kernel_rfl) h)
def F_slices_IndexFunc_api_Key_api_Key (x0 x1 : Value) (w : World) (R : Ending → World → Prop) : Prop :=
 m R (o_builtin .len #[26] 3 [false] [x0]) w fun x7 w1 =>
 ml1 (.int .i64 0) w1 fun x8 u2 w2 next2 =>
 m R (o_bin .lss 3 false x8 x7) w2 fun x9 w3 =>
 mif x9 (
 m R (o_indexAddr 26 x0 x8) w3 fun x14 w4 =>
 m R (o_load 43 x14) w4 fun x15 w5 =>
 m R (o_call x1 [x15]) w5 fun x16 w6 =>
 mif x16 (
 R (.returned x8) w6) (
 m R (o_bin .add 3 true x8 (.int .i64 1)) w6 fun x18 w7 =>
 next2 x18 w7)) (
 R (.returned (.int .i64 (-1))) w3)
def A_slices_IndexFunc_api_Key_api_Key : Ann := ⟨[(2, [8], 524080)], [], [], [], []⟩
theorem C_slices_IndexFunc_api_Key_api_Key {x0 x1 : Value} {w : World} {R : Ending → World → Prop} (h : F_slices_IndexFunc_api_Key_api_Key x0 x1 w R) : Calls Tryz.prog 101 #[x0, x1] w R :=
 calls_cwp (A := A_slices_IndexFunc_api_Key_api_Key) (args := [x0, x1]) mixed Tryz.func101 (c := Tryz.f101.body.getD .skip) (by kernel_rfl) (by kernel_rfl) (by kernel_rfl) (Eq.mpr (by kernel_rfl) h)
def F_climb_opened_1 (x0 x1 : Value) (w : World) (R : Ending → World → Prop) : Prop :=
 m R (o_box 43 x0) w fun x2 w1 =>
 m R (o_fieldAddr 43 x2 0) w1 fun x4 w2 =>
 m R (o_load 3 x4) w2 fun x5 w3 =>
 m R (o_load 3 x1) w3 fun x6 w4 =>
 m R (o_bin .eql 3 false x5 x6) w4 fun x7 w5 =>
 R (.returned x7) w5
def A_climb_opened_1 : Ann := ⟨[], [], [], [], []⟩
theorem C_climb_opened_1 {x0 x1 : Value} {w : World} {R : Ending → World → Prop} (h : F_climb_opened_1 x0 x1 w R) : Calls Tryz.prog 102 #[x0, x1] w R :=
 calls_cwp (A := A_climb_opened_1) (args := [x0, x1]) mixed Tryz.func102 (c := Tryz.f102.body.getD .skip) (by kernel_rfl) (by kernel_rfl) (by kernel_rfl) (Eq.mpr (by kernel_rfl) h)
def F_prim_Unwrap (x0 x1 x2 : Value) (w : World) (R : Ending → World → Prop) : Prop :=
 m R (o_box 34 x0) w fun x3 w1 =>
 m R (o_builtin .len #[9] 3 [false] [x2]) w1 fun x9 w2 =>
 m R (o_bin .lss 3 true x9 (.int .i64 48)) w2 fun x10 w3 =>
 mif x10 (
 R (.returned (.tuple #[(.string (ByteArray.mk #[])), (.int .i64 2)])) w3) (
 dq Tryz.prog w3 (o_load 34 x3) fun x11 =>
 df Tryz.prog w3 (o_call (fv 35) [x11]) false fun x12 w4 =>
 dp Tryz.prog (o_slice 9 x2 none (some (.int .i64 32)) none) fun x14 =>
 df Tryz.prog w4 (o_call (fv 91) [x12, x14]) false fun x15 w5 =>
 dp Tryz.prog (o_slice 9 x2 (some (.int .i64 32)) none none) fun x18 =>
 df Tryz.prog w5 (o_call (fv 135) [x15, x1, x18]) false fun x19 w6 =>
 dp Tryz.prog (o_extract x19 0) fun x20 =>
 dp Tryz.prog (o_extract x19 1) fun x21 =>
 dend w6 fun w7 =>
 R (.returned (.tuple #[x20, x21])) w7)
def A_prim_Unwrap : Ann := ⟨[], [], [(3, [⟨0, .q (some 0), 8, 0, 2048⟩, ⟨1, .f 0 false, 2048, 1, 4096⟩, ⟨2, .q none, 4, 0, 8192⟩, ⟨3, .q none, 8192, 4, 16384⟩, ⟨4, .f 1 false, 20480, 15, 32768⟩, ⟨5, .q none, 2, 0, 65536⟩, ⟨6, .q none, 4, 0, 131072⟩, ⟨7, .q none, 131072, 64, 262144⟩, ⟨8, .f 2 false, 360448, 255, 524288⟩, ⟨9, .q none, 524288, 511, 1048576⟩, ⟨10, .q none, 524288, 511, 2097152⟩, ⟨11, .q none, 1048576, 2047, 64⟩, ⟨12, .q none, 2097152, 4095, 128⟩])], [], []⟩
theorem C_prim_Unwrap {x0 x1 x2 : Value} {w : World} {R : Ending → World → Prop} (h : F_prim_Unwrap x0 x1 x2 w R) : Calls Tryz.prog 103 #[x0, x1, x2] w R :=
 calls_cwp (A := A_prim_Unwrap) (args := [x0, x1, x2]) mixed Tryz.func103 (c := Tryz.f103.body.getD .skip) (by kernel_rfl) (by kernel_rfl) (by kernel_rfl) (Eq.mpr (by kernel_rfl) h)
def F_bevyref02_word (x0 x1 : Value) (w : World) (R : Ending → World → Prop) : Prop :=
 dp Tryz.prog (o_indexAddr 99 x0 x1) fun x7 =>
 dq Tryz.prog w (o_load 5 x7) fun x8 =>
 dp Tryz.prog (o_conv 5 159 x8) fun x9 =>
 dp Tryz.prog (o_bin .shl 159 true x9 (.int .u64 24)) fun x10 =>
 dp Tryz.prog (o_bin .add 3 true x1 (.int .i64 1)) fun x13 =>
 dp Tryz.prog (o_indexAddr 99 x0 x13) fun x14 =>
 dq Tryz.prog w (o_load 5 x14) fun x15 =>
 dp Tryz.prog (o_conv 5 159 x15) fun x16 =>
 dp Tryz.prog (o_bin .shl 159 true x16 (.int .u64 16)) fun x17 =>
 dp Tryz.prog (o_bin .or 159 false x10 x17) fun x18 =>
 dp Tryz.prog (o_bin .add 3 true x1 (.int .i64 2)) fun x21 =>
 dp Tryz.prog (o_indexAddr 99 x0 x21) fun x22 =>
 dq Tryz.prog w (o_load 5 x22) fun x23 =>
 dp Tryz.prog (o_conv 5 159 x23) fun x24 =>
 dp Tryz.prog (o_bin .shl 159 true x24 (.int .u64 8)) fun x25 =>
 dp Tryz.prog (o_bin .or 159 false x18 x25) fun x26 =>
 dp Tryz.prog (o_bin .add 3 true x1 (.int .i64 3)) fun x29 =>
 dp Tryz.prog (o_indexAddr 99 x0 x29) fun x30 =>
 dq Tryz.prog w (o_load 5 x30) fun x31 =>
 dp Tryz.prog (o_conv 5 159 x31) fun x32 =>
 dp Tryz.prog (o_bin .or 159 false x26 x32) fun x33 =>
 dend w fun w1 =>
 R (.returned x33) w1
def A_bevyref02_word : Ann := ⟨[], [], [(1, [⟨0, .q none, 1, 0, 32⟩, ⟨1, .q none, 2, 0, 64⟩, ⟨2, .q none, 96, 3, 128⟩, ⟨3, .q (some 0), 128, 7, 256⟩, ⟨4, .q none, 256, 15, 512⟩, ⟨5, .q none, 512, 31, 1024⟩, ⟨6, .q none, 1, 0, 2048⟩, ⟨7, .q none, 2, 0, 4096⟩, ⟨8, .q none, 4096, 128, 8192⟩, ⟨9, .q none, 10240, 448, 16384⟩, ⟨10, .q (some 0), 16384, 960, 32768⟩, ⟨11, .q none, 32768, 1984, 65536⟩, ⟨12, .q none, 65536, 4032, 131072⟩, ⟨13, .q none, 132096, 8191, 262144⟩, ⟨14, .q none, 1, 0, 524288⟩, ⟨15, .q none, 2, 0, 1048576⟩, ⟨16, .q none, 1048576, 32768, 2097152⟩, ⟨17, .q none, 2621440, 114688, 4194304⟩, ⟨18, .q (some 0), 4194304, 245760, 8388608⟩, ⟨19, .q none, 8388608, 507904, 16777216⟩, ⟨20, .q none, 16777216, 1032192, 33554432⟩, ⟨21, .q none, 33816576, 2097151, 67108864⟩, ⟨22, .q none, 1, 0, 134217728⟩, ⟨23, .q none, 2, 0, 268435456⟩, ⟨24, .q none, 268435456, 8388608, 536870912⟩, ⟨25, .q none, 671088640, 29360128, 1073741824⟩, ⟨26, .q (some 0), 1073741824, 62914560, 2147483648⟩, ⟨27, .q none, 2147483648, 130023424, 4294967296⟩, ⟨28, .q none, 4362076160, 268435455, 8589934592⟩, ⟨29, .q none, 8589934592, 536870911, 16⟩])], [], []⟩
theorem C_bevyref02_word {x0 x1 : Value} {w : World} {R : Ending → World → Prop} (h : F_bevyref02_word x0 x1 w R) : Calls Tryz.prog 104 #[x0, x1] w R :=
 calls_cwp (A := A_bevyref02_word) (args := [x0, x1]) mixed Tryz.func104 (c := Tryz.f104.body.getD .skip) (by kernel_rfl) (by kernel_rfl) (by kernel_rfl) (Eq.mpr (by kernel_rfl) h)
def F_bevyref02_turned (x0 x1 : Value) (w : World) (R : Ending → World → Prop) : Prop :=
 m R (o_bin .shr 159 false x0 x1) w fun x7 w1 =>
 m R (o_bin .sub 59 true (.int .u64 32) x1) w1 fun x10 w2 =>
 m R (o_bin .shl 159 false x0 x10) w2 fun x11 w3 =>
 m R (o_bin .or 159 false x7 x11) w3 fun x12 w4 =>
 R (.returned x12) w4
def A_bevyref02_turned : Ann := ⟨[], [], [], [], []⟩
theorem C_bevyref02_turned {x0 x1 : Value} {w : World} {R : Ending → World → Prop} (h : F_bevyref02_turned x0 x1 w R) : Calls Tryz.prog 105 #[x0, x1] w R :=
 calls_cwp (A := A_bevyref02_turned) (args := [x0, x1]) mixed Tryz.func105 (c := Tryz.f105.body.getD .skip) (by kernel_rfl) (by kernel_rfl) (by kernel_rfl) (Eq.mpr (by kernel_rfl) h)
def F_slices_stableCmpFunc_api_Key (x0 x1 x2 : Value) (w : World) (R : Ending → World → Prop) : Prop :=
 ml2 (.int .i64 0) (.int .i64 20) w fun x7 x8 u2 w1 next2 =>
 m R (o_bin .leq 3 false x8 x1) w1 fun x13 w2 =>
 mif x13 (
 m R (o_call (fv 136) [x0, x7, x8, x2]) w2 fun x18 w3 =>
 m R (o_bin .add 3 false x8 (.int .i64 20)) w3 fun x22 w4 =>
 next2 x8 x22 w4) (
 m R (o_call (fv 136) [x0, x7, x1, x2]) w2 fun x27 w5 =>
 ml1 (.int .i64 20) w5 fun x6 u7 w6 next7 =>
 m R (o_bin .lss 3 false x6 x1) w6 fun x30 w7 =>
 mif x30 (
 m R (o_bin .mul 3 true (.int .i64 2) x6) w7 fun x32 w8 =>
 ml2 (.int .i64 0) x32 w8 fun x7 x8 u9 w9 next9 =>
 m R (o_bin .leq 3 false x8 x1) w9 fun x35 w10 =>
 mif x35 (
 m R (o_bin .add 3 false x7 x6) w10 fun x40 w11 =>
 m R (o_call (fv 137) [x0, x7, x40, x8, x2]) w11 fun x43 w12 =>
 m R (o_bin .mul 3 true (.int .i64 2) x6) w12 fun x47 w13 =>
 m R (o_bin .add 3 false x8 x47) w13 fun x48 w14 =>
 next9 x8 x48 w14) (
 mj0 (fun j16 =>
 m R (o_bin .add 3 false x7 x6) w10 fun x51 w15 =>
 m R (o_bin .lss 3 false x51 x1) w15 fun x54 w16 =>
 mif x54 (
 m R (o_call (fv 137) [x0, x7, x51, x1, x2]) w16 fun x60 w17 =>
 j16 w17) (
 j16 w16)) fun u16 w18 =>
 m R (o_bin .mul 3 true x6 (.int .i64 2)) w18 fun x62 w19 =>
 next7 x62 w19)) (
 R (.returned (.tuple #[])) w7))
def A_slices_stableCmpFunc_api_Key : Ann := ⟨[(2, [7, 8], 8386944), (7, [6], 9223372036586341312), (9, [7, 8], 562941363487104)], [(16, [], 2305280059260273152)], [], [], []⟩
theorem C_slices_stableCmpFunc_api_Key {x0 x1 x2 : Value} {w : World} {R : Ending → World → Prop} (h : F_slices_stableCmpFunc_api_Key x0 x1 x2 w R) : Calls Tryz.prog 106 #[x0, x1, x2] w R :=
 calls_cwp (A := A_slices_stableCmpFunc_api_Key) (args := [x0, x1, x2]) mixed Tryz.func106 (c := Tryz.f106.body.getD .skip) (by kernel_rfl) (by kernel_rfl) (by kernel_rfl) (Eq.mpr (by kernel_rfl) h)
def F_bough_Above (x0 x1 : Value) (w : World) (R : Ending → World → Prop) : Prop :=
 mj1 (fun j2 =>
 m R (o_call (fv 99) [x0, x1]) w fun x8 w1 =>
 m R (o_un .not x8) w1 fun x9 w2 =>
 mguard x9 false (fun k => m R (o_move x1) w2 k) w2 fun x11 w3 =>
 mguard x9 false (fun k => m R (o_move x0) w3 k) w3 fun x12 w4 =>
 mguard x9 false (fun k => m R (o_call (fv 138) [x12]) w4 k) w4 fun x13 w5 =>
 mguard x9 false (fun k => m R (o_bin .eql 3 false x11 x13) w5 k) w5 fun x14 w6 =>
 m R (o_pick x9 (.bool true) x14) w6 fun x15 w7 =>
 j2 x15 w7) fun x15 u2 w8 =>
 mif x15 (
 R (.returned (.int .i64 (-1))) w8) (
 ml1 x1 w8 fun x1 u3 w9 next3 =>
 m R (o_call (fv 134) [x1]) w9 fun x17 w10 =>
 dp Tryz.prog (o_bin .add 3 true x17 (.int .i64 1)) fun x20 =>
 dp Tryz.prog (o_bin .shl 3 true (.int .i64 1) x20) fun x21 =>
 dp Tryz.prog (o_bin .andNot 3 false x1 x21) fun x22 =>
 dp Tryz.prog (o_bin .shl 3 true (.int .i64 1) x17) fun x24 =>
 dp Tryz.prog (o_bin .or 3 false x22 x24) fun x25 =>
 dend w10 fun w11 =>
 m R (o_call (fv 99) [x0, x25]) w11 fun x28 w12 =>
 mif x28 (
 R (.returned x25) w12) (
 next3 x25 w12))
def A_bough_Above : Ann := ⟨[(3, [1], 1073676338)], [(2, [15], 65472)], [(4, [⟨0, .q none, 2, 0, 262144⟩, ⟨1, .q none, 32, 0, 524288⟩, ⟨2, .q none, 524288, 2, 1048576⟩, ⟨3, .q none, 1048576, 6, 2097152⟩, ⟨4, .q none, 2359296, 15, 4194304⟩, ⟨5, .q none, 32, 0, 8388608⟩, ⟨6, .q none, 8388608, 32, 16777216⟩, ⟨7, .q none, 20971520, 127, 33554432⟩, ⟨8, .q none, 33554432, 255, 2⟩])], [], []⟩
theorem C_bough_Above {x0 x1 : Value} {w : World} {R : Ending → World → Prop} (h : F_bough_Above x0 x1 w R) : Calls Tryz.prog 108 #[x0, x1] w R :=
 calls_cwp (A := A_bough_Above) (args := [x0, x1]) mixed Tryz.func108 (c := Tryz.f108.body.getD .skip) (by kernel_rfl) (by kernel_rfl) (by kernel_rfl) (Eq.mpr (by kernel_rfl) h)
def F_sha_rounds (w : World) (R : Ending → World → Prop) : Prop :=
 m R (o_alloc 160) w fun x0 w1 =>
 m R (o_build 160 [(0, (.int .u32 1116352408)), (1, (.int .u32 1899447441)), (2, (.int .u32 3049323471)), (3, (.int .u32 3921009573)), (4, (.int .u32 961987163)), (5, (.int .u32 1508970993)), (6, (.int .u32 2453635748)), (7, (.int .u32 2870763221)), (8, (.int .u32 3624381080)), (9, (.int .u32 310598401)), (10, (.int .u32 607225278)), (11, (.int .u32 1426881987)), (12, (.int .u32 1925078388)), (13, (.int .u32 2162078206)), (14, (.int .u32 2614888103)), (15, (.int .u32 3248222580)), (16, (.int .u32 3835390401)), (17, (.int .u32 4022224774)), (18, (.int .u32 264347078)), (19, (.int .u32 604807628)), (20, (.int .u32 770255983)), (21, (.int .u32 1249150122)), (22, (.int .u32 1555081692)), (23, (.int .u32 1996064986)), (24, (.int .u32 2554220882)), (25, (.int .u32 2821834349)), (26, (.int .u32 2952996808)), (27, (.int .u32 3210313671)), (28, (.int .u32 3336571891)), (29, (.int .u32 3584528711)), (30, (.int .u32 113926993)), (31, (.int .u32 338241895)), (32, (.int .u32 666307205)), (33, (.int .u32 773529912)), (34, (.int .u32 1294757372)), (35, (.int .u32 1396182291)), (36, (.int .u32 1695183700)), (37, (.int .u32 1986661051)), (38, (.int .u32 2177026350)), (39, (.int .u32 2456956037)), (40, (.int .u32 2730485921)), (41, (.int .u32 2820302411)), (42, (.int .u32 3259730800)), (43, (.int .u32 3345764771)), (44, (.int .u32 3516065817)), (45, (.int .u32 3600352804)), (46, (.int .u32 4094571909)), (47, (.int .u32 275423344)), (48, (.int .u32 430227734)), (49, (.int .u32 506948616)), (50, (.int .u32 659060556)), (51, (.int .u32 883997877)), (52, (.int .u32 958139571)), (53, (.int .u32 1322822218)), (54, (.int .u32 1537002063)), (55, (.int .u32 1747873779)), (56, (.int .u32 1955562222)), (57, (.int .u32 2024104815)), (58, (.int .u32 2227730452)), (59, (.int .u32 2361852424)), (60, (.int .u32 2428436474)), (61, (.int .u32 2756734187)), (62, (.int .u32 3204031479)), (63, (.int .u32 3329325298))]) w1 fun x1 w2 =>
 m R (o_store 160 x0 x1) w2 fun _ w3 =>
 rcell Tryz.prog 160 x0 w3 fun r0 =>
 R (.returned r0) w3
def A_sha_rounds : Ann := ⟨[], [], [], [], []⟩
theorem C_sha_rounds {w : World} {R : Ending → World → Prop} (h : F_sha_rounds w R) : Calls Tryz.prog 111 #[] w R :=
 calls_cwp (A := A_sha_rounds) (args := []) mixed Tryz.func111 (c := Tryz.f111.body.getD .skip) (by kernel_rfl) (by kernel_rfl) (by kernel_rfl) (Eq.mpr (by kernel_rfl) h)
def F_sha_state_put (x0 x1 : Value) (w : World) (R : Ending → World → Prop) : Prop :=
 ml1 x1 w fun x1 u0 w1 next0 =>
 m R (o_builtin .len #[9] 3 [false] [x1]) w1 fun x6 w2 =>
 m R (o_bin .gtr 3 true x6 (.int .i64 0)) w2 fun x7 w3 =>
 mif x7 (
 dp Tryz.prog (o_nilCheck x0) fun x9 =>
 dp Tryz.prog (o_fieldAddr 170 x9 1) fun x10 =>
 dp Tryz.prog (o_nilCheck x0) fun x12 =>
 dp Tryz.prog (o_fieldAddr 170 x12 2) fun x13 =>
 dq Tryz.prog w3 (o_load 3 x13) fun x14 =>
 dp Tryz.prog (o_bin .rem 3 true x14 (.int .i64 64)) fun x15 =>
 dp Tryz.prog (o_slice 168 x10 (some x15) none none) fun x16 =>
 df Tryz.prog w3 (o_builtin .copy #[99, 9] 3 [false, false] [x16, x1]) false fun x18 w4 =>
 dend w4 fun w5 =>
 m R (o_slice 9 x1 (some x18) none none) w5 fun x21 w6 =>
 m R (o_nilCheck x0) w6 fun x23 w7 =>
 m R (o_fieldAddr 170 x23 2) w7 fun x24 w8 =>
 m R (o_load 3 x24) w8 fun x25 w9 =>
 m R (o_bin .add 3 false x25 x18) w9 fun x27 w10 =>
 m R (o_nilCheck x0) w10 fun x28 w11 =>
 m R (o_fieldAddr 170 x28 2) w11 fun x29 w12 =>
 m R (o_store 3 x29 x27) w12 fun _ w13 =>
 m R (o_nilCheck x0) w13 fun x31 w14 =>
 m R (o_fieldAddr 170 x31 2) w14 fun x32 w15 =>
 m R (o_load 3 x32) w15 fun x33 w16 =>
 m R (o_bin .rem 3 true x33 (.int .i64 64)) w16 fun x34 w17 =>
 m R (o_bin .eql 3 true x34 (.int .i64 0)) w17 fun x35 w18 =>
 mif x35 (
 m R (o_call (fv 140) [x0]) w18 fun x37 w19 =>
 next0 x21 w19) (
 next0 x21 w18)) (
 R (.returned (.tuple #[])) w3)
def A_sha_state_put : Ann := ⟨[(0, [1], 274877906930)], [], [(1, [⟨0, .q none, 1, 0, 256⟩, ⟨1, .q none, 256, 1, 512⟩, ⟨2, .q none, 512, 3, 1024⟩, ⟨3, .q none, 1, 0, 2048⟩, ⟨4, .q none, 2048, 8, 4096⟩, ⟨5, .q none, 4096, 24, 8192⟩, ⟨6, .q (some 0), 8192, 56, 16384⟩, ⟨7, .q none, 16384, 120, 32768⟩, ⟨8, .q none, 33792, 255, 65536⟩, ⟨9, .q none, 2, 0, 131072⟩, ⟨10, .f 0 false, 196608, 1023, 262144⟩, ⟨11, .q none, 262144, 2047, 16⟩])], [], []⟩
theorem C_sha_state_put {x0 x1 : Value} {w : World} {R : Ending → World → Prop} (h : F_sha_state_put x0 x1 w R) : Calls Tryz.prog 112 #[x0, x1] w R :=
 calls_cwp (A := A_sha_state_put) (args := [x0, x1]) mixed Tryz.func112 (c := Tryz.f112.body.getD .skip) (by kernel_rfl) (by kernel_rfl) (by kernel_rfl) (Eq.mpr (by kernel_rfl) h)
def F_mac_Code (x0 x1 : Value) (w : World) (R : Ending → World → Prop) : Prop :=
 m R (o_alloc 34) w fun x4 w1 =>
 mj1 (fun j4 =>
 m R (o_builtin .len #[9] 3 [false] [x0]) w1 fun x11 w2 =>
 m R (o_bin .gtr 3 true x11 (.int .i64 64)) w2 fun x12 w3 =>
 mif x12 (
 m R (o_buildSlice 70 1 [(0, x0)]) w3 fun x14 w4 =>
 m R (o_call (fv 80) [x14]) w4 fun x15 w5 =>
 m R (o_alloc 34) w5 fun x5 w6 =>
 m R (o_store 34 x5 x15) w6 fun _ w7 =>
 m R (o_slice 34 x5 none none none) w7 fun x16 w8 =>
 m R (o_conv 99 9 x16) w8 fun x17 w9 =>
 j4 x17 w9) (
 j4 x0 w3)) fun x0 u4 w10 =>
 m R (o_alloc 168) w10 fun x6 w11 =>
 m R (o_alloc 168) w11 fun x7 w12 =>
 m R (o_slice 168 x6 none none none) w12 fun x18 w13 =>
 m R (o_builtin .copy #[99, 9] 3 [false, false] [x18, x0]) w13 fun x20 w14 =>
 m R (o_slice 168 x7 none none none) w14 fun x21 w15 =>
 m R (o_builtin .copy #[99, 9] 3 [false, false] [x21, x0]) w15 fun x23 w16 =>
 ml1 (.int .i64 0) w16 fun x24 u8 w17 next8 =>
 m R (o_bin .lss 3 true x24 (.int .i64 64)) w17 fun x25 w18 =>
 mif x25 (
 m R (o_indexAddr 168 x6 x24) w18 fun x28 w19 =>
 m R (o_load 5 x28) w19 fun x29 w20 =>
 m R (o_bin .xor 5 true x29 (.int .u8 54)) w20 fun x30 w21 =>
 m R (o_indexAddr 168 x6 x24) w21 fun x31 w22 =>
 m R (o_store 5 x31 x30) w22 fun _ w23 =>
 m R (o_indexAddr 168 x7 x24) w23 fun x33 w24 =>
 m R (o_load 5 x33) w24 fun x34 w25 =>
 m R (o_bin .xor 5 true x34 (.int .u8 92)) w25 fun x35 w26 =>
 m R (o_indexAddr 168 x7 x24) w26 fun x36 w27 =>
 m R (o_store 5 x36 x35) w27 fun _ w28 =>
 m R (o_bin .add 3 true x24 (.int .i64 1)) w28 fun x37 w29 =>
 next8 x37 w29) (
 m R (o_slice 168 x6 none none none) w18 fun x38 w30 =>
 m R (o_conv 99 9 x38) w30 fun x39 w31 =>
 m R (o_buildSlice 70 1 [(0, x39)]) w31 fun x40 w32 =>
 m R (o_builtin .append #[70, 70] 70 [false, false] [x40, x1]) w32 fun x42 w33 =>
 m R (o_call (fv 80) [x42]) w33 fun x43 w34 =>
 m R (o_alloc 34) w34 fun x9 w35 =>
 m R (o_store 34 x9 x43) w35 fun _ w36 =>
 dp Tryz.prog (o_slice 168 x7 none none none) fun x44 =>
 dq Tryz.prog w36 (o_conv 99 9 x44) fun x45 =>
 dp Tryz.prog (o_slice 34 x9 none none none) fun x46 =>
 dq Tryz.prog w36 (o_conv 99 9 x46) fun x47 =>
 df Tryz.prog w36 (o_buildSlice 70 2 [(0, x45), (1, x47)]) false fun x48 w37 =>
 df Tryz.prog w37 (o_call (fv 80) [x48]) false fun x49 w38 =>
 df Tryz.prog w38 (o_store 34 x4 x49) false fun _ w39 =>
 dend w39 fun w40 =>
 rcell Tryz.prog 34 x4 w40 fun r4 =>
 R (.returned r4) w40)
def A_mac_Code : Ann := ⟨[(8, [24], 274861129984)], [(4, [0], 261153)], [(14, [⟨0, .q none, 128, 0, 17592186044416⟩, ⟨1, .q (some 0), 17592186044416, 1, 35184372088832⟩, ⟨2, .q none, 512, 0, 70368744177664⟩, ⟨3, .q (some 0), 70368744177664, 4, 140737488355328⟩, ⟨4, .f 0 false, 175921860444160, 15, 281474976710656⟩, ⟨5, .f 1 false, 281474976710656, 31, 562949953421312⟩, ⟨6, .f 2 false, 562949953421328, 63, 0⟩])], [], []⟩
theorem C_mac_Code {x0 x1 : Value} {w : World} {R : Ending → World → Prop} (h : F_mac_Code x0 x1 w R) : Calls Tryz.prog 123 #[x0, x1] w R :=
 calls_cwp (A := A_mac_Code) (args := [x0, x1]) mixed Tryz.func123 (c := Tryz.f123.body.getD .skip) (by kernel_rfl) (by kernel_rfl) (by kernel_rfl) (Eq.mpr (by kernel_rfl) h)
def F_mac_four (x0 : Value) (w : World) (R : Ending → World → Prop) : Prop :=
 m R (o_bin .shr 3 true x0 (.int .u64 24)) w fun x4 w1 =>
 m R (o_conv 3 5 x4) w1 fun x5 w2 =>
 m R (o_bin .shr 3 true x0 (.int .u64 16)) w2 fun x7 w3 =>
 m R (o_conv 3 5 x7) w3 fun x8 w4 =>
 m R (o_bin .shr 3 true x0 (.int .u64 8)) w4 fun x10 w5 =>
 m R (o_conv 3 5 x10) w5 fun x11 w6 =>
 m R (o_conv 3 5 x0) w6 fun x13 w7 =>
 m R (o_buildSlice 99 4 [(0, x5), (1, x8), (2, x11), (3, x13)]) w7 fun x14 w8 =>
 m R (o_conv 99 9 x14) w8 fun x15 w9 =>
 R (.returned x15) w9
def A_mac_four : Ann := ⟨[], [], [], [], []⟩
theorem C_mac_four {x0 : Value} {w : World} {R : Ending → World → Prop} (h : F_mac_four x0 w R) : Calls Tryz.prog 124 #[x0] w R :=
 calls_cwp (A := A_mac_four) (args := [x0]) mixed Tryz.func124 (c := Tryz.f124.body.getD .skip) (by kernel_rfl) (by kernel_rfl) (by kernel_rfl) (Eq.mpr (by kernel_rfl) h)
def F_tree_Resolve_1 (x0 x1 x2 x3 x4 : Value) (w : World) (R : Ending → World → Prop) : Prop :=
 m R (o_bin .rem 3 true x0 (.int .i64 2)) w fun x20 w1 =>
 m R (o_bin .eql 3 true x20 (.int .i64 0)) w1 fun x21 w2 =>
 mif x21 (
 m R (o_fieldAddr 25 x1 0) w2 fun x22 w3 =>
 m R (o_load 22 x22) w3 fun x23 w4 =>
 m R (o_bin .quo 3 true x0 (.int .i64 2)) w4 fun x25 w5 =>
 m R (o_indexAddr 22 x23 x25) w5 fun x26 w6 =>
 m R (o_fieldAddr 40 x26 0) w6 fun x27 w7 =>
 m R (o_load 3 x27) w7 fun x28 w8 =>
 m R (o_bin .gtr 3 true x28 (.int .i64 0)) w8 fun x29 w9 =>
 mif x29 (
 m R (o_load 47 x2) w9 fun x30 w10 =>
 m R (o_buildSlice 47 1 [(0, x0)]) w10 fun x32 w11 =>
 m R (o_builtin .append #[47, 47] 47 [false, false] [x30, x32]) w11 fun x33 w12 =>
 m R (o_store 47 x2 x33) w12 fun _ w13 =>
 R (.returned (.tuple #[])) w13) (
 R (.returned (.tuple #[])) w9)) (
 m R (o_fieldAddr 25 x1 1) w2 fun x35 w14 =>
 m R (o_load 23 x35) w14 fun x36 w15 =>
 m R (o_bin .quo 3 true x0 (.int .i64 2)) w15 fun x38 w16 =>
 m R (o_indexAddr 23 x36 x38) w16 fun x39 w17 =>
 m R (o_fieldAddr 69 x39 0) w17 fun x40 w18 =>
 m R (o_load 4 x40) w18 fun x41 w19 =>
 mif x41 (
 m R (o_load 47 x2) w19 fun x42 w20 =>
 m R (o_buildSlice 47 1 [(0, x0)]) w20 fun x44 w21 =>
 m R (o_builtin .append #[47, 47] 47 [false, false] [x42, x44]) w21 fun x45 w22 =>
 m R (o_store 47 x2 x45) w22 fun _ w23 =>
 m R (o_fieldAddr 25 x1 1) w23 fun x46 w24 =>
 m R (o_load 23 x46) w24 fun x47 w25 =>
 m R (o_bin .quo 3 true x0 (.int .i64 2)) w25 fun x49 w26 =>
 m R (o_indexAddr 23 x47 x49) w26 fun x50 w27 =>
 m R (o_fieldAddr 69 x50 3) w27 fun x51 w28 =>
 m R (o_load 47 x51) w28 fun x52 w29 =>
 m R (o_builtin .len #[47] 3 [false] [x52]) w29 fun x53 w30 =>
 ml1 (.int .i64 0) w30 fun x54 u8 w31 next8 =>
 m R (o_bin .lss 3 false x54 x53) w31 fun x55 w32 =>
 mif x55 (
 m R (o_indexAddr 47 x52 x54) w32 fun x56 w33 =>
 m R (o_load 3 x56) w33 fun x57 w34 =>
 m R (o_load 47 x2) w34 fun x58 w35 =>
 m R (o_bin .mul 3 true (.int .i64 2) x57) w35 fun x60 w36 =>
 m R (o_buildSlice 47 1 [(0, x60)]) w36 fun x61 w37 =>
 m R (o_builtin .append #[47, 47] 47 [false, false] [x58, x61]) w37 fun x62 w38 =>
 m R (o_store 47 x2 x62) w38 fun _ w39 =>
 m R (o_bin .add 3 true x54 (.int .i64 1)) w39 fun x63 w40 =>
 next8 x63 w40) (
 R (.returned (.tuple #[])) w32)) (
 dq Tryz.prog w19 (o_load 148 x3) fun x8 =>
 dq Tryz.prog w19 (o_load 3 x4) fun x9 =>
 df Tryz.prog w19 (o_call (fv 126) [x9, x0]) true fun x11 w41 =>
 df Tryz.prog w41 (o_call x8 [x11]) false fun x12 w42 =>
 dend w42 fun w43 =>
 dq Tryz.prog w43 (o_load 148 x3) fun x13 =>
 dq Tryz.prog w43 (o_load 3 x4) fun x14 =>
 df Tryz.prog w43 (o_call (fv 127) [x14, x0]) true fun x16 w44 =>
 df Tryz.prog w44 (o_call x13 [x16]) false fun x17 w45 =>
 dend w45 fun w46 =>
 R (.returned (.tuple #[])) w46))
def A_tree_Resolve_1 : Ann := ⟨[(8, [54], 18428729675200069760)], [], [(0, [⟨0, .q (some 0), 8, 0, 256⟩, ⟨1, .q (some 0), 16, 0, 512⟩, ⟨2, .q none, 1, 0, 1024⟩, ⟨3, .f 0 true, 1536, 6, 2048⟩, ⟨4, .f 1 false, 2304, 15, 4096⟩]), (1, [⟨0, .q (some 0), 8, 0, 8192⟩, ⟨1, .q (some 0), 16, 0, 16384⟩, ⟨2, .q none, 1, 0, 32768⟩, ⟨3, .f 0 true, 49152, 6, 65536⟩, ⟨4, .f 1 false, 73728, 15, 131072⟩])], [], []⟩
theorem C_tree_Resolve_1 {x0 x1 x2 x3 x4 : Value} {w : World} {R : Ending → World → Prop} (h : F_tree_Resolve_1 x0 x1 x2 x3 x4 w R) : Calls Tryz.prog 125 #[x0, x1, x2, x3, x4] w R :=
 calls_cwp (A := A_tree_Resolve_1) (args := [x0, x1, x2, x3, x4]) mixed Tryz.func125 (c := Tryz.f125.body.getD .skip) (by kernel_rfl) (by kernel_rfl) (by kernel_rfl) (Eq.mpr (by kernel_rfl) h)
def F_bough_Left (x0 x1 : Value) (w : World) (R : Ending → World → Prop) : Prop :=
 mj1 (fun j4 =>
 m R (o_call (fv 99) [x0, x1]) w fun x8 w1 =>
 mif x8 (
 m R (o_call (fv 134) [x1]) w1 fun x10 w2 =>
 j4 x10 w2) (
 j4 (.int .i64 0) w1)) fun x5 u4 w3 =>
 m R (o_bin .eql 3 true x5 (.int .i64 0)) w3 fun x12 w4 =>
 mif x12 (
 R (.returned (.int .i64 (-1))) w4) (
 m R (o_bin .sub 3 true x5 (.int .i64 1)) w4 fun x15 w5 =>
 m R (o_bin .shl 3 true (.int .i64 1) x15) w5 fun x16 w6 =>
 m R (o_bin .sub 3 false x1 x16) w6 fun x17 w7 =>
 R (.returned x17) w7)
def A_bough_Left : Ann := ⟨[], [(4, [5], 2016)], [], [], []⟩
theorem C_bough_Left {x0 x1 : Value} {w : World} {R : Ending → World → Prop} (h : F_bough_Left x0 x1 w R) : Calls Tryz.prog 126 #[x0, x1] w R :=
 calls_cwp (A := A_bough_Left) (args := [x0, x1]) mixed Tryz.func126 (c := Tryz.f126.body.getD .skip) (by kernel_rfl) (by kernel_rfl) (by kernel_rfl) (Eq.mpr (by kernel_rfl) h)
def F_bough_Right (x0 x1 : Value) (w : World) (R : Ending → World → Prop) : Prop :=
 mj1 (fun j4 =>
 m R (o_call (fv 99) [x0, x1]) w fun x8 w1 =>
 mif x8 (
 m R (o_call (fv 134) [x1]) w1 fun x10 w2 =>
 j4 x10 w2) (
 j4 (.int .i64 0) w1)) fun x5 u4 w3 =>
 m R (o_bin .eql 3 true x5 (.int .i64 0)) w3 fun x12 w4 =>
 mif x12 (
 R (.returned (.int .i64 (-1))) w4) (
 m R (o_bin .sub 3 true x5 (.int .i64 1)) w4 fun x15 w5 =>
 m R (o_bin .shl 3 true (.int .i64 1) x15) w5 fun x16 w6 =>
 m R (o_bin .add 3 false x1 x16) w6 fun x17 w7 =>
 ml1 x17 w7 fun x1 u7 w8 next7 =>
 m R (o_call (fv 99) [x0, x1]) w8 fun x20 w9 =>
 m R (o_un .not x20) w9 fun x21 w10 =>
 mif x21 (
 m R (o_call (fv 134) [x1]) w10 fun x24 w11 =>
 m R (o_bin .sub 3 true x24 (.int .i64 1)) w11 fun x25 w12 =>
 m R (o_bin .shl 3 true (.int .i64 1) x25) w12 fun x26 w13 =>
 m R (o_bin .sub 3 false x1 x26) w13 fun x27 w14 =>
 next7 x27 w14) (
 R (.returned x1) w10))
def A_bough_Right : Ann := ⟨[(7, [1], 268173314)], [(4, [5], 2016)], [], [], []⟩
theorem C_bough_Right {x0 x1 : Value} {w : World} {R : Ending → World → Prop} (h : F_bough_Right x0 x1 w R) : Calls Tryz.prog 127 #[x0, x1] w R :=
 calls_cwp (A := A_bough_Right) (args := [x0, x1]) mixed Tryz.func127 (c := Tryz.f127.body.getD .skip) (by kernel_rfl) (by kernel_rfl) (by kernel_rfl) (Eq.mpr (by kernel_rfl) h)
def F_prim_cross (x0 x1 : Value) (w : World) (R : Ending → World → Prop) : Prop :=
 m R (o_box 34 x0) w fun x2 w1 =>
 m R (o_load 34 x2) w1 fun x8 w2 =>
 m R (o_call (fv 85) [x8, (.string (ByteArray.mk #[115, 116, 114, 101, 97, 109])), (.string (ByteArray.mk #[]))]) w2 fun x9 w3 =>
 m R (o_builtin .len #[9] 3 [false] [x1]) w3 fun x11 w4 =>
 m R (o_call (fv 146) [x9, x11]) w4 fun x12 w5 =>
 m R (o_builtin .len #[9] 3 [false] [x1]) w5 fun x14 w6 =>
 m R (o_makeSlice 99 x14 x14) w6 fun x15 w7 =>
 m R (o_builtin .copy #[99, 9] 3 [false, false] [x15, x1]) w7 fun x18 w8 =>
 m R (o_builtin .len #[99] 3 [false] [x15]) w8 fun x20 w9 =>
 ml1 (.int .i64 0) w9 fun x21 u5 w10 next5 =>
 m R (o_bin .lss 3 false x21 x20) w10 fun x22 w11 =>
 mif x22 (
 dp Tryz.prog (o_indexAddr 99 x15 x21) fun x26 =>
 dq Tryz.prog w11 (o_load 5 x26) fun x27 =>
 dp Tryz.prog (o_index 9 x12 x21) fun x30 =>
 dp Tryz.prog (o_bin .xor 5 false x27 x30) fun x31 =>
 dp Tryz.prog (o_indexAddr 99 x15 x21) fun x32 =>
 df Tryz.prog w11 (o_store 5 x32 x31) false fun _ w12 =>
 dend w12 fun w13 =>
 m R (o_bin .add 3 true x21 (.int .i64 1)) w13 fun x33 w14 =>
 next5 x33 w14) (
 m R (o_conv 99 9 x15) w11 fun x35 w15 =>
 R (.returned x35) w15)
def A_prim_cross : Ann := ⟨[(5, [21], 17177772160)], [], [(7, [⟨0, .q none, 64, 0, 16777216⟩, ⟨1, .q none, 128, 0, 33554432⟩, ⟨2, .q none, 50331648, 3, 67108864⟩, ⟨3, .q (some 0), 67108864, 7, 134217728⟩, ⟨4, .q none, 32, 0, 268435456⟩, ⟨5, .q none, 128, 0, 536870912⟩, ⟨6, .q none, 805306368, 48, 1073741824⟩, ⟨7, .q none, 1207959552, 127, 2147483648⟩, ⟨8, .q none, 50331648, 255, 4294967296⟩, ⟨9, .f 0 false, 6442450944, 511, 0⟩])], [], []⟩
theorem C_prim_cross {x0 x1 : Value} {w : World} {R : Ending → World → Prop} (h : F_prim_cross x0 x1 w R) : Calls Tryz.prog 128 #[x0, x1] w R :=
 calls_cwp (A := A_prim_cross) (args := [x0, x1]) mixed Tryz.func128 (c := Tryz.f128.body.getD .skip) (by kernel_rfl) (by kernel_rfl) (by kernel_rfl) (Eq.mpr (by kernel_rfl) h)
def F_prim_tag (x0 x1 x2 : Value) (w : World) (R : Ending → World → Prop) : Prop :=
 m R (o_box 34 x0) w fun x3 w1 =>
 m R (o_load 34 x3) w1 fun x8 w2 =>
 m R (o_call (fv 85) [x8, (.string (ByteArray.mk #[116, 97, 103])), (.string (ByteArray.mk #[]))]) w2 fun x9 w3 =>
 m R (o_call (fv 85) [x9, x1, x2]) w3 fun x12 w4 =>
 m R (o_alloc 34) w4 fun x7 w5 =>
 m R (o_store 34 x7 x12) w5 fun _ w6 =>
 m R (o_slice 34 x7 none (some (.int .i64 16)) none) w6 fun x13 w7 =>
 m R (o_conv 99 9 x13) w7 fun x14 w8 =>
 R (.returned x14) w8
def A_prim_tag : Ann := ⟨[], [], [], [], []⟩
theorem C_prim_tag {x0 x1 x2 : Value} {w : World} {R : Ending → World → Prop} (h : F_prim_tag x0 x1 x2 w R) : Calls Tryz.prog 129 #[x0, x1, x2] w R :=
 calls_cwp (A := A_prim_tag) (args := [x0, x1, x2]) mixed Tryz.func129 (c := Tryz.f129.body.getD .skip) (by kernel_rfl) (by kernel_rfl) (by kernel_rfl) (Eq.mpr (by kernel_rfl) h)
def F_wire_bounds (w : World) (R : Ending → World → Prop) : Prop :=
 m R (o_alloc 189) w fun x0 w1 =>
 m R (o_build 189 [(0, (.int .i64 64)), (1, (.int .i64 16384)), (2, (.int .i64 1073741824)), (3, (.int .i64 4611686018427387903))]) w1 fun x1 w2 =>
 m R (o_store 189 x0 x1) w2 fun _ w3 =>
 rcell Tryz.prog 189 x0 w3 fun r0 =>
 R (.returned r0) w3
def A_wire_bounds : Ann := ⟨[], [], [], [], []⟩
theorem C_wire_bounds {w : World} {R : Ending → World → Prop} (h : F_wire_bounds w R) : Calls Tryz.prog 130 #[] w R :=
 calls_cwp (A := A_wire_bounds) (args := []) mixed Tryz.func130 (c := Tryz.f130.body.getD .skip) (by kernel_rfl) (by kernel_rfl) (by kernel_rfl) (Eq.mpr (by kernel_rfl) h)
def F_tree_hashAt (x0 x1 : Value) (w : World) (R : Ending → World → Prop) : Prop :=
 m R (o_box 25 x0) w fun x2 w1 =>
 m R (o_alloc 34) w1 fun x4 w2 =>
 m R (o_call (fv 93) []) w2 fun x11 w3 =>
 m R (o_bin .rem 3 true x1 (.int .i64 2)) w3 fun x13 w4 =>
 m R (o_bin .eql 3 true x13 (.int .i64 0)) w4 fun x14 w5 =>
 mif x14 (
 m R (o_fieldAddr 25 x2 0) w5 fun x16 w6 =>
 m R (o_load 22 x16) w6 fun x17 w7 =>
 m R (o_bin .quo 3 true x1 (.int .i64 2)) w7 fun x19 w8 =>
 m R (o_indexAddr 22 x17 x19) w8 fun x20 w9 =>
 m R (o_load 40 x20) w9 fun x21 w10 =>
 m R (o_call (fv 147) [x11, x21]) w10 fun x22 w11 =>
 m R (o_call (fv 95) [x11]) w11 fun x25 w12 =>
 m R (o_extract x25 0) w12 fun x26 w13 =>
 m R (o_extract x25 1) w13 fun x27 w14 =>
 m R (o_buildSlice 70 2 [(0, (.string (ByteArray.mk #[108, 101, 97, 102]))), (1, x26)]) w14 fun x29 w15 =>
 m R (o_call (fv 80) [x29]) w15 fun x30 w16 =>
 m R (o_store 34 x4 x30) w16 fun _ w17 =>
 rcell Tryz.prog 34 x4 w17 fun r4 =>
 R (.returned r4) w17) (
 m R (o_fieldAddr 25 x2 0) w5 fun x31 w18 =>
 m R (o_load 22 x31) w18 fun x32 w19 =>
 m R (o_builtin .len #[22] 3 [false] [x32]) w19 fun x33 w20 =>
 m R (o_fieldAddr 25 x2 1) w20 fun x35 w21 =>
 m R (o_load 23 x35) w21 fun x36 w22 =>
 m R (o_bin .quo 3 true x1 (.int .i64 2)) w22 fun x38 w23 =>
 m R (o_indexAddr 23 x36 x38) w23 fun x39 w24 =>
 m R (o_load 69 x39) w24 fun x40 w25 =>
 m R (o_call (fv 148) [x11, x40]) w25 fun x41 w26 =>
 dq Tryz.prog w26 (o_load 25 x2) fun x43 =>
 df Tryz.prog w26 (o_call (fv 126) [x33, x1]) true fun x46 w27 =>
 df Tryz.prog w27 (o_call (fv 131) [x43, x46]) false fun x47 w28 =>
 df Tryz.prog w28 (o_call (fv 149) [x11, x47]) false fun x48 w29 =>
 dend w29 fun w30 =>
 dq Tryz.prog w30 (o_load 25 x2) fun x50 =>
 df Tryz.prog w30 (o_call (fv 127) [x33, x1]) true fun x53 w31 =>
 df Tryz.prog w31 (o_call (fv 131) [x50, x53]) false fun x54 w32 =>
 df Tryz.prog w32 (o_call (fv 149) [x11, x54]) false fun x55 w33 =>
 dend w33 fun w34 =>
 m R (o_call (fv 95) [x11]) w34 fun x58 w35 =>
 m R (o_extract x58 0) w35 fun x59 w36 =>
 m R (o_extract x58 1) w36 fun x60 w37 =>
 m R (o_buildSlice 70 2 [(0, (.string (ByteArray.mk #[110, 111, 100, 101]))), (1, x59)]) w37 fun x62 w38 =>
 m R (o_call (fv 80) [x62]) w38 fun x63 w39 =>
 m R (o_store 34 x4 x63) w39 fun _ w40 =>
 rcell Tryz.prog 34 x4 w40 fun r4 =>
 R (.returned r4) w40)
def A_tree_hashAt : Ann := ⟨[], [], [(8, [⟨0, .q none, 32, 0, 4398046511104⟩, ⟨1, .q (some 0), 4, 0, 8796093022208⟩, ⟨2, .q none, 256, 0, 17592186044416⟩, ⟨3, .q none, 2, 0, 35184372088832⟩, ⟨4, .f 0 true, 52776558133248, 12, 70368744177664⟩, ⟨5, .f 1 false, 79164837199872, 30, 140737488355328⟩, ⟨6, .f 2 false, 145135534866432, 63, 281474976710656⟩]), (9, [⟨0, .q none, 32, 0, 562949953421312⟩, ⟨1, .q (some 0), 4, 0, 1125899906842624⟩, ⟨2, .q none, 256, 0, 2251799813685248⟩, ⟨3, .q none, 2, 0, 4503599627370496⟩, ⟨4, .f 0 true, 6755399441055744, 12, 9007199254740992⟩, ⟨5, .f 1 false, 10133099161583616, 30, 18014398509481984⟩, ⟨6, .f 2 false, 18577348462903296, 63, 36028797018963968⟩])], [], []⟩
theorem C_tree_hashAt {x0 x1 : Value} {w : World} {R : Ending → World → Prop} (h : F_tree_hashAt x0 x1 w R) : Calls Tryz.prog 131 #[x0, x1] w R :=
 calls_cwp (A := A_tree_hashAt) (args := [x0, x1]) mixed Tryz.func131 (c := Tryz.f131.body.getD .skip) (by kernel_rfl) (by kernel_rfl) (by kernel_rfl) (Eq.mpr (by kernel_rfl) h)
def F_bevyref07_root (x0 x1 : Value) (w : World) (R : Ending → World → Prop) : Prop :=
 m R (o_bin .eql 3 true x1 (.int .i64 1)) w fun x6 w1 =>
 mif x6 (
 m R (o_bin .mul 3 true (.int .i64 2) x0) w1 fun x8 w2 =>
 R (.returned x8) w2) (
 m R (o_call (fv 133) [x1]) w1 fun x11 w3 =>
 m R (o_bin .add 3 false x0 x11) w3 fun x12 w4 =>
 m R (o_bin .mul 3 true (.int .i64 2) x12) w4 fun x13 w5 =>
 m R (o_bin .sub 3 true x13 (.int .i64 1)) w5 fun x14 w6 =>
 R (.returned x14) w6)
def A_bevyref07_root : Ann := ⟨[], [], [], [], []⟩
theorem C_bevyref07_root {x0 x1 : Value} {w : World} {R : Ending → World → Prop} (h : F_bevyref07_root x0 x1 w R) : Calls Tryz.prog 132 #[x0, x1] w R :=
 calls_cwp (A := A_bevyref07_root) (args := [x0, x1]) mixed Tryz.func132 (c := Tryz.f132.body.getD .skip) (by kernel_rfl) (by kernel_rfl) (by kernel_rfl) (Eq.mpr (by kernel_rfl) h)
def F_bevyref07_half (x0 : Value) (w : World) (R : Ending → World → Prop) : Prop :=
 ml1 (.int .i64 1) w fun x3 u2 w1 next2 =>
 m R (o_bin .mul 3 true (.int .i64 2) x3) w1 fun x5 w2 =>
 m R (o_bin .lss 3 false x5 x0) w2 fun x7 w3 =>
 mif x7 (
 m R (o_bin .mul 3 true (.int .i64 2) x3) w3 fun x9 w4 =>
 next2 x9 w4) (
 R (.returned x3) w3)
def A_bevyref07_half : Ann := ⟨[(2, [3], 1016)], [], [], [], []⟩
theorem C_bevyref07_half {x0 : Value} {w : World} {R : Ending → World → Prop} (h : F_bevyref07_half x0 w R) : Calls Tryz.prog 133 #[x0] w R :=
 calls_cwp (A := A_bevyref07_half) (args := [x0]) mixed Tryz.func133 (c := Tryz.f133.body.getD .skip) (by kernel_rfl) (by kernel_rfl) (by kernel_rfl) (Eq.mpr (by kernel_rfl) h)
def F_bough_level (x0 : Value) (w : World) (R : Ending → World → Prop) : Prop :=
 ml2 x0 (.int .i64 0) w fun x0 x3 u2 w1 next2 =>
 m R (o_bin .and 3 true x0 (.int .i64 1)) w1 fun x5 w2 =>
 m R (o_bin .eql 3 true x5 (.int .i64 1)) w2 fun x6 w3 =>
 mif x6 (
 m R (o_bin .shr 3 true x0 (.int .u64 1)) w3 fun x8 w4 =>
 m R (o_bin .add 3 true x3 (.int .i64 1)) w4 fun x10 w5 =>
 next2 x8 x10 w5) (
 R (.returned x3) w3)
def A_bough_level : Ann := ⟨[(2, [0, 3], 2041)], [], [], [], []⟩
theorem C_bough_level {x0 : Value} {w : World} {R : Ending → World → Prop} (h : F_bough_level x0 w R) : Calls Tryz.prog 134 #[x0] w R :=
 calls_cwp (A := A_bough_level) (args := [x0]) mixed Tryz.func134 (c := Tryz.f134.body.getD .skip) (by kernel_rfl) (by kernel_rfl) (by kernel_rfl) (Eq.mpr (by kernel_rfl) h)
def F_prim_Open (x0 x1 x2 : Value) (w : World) (R : Ending → World → Prop) : Prop :=
 m R (o_box 34 x0) w fun x3 w1 =>
 m R (o_builtin .len #[9] 3 [false] [x2]) w1 fun x10 w2 =>
 m R (o_bin .sub 3 true x10 (.int .i64 16)) w2 fun x11 w3 =>
 m R (o_bin .lss 3 true x11 (.int .i64 0)) w3 fun x14 w4 =>
 mif x14 (
 R (.returned (.tuple #[(.string (ByteArray.mk #[])), (.int .i64 2)])) w4) (
 m R (o_bin .gtr 3 true x11 (.int .i64 65536)) w4 fun x17 w5 =>
 mif x17 (
 R (.returned (.tuple #[(.string (ByteArray.mk #[])), (.int .i64 5)])) w5) (
 dq Tryz.prog w5 (o_load 34 x3) fun x19 =>
 dp Tryz.prog (o_slice 9 x2 none (some x11) none) fun x23 =>
 df Tryz.prog w5 (o_call (fv 129) [x19, x1, x23]) false fun x24 w6 =>
 dp Tryz.prog (o_slice 9 x2 (some x11) none none) fun x27 =>
 dp Tryz.prog (o_bin .neq 9 false x24 x27) fun x28 =>
 dend w6 fun w7 =>
 mif x28 (
 R (.returned (.tuple #[(.string (ByteArray.mk #[])), (.int .i64 6)])) w7) (
 dq Tryz.prog w7 (o_load 34 x3) fun x29 =>
 dp Tryz.prog (o_slice 9 x2 none (some x11) none) fun x32 =>
 df Tryz.prog w7 (o_call (fv 128) [x29, x32]) false fun x33 w8 =>
 dend w8 fun w9 =>
 R (.returned (.tuple #[x33, (.int .i64 0)])) w9)))
def A_prim_Open : Ann := ⟨[], [], [(6, [⟨0, .q (some 0), 8, 0, 524288⟩, ⟨1, .q none, 2, 0, 1048576⟩, ⟨2, .q none, 4, 0, 2097152⟩, ⟨3, .q none, 256, 0, 4194304⟩, ⟨4, .q none, 6291456, 12, 8388608⟩, ⟨5, .f 0 false, 9961472, 31, 16777216⟩, ⟨6, .q none, 4, 0, 33554432⟩, ⟨7, .q none, 256, 0, 67108864⟩, ⟨8, .q none, 100663296, 192, 134217728⟩, ⟨9, .q none, 150994944, 511, 268435456⟩, ⟨10, .q none, 268435456, 1023, 262144⟩]), (8, [⟨0, .q (some 0), 8, 0, 536870912⟩, ⟨1, .q none, 4, 0, 1073741824⟩, ⟨2, .q none, 256, 0, 2147483648⟩, ⟨3, .q none, 3221225472, 6, 4294967296⟩, ⟨4, .f 0 false, 4831838208, 15, 8589934592⟩, ⟨5, .q none, 8589934592, 31, 64⟩, ⟨6, .q none, 0, 63, 128⟩])], [], []⟩
theorem C_prim_Open {x0 x1 x2 : Value} {w : World} {R : Ending → World → Prop} (h : F_prim_Open x0 x1 x2 w R) : Calls Tryz.prog 135 #[x0, x1, x2] w R :=
 calls_cwp (A := A_prim_Open) (args := [x0, x1, x2]) mixed Tryz.func135 (c := Tryz.f135.body.getD .skip) (by kernel_rfl) (by kernel_rfl) (by kernel_rfl) (Eq.mpr (by kernel_rfl) h)
def F_slices_insertionSortCmpFunc_api_Key (x0 x1 x2 x3 : Value) (w : World) (R : Ending → World → Prop) : Prop :=
 m R (o_bin .add 3 true x1 (.int .i64 1)) w fun x11 w1 =>
 ml1 x11 w1 fun x8 u1 w2 next1 =>
 m R (o_bin .lss 3 false x8 x2) w2 fun x14 w3 =>
 mif x14 (
 ml1 x8 w3 fun x9 u4 w4 next4 =>
 mj0 (fun j6 =>
 dp Tryz.prog (o_bin .gtr 3 false x9 x1) fun x20 =>
 qguard x20 true (fun k => dp Tryz.prog (o_move x3) k) fun x22 =>
 qguard x20 true (fun k => dp Tryz.prog (o_move x0) k) fun x23 =>
 qguard x20 true (fun k => dp Tryz.prog (o_move x9) k) fun x24 =>
 qguard x20 true (fun k => dp Tryz.prog (o_indexAddr 26 x23 x24) k) fun x25 =>
 qguard x20 true (fun k => dq Tryz.prog w4 (o_load 43 x25) k) fun x26 =>
 qguard x20 true (fun k => dp Tryz.prog (o_move x0) k) fun x27 =>
 qguard x20 true (fun k => dp Tryz.prog (o_move x9) k) fun x28 =>
 qguard x20 true (fun k => dp Tryz.prog (o_bin .sub 3 true x28 (.int .i64 1)) k) fun x29 =>
 qguard x20 true (fun k => dp Tryz.prog (o_indexAddr 26 x27 x29) k) fun x30 =>
 qguard x20 true (fun k => dq Tryz.prog w4 (o_load 43 x30) k) fun x31 =>
 mguard x20 true (fun k => df Tryz.prog w4 (o_call x22 [x26, x31]) false k) w4 fun x32 w5 =>
 qguard x20 true (fun k => dp Tryz.prog (o_bin .lss 3 true x32 (.int .i64 0)) k) fun x33 =>
 dp Tryz.prog (o_pick x20 x33 (.bool false)) fun x34 =>
 dend w5 fun w6 =>
 mif x34 (
 j6 w6) (
 m R (o_bin .add 3 true x8 (.int .i64 1)) w6 fun x16 w7 =>
 next1 x16 w7)) fun u6 w8 =>
 dp Tryz.prog (o_bin .sub 3 true x9 (.int .i64 1)) fun x41 =>
 dp Tryz.prog (o_bin .sub 3 true x9 (.int .i64 1)) fun x44 =>
 dp Tryz.prog (o_indexAddr 26 x0 x44) fun x45 =>
 dq Tryz.prog w8 (o_load 43 x45) fun x46 =>
 dp Tryz.prog (o_indexAddr 26 x0 x9) fun x49 =>
 dq Tryz.prog w8 (o_load 43 x49) fun x50 =>
 dp Tryz.prog (o_indexAddr 26 x0 x9) fun x51 =>
 df Tryz.prog w8 (o_store 43 x51 x46) false fun _ w9 =>
 dp Tryz.prog (o_indexAddr 26 x0 x41) fun x52 =>
 df Tryz.prog w9 (o_store 43 x52 x50) false fun _ w10 =>
 dend w10 fun w11 =>
 m R (o_bin .sub 3 true x9 (.int .i64 1)) w11 fun x36 w12 =>
 next4 x36 w12) (
 R (.returned (.tuple #[])) w3)
def A_slices_insertionSortCmpFunc_api_Key : Ann := ⟨[(1, [8], 9007199254737664), (4, [9], 9007199254479360)], [(6, [], 34359476224)], [(4, [⟨0, .q none, 512, 0, 262144⟩, ⟨1, .q none, 2, 0, 524288⟩, ⟨2, .q none, 786432, 3, 1048576⟩, ⟨3, .q none, 1048576, 7, 2097152⟩, ⟨4, .q none, 2097160, 15, 4194304⟩, ⟨5, .q none, 2097153, 15, 8388608⟩, ⟨6, .q none, 2097664, 15, 16777216⟩, ⟨7, .q none, 27262976, 111, 33554432⟩, ⟨8, .q (some 0), 35651584, 239, 67108864⟩, ⟨9, .q none, 2097153, 15, 134217728⟩, ⟨10, .q none, 2097664, 15, 268435456⟩, ⟨11, .q none, 270532608, 1039, 536870912⟩, ⟨12, .q none, 673185792, 3599, 1073741824⟩, ⟨13, .q (some 0), 1075838976, 7695, 2147483648⟩, ⟨14, .f 0 false, 2220883968, 16383, 4294967296⟩, ⟨15, .q none, 4297064448, 32767, 8589934592⟩, ⟨16, .q none, 8592031744, 65535, 17179869184⟩]), (6, [⟨0, .q none, 1, 0, 137438953472⟩, ⟨1, .q none, 512, 0, 274877906944⟩, ⟨2, .q none, 1, 0, 549755813888⟩, ⟨3, .q none, 512, 0, 1099511627776⟩, ⟨4, .q none, 1099511627776, 8, 2199023255552⟩, ⟨5, .q none, 1, 0, 4398046511104⟩, ⟨6, .q none, 512, 0, 8796093022208⟩, ⟨7, .q none, 8796093022208, 64, 17592186044416⟩, ⟨8, .q none, 21990232555520, 224, 35184372088832⟩, ⟨9, .q (some 0), 35184372088832, 480, 70368744177664⟩, ⟨10, .q none, 1, 0, 140737488355328⟩, ⟨11, .q none, 512, 0, 281474976710656⟩, ⟨12, .q none, 422212465065984, 3072, 562949953421312⟩, ⟨13, .q (some 0), 562949953421312, 7168, 1125899906842624⟩, ⟨14, .q none, 412316860416, 16355, 2251799813685248⟩, ⟨15, .f 0 false, 2322168557862912, 32739, 0⟩, ⟨16, .q none, 2748779069440, 65535, 4503599627370496⟩, ⟨17, .f 1 false, 5629499534213120, 131071, 0⟩])], [], []⟩
theorem C_slices_insertionSortCmpFunc_api_Key {x0 x1 x2 x3 : Value} {w : World} {R : Ending → World → Prop} (h : F_slices_insertionSortCmpFunc_api_Key x0 x1 x2 x3 w R) : Calls Tryz.prog 136 #[x0, x1, x2, x3] w R :=
 calls_cwp (A := A_slices_insertionSortCmpFunc_api_Key) (args := [x0, x1, x2, x3]) mixed Tryz.func136 (c := Tryz.f136.body.getD .skip) (by kernel_rfl) (by kernel_rfl) (by kernel_rfl) (Eq.mpr (by kernel_rfl) h)
def F_slices_symMergeCmpFunc_api_Key (x0 x1 x2 x3 x4 : Value) (w : World) (R : Ending → World → Prop) : Prop :=
 m R (o_bin .sub 3 false x2 x1) w fun x27 w1 =>
 m R (o_bin .eql 3 true x27 (.int .i64 1)) w1 fun x28 w2 =>
 mif x28 (
 ml2 x2 x3 w2 fun x10 x11 u3 w3 next3 =>
 m R (o_bin .lss 3 false x10 x11) w3 fun x33 w4 =>
 mif x33 (
 m R (o_bin .add 3 false x10 x11) w4 fun x36 w5 =>
 m R (o_conv 3 59 x36) w5 fun x37 w6 =>
 m R (o_bin .shr 59 true x37 (.int .u64 1)) w6 fun x38 w7 =>
 m R (o_conv 59 3 x38) w7 fun x39 w8 =>
 dp Tryz.prog (o_indexAddr 26 x0 x39) fun x43 =>
 dq Tryz.prog w8 (o_load 43 x43) fun x44 =>
 dp Tryz.prog (o_indexAddr 26 x0 x1) fun x47 =>
 dq Tryz.prog w8 (o_load 43 x47) fun x48 =>
 df Tryz.prog w8 (o_call x4 [x44, x48]) false fun x49 w9 =>
 dp Tryz.prog (o_bin .lss 3 true x49 (.int .i64 0)) fun x50 =>
 dend w9 fun w10 =>
 mif x50 (
 m R (o_bin .add 3 true x39 (.int .i64 1)) w10 fun x52 w11 =>
 next3 x52 x11 w11) (
 next3 x10 x39 w10)) (
 ml1 x1 w4 fun x13 u9 w12 next9 =>
 m R (o_bin .sub 3 true x10 (.int .i64 1)) w12 fun x57 w13 =>
 m R (o_bin .lss 3 false x13 x57) w13 fun x58 w14 =>
 mif x58 (
 dp Tryz.prog (o_bin .add 3 true x13 (.int .i64 1)) fun x65 =>
 dp Tryz.prog (o_bin .add 3 true x13 (.int .i64 1)) fun x68 =>
 dp Tryz.prog (o_indexAddr 26 x0 x68) fun x69 =>
 dq Tryz.prog w14 (o_load 43 x69) fun x70 =>
 dp Tryz.prog (o_indexAddr 26 x0 x13) fun x73 =>
 dq Tryz.prog w14 (o_load 43 x73) fun x74 =>
 dp Tryz.prog (o_indexAddr 26 x0 x13) fun x75 =>
 df Tryz.prog w14 (o_store 43 x75 x70) false fun _ w15 =>
 dp Tryz.prog (o_indexAddr 26 x0 x65) fun x76 =>
 df Tryz.prog w15 (o_store 43 x76 x74) false fun _ w16 =>
 dend w16 fun w17 =>
 m R (o_bin .add 3 true x13 (.int .i64 1)) w17 fun x60 w18 =>
 next9 x60 w18) (
 R (.returned (.tuple #[])) w14))) (
 m R (o_bin .sub 3 false x3 x2) w2 fun x79 w19 =>
 m R (o_bin .eql 3 true x79 (.int .i64 1)) w19 fun x80 w20 =>
 mif x80 (
 ml2 x1 x2 w20 fun x14 x15 u15 w21 next15 =>
 m R (o_bin .lss 3 false x14 x15) w21 fun x85 w22 =>
 mif x85 (
 m R (o_bin .add 3 false x14 x15) w22 fun x88 w23 =>
 m R (o_conv 3 59 x88) w23 fun x89 w24 =>
 m R (o_bin .shr 59 true x89 (.int .u64 1)) w24 fun x90 w25 =>
 m R (o_conv 59 3 x90) w25 fun x91 w26 =>
 dp Tryz.prog (o_indexAddr 26 x0 x2) fun x95 =>
 dq Tryz.prog w26 (o_load 43 x95) fun x96 =>
 dp Tryz.prog (o_indexAddr 26 x0 x91) fun x99 =>
 dq Tryz.prog w26 (o_load 43 x99) fun x100 =>
 df Tryz.prog w26 (o_call x4 [x96, x100]) false fun x101 w27 =>
 dp Tryz.prog (o_bin .lss 3 true x101 (.int .i64 0)) fun x102 =>
 dp Tryz.prog (o_un .not x102) fun x103 =>
 dend w27 fun w28 =>
 mif x103 (
 m R (o_bin .add 3 true x91 (.int .i64 1)) w28 fun x105 w29 =>
 next15 x105 x15 w29) (
 next15 x14 x91 w28)) (
 ml1 x2 w22 fun x17 u21 w30 next21 =>
 m R (o_bin .gtr 3 false x17 x14) w30 fun x110 w31 =>
 mif x110 (
 dp Tryz.prog (o_bin .sub 3 true x17 (.int .i64 1)) fun x117 =>
 dp Tryz.prog (o_bin .sub 3 true x17 (.int .i64 1)) fun x120 =>
 dp Tryz.prog (o_indexAddr 26 x0 x120) fun x121 =>
 dq Tryz.prog w31 (o_load 43 x121) fun x122 =>
 dp Tryz.prog (o_indexAddr 26 x0 x17) fun x125 =>
 dq Tryz.prog w31 (o_load 43 x125) fun x126 =>
 dp Tryz.prog (o_indexAddr 26 x0 x17) fun x127 =>
 df Tryz.prog w31 (o_store 43 x127 x122) false fun _ w32 =>
 dp Tryz.prog (o_indexAddr 26 x0 x117) fun x128 =>
 df Tryz.prog w32 (o_store 43 x128 x126) false fun _ w33 =>
 dend w33 fun w34 =>
 m R (o_bin .sub 3 true x17 (.int .i64 1)) w34 fun x112 w35 =>
 next21 x112 w35) (
 R (.returned (.tuple #[])) w31))) (
 m R (o_bin .add 3 false x1 x3) w20 fun x131 w36 =>
 m R (o_conv 3 59 x131) w36 fun x132 w37 =>
 m R (o_bin .shr 59 true x132 (.int .u64 1)) w37 fun x133 w38 =>
 m R (o_conv 59 3 x133) w38 fun x134 w39 =>
 m R (o_bin .add 3 false x134 x2) w39 fun x137 w40 =>
 mj2 (fun j32 =>
 m R (o_bin .gtr 3 false x2 x134) w40 fun x140 w41 =>
 mif x140 (
 m R (o_bin .sub 3 false x137 x3) w41 fun x143 w42 =>
 j32 x143 x134 w42) (
 j32 x1 x2 w41)) fun x20 x21 u32 w43 =>
 m R (o_bin .sub 3 true x137 (.int .i64 1)) w43 fun x148 w44 =>
 ml2 x20 x21 w44 fun x20 x21 u33 w45 next33 =>
 m R (o_bin .lss 3 false x20 x21) w45 fun x151 w46 =>
 mif x151 (
 m R (o_bin .add 3 false x20 x21) w46 fun x154 w47 =>
 m R (o_conv 3 59 x154) w47 fun x155 w48 =>
 m R (o_bin .shr 59 true x155 (.int .u64 1)) w48 fun x156 w49 =>
 m R (o_conv 59 3 x156) w49 fun x157 w50 =>
 dp Tryz.prog (o_bin .sub 3 false x148 x157) fun x162 =>
 dp Tryz.prog (o_indexAddr 26 x0 x162) fun x163 =>
 dq Tryz.prog w50 (o_load 43 x163) fun x164 =>
 dp Tryz.prog (o_indexAddr 26 x0 x157) fun x167 =>
 dq Tryz.prog w50 (o_load 43 x167) fun x168 =>
 df Tryz.prog w50 (o_call x4 [x164, x168]) false fun x169 w51 =>
 dp Tryz.prog (o_bin .lss 3 true x169 (.int .i64 0)) fun x170 =>
 dp Tryz.prog (o_un .not x170) fun x171 =>
 dend w51 fun w52 =>
 mif x171 (
 m R (o_bin .add 3 true x157 (.int .i64 1)) w52 fun x173 w53 =>
 next33 x173 x21 w53) (
 next33 x20 x157 w52)) (
 m R (o_bin .sub 3 false x137 x20) w46 fun x177 w54 =>
 mj0 (fun j41 =>
 mj1 (fun j40 =>
 m R (o_bin .lss 3 false x20 x2) w54 fun x180 w55 =>
 mguard x180 true (fun k => m R (o_move x2) w55 k) w55 fun x182 w56 =>
 mguard x180 true (fun k => m R (o_move x177) w56 k) w56 fun x183 w57 =>
 mguard x180 true (fun k => m R (o_bin .lss 3 false x182 x183) w57 k) w57 fun x184 w58 =>
 m R (o_pick x180 x184 (.bool false)) w58 fun x185 w59 =>
 j40 x185 w59) fun x185 u40 w60 =>
 mif x185 (
 m R (o_call (fv 150) [x0, x20, x2, x177, x4]) w60 fun x191 w61 =>
 j41 w61) (
 j41 w60)) fun u41 w62 =>
 mj0 (fun j43 =>
 mj1 (fun j42 =>
 m R (o_bin .lss 3 false x1 x20) w62 fun x194 w63 =>
 mguard x194 true (fun k => m R (o_move x20) w63 k) w63 fun x196 w64 =>
 mguard x194 true (fun k => m R (o_move x134) w64 k) w64 fun x197 w65 =>
 mguard x194 true (fun k => m R (o_bin .lss 3 false x196 x197) w65 k) w65 fun x198 w66 =>
 m R (o_pick x194 x198 (.bool false)) w66 fun x199 w67 =>
 j42 x199 w67) fun x199 u42 w68 =>
 mif x199 (
 m R (o_call (fv 137) [x0, x1, x20, x134, x4]) w68 fun x205 w69 =>
 j43 w69) (
 j43 w68)) fun u43 w70 =>
 mj1 (fun j44 =>
 m R (o_bin .lss 3 false x134 x177) w70 fun x208 w71 =>
 mguard x208 true (fun k => m R (o_move x177) w71 k) w71 fun x210 w72 =>
 mguard x208 true (fun k => m R (o_move x3) w72 k) w72 fun x211 w73 =>
 mguard x208 true (fun k => m R (o_bin .lss 3 false x210 x211) w73 k) w73 fun x212 w74 =>
 m R (o_pick x208 x212 (.bool false)) w74 fun x213 w75 =>
 j44 x213 w75) fun x213 u44 w76 =>
 mif x213 (
 m R (o_call (fv 137) [x0, x134, x177, x3, x4]) w76 fun x219 w77 =>
 R (.returned (.tuple #[])) w77) (
 R (.returned (.tuple #[])) w76))))
def A_slices_symMergeCmpFunc_api_Key : Ann := ⟨[(3, [10, 11], 18014396362005504), (9, [13], 151115691423031627882496), (15, [14, 15], 162259267157806806474544612753408), (21, [17], 680564409323323268500022431707515977728), (33, [20, 21], 47890484938435180470718404069304177263338029388398592)], [(32, [20, 21], 178057512444517944145699250583176761402458112), (41, [], 6276718611501464291621199836450878838806450759683488612352), (40, [185], 97696590730200414720344622980832210455694619039204638720), (43, [], 102837757730839990953921738120411198895004889246654277424775168), (42, [199], 1600660942523603594778126302917954936106100638338328800788480), (44, [213], 26225228882306721296844821347007773673162352858535179072118456320)], [(5, [⟨0, .q none, 16, 0, 1099511627776⟩, ⟨1, .q none, 1, 0, 2199023255552⟩, ⟨2, .q none, 4096, 0, 4398046511104⟩, ⟨3, .q none, 6597069766656, 6, 8796093022208⟩, ⟨4, .q (some 0), 8796093022208, 14, 17592186044416⟩, ⟨5, .q none, 1, 0, 35184372088832⟩, ⟨6, .q none, 2, 0, 70368744177664⟩, ⟨7, .q none, 105553116266496, 96, 140737488355328⟩, ⟨8, .q (some 0), 140737488355328, 224, 281474976710656⟩, ⟨9, .f 0 false, 300166674382848, 511, 562949953421312⟩, ⟨10, .q none, 562949953421312, 1023, 1125899906842624⟩]), (11, [⟨0, .q none, 1, 0, 2305843009213693952⟩, ⟨1, .q none, 8192, 0, 4611686018427387904⟩, ⟨2, .q none, 1, 0, 9223372036854775808⟩, ⟨3, .q none, 8192, 0, 18446744073709551616⟩, ⟨4, .q none, 18446744073709551616, 8, 36893488147419103232⟩, ⟨5, .q none, 1, 0, 73786976294838206464⟩, ⟨6, .q none, 8192, 0, 147573952589676412928⟩, ⟨7, .q none, 147573952589676412928, 64, 295147905179352825856⟩, ⟨8, .q none, 368934881474191032320, 224, 590295810358705651712⟩, ⟨9, .q (some 0), 590295810358705651712, 480, 1180591620717411303424⟩, ⟨10, .q none, 1, 0, 2361183241434822606848⟩, ⟨11, .q none, 8192, 0, 4722366482869645213696⟩, ⟨12, .q none, 7083549724304467820544, 3072, 9444732965739290427392⟩, ⟨13, .q (some 0), 9444732965739290427392, 7168, 18889465931478580854784⟩, ⟨14, .q none, 6917529027641081856, 16355, 37778931862957161709568⟩, ⟨15, .f 0 false, 38959523483674573012992, 32739, 0⟩, ⟨16, .q none, 46116860184273879040, 65535, 75557863725914323419136⟩, ⟨17, .f 1 false, 94447329657392904273920, 131071, 0⟩]), (17, [⟨0, .q none, 16, 0, 4951760157141521099596496896⟩, ⟨1, .q none, 1, 0, 9903520314283042199192993792⟩, ⟨2, .q none, 4, 0, 19807040628566084398385987584⟩, ⟨3, .q none, 29710560942849126597578981376, 6, 39614081257132168796771975168⟩, ⟨4, .q (some 0), 39614081257132168796771975168, 14, 79228162514264337593543950336⟩, ⟨5, .q none, 1, 0, 158456325028528675187087900672⟩, ⟨6, .q none, 65536, 0, 316912650057057350374175801344⟩, ⟨7, .q none, 475368975085586025561263702016, 96, 633825300114114700748351602688⟩, ⟨8, .q (some 0), 633825300114114700748351602688, 224, 1267650600228229401496703205376⟩, ⟨9, .f 0 false, 1351830522899635260189843652608, 511, 2535301200456458802993406410752⟩, ⟨10, .q none, 2535301200456458802993406410752, 1023, 5070602400912917605986812821504⟩, ⟨11, .q none, 5070602400912917605986812821504, 2047, 10141204801825835211973625643008⟩]), (23, [⟨0, .q none, 1, 0, 10384593717069655257060992658440192⟩, ⟨1, .q none, 131072, 0, 20769187434139310514121985316880384⟩, ⟨2, .q none, 1, 0, 41538374868278621028243970633760768⟩, ⟨3, .q none, 131072, 0, 83076749736557242056487941267521536⟩, ⟨4, .q none, 83076749736557242056487941267521536, 8, 166153499473114484112975882535043072⟩, ⟨5, .q none, 1, 0, 332306998946228968225951765070086144⟩, ⟨6, .q none, 131072, 0, 664613997892457936451903530140172288⟩, ⟨7, .q none, 664613997892457936451903530140172288, 64, 1329227995784915872903807060280344576⟩, ⟨8, .q none, 1661534994731144841129758825350430720, 224, 2658455991569831745807614120560689152⟩, ⟨9, .q (some 0), 2658455991569831745807614120560689152, 480, 5316911983139663491615228241121378304⟩, ⟨10, .q none, 1, 0, 10633823966279326983230456482242756608⟩, ⟨11, .q none, 131072, 0, 21267647932558653966460912964485513216⟩, ⟨12, .q none, 31901471898837980949691369446728269824, 3072, 42535295865117307932921825928971026432⟩, ⟨13, .q (some 0), 42535295865117307932921825928971026432, 7168, 85070591730234615865843651857942052864⟩, ⟨14, .q none, 31153781151208965771182977975320576, 16355, 170141183460469231731687303715884105728⟩, ⟨15, .f 0 false, 175458095443608895223302531957005484032, 32739, 0⟩, ⟨16, .q none, 207691874341393105141219853168803840, 65535, 340282366920938463463374607431768211456⟩, ⟨17, .f 1 false, 425352958651173079329218259289710264320, 131071, 0⟩]), (35, [⟨0, .q none, 16, 0, 365375409332725729550921208179070754913983135744⟩, ⟨1, .q none, 1, 0, 730750818665451459101842416358141509827966271488⟩, ⟨2, .q none, 4194304, 0, 1461501637330902918203684832716283019655932542976⟩, ⟨3, .q none, 8388608, 0, 2923003274661805836407369665432566039311865085952⟩, ⟨4, .q none, 4384504911992708754611054498148849058967797628928, 12, 5846006549323611672814739330865132078623730171904⟩, ⟨5, .q none, 6576757367989063131916581747223273588451696443392, 30, 11692013098647223345629478661730264157247460343808⟩, ⟨6, .q (some 0), 11692013098647223345629478661730264157247460343808, 62, 23384026197294446691258957323460528314494920687616⟩, ⟨7, .q none, 1, 0, 46768052394588893382517914646921056628989841375232⟩, ⟨8, .q none, 8388608, 0, 93536104789177786765035829293842113257979682750464⟩, ⟨9, .q none, 140304157183766680147553743940763169886969524125696, 384, 187072209578355573530071658587684226515959365500928⟩, ⟨10, .q (some 0), 187072209578355573530071658587684226515959365500928, 896, 374144419156711147060143317175368453031918731001856⟩, ⟨11, .f 0 false, 397893820763338319480953195707008052101327634825216, 2047, 748288838313422294120286634350736906063837462003712⟩, ⟨12, .q none, 748288838313422294120286634350736906063837462003712, 4095, 1496577676626844588240573268701473812127674924007424⟩, ⟨13, .q none, 1496577676626844588240573268701473812127674924007424, 8191, 2993155353253689176481146537402947624255349848014848⟩])], [], []⟩
theorem C_slices_symMergeCmpFunc_api_Key {x0 x1 x2 x3 x4 : Value} {w : World} {R : Ending → World → Prop} (h : F_slices_symMergeCmpFunc_api_Key x0 x1 x2 x3 x4 w R) : Calls Tryz.prog 137 #[x0, x1, x2, x3, x4] w R :=
 calls_cwp (A := A_slices_symMergeCmpFunc_api_Key) (args := [x0, x1, x2, x3, x4]) mixed Tryz.func137 (c := Tryz.f137.body.getD .skip) (by kernel_rfl) (by kernel_rfl) (by kernel_rfl) (Eq.mpr (by kernel_rfl) h)
def F_bough_Root (x0 : Value) (w : World) (R : Ending → World → Prop) : Prop :=
 m R (o_call (fv 99) [x0, (.int .i64 0)]) w fun x5 w1 =>
 m R (o_un .not x5) w1 fun x6 w2 =>
 mif x6 (
 R (.returned (.int .i64 (-1))) w2) (
 ml1 (.int .i64 1) w2 fun x3 u4 w3 next4 =>
 m R (o_bin .lss 3 false x3 x0) w3 fun x9 w4 =>
 mif x9 (
 m R (o_bin .mul 3 true x3 (.int .i64 2)) w4 fun x11 w5 =>
 next4 x11 w5) (
 m R (o_bin .sub 3 true x3 (.int .i64 1)) w4 fun x13 w6 =>
 R (.returned x13) w6))
def A_bough_Root : Ann := ⟨[(4, [3], 3976)], [], [], [], []⟩
theorem C_bough_Root {x0 : Value} {w : World} {R : Ending → World → Prop} (h : F_bough_Root x0 w R) : Calls Tryz.prog 138 #[x0] w R :=
 calls_cwp (A := A_bough_Root) (args := [x0]) mixed Tryz.func138 (c := Tryz.f138.body.getD .skip) (by kernel_rfl) (by kernel_rfl) (by kernel_rfl) (Eq.mpr (by kernel_rfl) h)
def F_sha_state_turn (x0 : Value) (w : World) (R : Ending → World → Prop) : Prop :=
 m R (o_alloc 160) w fun x2 w1 =>
 ml1 (.int .i64 0) w1 fun x21 u2 w2 next2 =>
 m R (o_bin .lss 3 true x21 (.int .i64 16)) w2 fun x22 w3 =>
 mif x22 (
 m R (o_nilCheck x0) w3 fun x25 w4 =>
 m R (o_fieldAddr 170 x25 1) w4 fun x26 w5 =>
 m R (o_bin .mul 3 true (.int .i64 4) x21) w5 fun x28 w6 =>
 m R (o_slice 168 x26 (some x28) none none) w6 fun x29 w7 =>
 dp Tryz.prog (o_indexAddr 99 x29 (.int .i64 0)) fun x32 =>
 dq Tryz.prog w7 (o_load 5 x32) fun x33 =>
 dp Tryz.prog (o_conv 5 159 x33) fun x34 =>
 dp Tryz.prog (o_bin .shl 159 true x34 (.int .u64 24)) fun x35 =>
 dp Tryz.prog (o_indexAddr 99 x29 (.int .i64 1)) fun x37 =>
 dq Tryz.prog w7 (o_load 5 x37) fun x38 =>
 dp Tryz.prog (o_conv 5 159 x38) fun x39 =>
 dp Tryz.prog (o_bin .shl 159 true x39 (.int .u64 16)) fun x40 =>
 dp Tryz.prog (o_bin .or 159 false x35 x40) fun x41 =>
 dp Tryz.prog (o_indexAddr 99 x29 (.int .i64 2)) fun x43 =>
 dq Tryz.prog w7 (o_load 5 x43) fun x44 =>
 dp Tryz.prog (o_conv 5 159 x44) fun x45 =>
 dp Tryz.prog (o_bin .shl 159 true x45 (.int .u64 8)) fun x46 =>
 dp Tryz.prog (o_bin .or 159 false x41 x46) fun x47 =>
 dp Tryz.prog (o_indexAddr 99 x29 (.int .i64 3)) fun x49 =>
 dq Tryz.prog w7 (o_load 5 x49) fun x50 =>
 dp Tryz.prog (o_conv 5 159 x50) fun x51 =>
 dp Tryz.prog (o_bin .or 159 false x47 x51) fun x52 =>
 dp Tryz.prog (o_indexAddr 160 x2 x21) fun x53 =>
 df Tryz.prog w7 (o_store 159 x53 x52) false fun _ w8 =>
 dend w8 fun w9 =>
 m R (o_bin .add 3 true x21 (.int .i64 1)) w9 fun x54 w10 =>
 next2 x54 w10) (
 ml1 (.int .i64 16) w3 fun x5 u8 w11 next8 =>
 m R (o_bin .lss 3 true x5 (.int .i64 64)) w11 fun x56 w12 =>
 mif x56 (
 dp Tryz.prog (o_bin .sub 3 true x5 (.int .i64 15)) fun x60 =>
 dp Tryz.prog (o_indexAddr 160 x2 x60) fun x61 =>
 dq Tryz.prog w12 (o_load 159 x61) fun x62 =>
 dp Tryz.prog (o_bin .sub 3 true x5 (.int .i64 2)) fun x64 =>
 dp Tryz.prog (o_indexAddr 160 x2 x64) fun x65 =>
 dq Tryz.prog w12 (o_load 159 x65) fun x66 =>
 dend w12 fun w13 =>
 dp Tryz.prog (o_bin .sub 3 true x5 (.int .i64 16)) fun x69 =>
 dp Tryz.prog (o_indexAddr 160 x2 x69) fun x70 =>
 dq Tryz.prog w13 (o_load 159 x70) fun x71 =>
 dp Tryz.prog (o_bin .sub 3 true x5 (.int .i64 7)) fun x73 =>
 dp Tryz.prog (o_indexAddr 160 x2 x73) fun x74 =>
 dq Tryz.prog w13 (o_load 159 x74) fun x75 =>
 dp Tryz.prog (o_bin .add 159 false x71 x75) fun x76 =>
 df Tryz.prog w13 (o_call (fv 151) [x62, (.int .i64 (-7))]) true fun x78 w14 =>
 df Tryz.prog w14 (o_call (fv 151) [x62, (.int .i64 (-18))]) true fun x80 w15 =>
 dp Tryz.prog (o_bin .xor 159 false x78 x80) fun x81 =>
 dp Tryz.prog (o_bin .shr 159 true x62 (.int .u64 3)) fun x83 =>
 dp Tryz.prog (o_bin .xor 159 false x81 x83) fun x84 =>
 dp Tryz.prog (o_bin .add 159 false x76 x84) fun x85 =>
 df Tryz.prog w15 (o_call (fv 151) [x66, (.int .i64 (-17))]) true fun x87 w16 =>
 df Tryz.prog w16 (o_call (fv 151) [x66, (.int .i64 (-19))]) true fun x89 w17 =>
 dp Tryz.prog (o_bin .xor 159 false x87 x89) fun x90 =>
 dp Tryz.prog (o_bin .shr 159 true x66 (.int .u64 10)) fun x92 =>
 dp Tryz.prog (o_bin .xor 159 false x90 x92) fun x93 =>
 dp Tryz.prog (o_bin .add 159 false x85 x93) fun x94 =>
 dp Tryz.prog (o_indexAddr 160 x2 x5) fun x95 =>
 df Tryz.prog w17 (o_store 159 x95 x94) false fun _ w18 =>
 dend w18 fun w19 =>
 m R (o_bin .add 3 true x5 (.int .i64 1)) w19 fun x58 w20 =>
 next8 x58 w20) (
 dp Tryz.prog (o_nilCheck x0) fun x97 =>
 dp Tryz.prog (o_fieldAddr 170 x97 0) fun x98 =>
 dp Tryz.prog (o_indexAddr 162 x98 (.int .i64 0)) fun x99 =>
 dq Tryz.prog w12 (o_load 159 x99) fun x100 =>
 dp Tryz.prog (o_nilCheck x0) fun x102 =>
 dp Tryz.prog (o_fieldAddr 170 x102 0) fun x103 =>
 dp Tryz.prog (o_indexAddr 162 x103 (.int .i64 1)) fun x104 =>
 dq Tryz.prog w12 (o_load 159 x104) fun x105 =>
 dp Tryz.prog (o_nilCheck x0) fun x107 =>
 dp Tryz.prog (o_fieldAddr 170 x107 0) fun x108 =>
 dp Tryz.prog (o_indexAddr 162 x108 (.int .i64 2)) fun x109 =>
 dq Tryz.prog w12 (o_load 159 x109) fun x110 =>
 dp Tryz.prog (o_nilCheck x0) fun x112 =>
 dp Tryz.prog (o_fieldAddr 170 x112 0) fun x113 =>
 dp Tryz.prog (o_indexAddr 162 x113 (.int .i64 3)) fun x114 =>
 dq Tryz.prog w12 (o_load 159 x114) fun x115 =>
 dp Tryz.prog (o_nilCheck x0) fun x117 =>
 dp Tryz.prog (o_fieldAddr 170 x117 0) fun x118 =>
 dp Tryz.prog (o_indexAddr 162 x118 (.int .i64 4)) fun x119 =>
 dq Tryz.prog w12 (o_load 159 x119) fun x120 =>
 dp Tryz.prog (o_nilCheck x0) fun x122 =>
 dp Tryz.prog (o_fieldAddr 170 x122 0) fun x123 =>
 dp Tryz.prog (o_indexAddr 162 x123 (.int .i64 5)) fun x124 =>
 dq Tryz.prog w12 (o_load 159 x124) fun x125 =>
 dp Tryz.prog (o_nilCheck x0) fun x127 =>
 dp Tryz.prog (o_fieldAddr 170 x127 0) fun x128 =>
 dp Tryz.prog (o_indexAddr 162 x128 (.int .i64 6)) fun x129 =>
 dq Tryz.prog w12 (o_load 159 x129) fun x130 =>
 dp Tryz.prog (o_nilCheck x0) fun x132 =>
 dp Tryz.prog (o_fieldAddr 170 x132 0) fun x133 =>
 dp Tryz.prog (o_indexAddr 162 x133 (.int .i64 7)) fun x134 =>
 dq Tryz.prog w12 (o_load 159 x134) fun x135 =>
 dend w12 fun w21 =>
 ml9 x100 x105 x110 x115 x120 x125 x130 x135 (.int .i64 0) w21 fun x8 x9 x10 x11 x12 x13 x14 x15 x136 u14 w22 next14 =>
 m R (o_bin .lss 3 true x136 (.int .i64 64)) w22 fun x137 w23 =>
 mif x137 (
 df Tryz.prog w23 (o_call (fv 151) [x12, (.int .i64 (-6))]) true fun x141 w24 =>
 df Tryz.prog w24 (o_call (fv 151) [x12, (.int .i64 (-11))]) true fun x143 w25 =>
 dp Tryz.prog (o_bin .xor 159 false x141 x143) fun x144 =>
 df Tryz.prog w25 (o_call (fv 151) [x12, (.int .i64 (-25))]) true fun x146 w26 =>
 dp Tryz.prog (o_bin .xor 159 false x144 x146) fun x147 =>
 dp Tryz.prog (o_bin .add 159 false x15 x147) fun x148 =>
 dp Tryz.prog (o_bin .and 159 false x12 x13) fun x151 =>
 dp Tryz.prog (o_un .xor x12) fun x153 =>
 dp Tryz.prog (o_bin .and 159 false x153 x14) fun x155 =>
 dp Tryz.prog (o_bin .xor 159 false x151 x155) fun x156 =>
 dp Tryz.prog (o_bin .add 159 false x148 x156) fun x157 =>
 dp Tryz.prog (o_nilCheck x0) fun x160 =>
 dp Tryz.prog (o_fieldAddr 170 x160 3) fun x161 =>
 dp Tryz.prog (o_indexAddr 160 x161 x136) fun x162 =>
 dq Tryz.prog w23 (o_load 159 x162) fun x163 =>
 dp Tryz.prog (o_bin .add 159 false x157 x163) fun x164 =>
 dp Tryz.prog (o_indexAddr 160 x2 x136) fun x166 =>
 dq Tryz.prog w23 (o_load 159 x166) fun x167 =>
 dp Tryz.prog (o_bin .add 159 false x164 x167) fun x168 =>
 dend w26 fun w27 =>
 m R (o_call (fv 151) [x8, (.int .i64 (-2))]) w27 fun x170 w28 =>
 m R (o_call (fv 151) [x8, (.int .i64 (-13))]) w28 fun x172 w29 =>
 m R (o_bin .xor 159 false x170 x172) w29 fun x173 w30 =>
 m R (o_call (fv 151) [x8, (.int .i64 (-22))]) w30 fun x175 w31 =>
 m R (o_bin .xor 159 false x173 x175) w31 fun x176 w32 =>
 m R (o_bin .and 159 false x8 x9) w32 fun x179 w33 =>
 m R (o_bin .and 159 false x8 x10) w33 fun x182 w34 =>
 m R (o_bin .xor 159 false x179 x182) w34 fun x183 w35 =>
 m R (o_bin .and 159 false x9 x10) w35 fun x186 w36 =>
 m R (o_bin .xor 159 false x183 x186) w36 fun x187 w37 =>
 m R (o_bin .add 159 false x176 x187) w37 fun x188 w38 =>
 m R (o_bin .add 159 false x11 x168) w38 fun x194 w39 =>
 m R (o_bin .add 159 false x168 x188) w39 fun x200 w40 =>
 m R (o_bin .add 3 true x136 (.int .i64 1)) w40 fun x201 w41 =>
 next14 x200 x8 x9 x10 x194 x12 x13 x14 x201 w41) (
 m R (o_build 162 [(0, x8), (1, x9), (2, x10), (3, x11), (4, x12), (5, x13), (6, x14), (7, x15)]) w23 fun x210 w42 =>
 ml1 (.int .i64 0) w42 fun x211 u21 w43 next21 =>
 m R (o_bin .lss 3 true x211 (.int .i64 8)) w43 fun x212 w44 =>
 mif x212 (
 m R (o_index 162 x210 x211) w44 fun x214 w45 =>
 dp Tryz.prog (o_nilCheck x0) fun x217 =>
 dp Tryz.prog (o_fieldAddr 170 x217 0) fun x218 =>
 dp Tryz.prog (o_indexAddr 162 x218 x211) fun x219 =>
 dq Tryz.prog w45 (o_load 159 x219) fun x220 =>
 dp Tryz.prog (o_bin .add 159 false x220 x214) fun x222 =>
 dp Tryz.prog (o_nilCheck x0) fun x223 =>
 dp Tryz.prog (o_fieldAddr 170 x223 0) fun x224 =>
 dp Tryz.prog (o_indexAddr 162 x224 x211) fun x225 =>
 df Tryz.prog w45 (o_store 159 x225 x222) false fun _ w46 =>
 dend w46 fun w47 =>
 m R (o_bin .add 3 true x211 (.int .i64 1)) w47 fun x226 w48 =>
 next21 x226 w48) (
 R (.returned (.tuple #[])) w44))))
def A_sha_state_turn : Ann := ⟨[(2, [21], 36028797016866840), (8, [5], 79228162514228308796524986592), (14, [8, 9, 10, 11, 12, 13, 14, 15, 136], 6427752177035961102080736083432890163442188075628638679596800), (21, [211], 215676282328090475945251810757791930688087189908593312689102186348544)], [], [(5, [⟨0, .q none, 8, 0, 1073741824⟩, ⟨1, .q none, 16, 0, 2147483648⟩, ⟨2, .q none, 2147483648, 2, 4294967296⟩, ⟨3, .q (some 0), 4294967296, 6, 8589934592⟩, ⟨4, .q none, 8589934592, 14, 17179869184⟩, ⟨5, .q none, 17179869184, 30, 34359738368⟩, ⟨6, .q none, 16, 0, 68719476736⟩, ⟨7, .q none, 68719476736, 64, 137438953472⟩, ⟨8, .q (some 0), 137438953472, 192, 274877906944⟩, ⟨9, .q none, 274877906944, 448, 549755813888⟩, ⟨10, .q none, 549755813888, 960, 1099511627776⟩, ⟨11, .q none, 1133871366144, 2046, 2199023255552⟩, ⟨12, .q none, 16, 0, 4398046511104⟩, ⟨13, .q none, 4398046511104, 4096, 8796093022208⟩, ⟨14, .q (some 0), 8796093022208, 12288, 17592186044416⟩, ⟨15, .q none, 17592186044416, 28672, 35184372088832⟩, ⟨16, .q none, 35184372088832, 61440, 70368744177664⟩, ⟨17, .q none, 72567767433216, 131070, 140737488355328⟩, ⟨18, .q none, 16, 0, 281474976710656⟩, ⟨19, .q none, 281474976710656, 262144, 562949953421312⟩, ⟨20, .q (some 0), 562949953421312, 786432, 1125899906842624⟩, ⟨21, .q none, 1125899906842624, 1835008, 2251799813685248⟩, ⟨22, .q none, 2392537302040576, 4194302, 4503599627370496⟩, ⟨23, .q none, 1073741828, 8388607, 9007199254740992⟩, ⟨24, .f 0 false, 13510798882111488, 16777215, 0⟩]), (10, [⟨0, .q none, 32, 0, 576460752303423488⟩, ⟨1, .q none, 576460752303423488, 1, 1152921504606846976⟩, ⟨2, .q none, 1152921504606846980, 3, 2305843009213693952⟩, ⟨3, .q (some 0), 2305843009213693952, 7, 4611686018427387904⟩, ⟨4, .q none, 32, 0, 9223372036854775808⟩, ⟨5, .q none, 9223372036854775808, 16, 18446744073709551616⟩, ⟨6, .q none, 18446744073709551620, 48, 36893488147419103232⟩, ⟨7, .q (some 0), 36893488147419103232, 112, 73786976294838206464⟩, ⟨8, .q none, 4611686018427387904, 15, 64⟩, ⟨9, .q none, 73786976294838206464, 511, 128⟩]), (11, [⟨0, .q none, 32, 0, 147573952589676412928⟩, ⟨1, .q none, 32, 0, 295147905179352825856⟩, ⟨2, .q none, 295147905179352825856, 2, 590295810358705651712⟩, ⟨3, .q none, 590295810358705651716, 6, 1180591620717411303424⟩, ⟨4, .q (some 0), 1180591620717411303424, 14, 2361183241434822606848⟩, ⟨5, .q none, 32, 0, 4722366482869645213696⟩, ⟨6, .q none, 4722366482869645213696, 32, 9444732965739290427392⟩, ⟨7, .q none, 9444732965739290427396, 96, 18889465931478580854784⟩, ⟨8, .q (some 0), 18889465931478580854784, 224, 37778931862957161709568⟩, ⟨9, .q none, 40140115104391984316416, 510, 75557863725914323419136⟩, ⟨10, .q none, 64, 0, 151115727451828646838272⟩, ⟨11, .f 0 true, 151115727451828646838272, 1024, 302231454903657293676544⟩, ⟨12, .q none, 64, 0, 604462909807314587353088⟩, ⟨13, .f 1 true, 604462909807314587353088, 7168, 1208925819614629174706176⟩, ⟨14, .q none, 1511157274518286468382720, 15360, 2417851639229258349412352⟩, ⟨15, .q none, 64, 0, 4835703278458516698824704⟩, ⟨16, .q none, 4835703278458516698824704, 32768, 9671406556917033397649408⟩, ⟨17, .q none, 12089258196146291747061760, 130048, 19342813113834066795298816⟩, ⟨18, .q none, 19418370977559981118717952, 262142, 38685626227668133590597632⟩, ⟨19, .q none, 128, 0, 77371252455336267181195264⟩, ⟨20, .f 2 true, 77371252455336267181195264, 539648, 154742504910672534362390528⟩, ⟨21, .q none, 128, 0, 309485009821345068724781056⟩, ⟨22, .f 3 true, 309485009821345068724781056, 3685376, 618970019642690137449562112⟩, ⟨23, .q none, 773712524553362671811952640, 7879680, 1237940039285380274899124224⟩, ⟨24, .q none, 128, 0, 2475880078570760549798248448⟩, ⟨25, .q none, 2475880078570760549798248448, 16777216, 4951760157141521099596496896⟩, ⟨26, .q none, 6189700196426901374495621120, 66599936, 9903520314283042199192993792⟩, ⟨27, .q none, 9942205940510710332783591424, 134217726, 19807040628566084398385987584⟩, ⟨28, .q none, 147573952589676412932, 268435455, 39614081257132168796771975168⟩, ⟨29, .f 4 false, 59421121885698253195157962752, 536870911, 0⟩]), (12, [⟨0, .q none, 1, 0, 79228162514264337593543950336⟩, ⟨1, .q none, 79228162514264337593543950336, 1, 158456325028528675187087900672⟩, ⟨2, .q none, 158456325028528675187087900672, 3, 316912650057057350374175801344⟩, ⟨3, .q none, 316912650057057350374175801344, 7, 633825300114114700748351602688⟩, ⟨4, .q (some 0), 633825300114114700748351602688, 15, 1267650600228229401496703205376⟩, ⟨5, .q none, 1, 0, 2535301200456458802993406410752⟩, ⟨6, .q none, 2535301200456458802993406410752, 32, 5070602400912917605986812821504⟩, ⟨7, .q none, 5070602400912917605986812821504, 96, 10141204801825835211973625643008⟩, ⟨8, .q none, 10141204801825835211973625643008, 224, 20282409603651670423947251286016⟩, ⟨9, .q (some 0), 20282409603651670423947251286016, 480, 40564819207303340847894502572032⟩, ⟨10, .q none, 1, 0, 81129638414606681695789005144064⟩, ⟨11, .q none, 81129638414606681695789005144064, 1024, 162259276829213363391578010288128⟩, ⟨12, .q none, 162259276829213363391578010288128, 3072, 324518553658426726783156020576256⟩, ⟨13, .q none, 324518553658426726783156020576256, 7168, 649037107316853453566312041152512⟩, ⟨14, .q (some 0), 649037107316853453566312041152512, 15360, 1298074214633706907132624082305024⟩, ⟨15, .q none, 1, 0, 2596148429267413814265248164610048⟩, ⟨16, .q none, 2596148429267413814265248164610048, 32768, 5192296858534827628530496329220096⟩, ⟨17, .q none, 5192296858534827628530496329220096, 98304, 10384593717069655257060992658440192⟩, ⟨18, .q none, 10384593717069655257060992658440192, 229376, 20769187434139310514121985316880384⟩, ⟨19, .q (some 0), 20769187434139310514121985316880384, 491520, 41538374868278621028243970633760768⟩, ⟨20, .q none, 1, 0, 83076749736557242056487941267521536⟩, ⟨21, .q none, 83076749736557242056487941267521536, 1048576, 166153499473114484112975882535043072⟩, ⟨22, .q none, 166153499473114484112975882535043072, 3145728, 332306998946228968225951765070086144⟩, ⟨23, .q none, 332306998946228968225951765070086144, 7340032, 664613997892457936451903530140172288⟩, ⟨24, .q (some 0), 664613997892457936451903530140172288, 15728640, 1329227995784915872903807060280344576⟩, ⟨25, .q none, 1, 0, 2658455991569831745807614120560689152⟩, ⟨26, .q none, 2658455991569831745807614120560689152, 33554432, 5316911983139663491615228241121378304⟩, ⟨27, .q none, 5316911983139663491615228241121378304, 100663296, 10633823966279326983230456482242756608⟩, ⟨28, .q none, 10633823966279326983230456482242756608, 234881024, 21267647932558653966460912964485513216⟩, ⟨29, .q (some 0), 21267647932558653966460912964485513216, 503316480, 42535295865117307932921825928971026432⟩, ⟨30, .q none, 1, 0, 85070591730234615865843651857942052864⟩, ⟨31, .q none, 85070591730234615865843651857942052864, 1073741824, 170141183460469231731687303715884105728⟩, ⟨32, .q none, 170141183460469231731687303715884105728, 3221225472, 340282366920938463463374607431768211456⟩, ⟨33, .q none, 340282366920938463463374607431768211456, 7516192768, 680564733841876926926749214863536422912⟩, ⟨34, .q (some 0), 680564733841876926926749214863536422912, 16106127360, 1361129467683753853853498429727072845824⟩, ⟨35, .q none, 1, 0, 2722258935367507707706996859454145691648⟩, ⟨36, .q none, 2722258935367507707706996859454145691648, 34359738368, 5444517870735015415413993718908291383296⟩, ⟨37, .q none, 5444517870735015415413993718908291383296, 103079215104, 10889035741470030830827987437816582766592⟩, ⟨38, .q none, 10889035741470030830827987437816582766592, 240518168576, 21778071482940061661655974875633165533184⟩, ⟨39, .q (some 0), 21778071482940061661655974875633165533184, 515396075520, 43556142965880123323311949751266331066368⟩, ⟨40, .q none, 1267650600228229401496703205376, 31, 256⟩, ⟨41, .q none, 40564819207303340847894502572032, 1099511628799, 512⟩, ⟨42, .q none, 1298074214633706907132624082305024, 3298534916095, 1024⟩, ⟨43, .q none, 41538374868278621028243970633760768, 7696582443007, 2048⟩, ⟨44, .q none, 1329227995784915872903807060280344576, 16492707971071, 4096⟩, ⟨45, .q none, 42535295865117307932921825928971026432, 34085934202879, 8192⟩, ⟨46, .q none, 1361129467683753853853498429727072845824, 69303592288255, 16384⟩, ⟨47, .q none, 43556142965880123323311949751266331066368, 140737488355327, 32768⟩]), (16, [⟨0, .q none, 32768, 0, 696898287454081973172991196020261297061888⟩, ⟨1, .q none, 4096, 0, 1393796574908163946345982392040522594123776⟩, ⟨2, .f 0 true, 1393796574908163946345982392040522594123776, 2, 2787593149816327892691964784081045188247552⟩, ⟨3, .q none, 4096, 0, 5575186299632655785383929568162090376495104⟩, ⟨4, .f 1 true, 5575186299632655785383929568162090376495104, 14, 11150372599265311570767859136324180752990208⟩, ⟨5, .q none, 13937965749081639463459823920405225941237760, 30, 22300745198530623141535718272648361505980416⟩, ⟨6, .q none, 4096, 0, 44601490397061246283071436545296723011960832⟩, ⟨7, .f 2 true, 44601490397061246283071436545296723011960832, 94, 89202980794122492566142873090593446023921664⟩, ⟨8, .q none, 111503725992653115707678591363241807529902080, 254, 178405961588244985132285746181186892047843328⟩, ⟨9, .q none, 179102859875699067105458737377207153344905216, 511, 356811923176489970264571492362373784095686656⟩, ⟨10, .q none, 4096, 0, 713623846352979940529142984724747568191373312⟩, ⟨11, .q none, 8192, 0, 1427247692705959881058285969449495136382746624⟩, ⟨12, .q none, 2140871539058939821587428954174242704574119936, 3072, 2854495385411919762116571938898990272765493248⟩, ⟨13, .q none, 4096, 0, 5708990770823839524233143877797980545530986496⟩, ⟨14, .q none, 5708990770823839524233143877797980545530986496, 8192, 11417981541647679048466287755595961091061972992⟩, ⟨15, .q none, 16384, 0, 22835963083295358096932575511191922182123945984⟩, ⟨16, .q none, 34253944624943037145398863266787883273185918976, 57344, 45671926166590716193865151022383844364247891968⟩, ⟨17, .q none, 48526421552002635955981722961282834637013385216, 130048, 91343852333181432387730302044767688728495783936⟩, ⟨18, .q none, 91700664256357922357994873537130062512591470592, 262143, 182687704666362864775460604089535377456991567872⟩, ⟨19, .q none, 1, 0, 365375409332725729550921208179070754913983135744⟩, ⟨20, .q none, 65536, 0, 730750818665451459101842416358141509827966271488⟩, ⟨21, .q none, 365375409332725729550921208179070754913983135744, 524288, 1461501637330902918203684832716283019655932542976⟩, ⟨22, .q none, 1461501637330902918203684832716283019655932542976, 2621440, 2923003274661805836407369665432566039311865085952⟩, ⟨23, .q none, 3653754093327257295509212081790707549139831357440, 7864320, 5846006549323611672814739330865132078623730171904⟩, ⟨24, .q (some 0), 5846006549323611672814739330865132078623730171904, 16252928, 11692013098647223345629478661730264157247460343808⟩, ⟨25, .q none, 11874700803313586210404939265819799534704451911680, 33554431, 23384026197294446691258957323460528314494920687616⟩, ⟨26, .q none, 65536, 0, 46768052394588893382517914646921056628989841375232⟩, ⟨27, .q none, 46768052394588893382517914646921056628989841375236, 67108864, 93536104789177786765035829293842113257979682750464⟩, ⟨28, .q (some 0), 93536104789177786765035829293842113257979682750464, 201326592, 187072209578355573530071658587684226515959365500928⟩, ⟨29, .q none, 210456235775650020221330615911144754830454286188544, 536870911, 374144419156711147060143317175368453031918731001856⟩, ⟨30, .q none, 374144419156711147060143317175368453031918731001856, 1073741823, 131072⟩]), (23, [⟨0, .q none, 1, 0, 52656145834278593348959013841835216159447547700274555627155488768⟩, ⟨1, .q none, 524288, 0, 105312291668557186697918027683670432318895095400549111254310977536⟩, ⟨2, .q none, 52656145834278593348959013841835216159447547700274555627155488768, 1, 210624583337114373395836055367340864637790190801098222508621955072⟩, ⟨3, .q none, 210624583337114373395836055367340864637790190801098222508621955072, 5, 421249166674228746791672110734681729275580381602196445017243910144⟩, ⟨4, .q none, 526561458342785933489590138418352161594475477002745556271554887680, 15, 842498333348457493583344221469363458551160763204392890034487820288⟩, ⟨5, .q (some 0), 842498333348457493583344221469363458551160763204392890034487820288, 31, 1684996666696914987166688442938726917102321526408785780068975640576⟩, ⟨6, .q none, 1048576, 0, 3369993333393829974333376885877453834204643052817571560137951281152⟩, ⟨7, .q none, 5054990000090744961500065328816180751306964579226357340206926921728, 127, 6739986666787659948666753771754907668409286105635143120275902562304⟩, ⟨8, .q none, 52656145834278593348959013841835216159447547700274555627155488768, 1, 13479973333575319897333507543509815336818572211270286240551805124608⟩, ⟨9, .q none, 13479973333575319897333507543509815336818572211270286240551805124608, 257, 26959946667150639794667015087019630673637144422540572481103610249216⟩, ⟨10, .q none, 27065258958819196981364933114703301105956039517941121592357921226752, 1023, 53919893334301279589334030174039261347274288845081144962207220498432⟩, ⟨11, .f 0 false, 60659880001088939538000783945794169015683574950716288082483123060736, 2047, 0⟩])], [], []⟩
theorem C_sha_state_turn {x0 : Value} {w : World} {R : Ending → World → Prop} (h : F_sha_state_turn x0 w R) : Calls Tryz.prog 140 #[x0] w R :=
 calls_cwp (A := A_sha_state_turn) (args := [x0]) mixed Tryz.func140 (c := Tryz.f140.body.getD .skip) (by kernel_rfl) (by kernel_rfl) (by kernel_rfl) (Eq.mpr (by kernel_rfl) h)
def F_mac_Stream (x0 x1 : Value) (w : World) (R : Ending → World → Prop) : Prop :=
 m R (o_box 34 x0) w fun x2 w1 =>
 mj1 (fun j2 =>
 m R (o_bin .lss 3 true x1 (.int .i64 1)) w1 fun x9 w2 =>
 mguard x9 false (fun k => m R (o_move x1) w2 k) w2 fun x11 w3 =>
 mguard x9 false (fun k => m R (o_bin .gtr 3 true x11 (.int .i64 65536)) w3 k) w3 fun x12 w4 =>
 m R (o_pick x9 (.bool true) x12) w4 fun x13 w5 =>
 j2 x13 w5) fun x13 u2 w6 =>
 mif x13 (
 R (.returned (.string (ByteArray.mk #[]))) w6) (
 ml2 (.slice none 0 0) (.int .i64 0) w6 fun x5 x6 u5 w7 next5 =>
 m R (o_builtin .len #[99] 3 [false] [x5]) w7 fun x15 w8 =>
 m R (o_bin .lss 3 false x15 x1) w8 fun x17 w9 =>
 mif x17 (
 mj1 (fun j8 =>
 ((
 dp Tryz.prog (o_slice 34 x2 none none none) fun x20 =>
 dq Tryz.prog w9 (o_conv 99 9 x20) fun x21 =>
 df Tryz.prog w9 (o_call (fv 124) [x6]) true fun x23 w10 =>
 df Tryz.prog w10 (o_buildSlice 70 1 [(0, x23)]) true fun x24 w11 =>
 df Tryz.prog w11 (o_call (fv 123) [x21, x24]) false fun x25 w12 =>
 df Tryz.prog w12 (o_alloc 34) true fun x7 w13 =>
 df Tryz.prog w13 (o_store 34 x7 x25) false fun _ w14 =>
 dend w14 fun w15 =>
 j8 x7 w15) ∧ (
 dp Tryz.prog (o_slice 34 x2 none none none) fun x20 =>
 dq Tryz.prog w9 (o_conv 99 9 x20) fun x21 =>
 df Tryz.prog w9 (o_call (fv 124) [x6]) true fun x23 w16 =>
 df Tryz.prog w16 (o_buildSlice 70 1 [(0, x23)]) true fun x24 w17 =>
 df Tryz.prog w17 (o_alloc 34) true fun x7 w18 =>
 df Tryz.prog w18 (o_call (fv 123) [x21, x24]) false fun x25 w19 =>
 df Tryz.prog w19 (o_store 34 x7 x25) false fun _ w20 =>
 dend w20 fun w21 =>
 j8 x7 w21) ∧ (
 dp Tryz.prog (o_slice 34 x2 none none none) fun x20 =>
 dq Tryz.prog w9 (o_conv 99 9 x20) fun x21 =>
 df Tryz.prog w9 (o_call (fv 124) [x6]) true fun x23 w22 =>
 df Tryz.prog w22 (o_alloc 34) true fun x7 w23 =>
 df Tryz.prog w23 (o_buildSlice 70 1 [(0, x23)]) true fun x24 w24 =>
 df Tryz.prog w24 (o_call (fv 123) [x21, x24]) false fun x25 w25 =>
 df Tryz.prog w25 (o_store 34 x7 x25) false fun _ w26 =>
 dend w26 fun w27 =>
 j8 x7 w27) ∧ (
 dp Tryz.prog (o_slice 34 x2 none none none) fun x20 =>
 dq Tryz.prog w9 (o_conv 99 9 x20) fun x21 =>
 df Tryz.prog w9 (o_alloc 34) true fun x7 w28 =>
 df Tryz.prog w28 (o_call (fv 124) [x6]) true fun x23 w29 =>
 df Tryz.prog w29 (o_buildSlice 70 1 [(0, x23)]) true fun x24 w30 =>
 df Tryz.prog w30 (o_call (fv 123) [x21, x24]) false fun x25 w31 =>
 df Tryz.prog w31 (o_store 34 x7 x25) false fun _ w32 =>
 dend w32 fun w33 =>
 j8 x7 w33))) fun x7 u8 w34 =>
 m R (o_slice 34 x7 none none none) w34 fun x27 w35 =>
 m R (o_builtin .append #[99, 99] 99 [false, false] [x5, x27]) w35 fun x28 w36 =>
 m R (o_bin .add 3 true x6 (.int .i64 1)) w36 fun x19 w37 =>
 next5 x28 x19 w37) (
 m R (o_slice 99 x5 none (some x1) none) w9 fun x31 w38 =>
 m R (o_conv 99 9 x31) w38 fun x32 w39 =>
 R (.returned x32) w39))
def A_mac_Stream : Ann := ⟨[(5, [5, 6], 536854752)], [(2, [13], 16128), (8, [7], 66060416)], [], [(7, [⟨[0, 1, 2, 3, 4, 5, 6, 7], [⟨0, .q none, 4, 0, 1048576⟩, ⟨1, .q (some 0), 1048576, 1, 2097152⟩, ⟨2, .q none, 64, 0, 4194304⟩, ⟨3, .f 0 true, 4194304, 4, 8388608⟩, ⟨4, .f 1 true, 8388608, 12, 16777216⟩, ⟨5, .f 2 false, 18874368, 31, 33554432⟩, ⟨6, .f 3 true, 0, 0, 128⟩, ⟨7, .f 4 false, 33554560, 127, 0⟩]⟩, ⟨[0, 1, 2, 3, 4, 6, 5, 7], [⟨0, .q none, 4, 0, 1048576⟩, ⟨1, .q (some 0), 1048576, 1, 2097152⟩, ⟨2, .q none, 64, 0, 4194304⟩, ⟨3, .f 0 true, 4194304, 4, 8388608⟩, ⟨4, .f 1 true, 8388608, 12, 16777216⟩, ⟨5, .f 3 false, 18874368, 31, 33554432⟩, ⟨6, .f 2 true, 0, 0, 128⟩, ⟨7, .f 4 false, 33554560, 127, 0⟩]⟩, ⟨[0, 1, 2, 3, 6, 4, 5, 7], [⟨0, .q none, 4, 0, 1048576⟩, ⟨1, .q (some 0), 1048576, 1, 2097152⟩, ⟨2, .q none, 64, 0, 4194304⟩, ⟨3, .f 0 true, 4194304, 4, 8388608⟩, ⟨4, .f 2 true, 8388608, 12, 16777216⟩, ⟨5, .f 3 false, 18874368, 31, 33554432⟩, ⟨6, .f 1 true, 0, 0, 128⟩, ⟨7, .f 4 false, 33554560, 127, 0⟩]⟩, ⟨[0, 1, 2, 6, 3, 4, 5, 7], [⟨0, .q none, 4, 0, 1048576⟩, ⟨1, .q (some 0), 1048576, 1, 2097152⟩, ⟨2, .q none, 64, 0, 4194304⟩, ⟨3, .f 1 true, 4194304, 4, 8388608⟩, ⟨4, .f 2 true, 8388608, 12, 16777216⟩, ⟨5, .f 3 false, 18874368, 31, 33554432⟩, ⟨6, .f 0 true, 0, 0, 128⟩, ⟨7, .f 4 false, 33554560, 127, 0⟩]⟩])], []⟩
theorem C_mac_Stream {x0 x1 : Value} {w : World} {R : Ending → World → Prop} (h : F_mac_Stream x0 x1 w R) : Calls Tryz.prog 146 #[x0, x1] w R :=
 calls_cwp (A := A_mac_Stream) (args := [x0, x1]) mixed Tryz.func146 (c := Tryz.f146.body.getD .skip) (by kernel_rfl) (by kernel_rfl) (by kernel_rfl) (Eq.mpr (by kernel_rfl) h)
def F_tree_leafBytes (x0 x1 : Value) (w : World) (R : Ending → World → Prop) : Prop :=
 m R (o_box 40 x1) w fun x3 w1 =>
 m R (o_fieldAddr 40 x3 0) w1 fun x5 w2 =>
 m R (o_load 3 x5) w2 fun x6 w3 =>
 m R (o_bin .gtr 3 true x6 (.int .i64 0)) w3 fun x7 w4 =>
 m R (o_call (fv 153) [x0, x7]) w4 fun x8 w5 =>
 m R (o_fieldAddr 40 x3 0) w5 fun x9 w6 =>
 m R (o_load 3 x9) w6 fun x10 w7 =>
 m R (o_bin .gtr 3 true x10 (.int .i64 0)) w7 fun x11 w8 =>
 mif x11 (
 m R (o_fieldAddr 40 x3 0) w8 fun x13 w9 =>
 m R (o_load 3 x13) w9 fun x14 w10 =>
 m R (o_call (fv 94) [x0, x14]) w10 fun x15 w11 =>
 m R (o_fieldAddr 40 x3 1) w11 fun x17 w12 =>
 m R (o_load 34 x17) w12 fun x18 w13 =>
 m R (o_call (fv 149) [x0, x18]) w13 fun x19 w14 =>
 m R (o_fieldAddr 40 x3 2) w14 fun x21 w15 =>
 m R (o_load 34 x21) w15 fun x22 w16 =>
 m R (o_call (fv 149) [x0, x22]) w16 fun x23 w17 =>
 m R (o_fieldAddr 40 x3 3) w17 fun x25 w18 =>
 m R (o_load 34 x25) w18 fun x26 w19 =>
 m R (o_call (fv 149) [x0, x26]) w19 fun x27 w20 =>
 R (.returned (.tuple #[])) w20) (
 R (.returned (.tuple #[])) w8)
def A_tree_leafBytes : Ann := ⟨[], [], [], [], []⟩
theorem C_tree_leafBytes {x0 x1 : Value} {w : World} {R : Ending → World → Prop} (h : F_tree_leafBytes x0 x1 w R) : Calls Tryz.prog 147 #[x0, x1] w R :=
 calls_cwp (A := A_tree_leafBytes) (args := [x0, x1]) mixed Tryz.func147 (c := Tryz.f147.body.getD .skip) (by kernel_rfl) (by kernel_rfl) (by kernel_rfl) (Eq.mpr (by kernel_rfl) h)
def F_tree_parentBytes (x0 x1 : Value) (w : World) (R : Ending → World → Prop) : Prop :=
 m R (o_box 69 x1) w fun x3 w1 =>
 m R (o_fieldAddr 69 x3 0) w1 fun x7 w2 =>
 m R (o_load 4 x7) w2 fun x8 w3 =>
 m R (o_call (fv 153) [x0, x8]) w3 fun x9 w4 =>
 m R (o_fieldAddr 69 x3 0) w4 fun x10 w5 =>
 m R (o_load 4 x10) w5 fun x11 w6 =>
 mif x11 (
 m R (o_fieldAddr 69 x3 1) w6 fun x13 w7 =>
 m R (o_load 34 x13) w7 fun x14 w8 =>
 m R (o_call (fv 149) [x0, x14]) w8 fun x15 w9 =>
 m R (o_fieldAddr 69 x3 2) w9 fun x17 w10 =>
 m R (o_load 34 x17) w10 fun x18 w11 =>
 m R (o_call (fv 149) [x0, x18]) w11 fun x19 w12 =>
 m R (o_fieldAddr 69 x3 3) w12 fun x21 w13 =>
 m R (o_load 47 x21) w13 fun x22 w14 =>
 m R (o_builtin .len #[47] 3 [false] [x22]) w14 fun x23 w15 =>
 m R (o_call (fv 94) [x0, x23]) w15 fun x24 w16 =>
 m R (o_fieldAddr 69 x3 3) w16 fun x25 w17 =>
 m R (o_load 47 x25) w17 fun x26 w18 =>
 m R (o_builtin .len #[47] 3 [false] [x26]) w18 fun x27 w19 =>
 ml1 (.int .i64 0) w19 fun x28 u7 w20 next7 =>
 m R (o_bin .lss 3 false x28 x27) w20 fun x29 w21 =>
 mif x29 (
 m R (o_indexAddr 47 x26 x28) w21 fun x30 w22 =>
 m R (o_load 3 x30) w22 fun x31 w23 =>
 m R (o_call (fv 94) [x0, x31]) w23 fun x34 w24 =>
 m R (o_bin .add 3 true x28 (.int .i64 1)) w24 fun x35 w25 =>
 next7 x35 w25) (
 R (.returned (.tuple #[])) w21)) (
 R (.returned (.tuple #[])) w6)
def A_tree_parentBytes : Ann := ⟨[(7, [28], 68451041312)], [], [], [], []⟩
theorem C_tree_parentBytes {x0 x1 : Value} {w : World} {R : Ending → World → Prop} (h : F_tree_parentBytes x0 x1 w R) : Calls Tryz.prog 148 #[x0, x1] w R :=
 calls_cwp (A := A_tree_parentBytes) (args := [x0, x1]) mixed Tryz.func148 (c := Tryz.f148.body.getD .skip) (by kernel_rfl) (by kernel_rfl) (by kernel_rfl) (Eq.mpr (by kernel_rfl) h)
def F_wire_Writer_Hash (x0 x1 : Value) (w : World) (R : Ending → World → Prop) : Prop :=
 m R (o_box 34 x1) w fun x3 w1 =>
 m R (o_bin .neq 146 true x0 (.pointer none)) w1 fun x5 w2 =>
 mif x5 (
 dp Tryz.prog (o_nilCheck x0) fun x8 =>
 dp Tryz.prog (o_fieldAddr 188 x8 0) fun x9 =>
 dq Tryz.prog w2 (o_load 99 x9) fun x10 =>
 dp Tryz.prog (o_slice 34 x3 none none none) fun x11 =>
 df Tryz.prog w2 (o_builtin .append #[99, 99] 99 [false, false] [x10, x11]) false fun x12 w3 =>
 dp Tryz.prog (o_nilCheck x0) fun x13 =>
 dp Tryz.prog (o_fieldAddr 188 x13 0) fun x14 =>
 df Tryz.prog w3 (o_store 99 x14 x12) false fun _ w4 =>
 dend w4 fun w5 =>
 R (.returned (.tuple #[])) w5) (
 R (.returned (.tuple #[])) w2)
def A_wire_Writer_Hash : Ann := ⟨[], [], [(2, [⟨0, .q none, 1, 0, 64⟩, ⟨1, .q none, 1, 0, 128⟩, ⟨2, .q none, 128, 2, 256⟩, ⟨3, .q none, 256, 6, 512⟩, ⟨4, .q (some 0), 512, 14, 1024⟩, ⟨5, .q none, 8, 0, 2048⟩, ⟨6, .f 0 false, 3072, 62, 4096⟩, ⟨7, .q none, 64, 127, 8192⟩, ⟨8, .q none, 8192, 255, 16384⟩, ⟨9, .f 1 false, 20480, 511, 0⟩])], [], []⟩
theorem C_wire_Writer_Hash {x0 x1 : Value} {w : World} {R : Ending → World → Prop} (h : F_wire_Writer_Hash x0 x1 w R) : Calls Tryz.prog 149 #[x0, x1] w R :=
 calls_cwp (A := A_wire_Writer_Hash) (args := [x0, x1]) mixed Tryz.func149 (c := Tryz.f149.body.getD .skip) (by kernel_rfl) (by kernel_rfl) (by kernel_rfl) (Eq.mpr (by kernel_rfl) h)
def F_slices_rotateCmpFunc_api_Key (x0 x1 x2 x3 x4 : Value) (w : World) (R : Ending → World → Prop) : Prop :=
 m R (o_bin .sub 3 false x2 x1) w fun x14 w1 =>
 m R (o_bin .sub 3 false x3 x2) w1 fun x17 w2 =>
 ml2 x14 x17 w2 fun x10 x11 u2 w3 next2 =>
 m R (o_bin .neq 3 false x10 x11) w3 fun x20 w4 =>
 mif x20 (
 m R (o_bin .gtr 3 false x10 x11) w4 fun x23 w5 =>
 mif x23 (
 m R (o_bin .sub 3 false x2 x10) w5 fun x27 w6 =>
 m R (o_call (fv 154) [x0, x27, x2, x11, x4]) w6 fun x31 w7 =>
 m R (o_bin .sub 3 false x10 x11) w7 fun x34 w8 =>
 next2 x34 x11 w8) (
 m R (o_bin .sub 3 false x2 x10) w5 fun x38 w9 =>
 m R (o_bin .add 3 false x2 x11) w9 fun x41 w10 =>
 m R (o_bin .sub 3 false x41 x10) w10 fun x43 w11 =>
 m R (o_call (fv 154) [x0, x38, x43, x10, x4]) w11 fun x46 w12 =>
 m R (o_bin .sub 3 false x11 x10) w12 fun x49 w13 =>
 next2 x10 x49 w13)) (
 m R (o_bin .sub 3 false x2 x10) w4 fun x53 w14 =>
 m R (o_call (fv 154) [x0, x53, x2, x10, x4]) w14 fun x57 w15 =>
 R (.returned (.tuple #[])) w15)
def A_slices_rotateCmpFunc_api_Key : Ann := ⟨[(2, [10, 11], 1125899906583552)], [], [], [], []⟩
theorem C_slices_rotateCmpFunc_api_Key {x0 x1 x2 x3 x4 : Value} {w : World} {R : Ending → World → Prop} (h : F_slices_rotateCmpFunc_api_Key x0 x1 x2 x3 x4 w R) : Calls Tryz.prog 150 #[x0, x1, x2, x3, x4] w R :=
 calls_cwp (A := A_slices_rotateCmpFunc_api_Key) (args := [x0, x1, x2, x3, x4]) mixed Tryz.func150 (c := Tryz.f150.body.getD .skip) (by kernel_rfl) (by kernel_rfl) (by kernel_rfl) (Eq.mpr (by kernel_rfl) h)
def F_math_bits_RotateLeft32 (x0 x1 : Value) (w : World) (R : Ending → World → Prop) : Prop :=
 m R (o_conv 3 59 x1) w fun x7 w1 =>
 m R (o_bin .and 59 true x7 (.int .u64 31)) w1 fun x8 w2 =>
 m R (o_bin .shl 159 false x0 x8) w2 fun x11 w3 =>
 m R (o_bin .sub 59 true (.int .u64 32) x8) w3 fun x14 w4 =>
 m R (o_bin .shr 159 false x0 x14) w4 fun x15 w5 =>
 m R (o_bin .or 159 false x11 x15) w5 fun x16 w6 =>
 R (.returned x16) w6
def A_math_bits_RotateLeft32 : Ann := ⟨[], [], [], [], []⟩
theorem C_math_bits_RotateLeft32 {x0 x1 : Value} {w : World} {R : Ending → World → Prop} (h : F_math_bits_RotateLeft32 x0 x1 w R) : Calls Tryz.prog 151 #[x0, x1] w R :=
 calls_cwp (A := A_math_bits_RotateLeft32) (args := [x0, x1]) mixed Tryz.func151 (c := Tryz.f151.body.getD .skip) (by kernel_rfl) (by kernel_rfl) (by kernel_rfl) (Eq.mpr (by kernel_rfl) h)
def F_wire_Writer_Flag (x0 x1 : Value) (w : World) (R : Ending → World → Prop) : Prop :=
 m R (o_bin .eql 146 true x0 (.pointer none)) w fun x5 w1 =>
 mif x5 (
 R (.returned (.tuple #[])) w1) (
 mif x1 (
 m R (o_nilCheck x0) w1 fun x9 w2 =>
 m R (o_fieldAddr 188 x9 0) w2 fun x10 w3 =>
 m R (o_load 99 x10) w3 fun x11 w4 =>
 m R (o_buildSlice 99 1 [(0, (.int .u8 1))]) w4 fun x12 w5 =>
 m R (o_builtin .append #[99, 99] 99 [false, false] [x11, x12]) w5 fun x13 w6 =>
 m R (o_nilCheck x0) w6 fun x14 w7 =>
 m R (o_fieldAddr 188 x14 0) w7 fun x15 w8 =>
 m R (o_store 99 x15 x13) w8 fun _ w9 =>
 R (.returned (.tuple #[])) w9) (
 m R (o_nilCheck x0) w1 fun x18 w10 =>
 m R (o_fieldAddr 188 x18 0) w10 fun x19 w11 =>
 m R (o_load 99 x19) w11 fun x20 w12 =>
 m R (o_buildSlice 99 1 [(0, (.int .u8 0))]) w12 fun x21 w13 =>
 m R (o_builtin .append #[99, 99] 99 [false, false] [x20, x21]) w13 fun x22 w14 =>
 m R (o_nilCheck x0) w14 fun x23 w15 =>
 m R (o_fieldAddr 188 x23 0) w15 fun x24 w16 =>
 m R (o_store 99 x24 x22) w16 fun _ w17 =>
 R (.returned (.tuple #[])) w17))
def A_wire_Writer_Flag : Ann := ⟨[], [], [], [], []⟩
theorem C_wire_Writer_Flag {x0 x1 : Value} {w : World} {R : Ending → World → Prop} (h : F_wire_Writer_Flag x0 x1 w R) : Calls Tryz.prog 153 #[x0, x1] w R :=
 calls_cwp (A := A_wire_Writer_Flag) (args := [x0, x1]) mixed Tryz.func153 (c := Tryz.f153.body.getD .skip) (by kernel_rfl) (by kernel_rfl) (by kernel_rfl) (Eq.mpr (by kernel_rfl) h)
def F_slices_swapRangeCmpFunc_api_Key (x0 x1 x2 x3 x4 : Value) (w : World) (R : Ending → World → Prop) : Prop :=
 ml1 (.int .i64 0) w fun x10 u1 w1 next1 =>
 m R (o_bin .lss 3 false x10 x3) w1 fun x13 w2 =>
 mif x13 (
 dp Tryz.prog (o_bin .add 3 false x1 x10) fun x19 =>
 dp Tryz.prog (o_bin .add 3 false x2 x10) fun x23 =>
 dp Tryz.prog (o_bin .add 3 false x2 x10) fun x27 =>
 dp Tryz.prog (o_indexAddr 26 x0 x27) fun x28 =>
 dq Tryz.prog w2 (o_load 43 x28) fun x29 =>
 dp Tryz.prog (o_bin .add 3 false x1 x10) fun x33 =>
 dp Tryz.prog (o_indexAddr 26 x0 x33) fun x34 =>
 dq Tryz.prog w2 (o_load 43 x34) fun x35 =>
 dp Tryz.prog (o_indexAddr 26 x0 x19) fun x36 =>
 df Tryz.prog w2 (o_store 43 x36 x29) false fun _ w3 =>
 dp Tryz.prog (o_indexAddr 26 x0 x23) fun x37 =>
 df Tryz.prog w3 (o_store 43 x37 x35) false fun _ w4 =>
 dend w4 fun w5 =>
 m R (o_bin .add 3 true x10 (.int .i64 1)) w5 fun x15 w6 =>
 next1 x15 w6) (
 R (.returned (.tuple #[])) w2)
def A_slices_swapRangeCmpFunc_api_Key : Ann := ⟨[(1, [10], 274877905920)], [], [(3, [⟨0, .q none, 1, 0, 65536⟩, ⟨1, .q none, 2, 0, 131072⟩, ⟨2, .q none, 1024, 0, 262144⟩, ⟨3, .q none, 393216, 6, 524288⟩, ⟨4, .q none, 1, 0, 1048576⟩, ⟨5, .q none, 4, 0, 2097152⟩, ⟨6, .q none, 1024, 0, 4194304⟩, ⟨7, .q none, 6291456, 96, 8388608⟩, ⟨8, .q none, 1, 0, 16777216⟩, ⟨9, .q none, 4, 0, 33554432⟩, ⟨10, .q none, 1024, 0, 67108864⟩, ⟨11, .q none, 100663296, 1536, 134217728⟩, ⟨12, .q none, 150994944, 3840, 268435456⟩, ⟨13, .q (some 0), 268435456, 7936, 536870912⟩, ⟨14, .q none, 1, 0, 1073741824⟩, ⟨15, .q none, 2, 0, 2147483648⟩, ⟨16, .q none, 1024, 0, 4294967296⟩, ⟨17, .q none, 6442450944, 98304, 8589934592⟩, ⟨18, .q none, 9663676416, 245760, 17179869184⟩, ⟨19, .q (some 0), 17179869184, 507904, 34359738368⟩, ⟨20, .q none, 589824, 1048335, 68719476736⟩, ⟨21, .f 0 false, 69256347648, 2096911, 0⟩, ⟨22, .q none, 9437184, 4194303, 137438953472⟩, ⟨23, .f 1 false, 171798691840, 8388607, 0⟩])], [], []⟩
theorem C_slices_swapRangeCmpFunc_api_Key {x0 x1 x2 x3 x4 : Value} {w : World} {R : Ending → World → Prop} (h : F_slices_swapRangeCmpFunc_api_Key x0 x1 x2 x3 x4 w R) : Calls Tryz.prog 154 #[x0, x1, x2, x3, x4] w R :=
 calls_cwp (A := A_slices_swapRangeCmpFunc_api_Key) (args := [x0, x1, x2, x3, x4]) mixed Tryz.func154 (c := Tryz.f154.body.getD .skip) (by kernel_rfl) (by kernel_rfl) (by kernel_rfl) (Eq.mpr (by kernel_rfl) h)
end Go.Proofs.YtpjodlnlmaaihaaGreat
namespace Go.Proofs.YtpjodlnlmaaihaaGreat
open Go.RowKit
theorem bits_or_comm (a b : Int) : bits .or .u32 a b = bits .or .u32 b a := by
  show IntKind.u32.wrap ((BitVec.ofInt 32 a ||| BitVec.ofInt 32 b).toNat : Int) = IntKind.u32.wrap ((BitVec.ofInt 32 b ||| BitVec.ofInt 32 a).toNat : Int)
  rw [BitVec.or_comm]
theorem wrap_u32_bd (a : Int) : 0 ≤ IntKind.u32.wrap a ∧ IntKind.u32.wrap a < 4294967296 := by
  have : IntKind.u32.wrap a = a % 4294967296 := by simp [IntKind.wrap, IntKind.bits, IntKind.signed]
  rw [this]; omega
def Wd (x : Int) : Prop := 0 ≤ x ∧ x < 4294967296
theorem wd_or (a b : Int) : Wd (bits .or .u32 a b) := wrap_u32_bd _
theorem wd_mod (a : Int) : Wd (a % 4294967296) := ⟨by omega, by omega⟩
def rotr (x : Int) (k : Nat) : Int := bits .or .u32 (x / 2 ^ k) (x * 2 ^ (32 - k) % 4294967296)
def word4 (a b c d : Int) : Int := bits .or .u32 (bits .or .u32 (bits .or .u32 (a * 16777216 % 4294967296) (b * 65536 % 4294967296)) (c * 256 % 4294967296)) d
def sig0 (x : Int) : Int := bits .xor .u32 (bits .xor .u32 (rotr x 7) (rotr x 18)) (x / 8)
def sig1 (x : Int) : Int := bits .xor .u32 (bits .xor .u32 (rotr x 17) (rotr x 19)) (x / 1024)
def nextw (a b x y : Int) : Int := (((a + b) % 4294967296 + sig0 x) % 4294967296 + sig1 y) % 4294967296
def wl (bs : List Int) : Nat → List Int
  | 0 => []
  | i + 1 => wl bs i ++ [if i < 16 then word4 (bs.getD (4 * i) 0) (bs.getD (4 * i + 1) 0) (bs.getD (4 * i + 2) 0) (bs.getD (4 * i + 3) 0)
      else nextw ((wl bs i).getD (i - 16) 0) ((wl bs i).getD (i - 7) 0) ((wl bs i).getD (i - 15) 0) ((wl bs i).getD (i - 2) 0)]
structure S8 where
  a : Int
  b : Int
  c : Int
  d : Int
  e : Int
  f : Int
  g : Int
  h : Int
  deriving DecidableEq
def S8.t1 (s : S8) (k w : Int) : Int :=
  ((((s.h + bits .xor .u32 (bits .xor .u32 (rotr s.e 6) (rotr s.e 11)) (rotr s.e 25)) % 4294967296 + bits .xor .u32 (bits .and .u32 s.e s.f) (bits .and .u32 (bits .xor .u32 4294967295 s.e) s.g)) % 4294967296 + k) % 4294967296 + w) % 4294967296
def S8.t2 (s : S8) : Int :=
  (bits .xor .u32 (bits .xor .u32 (rotr s.a 2) (rotr s.a 13)) (rotr s.a 22) + bits .xor .u32 (bits .xor .u32 (bits .and .u32 s.a s.b) (bits .and .u32 s.a s.c)) (bits .and .u32 s.b s.c)) % 4294967296
def S8.rnd (s : S8) (k w : Int) : S8 := ⟨(s.t1 k w + s.t2) % 4294967296, s.a, s.b, s.c, (s.d + s.t1 k w) % 4294967296, s.e, s.f, s.g⟩
def kl : List Int := [1116352408, 1899447441, 3049323471, 3921009573, 961987163, 1508970993, 2453635748, 2870763221, 3624381080, 310598401, 607225278, 1426881987, 1925078388, 2162078206, 2614888103, 3248222580, 3835390401, 4022224774, 264347078, 604807628, 770255983, 1249150122, 1555081692, 1996064986, 2554220882, 2821834349, 2952996808, 3210313671, 3336571891, 3584528711, 113926993, 338241895, 666307205, 773529912, 1294757372, 1396182291, 1695183700, 1986661051, 2177026350, 2456956037, 2730485921, 2820302411, 3259730800, 3345764771, 3516065817, 3600352804, 4094571909, 275423344, 430227734, 506948616, 659060556, 883997877, 958139571, 1322822218, 1537002063, 1747873779, 1955562222, 2024104815, 2227730452, 2361852424, 2428436474, 2756734187, 3204031479, 3329325298]
def rl (ws : List Int) : Nat → S8 → S8
  | 0, s => s
  | i + 1, s => (rl ws i s).rnd (kl.getD i 0) (ws.getD i 0)
def S8.add (s t : S8) : S8 := ⟨(s.a + t.a) % 4294967296, (s.b + t.b) % 4294967296, (s.c + t.c) % 4294967296, (s.d + t.d) % 4294967296, (s.e + t.e) % 4294967296, (s.f + t.f) % 4294967296, (s.g + t.g) % 4294967296, (s.h + t.h) % 4294967296⟩
def compress (s : S8) (bs : List Int) : S8 := s.add (rl (wl bs 64) 64 s)
def h0 : S8 := ⟨1779033703, 3144134277, 1013904242, 2773480762, 1359893119, 2600822924, 528734635, 1541459225⟩
def feed (x : S8 × List Int) (b : Int) : S8 × List Int := if x.2.length = 63 then (compress x.1 (x.2 ++ [b]), []) else (x.1, x.2 ++ [b])
end Go.Proofs.YtpjodlnlmaaihaaGreat
namespace Go.Proofs.YtpjodlnlmaaihaaGreat
@[simp] theorem kd_lit (n : Nat) : (OfNat.ofNat n : Kd) = Kd.ty n := rfl
theorem rot_k (x : Int) (k : Int) (c : Nat) (w : World) (h : Wd x) (hc : 0 < c ∧ c < 32) (hk : bits .and .u64 (k % 18446744073709551616) 31 = ((32 - c : Nat) : Int)) :
    Calls Tryz.prog 151 #[.int .u32 x, .int .i64 k] w fun e w' => e = .returned (.int .u32 (rotr x c)) ∧ w = w' := by
  obtain ⟨h0, h1⟩ := h
  refine C_math_bits_RotateLeft32 ?_
  unfold F_math_bits_RotateLeft32
  refine mop_c trivial ?_
  refine mop_c trivial ?_
  rw [hk]
  (repeat (first | (refine mop_c ?_ ?_; first | exact trivial | omega) | (refine dp_c ?_ ?_; first | exact trivial | omega)))
  refine ⟨?_, rfl⟩
  have e1 : ((32 - c : Nat) : Int).toNat = 32 - c := by omega
  have e2 : ((32 - ((32 - c : Nat) : Int)) % 18446744073709551616).toNat = c := by omega
  rw [e1, e2, bits_or_comm]
  rfl
theorem turned_k (x : Int) (c : Nat) (w : World) (h : Wd x) (hc : 0 < c ∧ c < 32) :
    Calls Tryz.prog 105 #[.int .u32 x, .int .u64 (c : Int)] w fun e w' => e = .returned (.int .u32 (rotr x c)) ∧ w = w' := by
  obtain ⟨h0, h1⟩ := h
  refine C_bevyref02_turned ?_
  unfold F_bevyref02_turned
  (repeat (first | (refine mop_c ?_ ?_; first | exact trivial | omega) | (refine dp_c ?_ ?_; first | exact trivial | omega)))
  refine ⟨?_, rfl⟩
  have e1 : ((c : Nat) : Int).toNat = c := by omega
  have e2 : ((32 - (c : Int)) % 18446744073709551616).toNat = 32 - c := by omega
  rw [e1, e2]
  rfl
end Go.Proofs.YtpjodlnlmaaihaaGreat
namespace Go.Proofs.YtpjodlnlmaaihaaGreat
open Go.RowKit
theorem wl_len (bs : List Int) : ∀ i, (wl bs i).length = i
  | 0 => rfl
  | i + 1 => by rw [wl, List.length_append, wl_len bs i]; rfl
theorem wl_old (bs : List Int) (i j : Nat) (h : j < i) : (wl bs (i + 1)).getD j 0 = (wl bs i).getD j 0 := by
  rw [wl, List.getD_eq_getElem?_getD, List.getElem?_append_left (by rw [wl_len]; exact h)]
  rfl
theorem wl_new (bs : List Int) (i : Nat) : (wl bs (i + 1)).getD i 0 = if i < 16 then word4 (bs.getD (4 * i) 0) (bs.getD (4 * i + 1) 0) (bs.getD (4 * i + 2) 0) (bs.getD (4 * i + 3) 0)
      else nextw ((wl bs i).getD (i - 16) 0) ((wl bs i).getD (i - 7) 0) ((wl bs i).getD (i - 15) 0) ((wl bs i).getD (i - 2) 0) := by
  conv => lhs; rw [wl]
  rw [List.getD_eq_getElem?_getD, List.getElem?_append_right (by rw [wl_len]; exact Nat.le_refl _), wl_len, Nat.sub_self]
  rfl
theorem wl_wd (bs : List Int) : ∀ i j, Wd ((wl bs i).getD j 0)
  | 0, j => by simp [wl, Wd]
  | i + 1, j => by
    rcases Nat.lt_trichotomy j i with h | h | h
    · rw [wl_old bs i j h]; exact wl_wd bs i j
    · subst h
      rw [wl_new]
      split
      · exact wd_or _ _
      · exact wd_mod _
    · rw [List.getD_eq_getElem?_getD, List.getElem?_eq_none (by rw [wl_len]; omega)]
      simp [Wd]
def stCells (hs bl : List Int) (n : Int) : List Value := u32s hs ++ (u8s bl ++ (Value.int .i64 n :: u32s kl))
theorem kl_len : kl.length = 64 := by decide
section
variable {hs bl : List Int} {n : Int}
theorem st_len (hh : hs.length = 8) (hb : bl.length = 64) : (stCells hs bl n).length = 137 := by
  simp [stCells, u32s, u8s, hh, hb, kl_len]
theorem st_h (hh : hs.length = 8) (i : Nat) (hi : i < 8) : (stCells hs bl n)[i]? = some (.int .u32 (hs.getD i 0)) := by
  rw [stCells, List.getElem?_append_left (by simp [u32s]; omega), u32s_at _ _ (by omega)]
theorem st_b (hh : hs.length = 8) (hb : bl.length = 64) (i : Nat) (hi : i < 64) : (stCells hs bl n)[8 + i]? = some (.int .u8 (bl.getD i 0)) := by
  rw [stCells, List.getElem?_append_right (by simp [u32s]; omega), List.getElem?_append_left (by simp [u32s, u8s]; omega)]
  rw [show 8 + i - (u32s hs).length = i by simp [u32s]; omega, u8s_at _ _ (by omega)]
theorem st_n (hh : hs.length = 8) (hb : bl.length = 64) : (stCells hs bl n)[72]? = some (.int .i64 n) := by
  rw [stCells, List.getElem?_append_right (by simp [u32s]; omega), List.getElem?_append_right (by simp [u32s, u8s]; omega)]
  rw [show 72 - (u32s hs).length - (u8s bl).length = 0 by simp [u32s, u8s]; omega]
  rfl
theorem st_k (hh : hs.length = 8) (hb : bl.length = 64) (i : Nat) (hi : i < 64) : (stCells hs bl n)[73 + i]? = some (.int .u32 (kl.getD i 0)) := by
  rw [stCells, List.getElem?_append_right (by simp [u32s]; omega), List.getElem?_append_right (by simp [u32s, u8s]; omega)]
  rw [show 73 + i - (u32s hs).length - (u8s bl).length = i + 1 by simp [u32s, u8s]; omega, List.getElem?_cons_succ, u32s_at _ _ (by rw [kl_len]; exact hi)]
theorem st_set_h (hh : hs.length = 8) (i : Nat) (hi : i < 8) (v : Int) : (stCells hs bl n).set i (.int .u32 v) = stCells (hs.set i v) bl n := by
  rw [stCells, stCells, List.set_append, if_pos (by simp [u32s]; omega)]
  simp [u32s, List.map_set]
theorem st_set_n (hh : hs.length = 8) (hb : bl.length = 64) (v : Int) : (stCells hs bl n).set 72 (.int .i64 v) = stCells hs bl v := by
  rw [stCells, stCells, List.set_append, if_neg (by simp [u32s]; omega), List.set_append, if_neg (by simp [u32s, u8s]; omega)]
  rw [show 72 - (u32s hs).length - (u8s bl).length = 0 by simp [u32s, u8s]; omega]
  rfl
end
theorem getD_bd (l : List Int) (i : Nat) (h : ∀ x ∈ l, 0 ≤ x ∧ x < 256) : 0 ≤ l.getD i 0 ∧ l.getD i 0 < 256 := by
  rw [List.getD_eq_getElem?_getD]
  cases hx : l[i]? with
  | none => simp
  | some x => exact h x (List.mem_of_getElem? hx)
theorem getD_wd (l : List Int) (i : Nat) (h : ∀ x ∈ l, Wd x) : Wd (l.getD i 0) := by
  rw [List.getD_eq_getElem?_getD]
  cases hx : l[i]? with
  | none => simp [Wd]
  | some x => exact h x (List.mem_of_getElem? hx)
def wk (bl : List Int) (k : Nat) : List Int := wl bl k ++ List.replicate (64 - k) 0
theorem wk_len (bl : List Int) (k : Nat) (h : k ≤ 64) : (wk bl k).length = 64 := by simp [wk, wl_len]; omega
theorem wk_at (bl : List Int) (k j : Nat) (h : j < k) : (u32s (wk bl k))[j]? = some (.int .u32 ((wl bl k).getD j 0)) := by
  rw [u32s_at _ _ (by simp [wk, wl_len]; omega), wk]
  congr 2
  rw [List.getD_eq_getElem?_getD, List.getElem?_append_left (by rw [wl_len]; exact h)]
  rfl
theorem wk_set (bl : List Int) (k : Nat) (h : k < 64) (v : Int) (hv : (wl bl (k + 1)).getD k 0 = v) : (u32s (wk bl k)).set k (.int .u32 v) = u32s (wk bl (k + 1)) := by
  have e : wl bl (k + 1) = wl bl k ++ [v] := by
    rw [wl]
    rw [wl_new] at hv
    rw [hv]
  unfold u32s wk
  rw [← List.map_set, List.set_append, if_neg (by rw [wl_len]; omega), wl_len, Nat.sub_self, e, List.append_assoc]
  congr 2
  rw [show 64 - k = (64 - (k + 1)) + 1 by omega, List.replicate_succ]
  rfl
def s8 (hs : List Int) : S8 := ⟨hs.getD 0 0, hs.getD 1 0, hs.getD 2 0, hs.getD 3 0, hs.getD 4 0, hs.getD 5 0, hs.getD 6 0, hs.getD 7 0⟩
def S8.list (s : S8) : List Int := [s.a, s.b, s.c, s.d, s.e, s.f, s.g, s.h]
structure S8.Ok (s : S8) : Prop where
  a : Wd s.a
  b : Wd s.b
  c : Wd s.c
  d : Wd s.d
  e : Wd s.e
  f : Wd s.f
  g : Wd s.g
  h : Wd s.h
theorem rl_ok (ws : List Int) {s : S8} (h : s.Ok) : ∀ i, (rl ws i s).Ok
  | 0 => h
  | i + 1 => by
    have h := rl_ok ws h i
    exact ⟨wd_mod _, h.a, h.b, h.c, wd_mod _, h.e, h.f, h.g⟩
def addK (hs ts : List Int) : Nat → List Int
  | 0 => hs
  | i + 1 => (addK hs ts i).set i ((hs.getD i 0 + ts.getD i 0) % 4294967296)
theorem addK_len (hs ts : List Int) : ∀ i, (addK hs ts i).length = hs.length
  | 0 => rfl
  | i + 1 => by rw [addK, List.length_set, addK_len hs ts i]
theorem addK_at (hs ts : List Int) : ∀ i j, i ≤ j → (addK hs ts i).getD j 0 = hs.getD j 0
  | 0, j, _ => rfl
  | i + 1, j, h => by
    rw [addK, List.getD_eq_getElem?_getD, List.getElem?_set_ne (by omega), ← List.getD_eq_getElem?_getD]
    exact addK_at hs ts i j (by omega)
theorem addK_end (hs : List Int) (s : S8) (hh : hs.length = 8) : addK hs s.list 8 = ((s8 hs).add s).list := by
  match hs, hh with
  | [a, b, c, d, e, f, g, h], _ => rfl
theorem build8 (a b c d e f g h : Int) : Pur Tryz.prog (o_build 162 [(0, .int .u32 a), (1, .int .u32 b), (2, .int .u32 c), (3, .int .u32 d), (4, .int .u32 e), (5, .int .u32 f), (6, .int .u32 g), (7, .int .u32 h)])
  (.agg (u32s [a, b, c, d, e, f, g, h]).toArray) := fun w => by kernel_rfl
set_option maxRecDepth 100000 in
set_option maxHeartbeats 2000000 in
theorem turn_ok (b : Nat) (hs bl : List Int) (n : Int) (w : World) (hb : Blf w b 170 (stCells hs bl n)) (hh : hs.length = 8) (hbl : bl.length = 64) (hby : ∀ x ∈ bl, 0 ≤ x ∧ x < 256) (hhw : ∀ x ∈ hs, Wd x) :
    Calls Tryz.prog 140 #[.pointer (some ⟨b, 0, none⟩)] w fun e w' => e = .returned (.tuple #[]) ∧ St w [⟨b, 170, stCells (compress (s8 hs) bl).list bl n, false⟩] w' := by
  refine C_sha_state_turn ?_
  unfold F_sha_state_turn
  refine mop_new (St.oneF hb) (fun g w1 h1 => ?_)
  refine ⟨fun x w2 => ∃ k : Nat, k ≤ 16 ∧ x = .int .i64 k ∧ St w [⟨g, 160, u32s (wk bl k), true⟩, ⟨b, 170, stCells hs bl n, false⟩] w2, fun x _ => 16 - (intOf x).toNat, ⟨0, by omega, rfl, h1⟩, ?_⟩
  rintro x21 u w2 ⟨k, hk, rfl, h2⟩
  refine mop_c trivial ?_
  refine mif_dec (fun hlt => ?_) (fun hge => ?_)
  · have q0 := getD_bd bl (4 * k) hby
    have q1 := getD_bd bl (4 * k + 1) hby
    have q2 := getD_bd bl (4 * k + 2) hby
    have q3 := getD_bd bl (4 * k + 3) hby
    (repeat (first | (refine mop_c ?_ ?_; first | exact trivial | omega) | (refine dp_c ?_ ?_; first | exact trivial | omega)))
    refine dq_ld ((h2.cell 1 rfl (8 + 4 * k)).trans (st_b hh hbl (4 * k) (by omega))) (by omega) ?_
    (repeat (first | (refine mop_c ?_ ?_; first | exact trivial | omega) | (refine dp_c ?_ ?_; first | exact trivial | omega)))
    refine dq_ld ((h2.cell 1 rfl (8 + (4 * k + 1))).trans (st_b hh hbl (4 * k + 1) (by omega))) (by omega) ?_
    (repeat (first | (refine mop_c ?_ ?_; first | exact trivial | omega) | (refine dp_c ?_ ?_; first | exact trivial | omega)))
    refine dq_ld ((h2.cell 1 rfl (8 + (4 * k + 2))).trans (st_b hh hbl (4 * k + 2) (by omega))) (by omega) ?_
    (repeat (first | (refine mop_c ?_ ?_; first | exact trivial | omega) | (refine dp_c ?_ ?_; first | exact trivial | omega)))
    refine dq_ld ((h2.cell 1 rfl (8 + (4 * k + 3))).trans (st_b hh hbl (4 * k + 3) (by omega))) (by omega) ?_
    (repeat (first | (refine mop_c ?_ ?_; first | exact trivial | omega) | (refine dp_c ?_ ?_; first | exact trivial | omega)))
    refine df_st (j := k) h2 (by omega) (by simp [u32s, wk_len bl k (by omega)]; omega) rfl (fun w3 h3 => ?_)
    refine dend_intro fun w4 hd => ?_
    have h4 := h3.drawn hd
    (repeat (first | (refine mop_c ?_ ?_; first | exact trivial | omega) | (refine dp_c ?_ ?_; first | exact trivial | omega)))
    refine ⟨⟨k + 1, by omega, rfl, ?_⟩, by simp [intOf]; omega⟩
    rw [wk_set bl k (by omega)] at h4
    · exact h4
    · rw [wl_new, if_pos (by omega)]
      rfl
  · obtain rfl : k = 16 := by omega
    refine ⟨fun x w2 => ∃ k : Nat, 16 ≤ k ∧ k ≤ 64 ∧ x = .int .i64 k ∧ St w [⟨g, 160, u32s (wk bl k), true⟩, ⟨b, 170, stCells hs bl n, false⟩] w2, fun x _ => 64 - (intOf x).toNat, ⟨16, by omega, by omega, rfl, h2⟩, ?_⟩
    clear h1 h2
    rintro x5 u2 w3 ⟨k, hk0, hk, rfl, h3⟩
    refine mop_c trivial ?_
    refine mif_dec (fun hlt => ?_) (fun hge => ?_)
    · have d15 := wl_wd bl k (k - 15)
      have d2 := wl_wd bl k (k - 2)
      (repeat (first | (refine mop_c ?_ ?_; first | exact trivial | omega) | (refine dp_c ?_ ?_; first | exact trivial | omega)))
      refine dq_ld ((h3.cell 0 rfl (k - 15)).trans (wk_at bl k (k - 15) (by omega))) (by omega) ?_
      (repeat (first | (refine mop_c ?_ ?_; first | exact trivial | omega) | (refine dp_c ?_ ?_; first | exact trivial | omega)))
      refine dq_ld ((h3.cell 0 rfl (k - 2)).trans (wk_at bl k (k - 2) (by omega))) (by omega) ?_
      refine dend_intro fun w4 hd => ?_
      have h4 := h3.drawn hd
      (repeat (first | (refine mop_c ?_ ?_; first | exact trivial | omega) | (refine dp_c ?_ ?_; first | exact trivial | omega)))
      refine dq_ld ((h4.cell 0 rfl (k - 16)).trans (wk_at bl k (k - 16) (by omega))) (by omega) ?_
      (repeat (first | (refine mop_c ?_ ?_; first | exact trivial | omega) | (refine dp_c ?_ ?_; first | exact trivial | omega)))
      refine dq_ld ((h4.cell 0 rfl (k - 7)).trans (wk_at bl k (k - 7) (by omega))) (by omega) ?_
      (repeat (first | (refine mop_c ?_ ?_; first | exact trivial | omega) | (refine dp_c ?_ ?_; first | exact trivial | omega)))
      refine df_eq (fun w => rot_k _ (-7) 7 w d15 (by decide) (by decide)) fun w5 hd5 => ?_
      refine df_eq (fun w => rot_k _ (-18) 18 w d15 (by decide) (by decide)) fun w6 hd6 => ?_
      (repeat (first | (refine mop_c ?_ ?_; first | exact trivial | omega) | (refine dp_c ?_ ?_; first | exact trivial | omega)))
      refine df_eq (fun w => rot_k _ (-17) 17 w d2 (by decide) (by decide)) fun w7 hd7 => ?_
      refine df_eq (fun w => rot_k _ (-19) 19 w d2 (by decide) (by decide)) fun w8 hd8 => ?_
      (repeat (first | (refine mop_c ?_ ?_; first | exact trivial | omega) | (refine dp_c ?_ ?_; first | exact trivial | omega)))
      have h8 := h4.drawn (((hd5.trans hd6).trans hd7).trans hd8)
      refine df_st (j := k) h8 (by omega) (by simp [u32s, wk_len bl k hk]; omega) rfl (fun w9 h9 => ?_)
      refine dend_intro fun w10 hd10 => ?_
      have h10 := h9.drawn hd10
      (repeat (first | (refine mop_c ?_ ?_; first | exact trivial | omega) | (refine dp_c ?_ ?_; first | exact trivial | omega)))
      refine ⟨⟨k + 1, by omega, by omega, rfl, ?_⟩, by simp [intOf]; omega⟩
      rw [wk_set bl k (by omega)] at h10
      · exact h10
      · rw [wl_new, if_neg (by omega)]
        rfl
    · obtain rfl : k = 64 := by omega
      have hw : wk bl 64 = wl bl 64 := by simp [wk]
      have hWl : (wl bl 64).length = 64 := wl_len bl 64
      have hcomp : compress (s8 hs) bl = (s8 hs).add (rl (wl bl 64) 64 (s8 hs)) := rfl
      rw [hw] at h3
      rw [hcomp]
      clear hw hcomp
      generalize wl bl 64 = W at h3 hWl ⊢
      (repeat (first | (refine mop_c ?_ ?_; first | exact trivial | omega) | (refine dp_c ?_ ?_; first | exact trivial | omega)))
      refine dq_ld ((h3.cell 1 rfl 0).trans (st_h hh 0 (by omega))) rfl ?_
      (repeat (first | (refine mop_c ?_ ?_; first | exact trivial | omega) | (refine dp_c ?_ ?_; first | exact trivial | omega)))
      refine dq_ld ((h3.cell 1 rfl 1).trans (st_h hh 1 (by omega))) rfl ?_
      (repeat (first | (refine mop_c ?_ ?_; first | exact trivial | omega) | (refine dp_c ?_ ?_; first | exact trivial | omega)))
      refine dq_ld ((h3.cell 1 rfl 2).trans (st_h hh 2 (by omega))) rfl ?_
      (repeat (first | (refine mop_c ?_ ?_; first | exact trivial | omega) | (refine dp_c ?_ ?_; first | exact trivial | omega)))
      refine dq_ld ((h3.cell 1 rfl 3).trans (st_h hh 3 (by omega))) rfl ?_
      (repeat (first | (refine mop_c ?_ ?_; first | exact trivial | omega) | (refine dp_c ?_ ?_; first | exact trivial | omega)))
      refine dq_ld ((h3.cell 1 rfl 4).trans (st_h hh 4 (by omega))) rfl ?_
      (repeat (first | (refine mop_c ?_ ?_; first | exact trivial | omega) | (refine dp_c ?_ ?_; first | exact trivial | omega)))
      refine dq_ld ((h3.cell 1 rfl 5).trans (st_h hh 5 (by omega))) rfl ?_
      (repeat (first | (refine mop_c ?_ ?_; first | exact trivial | omega) | (refine dp_c ?_ ?_; first | exact trivial | omega)))
      refine dq_ld ((h3.cell 1 rfl 6).trans (st_h hh 6 (by omega))) rfl ?_
      (repeat (first | (refine mop_c ?_ ?_; first | exact trivial | omega) | (refine dp_c ?_ ?_; first | exact trivial | omega)))
      refine dq_ld ((h3.cell 1 rfl 7).trans (st_h hh 7 (by omega))) rfl ?_
      refine dend_intro fun w4 hd => ?_
      have h4 := h3.drawn hd
      clear h3
      have hok : (s8 hs).Ok := ⟨getD_wd _ _ hhw, getD_wd _ _ hhw, getD_wd _ _ hhw, getD_wd _ _ hhw, getD_wd _ _ hhw, getD_wd _ _ hhw, getD_wd _ _ hhw, getD_wd _ _ hhw⟩
      refine ⟨fun xa xb xc xd xe xf xg xh x w2 => ∃ i : Nat, i ≤ 64 ∧ x = .int .i64 i ∧ xa = .int .u32 (rl W i (s8 hs)).a ∧ xb = .int .u32 (rl W i (s8 hs)).b ∧ xc = .int .u32 (rl W i (s8 hs)).c ∧ xd = .int .u32 (rl W i (s8 hs)).d ∧
          xe = .int .u32 (rl W i (s8 hs)).e ∧ xf = .int .u32 (rl W i (s8 hs)).f ∧ xg = .int .u32 (rl W i (s8 hs)).g ∧ xh = .int .u32 (rl W i (s8 hs)).h ∧
          St w [⟨g, 160, u32s W, true⟩, ⟨b, 170, stCells hs bl n, false⟩] w2, fun _ _ _ _ _ _ _ _ x _ => 64 - (intOf x).toNat, ⟨0, by omega, rfl, rfl, rfl, rfl, rfl, rfl, rfl, rfl, rfl, h4⟩, ?_⟩
      clear h4 hd
      rintro xa xb xc xd xe xf xg xh x u3 w5 ⟨i, hi, rfl, rfl, rfl, rfl, rfl, rfl, rfl, rfl, rfl, h5⟩
      have hr := rl_ok W hok i
      have hrs : rl W (i + 1) (s8 hs) = (rl W i (s8 hs)).rnd (kl.getD i 0) (W.getD i 0) := rfl
      obtain ⟨s', hs'⟩ : ∃ s', s' = rl W (i + 1) (s8 hs) := ⟨_, rfl⟩
      obtain ⟨s, hs64⟩ : ∃ s, rl W i (s8 hs) = s := ⟨_, rfl⟩
      rw [← hs'] at hrs
      rw [hs64] at hr hrs
      rw [hs64]
      refine mop_c trivial ?_
      refine mif_dec (fun hlt => ?_) (fun hge => ?_)
      · refine df_eq (fun w => rot_k _ (-6) 6 w hr.e (by decide) (by decide)) fun w6 hd6 => ?_
        refine df_eq (fun w => rot_k _ (-11) 11 w hr.e (by decide) (by decide)) fun w7 hd7 => ?_
        (repeat (first | (refine mop_c ?_ ?_; first | exact trivial | omega) | (refine dp_c ?_ ?_; first | exact trivial | omega)))
        refine df_eq (fun w => rot_k _ (-25) 25 w hr.e (by decide) (by decide)) fun w8 hd8 => ?_
        (repeat (first | (refine mop_c ?_ ?_; first | exact trivial | omega) | (refine dp_c ?_ ?_; first | exact trivial | omega)))
        refine dq_ld ((h5.cell 1 rfl (73 + i)).trans (st_k hh hbl i (by omega))) (by omega) ?_
        (repeat (first | (refine mop_c ?_ ?_; first | exact trivial | omega) | (refine dp_c ?_ ?_; first | exact trivial | omega)))
        refine dq_ld ((h5.cell 0 rfl i).trans (u32s_at W i (by omega))) (by omega) ?_
        (repeat (first | (refine mop_c ?_ ?_; first | exact trivial | omega) | (refine dp_c ?_ ?_; first | exact trivial | omega)))
        refine dend_intro fun w9 hd9 => ?_
        have h9 := h5.drawn (((hd6.trans hd7).trans hd8).trans hd9)
        refine mop_eq (rot_k _ (-2) 2 _ hr.a (by decide) (by decide)) ?_
        refine mop_eq (rot_k _ (-13) 13 _ hr.a (by decide) (by decide)) ?_
        (repeat (first | (refine mop_c ?_ ?_; first | exact trivial | omega) | (refine dp_c ?_ ?_; first | exact trivial | omega)))
        refine mop_eq (rot_k _ (-22) 22 _ hr.a (by decide) (by decide)) ?_
        (repeat (first | (refine mop_c ?_ ?_; first | exact trivial | omega) | (refine dp_c ?_ ?_; first | exact trivial | omega)))
        refine ⟨⟨i + 1, by omega, rfl, ?_, ?_, ?_, ?_, ?_, ?_, ?_, ?_, h9⟩, by simp [intOf]; omega⟩
        all_goals (rw [← hs', hrs]; rfl)
      · obtain rfl : i = 64 := by omega
        refine mop_pur (build8 _ _ _ _ _ _ _ _) ?_
        have hrs : rl W 64 (s8 hs) = s := hs64
        refine ⟨fun x w2 => ∃ i : Nat, i ≤ 8 ∧ x = .int .i64 i ∧ St w [⟨b, 170, stCells (addK hs s.list i) bl n, false⟩, ⟨g, 160, u32s W, true⟩] w2, fun x _ => 8 - (intOf x).toNat, ⟨0, by omega, rfl, h5.swap⟩, ?_⟩
        clear h5
        rintro x u4 w6 ⟨i, hi, rfl, h6⟩
        refine mop_c trivial ?_
        refine mif_dec (fun hlt => ?_) (fun hge => ?_)
        · refine mop_pur (p_index_array _ 159 8 _ _ _ (.int .u32 (s.list.getD i 0)) (by kernel_rfl) (by kernel_rfl) (by omega) (by omega) ?_) ?_
          · have := u32s_at s.list i (by simp [S8.list]; omega)
            have e : ((i : Nat) : Int).toNat = i := by omega
            rw [e, List.getElem?_toArray]
            exact this
          have hal := addK_len hs s.list i
          (repeat (first | (refine mop_c ?_ ?_; first | exact trivial | omega) | (refine dp_c ?_ ?_; first | exact trivial | omega)))
          refine dq_ld ((h6.cell 0 rfl i).trans (st_h (by omega) i (by omega))) (by omega) ?_
          (repeat (first | (refine mop_c ?_ ?_; first | exact trivial | omega) | (refine dp_c ?_ ?_; first | exact trivial | omega)))
          refine df_st (j := i) h6 (by omega) (by rw [st_len (by omega) hbl]; omega) rfl (fun w7 h7 => ?_)
          refine dend_intro fun w8 hd8 => ?_
          have h8 := h7.drawn hd8
          (repeat (first | (refine mop_c ?_ ?_; first | exact trivial | omega) | (refine dp_c ?_ ?_; first | exact trivial | omega)))
          refine ⟨⟨i + 1, by omega, rfl, ?_⟩, by simp [intOf]; omega⟩
          rw [st_set_h (by omega) i (by omega), addK_at hs s.list i i (Nat.le_refl i)] at h8
          exact h8
        · obtain rfl : i = 8 := by omega
          refine ⟨rfl, ?_⟩
          rw [hrs, ← addK_end hs s hh]
          exact h6.swap.drop
end Go.Proofs.YtpjodlnlmaaihaaGreat
namespace Go.Proofs.YtpjodlnlmaaihaaGreat
open Go.RowKit
def feedAll (x : S8 × List Int) (bs : List Int) : S8 × List Int := bs.foldl feed x
theorem feedAll_append (x : S8 × List Int) (a b : List Int) : feedAll x (a ++ b) = feedAll (feedAll x a) b := by simp [feedAll]
theorem feedAll_short (s : S8) : ∀ (bs p : List Int), p.length + bs.length < 64 → feedAll (s, p) bs = (s, p ++ bs)
  | [], p, _ => by simp [feedAll]
  | b :: bs, p, h => by
    have h1 : feed (s, p) b = (s, p ++ [b]) := by
      unfold feed
      rw [if_neg (by simp at h ⊢; omega)]
    show feedAll (feed (s, p) b) bs = _
    rw [h1, feedAll_short s bs (p ++ [b]) (by simp at h ⊢; omega)]
    simp
theorem feedAll_full (s : S8) (bs p : List Int) (hb : 0 < bs.length) (h : p.length + bs.length = 64) : feedAll (s, p) bs = (compress s (p ++ bs), []) := by
  obtain ⟨cs, c, rfl⟩ : ∃ cs c, bs = cs ++ [c] := ⟨bs.dropLast, bs.getLast (by intro e; simp [e] at hb), (List.dropLast_concat_getLast _).symm⟩
  rw [feedAll_append, feedAll_short s cs p (by simp at h; omega)]
  show feed (s, p ++ cs) c = _
  unfold feed
  rw [if_pos (by simp at h ⊢; omega)]
  simp
theorem compress_ok {s : S8} (bs : List Int) : (compress s bs).Ok := ⟨wd_mod _, wd_mod _, wd_mod _, wd_mod _, wd_mod _, wd_mod _, wd_mod _, wd_mod _⟩
structure Dig (x : S8 × List Int) (n : Nat) (bl : List Int) : Prop where
  ok : x.1.Ok
  len : bl.length = 64
  by_ : ∀ c ∈ bl, 0 ≤ c ∧ c < 256
  pend : x.2.length = n % 64
  has : bl.take x.2.length = x.2
theorem s8_list (s : S8) : s8 s.list = s := rfl
theorem list_wd {s : S8} (h : s.Ok) : ∀ x ∈ s.list, Wd x := by
  intro x hx
  simp only [S8.list, List.mem_cons, List.not_mem_nil, or_false] at hx
  rcases hx with rfl | rfl | rfl | rfl | rfl | rfl | rfl | rfl
  · exact h.a
  · exact h.b
  · exact h.c
  · exact h.d
  · exact h.e
  · exact h.f
  · exact h.g
  · exact h.h
def blCopy (bl bs : List Int) (i : Nat) : List Int := bl.take i ++ bs ++ bl.drop (i + bs.length)
theorem st_lay (hs bl bs : List Int) (n : Int) (i : Nat) (hh : hs.length = 8) (hb : bl.length = 64) (hi : i + bs.length ≤ 64) : lay (stCells hs bl n) (u8s bs) (8 + i) = stCells hs (blCopy bl bs i) n := by
  have e8 : (u32s hs).length = 8 := by simp [u32s, hh]
  have ebs : (u8s bs).length = bs.length := by simp [u8s]
  unfold lay stCells
  rw [List.take_append, List.take_of_length_le (by omega), List.drop_append, List.drop_eq_nil_of_le (by omega), e8, ebs]
  rw [show 8 + i - 8 = i by omega, show 8 + i + bs.length - 8 = i + bs.length by omega]
  rw [List.take_append_of_le_length (by simp [u8s]; omega), List.drop_append_of_le_length (by simp [u8s]; omega)]
  simp [u8s, blCopy]
theorem put_step {x : S8 × List Int} {n : Nat} {bl bs : List Int} (h : Dig x n bl) (hbs : ∀ c ∈ bs, 0 ≤ c ∧ c < 256) (hl : n % 64 + bs.length ≤ 64) (h0 : 0 < bs.length) :
    let bl' := blCopy bl bs (n % 64)
    (∀ c ∈ bl', 0 ≤ c ∧ c < 256) ∧ bl'.length = 64 ∧ (n % 64 + bs.length < 64 → Dig (feedAll x bs) (n + bs.length) bl' ∧ (feedAll x bs).1 = x.1) ∧ (n % 64 + bs.length = 64 → (feedAll x bs).1 = compress x.1 bl' ∧ Dig (feedAll x bs) (n + bs.length) bl') := by
  obtain ⟨s, p⟩ := x
  obtain ⟨hok, hlen, hby, hp, hhas⟩ := h
  simp only [] at hp hhas hok
  have hpn : p.length ≤ 64 := by omega
  have hb1 : ∀ c ∈ blCopy bl bs (n % 64), 0 ≤ c ∧ c < 256 := fun c hc => by
    simp only [blCopy, List.mem_append] at hc
    rcases hc with (hc | hc) | hc
    · exact hby c (List.mem_of_mem_take hc)
    · exact hbs c hc
    · exact hby c (List.mem_of_mem_drop hc)
  have hb2 : (blCopy bl bs (n % 64)).length = 64 := by simp [blCopy, hlen]; omega
  have hpre : (blCopy bl bs (n % 64)).take (p.length + bs.length) = p ++ bs := by
    unfold blCopy
    rw [hp] at hhas
    rw [hhas, hp, List.take_append_of_le_length (by simp [hp]), List.take_of_length_le (by simp [hp])]
  refine ⟨hb1, hb2, fun hlt => ?_, fun heq => ?_⟩
  · have e := feedAll_short s bs p (by omega)
    rw [e]
    exact ⟨⟨hok, hb2, hb1, by simp [hp]; omega, by simpa using hpre⟩, rfl⟩
  · have e := feedAll_full s bs p h0 (by omega)
    rw [e]
    have hall : blCopy bl bs (n % 64) = p ++ bs := by
      rw [← hpre, List.take_of_length_le (by omega)]
    refine ⟨by rw [hall], compress_ok _, hb2, hb1, ?_, rfl⟩
    simp
    omega
def strLen : Value → Nat
  | .string s => s.size
  | _ => 0
theorem ints_extract (s : ByteArray) (i j : Nat) : ints (s.extract i j) = ((ints s).take j).drop i := by
  simp [ints, List.map_drop, List.map_take]
  rw [List.drop_take]
theorem extract_extract (s : ByteArray) (k m : Nat) (h : k + m ≤ s.size) : (s.extract k s.size).extract m (s.size - k) = s.extract (k + m) s.size := by
  rw [← str_ints ((s.extract k s.size).extract m (s.size - k)), ← str_ints (s.extract (k + m) s.size), ints_extract, ints_extract, ints_extract]
  congr 1
  have hl := ints_length s
  have e : (ints s).take s.size = ints s := List.take_of_length_le (by omega)
  rw [e, List.take_of_length_le (by rw [List.length_drop]; omega), List.drop_drop]
set_option maxRecDepth 100000 in
theorem put_ok (b : Nat) (x : S8 × List Int) (n : Nat) (bl : List Int) (t : ByteArray) (w : World) (hb : Blf w b 170 (stCells x.1.list bl n)) (hd : Dig x n bl) (hn : n + t.size < 9223372036854775808) :
    Calls Tryz.prog 112 #[.pointer (some ⟨b, 0, none⟩), .string t] w fun e w' => e = .returned (.tuple #[]) ∧ ∃ bl', Dig (feedAll x (ints t)) (n + t.size) bl' ∧ St w [⟨b, 170, stCells (feedAll x (ints t)).1.list bl' ((n + t.size : Nat) : Int), false⟩] w' := by
  refine C_sha_state_put ?_
  unfold F_sha_state_put
  refine ⟨fun v w2 => ∃ (k : Nat) (bl' : List Int), k ≤ t.size ∧ v = .string (t.extract k t.size) ∧ Dig (feedAll x ((ints t).take k)) (n + k) bl' ∧ St w [⟨b, 170, stCells (feedAll x ((ints t).take k)).1.list bl' ((n + k : Nat) : Int), false⟩] w2, fun v _ => strLen v, ⟨0, bl, by omega, by simp, by simpa [feedAll] using hd, by simp [feedAll]; exact St.oneF hb⟩, ?_⟩
  rintro v u w1 ⟨k, bl', hk, rfl, hd1, h1⟩
  have hsz : (t.extract k t.size).size = t.size - k := by simp
  refine mop_c trivial ?_
  rw [hsz]
  refine mop_c trivial ?_
  refine mif_dec (fun hlt => ?_) (fun hge => ?_)
  · have hll : 0 < t.size - k := by omega
    (repeat (first | (refine mop_c ?_ ?_; first | exact trivial | omega) | (refine dp_c ?_ ?_; first | exact trivial | omega)))
    have hlist : (feedAll x ((ints t).take k)).1.list.length = 8 := rfl
    refine dq_ld ((h1.cell 0 rfl 72).trans (st_n hlist hd1.len)) rfl ?_
    (repeat (first | (refine mop_c ?_ ?_; first | exact trivial | omega) | (refine dp_c ?_ ?_; first | exact trivial | omega)))
    refine df_mop fun w2 hd2 => ?_
    have hi : ((((n + k : Nat) : Int)) % 64).toNat = (n + k) % 64 := by omega
    rw [hi]
    obtain ⟨w3, hr, h3⟩ := run_copy_string (P := Tryz.prog) (o := 0 + 8 + (n + k) % 64) (m := 64 - (n + k) % 64) (c := 64 - (n + k) % 64) (s := t.extract k t.size) (dT := 99) (sT := 9) (ty := 3) (e := 5) (ks := [false, false]) (h1.drawn hd2) (by kernel_rfl) (by kernel_rfl) (by rw [st_len hlist hd1.len]; omega)
    refine mop_run hr ⟨(fun e => by cases e), ?_⟩
    have hm : min (t.extract k t.size).size (64 - (n + k) % 64) = min (t.size - k) (64 - (n + k) % 64) := by rw [hsz]
    rw [hm] at h3 ⊢
    obtain ⟨m, hmm⟩ : ∃ m, m = min (t.size - k) (64 - (n + k) % 64) := ⟨_, rfl⟩
    rw [← hmm] at h3 ⊢
    have hbl : ((ints (t.extract k t.size)).take m).length = m := by rw [List.length_take, ints_length, hsz]; omega
    have hbr : ∀ c ∈ (ints (t.extract k t.size)).take m, 0 ≤ c ∧ c < 256 := fun c hc => ints_range _ c (List.mem_of_mem_take hc)
    rw [show 0 + 8 + (n + k) % 64 = 8 + (n + k) % 64 by omega, st_lay _ _ _ _ _ hlist hd1.len (by rw [hbl]; omega)] at h3
    have hstep := put_step hd1 hbr (by rw [hbl]; omega) (by rw [hbl]; omega)
    have hfeed : feedAll (feedAll x ((ints t).take k)) ((ints (t.extract k t.size)).take m) = feedAll x ((ints t).take (k + m)) := by
      have e : (ints t).take t.size = ints t := List.take_of_length_le (by rw [ints_length]; omega)
      rw [← feedAll_append, ints_extract, e, ← List.take_add]
    rw [hfeed, hbl] at hstep
    have hext := extract_extract t k m (by omega)
    generalize blCopy bl' ((ints (t.extract k t.size)).take m) ((n + k) % 64) = bl2 at h3 hstep
    obtain ⟨hby2, hlen2, hs1, hs2⟩ := hstep
    refine dend_intro fun w4 hd4 => ?_
    have h4 := h3.drawn hd4
    clear h1 h3 hr hfeed
    refine mop_c (by rw [hsz]; omega) ?_
    rw [hsz, Int.toNat_natCast, hext]
    (repeat (first | (refine mop_c ?_ ?_; first | exact trivial | omega) | (refine dp_c ?_ ?_; first | exact trivial | omega)))
    refine mop_ld ((h4.cell 0 rfl 72).trans (st_n hlist hlen2)) rfl ?_
    (repeat (first | (refine mop_c ?_ ?_; first | exact trivial | omega) | (refine dp_c ?_ ?_; first | exact trivial | omega)))
    refine mop_st (j := 72) h4 rfl (by rw [st_len hlist hlen2]; omega) rfl (fun w5 h5 => ?_)
    rw [st_set_n hlist hlen2] at h5
    (repeat (first | (refine mop_c ?_ ?_; first | exact trivial | omega) | (refine dp_c ?_ ?_; first | exact trivial | omega)))
    refine mop_ld ((h5.cell 0 rfl 72).trans (st_n hlist hlen2)) rfl ?_
    (repeat (first | (refine mop_c ?_ ?_; first | exact trivial | omega) | (refine dp_c ?_ ?_; first | exact trivial | omega)))
    have hsz2 : (t.extract (k + m) t.size).size = t.size - (k + m) := by simp
    have hnk : ((n + k : Nat) : Int) + (m : Int) = ((n + (k + m) : Nat) : Int) := by omega
    rw [hnk] at h5 ⊢
    refine mif_dec (fun hz => ?_) (fun hnz => ?_)
    · obtain ⟨hs3, hs4⟩ := hs2 (by omega)
      refine mop_to (turn_ok b _ bl2 _ w5 h5.head hlist hlen2 hby2 (list_wd hd1.ok)) ?_
      rintro e w6 ⟨rfl, h6⟩
      have h7 := h5.call1 h6
      rw [s8_list, ← hs3] at h7
      exact ⟨⟨k + m, bl2, by omega, rfl, by rw [← Nat.add_assoc]; exact hs4, h7⟩, by simp only [strLen, hsz, hsz2]; omega⟩
    · obtain ⟨hs3, hs4⟩ := hs1 (by omega)
      rw [← hs4] at h5
      exact ⟨⟨k + m, bl2, by omega, rfl, by rw [← Nat.add_assoc]; exact hs3, h5⟩, by simp only [strLen, hsz, hsz2]; omega⟩
  · obtain rfl : k = t.size := by omega
    have e : (ints t).take t.size = ints t := List.take_of_length_le (by rw [ints_length]; omega)
    rw [e] at hd1 h1
    exact ⟨rfl, bl', hd1, h1⟩
end Go.Proofs.YtpjodlnlmaaihaaGreat
namespace Go.Proofs.YtpjodlnlmaaihaaGreat
open Go.RowKit
def lenB (n : Nat) (i : Nat) : Int := ((n : Int) % 18446744073709551616 * 8 % 18446744073709551616) / 2 ^ (56 - 8 * (i : Int)).toNat % 256
def padding (n : Nat) : List Int := (128 :: List.replicate (63 - (n + 8) % 64) 0) ++ (List.range 8).map (lenB n)
def outAt (l : List Int) (i : Nat) : Int := l.getD (i / 4) 0 / 2 ^ (24 - 8 * (i % 4)) % 256
def outB (s : S8) : List Int := (List.range 32).map (outAt s.list)
def shaSum (bs : List Int) : List Int := outB (feedAll (h0, []) (bs ++ padding bs.length)).1
theorem shaSum_length (bs : List Int) : (shaSum bs).length = 32 := by simp [shaSum, outB]
theorem outB_range (s : S8) : ∀ x ∈ outB s, 0 ≤ x ∧ x < 256 := by
  intro x hx
  obtain ⟨i, _, rfl⟩ := List.mem_map.1 hx
  unfold outAt
  omega
theorem shaSum_range (bs : List Int) : ∀ x ∈ shaSum bs, 0 ≤ x ∧ x < 256 := outB_range _
def fill (f : Nat → Int) (n i : Nat) : List Int := (List.range i).map f ++ List.replicate (n - i) 0
theorem fill_length (f : Nat → Int) (n i : Nat) (h : i ≤ n) : (fill f n i).length = n := by simp [fill]; omega
theorem fill_set (f : Nat → Int) (n i : Nat) (h : i < n) : (fill f n i).set i (f i) = fill f n (i + 1) := by
  unfold fill
  rw [List.set_append, if_neg (by simp), List.length_map, List.length_range, Nat.sub_self, List.range_succ, List.map_append, List.append_assoc]
  congr 1
  rw [show n - i = (n - (i + 1)) + 1 by omega, List.replicate_succ]
  rfl
theorem set_u8s (l : List Int) (i : Nat) (v : Int) : (u8s l).set i (.int .u8 v) = u8s (l.set i v) := by simp [u8s, List.map_set]
theorem u8s_length (l : List Int) : (u8s l).length = l.length := by simp [u8s]
def hv (l : List Int) : Value := .agg (u8s l).toArray
theorem cells_of_row {w : World} {b : Nat} {t : TypeId} {cs : List Value} (h : Blf w b t cs) : ∀ k v, cs[k]? = some v → w.cell? ⟨b, 0 + k, none⟩ = some v := fun k v hk => by
  rw [Nat.zero_add, h.cell]; exact hk
theorem lay_all (cs vs : List Value) (h : vs.length = cs.length) : lay cs vs 0 = vs := by
  unfold lay
  rw [List.take_zero, List.nil_append, List.drop_eq_nil_of_le (by omega), List.append_nil]
set_option maxRecDepth 100000 in
theorem rounds_ok (w : World) : Calls Tryz.prog 111 #[] w fun e w' => e = .returned (.agg (u32s kl).toArray) ∧ St w [] w' := by
  refine C_sha_rounds ?_
  unfold F_sha_rounds
  refine mop_new (St.nil w) (fun g w1 h1 => ?_)
  refine mop_pur (v := .agg (u32s kl).toArray) (fun w => by kernel_rfl) ?_
  refine mop_storeN (q := true) (k := 64) (by kernel_rfl) h1 rfl (by intro u hu; obtain ⟨x, _, rfl⟩ := List.mem_map.1 (show u ∈ kl.map (Value.int .u32) from hu); rfl) (by simp) (fun w2 h2 => ?_)
  have e : lay (List.replicate 64 (Value.int .u32 0)) (Value.agg (u32s kl).toArray).cells.toList 0 = u32s kl := lay_all _ _ rfl
  rw [e] at h2
  refine rcell_ldN (cells_of_row h2.head) rfl ?_
  exact ⟨rfl, h2.drop⟩
def cat (ss : List ByteArray) : List Int := (ss.map ints).flatten
theorem cat_take (ss : List ByteArray) (k : Nat) (h : k < ss.length) : cat (ss.take (k + 1)) = cat (ss.take k) ++ ints ss[k] := by
  unfold cat
  rw [List.take_succ_eq_append_getElem h, List.map_append, List.flatten_append]
  simp only [List.map_cons, List.map_nil, List.flatten_cons, List.flatten_nil, List.append_nil]
theorem cat_append (a b : List ByteArray) : cat (a ++ b) = cat a ++ cat b := by simp only [cat, List.map_append, List.flatten_append]
theorem cat_le (ss : List ByteArray) (k : Nat) : (cat (ss.take k)).length ≤ (cat ss).length := by
  conv => rhs; rw [← List.take_append_drop k ss, cat_append, List.length_append]
  omega
theorem lenB_range (n i : Nat) : 0 ≤ lenB n i ∧ lenB n i < 256 := by unfold lenB; omega
theorem padding_range (n : Nat) : ∀ x ∈ padding n, 0 ≤ x ∧ x < 256 := by
  intro x hx
  simp only [padding, List.mem_append, List.mem_cons, List.mem_replicate, List.mem_map] at hx
  rcases hx with (rfl | ⟨_, rfl⟩) | ⟨i, _, rfl⟩
  · omega
  · omega
  · exact lenB_range n i
theorem dig0 : Dig (h0, []) 0 (List.replicate 64 0) := by
  refine ⟨⟨?_, ?_, ?_, ?_, ?_, ?_, ?_, ?_⟩, by simp, ?_, rfl, by simp⟩
  all_goals first
    | (constructor <;> decide)
    | (intro c hc; rw [List.eq_of_mem_replicate hc]; omega)
def tailK (n z i : Nat) : List Int := (128 :: List.replicate z 0) ++ fill (lenB n) (71 - z) i
theorem tailK_length (n z i : Nat) (hz : z ≤ 63) (hi : i ≤ 8) : (tailK n z i).length = 72 := by
  simp [tailK, fill_length (lenB n) (71 - z) i (by omega)]; omega
theorem tailK_set (n z i : Nat) (hz : z ≤ 63) (hi : i < 8) : (tailK n z i).set (z + 1 + i) (lenB n i) = tailK n z (i + 1) := by
  unfold tailK
  rw [List.set_append, if_neg (by simp), List.length_cons, List.length_replicate, show z + 1 + i - (z + 1) = i by omega, fill_set _ _ _ (by omega)]
theorem tailK_zero (n z : Nat) (hz : z ≤ 63) : (List.replicate 72 (0 : Int)).set 0 128 = tailK n z 0 := by
  unfold tailK fill
  rw [show 72 = (z + (71 - z)) + 1 by omega, List.replicate_succ, List.set_cons_zero, ← List.replicate_append_replicate]
  simp
theorem tailK_end (n : Nat) : (tailK n (63 - (n + 8) % 64) 8).take (63 - (n + 8) % 64 + 9) = padding n := by
  unfold tailK fill padding
  rw [← List.append_assoc, List.take_append_of_le_length (by simp), List.take_of_length_le (by simp)]
set_option maxRecDepth 100000 in
set_option maxHeartbeats 1000000 in
theorem sum_ok (A : Option Addr) (ss : List ByteArray) (c : Nat) (w : World) (hr : Rd w A (ss.map .string)) (hss : ss.length < 9223372036854775807) (hsz : (cat ss).length < 4611686018427387904) :
    Calls Tryz.prog 80 #[.slice A ss.length c] w fun e w' => e = .returned (hv (shaSum (cat ss))) ∧ St w [] w' := by
  refine C_sha_Sum ?_
  unfold F_sha_Sum
  refine mop_new (St.nil w) (fun go w1 h1 => ?_)
  refine mop_pur (build8 _ _ _ _ _ _ _ _) ?_
  refine mop_to (rounds_ok w1) ?_
  rintro e w2 ⟨rfl, h2⟩
  have h2 := h1.call0 h2
  refine mop_pur (v := .agg (stCells h0.list (List.replicate 64 0) 0).toArray) (fun w => by kernel_rfl) ?_
  refine mop_box h2 (fun b w3 h3 => ?_)
  have h3 : St w [⟨b, 170, stCells h0.list (List.replicate 64 0) 0, true⟩, ⟨go, 34, u8s (List.replicate 32 0), true⟩] w3 := h3
  clear h1 h2
  refine mop_c trivial ?_
  refine ⟨fun v w2 => ∃ (k : Nat) (bl : List Int), k ≤ ss.length ∧ v = .int .i64 k ∧ Dig (feedAll (h0, []) (cat (ss.take k))) (cat (ss.take k)).length bl ∧
      St w [⟨b, 170, stCells (feedAll (h0, []) (cat (ss.take k))).1.list bl ((cat (ss.take k)).length : Int), true⟩, ⟨go, 34, u8s (List.replicate 32 0), true⟩] w2, fun v _ => ss.length - (intOf v).toNat, ⟨0, _, by omega, rfl, dig0, h3⟩, ?_⟩
  clear h3
  rintro v u w4 ⟨k, bl, hk, rfl, hd, h4⟩
  refine mop_c trivial ?_
  refine mif_dec (fun hlt => ?_) (fun hge => ?_)
  · have hk' : k < ss.length := by omega
    have x0 : (ss.map Value.string)[k]? = some (.string ss[k]) := by simp [hk']
    obtain ⟨ab, ao, rfl, hab, hc⟩ := hr.at_ x0
    (repeat (first | (refine mop_c ?_ ?_; first | exact trivial | omega) | (refine dp_c ?_ ?_; first | exact trivial | omega)))
    refine mop_ld (j := ao + k) ((h4.old (p := ⟨ab, ao + k, none⟩) hab (by intro q hq hn; simp at hq; rcases hq with rfl | rfl <;> cases hn)).trans (hc k _ x0)) (by omega) ?_
    have hcl := cat_le ss (k + 1)
    rw [cat_take ss k hk', List.length_append, ints_length] at hcl
    refine mop_to (put_ok b _ _ bl ss[k] w4 h4.head hd (by omega)) ?_
    rintro e w5 ⟨rfl, bl', hd5, h5⟩
    have h6 := h4.call1 h5
    (repeat (first | (refine mop_c ?_ ?_; first | exact trivial | omega) | (refine dp_c ?_ ?_; first | exact trivial | omega)))
    rw [← feedAll_append, ← ints_length, ← List.length_append, ← cat_take ss k hk'] at hd5 h6
    exact ⟨⟨k + 1, bl', hk', rfl, hd5, h6⟩, by simp [intOf]; omega⟩
  · obtain rfl : k = ss.length := by omega
    rw [List.take_length] at hd h4
    obtain ⟨n, hn⟩ : ∃ n, n = (cat ss).length := ⟨_, rfl⟩
    have hsum : shaSum (cat ss) = outB (feedAll (feedAll (h0, []) (cat ss)) (padding n)).1 := by rw [shaSum, feedAll_append, hn]
    rw [hsum]
    rw [← hn] at hd h4 hsz
    generalize feedAll (h0, []) (cat ss) = x at hd h4
    have hl8 : x.1.list.length = 8 := rfl
    refine mop_new h4 (fun gt w5 h5 => ?_)
    (repeat (first | (refine mop_c ?_ ?_; first | exact trivial | omega) | (refine dp_c ?_ ?_; first | exact trivial | omega)))
    refine mop_st (j := 0) h5 rfl (by simp) rfl (fun w6 h6 => ?_)
    (repeat (first | (refine mop_c ?_ ?_; first | exact trivial | omega) | (refine dp_c ?_ ?_; first | exact trivial | omega)))
    refine mop_ld ((h6.cell 1 rfl 72).trans (st_n hl8 hd.len)) rfl ?_
    (repeat (first | (refine mop_c ?_ ?_; first | exact trivial | omega) | (refine dp_c ?_ ?_; first | exact trivial | omega)))
    have hz : (64 : Int) - ((n : Int) + 8) % 64 = ((63 - (n + 8) % 64 + 1 : Nat) : Int) := by omega
    rw [hz]
    have h6 : St w [⟨gt, 172, u8s (tailK n (63 - (n + 8) % 64) 0), true⟩, ⟨b, 170, stCells x.1.list bl (n : Int), true⟩, ⟨go, 34, u8s (List.replicate 32 0), true⟩] w6 := by
      rw [← tailK_zero n (63 - (n + 8) % 64) (by omega), ← set_u8s]
      exact h6
    have hend := tailK_end n
    obtain ⟨z, hzz⟩ : ∃ z, z = 63 - (n + 8) % 64 := ⟨_, rfl⟩
    rw [← hzz] at h6 hend ⊢
    have hz63 : z ≤ 63 := by omega
    clear hz hzz
    refine ⟨fun v w2 => ∃ i : Nat, i ≤ 8 ∧ v = .int .i64 i ∧ St w [⟨gt, 172, u8s (tailK n z i), true⟩, ⟨b, 170, stCells x.1.list bl (n : Int), true⟩, ⟨go, 34, u8s (List.replicate 32 0), true⟩] w2, fun v _ => 8 - (intOf v).toNat, ⟨0, by omega, rfl, h6⟩, ?_⟩
    clear h4 h5 h6
    rintro v u2 w7 ⟨i, hi, rfl, h7⟩
    refine mop_c trivial ?_
    refine mif_dec (fun hlt => ?_) (fun hge => ?_)
    · (repeat (first | (refine mop_c ?_ ?_; first | exact trivial | omega) | (refine dp_c ?_ ?_; first | exact trivial | omega)))
      refine mop_ld ((h7.cell 1 rfl 72).trans (st_n hl8 hd.len)) rfl ?_
      (repeat (first | (refine mop_c ?_ ?_; first | exact trivial | omega) | (refine dp_c ?_ ?_; first | exact trivial | omega)))
      refine mop_st (j := z + 1 + i) h7 (by omega) (by rw [u8s_length, tailK_length n z i hz63 (by omega)]; omega) rfl (fun w8 h8 => ?_)
      have h8 : St w [⟨gt, 172, u8s (tailK n z (i + 1)), true⟩, ⟨b, 170, stCells x.1.list bl (n : Int), true⟩, ⟨go, 34, u8s (List.replicate 32 0), true⟩] w8 := by
        rw [← tailK_set n z i hz63 (by omega), ← set_u8s]
        exact h8
      (repeat (first | (refine mop_c ?_ ?_; first | exact trivial | omega) | (refine dp_c ?_ ?_; first | exact trivial | omega)))
      exact ⟨⟨i + 1, by omega, rfl, h8⟩, by simp [intOf]; omega⟩
    · obtain rfl : i = 8 := by omega
      (repeat (first | (refine mop_c ?_ ?_; first | exact trivial | omega) | (refine dp_c ?_ ?_; first | exact trivial | omega)))
      have hto : (((z + 1 : Nat) : Int) + 8).toNat = z + 9 := by omega
      rw [hto]
      have htl := tailK_length n z 8 hz63 (by omega)
      refine mop_purW (pw_conv_bytes 99 9 5 gt 0 (z + 9) 72 (padding n) (by kernel_rfl) (by kernel_rfl) (by kernel_rfl) (by rw [← hend, List.length_take, htl]; omega) (fun i hi => ?_)) ?_
      · rw [h7.head.cell, ← hend, Nat.zero_add, u8s_at _ _ (by omega)]
        congr 2
        simp [List.getD, hi]
      have hpl : (padding n).length = z + 9 := by rw [← hend, List.length_take, htl]; omega
      have hps : (strOfNums (padding n)).size = z + 9 := by rw [← ints_length, ints_str _ (padding_range n), hpl]
      have h7 := h7.swap
      refine mop_to (put_ok b x n bl (strOfNums (padding n)) w7 h7.head hd (by omega)) ?_
      rintro e w8 ⟨rfl, bl', hd8, h8⟩
      rw [ints_str _ (padding_range n)] at hd8 h8
      have h9 := h7.call1 h8
      generalize feedAll x (padding n) = y at hd8 h9 ⊢
      clear h7 h8
      have hy8 : y.1.list.length = 8 := rfl
      refine mop_new h9 (fun gu w9 h10 => ?_)
      refine ⟨fun v w2 => ∃ i : Nat, i ≤ 32 ∧ v = .int .i64 i ∧ ∃ L, St w (⟨gu, 34, u8s (fill (outAt y.1.list) 32 i), true⟩ :: ⟨b, 170, stCells y.1.list bl' ((n + (strOfNums (padding n)).size : Nat) : Int), true⟩ :: ⟨gt, 172, L, true⟩ :: ⟨go, 34, u8s (List.replicate 32 0), true⟩ :: []) w2, fun v _ => 32 - (intOf v).toNat, ⟨0, by omega, rfl, _, h10⟩, ?_⟩
      clear h9 h10
      rintro v u3 w10 ⟨i, hi, rfl, L, h11⟩
      refine mop_c trivial ?_
      refine mif_dec (fun hlt => ?_) (fun hge => ?_)
      · (repeat (first | (refine mop_c ?_ ?_; first | exact trivial | omega) | (refine dp_c ?_ ?_; first | exact trivial | omega)))
        have hq : (0 + 0 + ((i : Int) / 4).toNat) = 0 + i / 4 := by omega
        refine mop_ld ((h11.cell 1 rfl (i / 4)).trans (st_h hy8 (i / 4) (by omega))) (by omega) ?_
        (repeat (first | (refine mop_c ?_ ?_; first | exact trivial | omega) | (refine dp_c ?_ ?_; first | exact trivial | omega)))
        refine mop_st (j := i) h11 (by omega) (by rw [u8s_length, fill_length _ _ _ hi]; omega) rfl (fun w11 h12 => ?_)
        have h12 : St w (⟨gu, 34, u8s (fill (outAt y.1.list) 32 (i + 1)), true⟩ :: ⟨b, 170, stCells y.1.list bl' ((n + (strOfNums (padding n)).size : Nat) : Int), true⟩ :: ⟨gt, 172, L, true⟩ :: ⟨go, 34, u8s (List.replicate 32 0), true⟩ :: []) w11 := by
          rw [← fill_set _ _ _ (by omega), ← set_u8s]
          have e : outAt y.1.list i = y.1.list.getD (i / 4) 0 / 2 ^ ((24 : Int) - 8 * ((i : Int) % 4)).toNat % 256 := by
            unfold outAt
            congr 3
            omega
          rw [e]
          exact h12
        (repeat (first | (refine mop_c ?_ ?_; first | exact trivial | omega) | (refine dp_c ?_ ?_; first | exact trivial | omega)))
        exact ⟨⟨i + 1, by omega, rfl, L, h12⟩, by simp [intOf]; omega⟩
      · obtain rfl : i = 32 := by omega
        have hf : fill (outAt y.1.list) 32 32 = outB y.1 := by simp [fill, outB]
        rw [hf] at h11
        have hol : (u8s (outB y.1)).length = 32 := by simp [outB, u8s]
        refine mop_ldN (cells_of_row h11.head) hol rfl ?_
        have h13 := h11.drop.drop.drop
        refine mop_storeN (q := true) (k := 32) (by kernel_rfl) h13 (by simpa [Value.cells] using hol) (by intro u hu; exact u8s_one _ u hu) (by simp [u8s]) (fun w12 h14 => ?_)
        have e : lay (u8s (List.replicate 32 0)) (Value.agg (u8s (outB y.1)).toArray).cells.toList 0 = u8s (outB y.1) := lay_all _ _ (by show (u8s (outB y.1)).length = _; rw [hol]; simp [u8s])
        rw [e] at h14
        refine rcell_ldN (cells_of_row h14.head) hol ?_
        exact ⟨rfl, h14.drop⟩
end Go.Proofs.YtpjodlnlmaaihaaGreat
namespace Go.Proofs.YtpjodlnlmaaihaaGreat
open Go.RowKit
theorem word_ok (g o n c : Nat) (i : Nat) (a0 a1 a2 a3 : Int) (w : World) (hn : i + 4 ≤ n) (hi : i < 4611686018427387904)
    (h0 : w.cell? ⟨g, o + i, none⟩ = some (.int .u8 a0)) (h1 : w.cell? ⟨g, o + (i + 1), none⟩ = some (.int .u8 a1)) (h2 : w.cell? ⟨g, o + (i + 2), none⟩ = some (.int .u8 a2)) (h3 : w.cell? ⟨g, o + (i + 3), none⟩ = some (.int .u8 a3))
    (b0 : 0 ≤ a0 ∧ a0 < 256) (b1 : 0 ≤ a1 ∧ a1 < 256) (b2 : 0 ≤ a2 ∧ a2 < 256) (b3 : 0 ≤ a3 ∧ a3 < 256) :
    Calls Tryz.prog 104 #[.slice (some ⟨g, o, none⟩) n c, .int .i64 (i : Int)] w fun e w' => e = .returned (.int .u32 (word4 a0 a1 a2 a3)) ∧ Drawn w w' := by
  refine C_bevyref02_word ?_
  unfold F_bevyref02_word
  (repeat (first | (refine mop_c ?_ ?_; first | exact trivial | omega) | (refine dp_c ?_ ?_; first | exact trivial | omega)))
  refine dq_ld h0 (by omega) ?_
  (repeat (first | (refine mop_c ?_ ?_; first | exact trivial | omega) | (refine dp_c ?_ ?_; first | exact trivial | omega)))
  refine dq_ld h1 (by omega) ?_
  (repeat (first | (refine mop_c ?_ ?_; first | exact trivial | omega) | (refine dp_c ?_ ?_; first | exact trivial | omega)))
  refine dq_ld h2 (by omega) ?_
  (repeat (first | (refine mop_c ?_ ?_; first | exact trivial | omega) | (refine dp_c ?_ ?_; first | exact trivial | omega)))
  refine dq_ld h3 (by omega) ?_
  (repeat (first | (refine mop_c ?_ ?_; first | exact trivial | omega) | (refine dp_c ?_ ?_; first | exact trivial | omega)))
  refine dend_intro fun w1 hd => ?_
  exact ⟨rfl, hd⟩
def blocks (M : List Int) : Nat → S8
  | 0 => h0
  | j + 1 => compress (blocks M j) ((M.drop (64 * j)).take 64)
theorem blocks_feed (M : List Int) : ∀ j, 64 * j ≤ M.length → feedAll (h0, []) (M.take (64 * j)) = (blocks M j, [])
  | 0, _ => rfl
  | j + 1, h => by
    rw [show 64 * (j + 1) = 64 * j + 64 by omega, List.take_add, feedAll_append, blocks_feed M j (by omega)]
    rw [feedAll_full _ _ _ (by simp; omega) (by simp; omega)]
    rfl
theorem blocks_ok (M : List Int) : ∀ j, (blocks M j).Ok
  | 0 => dig0.ok
  | _ + 1 => compress_ok _
theorem block_at (M : List Int) (j i : Nat) (hi : i < 64) : ((M.drop (64 * j)).take 64).getD i 0 = M.getD (64 * j + i) 0 := by
  simp [List.getD, hi]
theorem buildb (v : Int) (w : World) : (o_buildSlice 99 1 [(0, .int .u8 v)]).run Tryz.prog w = .ok (.value (.slice (some ⟨w.heap.size, 0, none⟩) 1 1)) (w.alloc (.cells (Value.int .u8 v).cells.toList.toArray 5)) := by kernel_rfl
theorem row_at (M : List Int) (sp : List Value) (i : Nat) (h : i < M.length) : (u8s M ++ sp)[i]? = some (.int .u8 (M.getD i 0)) := by
  rw [List.getElem?_append_left (by rw [u8s_length]; exact h), u8s_at M i h]
def slen : Value → Nat
  | .slice _ n _ => n
  | _ => 0
theorem u8s_append (a b : List Int) : u8s (a ++ b) = u8s a ++ u8s b := by simp [u8s]
theorem u32s_one (l : List Int) : ∀ u ∈ u32s l, u.oneCell' = true := by
  intro u hu
  obtain ⟨x, _, rfl⟩ := List.mem_map.1 hu
  rfl
theorem u32s_length (l : List Int) : (u32s l).length = l.length := by simp [u32s]
theorem set_u32s (l : List Int) (i : Nat) (v : Int) : (u32s l).set i (.int .u32 v) = u32s (l.set i v) := by simp [u32s, List.map_set]
set_option maxRecDepth 100000 in
set_option maxHeartbeats 2000000 in
theorem refsum_ok (s : ByteArray) (w : World) (hsz : s.size < 1099511627776) : Calls Tryz.prog 64 #[.string s] w fun e w' => e = .returned (hv (shaSum (ints s))) ∧ St w [] w' := by
  refine C_bevyref02_Sum ?_
  unfold F_bevyref02_Sum
  refine mop_new (St.nil w) (fun go w1 h1 => ?_)
  refine mop_pur (v := .agg (u32s kl).toArray) (fun w => by kernel_rfl) ?_
  refine mop_new h1 (fun gk w2 h2 => ?_)
  refine mop_storeN (q := true) (k := 64) (by kernel_rfl) h2 rfl (u32s_one kl) (by simp) (fun w3 h3 => ?_)
  have e1 : lay (List.replicate 64 (Value.int .u32 0)) (Value.agg (u32s kl).toArray).cells.toList 0 = u32s kl := lay_all _ _ rfl
  rw [e1] at h3
  clear h1 h2
  obtain ⟨A, cap, w4, hr4, h4⟩ := run_bytes_of_text (P := Tryz.prog) 9 99 5 s (by kernel_rfl) (by kernel_rfl) (by kernel_rfl) (by unfold maxLen; omega) h3
  refine mop_run hr4 ?_
  refine mop_push h4 rfl (by intro u hu; cases hu with | head => rfl | tail _ hu => cases hu) (buildb _ _) (by unfold maxLen; omega) (by omega) (fun A1 cap1 w5 h5 => ?_)
  obtain ⟨n, hn⟩ : ∃ n, n = s.size := ⟨_, rfl⟩
  have hil : (ints s).length = n := by rw [ints_length, hn]
  rw [← hn] at h5 hsz ⊢
  refine ⟨fun v w2 => ∃ (z cap : Nat) (A : Option Addr), z ≤ 63 - (n + 8) % 64 ∧ v = .slice A (n + 1 + z) cap ∧ RowSt w 5 1 [⟨gk, 160, u32s kl, true⟩, ⟨go, 33, List.replicate 32 (.int .u8 0), true⟩] A (n + 1 + z) cap (u8s (ints s ++ (128 :: List.replicate z 0))) w2, fun v _ => n + 100 - slen v, ⟨0, _, _, by omega, rfl, by rw [u8s_append]; exact h5⟩, ?_⟩
  clear h3 h4 h5 hr4
  rintro v u w6 ⟨z, cap, A, hz, rfl, h6⟩
  (repeat (first | (refine mop_c ?_ ?_; first | exact trivial | omega) | (refine dp_c ?_ ?_; first | exact trivial | omega)))
  refine mif_dec (fun hne => ?_) (fun heq => ?_)
  · refine mop_push h6 rfl (by intro u hu; cases hu with | head => rfl | tail _ hu => cases hu) (buildb _ _) (by unfold maxLen; omega) (by omega) (fun A1 cap1 w7 h7 => ?_)
    refine ⟨⟨z + 1, cap1, A1, by omega, rfl, ?_⟩, by simp [slen]; omega⟩
    have e : ints s ++ (128 :: List.replicate (z + 1) 0) = (ints s ++ (128 :: List.replicate z 0)) ++ [0] := by
      rw [List.append_assoc, List.cons_append, ← List.replicate_succ']
    rw [e, u8s_append]
    exact h7
  · obtain rfl : z = 63 - (n + 8) % 64 := by omega
    refine mop_c trivial ?_
    rw [← hn]
    (repeat (first | (refine mop_c ?_ ?_; first | exact trivial | omega) | (refine dp_c ?_ ?_; first | exact trivial | omega)))
    refine ⟨fun v x w2 => ∃ (i cap : Nat) (A : Option Addr), i ≤ 8 ∧ x = .int .i64 i ∧ v = .slice A (n + 1 + (63 - (n + 8) % 64) + i) cap ∧ RowSt w 5 1 [⟨gk, 160, u32s kl, true⟩, ⟨go, 33, List.replicate 32 (.int .u8 0), true⟩] A (n + 1 + (63 - (n + 8) % 64) + i) cap (u8s ((ints s ++ (128 :: List.replicate (63 - (n + 8) % 64) 0)) ++ (List.range i).map (lenB n))) w2,
      fun _ x _ => 8 - (intOf x).toNat, ⟨0, _, _, by omega, rfl, rfl, by simpa using h6⟩, ?_⟩
    clear h6
    rintro v x u2 w7 ⟨i, cap, A, hi, rfl, rfl, h7⟩
    refine mop_c trivial ?_
    refine mif_dec (fun hlt => ?_) (fun hge => ?_)
    · (repeat (first | (refine mop_c ?_ ?_; first | exact trivial | omega) | (refine dp_c ?_ ?_; first | exact trivial | omega)))
      refine mop_push h7 rfl (by intro u hu; cases hu with | head => rfl | tail _ hu => cases hu) (buildb _ _) (by unfold maxLen; omega) (by omega) (fun A1 cap1 w8 h8 => ?_)
      (repeat (first | (refine mop_c ?_ ?_; first | exact trivial | omega) | (refine dp_c ?_ ?_; first | exact trivial | omega)))
      refine ⟨⟨i + 1, cap1, A1, by omega, rfl, rfl, ?_⟩, by simp [intOf]; omega⟩
      have e : lenB n i = ((n : Int) % 18446744073709551616 * 8 % 18446744073709551616) / 2 ^ ((56 - 8 * (i : Int)) % 18446744073709551616).toNat % 256 := by
        unfold lenB
        congr 4
        omega
      rw [List.range_succ, List.map_append, ← List.append_assoc, u8s_append, List.map_cons, List.map_nil, e]
      exact h8
    · obtain rfl : i = 8 := by omega
      have hM : (ints s ++ (128 :: List.replicate (63 - (n + 8) % 64) 0)) ++ (List.range 8).map (lenB n) = ints s ++ padding n := by rw [padding, List.append_assoc]
      rw [hM] at h7
      have hfin : shaSum (ints s) = outB (feedAll (h0, []) (ints s ++ padding n)).1 := by rw [shaSum, hil]
      rw [hfin]
      have hMl : (ints s ++ padding n).length = n + 1 + (63 - (n + 8) % 64) + 8 := by simp [padding, hil]; omega
      have hMr : ∀ c ∈ ints s ++ padding n, 0 ≤ c ∧ c < 256 := fun c hc => by
        rcases List.mem_append.1 hc with hc | hc
        · exact ints_range s c hc
        · exact padding_range n c hc
      generalize ints s ++ padding n = M at h7 hMl hMr ⊢
      obtain ⟨N, hN⟩ : ∃ N, N = n + 1 + (63 - (n + 8) % 64) + 8 := ⟨_, rfl⟩
      rw [← hN] at h7 hMl ⊢
      have hN64 : N % 64 = 0 := by omega
      have hNb : N < 1099511627776 + 200 := by omega
      clear hM hfin hil
      obtain ⟨gm, sp, rfl, h8, _, _⟩ := h7.at_ (by omega)
      clear h7
      refine mop_pur (build8 _ _ _ _ _ _ _ _) ?_
      refine mop_new h8 (fun gv w8 h9 => ?_)
      refine mop_storeN (q := true) (k := 8) (by kernel_rfl) h9 rfl (u32s_one h0.list) (by simp) (fun w9 h10 => ?_)
      have e8 : lay (List.replicate 8 (Value.int .u32 0)) (Value.agg (u32s h0.list).toArray).cells.toList 0 = u32s h0.list := lay_all _ _ rfl
      have h10 : St w [⟨gv, 162, u32s h0.list, true⟩, ⟨gm, 5, u8s M ++ sp, true⟩, ⟨gk, 160, u32s kl, true⟩, ⟨go, 33, List.replicate 32 (.int .u8 0), true⟩] w9 := by
        rw [← e8]; exact h10
      refine ⟨fun x w2 => ∃ j : Nat, 64 * j ≤ N ∧ x = .int .i64 ((64 * j : Nat) : Int) ∧ St w [⟨gv, 162, u32s (blocks M j).list, true⟩, ⟨gm, 5, u8s M ++ sp, true⟩, ⟨gk, 160, u32s kl, true⟩, ⟨go, 33, List.replicate 32 (.int .u8 0), true⟩] w2,
        fun x _ => N - (intOf x).toNat, ⟨0, by omega, rfl, h10⟩, ?_⟩
      clear h8 h9 h10
      rintro x u3 w10 ⟨j, hj, rfl, h10⟩
      (repeat (first | (refine mop_c ?_ ?_; first | exact trivial | omega) | (refine dp_c ?_ ?_; first | exact trivial | omega)))
      refine mif_dec (fun hlt => ?_) (fun hge => ?_)
      · have hj2 : 64 * j + 64 ≤ N := by omega
        have hbl : blocks M (j + 1) = (blocks M j).add (rl (wl ((M.drop (64 * j)).take 64) 64) 64 (blocks M j)) := rfl
        have hbat := fun i hi => block_at M j i hi
        have hsok := blocks_ok M j
        generalize (M.drop (64 * j)).take 64 = bl at hbl hbat
        obtain ⟨S', hS⟩ : ∃ S', S' = blocks M (j + 1) := ⟨_, rfl⟩
        rw [← hS] at hbl
        refine mop_new h10 (fun gw w11 h11 => ?_)
        refine ⟨fun x w2 => ∃ i : Nat, i ≤ 16 ∧ x = .int .i64 i ∧ St w [⟨gw, 160, u32s (wk bl i), true⟩, ⟨gv, 162, u32s (blocks M j).list, true⟩, ⟨gm, 5, u8s M ++ sp, true⟩, ⟨gk, 160, u32s kl, true⟩, ⟨go, 33, List.replicate 32 (.int .u8 0), true⟩] w2,
          fun x _ => 16 - (intOf x).toNat, ⟨0, by omega, rfl, h11⟩, ?_⟩
        clear h10 h11
        rintro x u4 w12 ⟨i, hi, rfl, h12⟩
        (repeat (first | (refine mop_c ?_ ?_; first | exact trivial | omega) | (refine dp_c ?_ ?_; first | exact trivial | omega)))
        refine mif_dec (fun hlt2 => ?_) (fun hge2 => ?_)
        · (repeat (first | (refine mop_c ?_ ?_; first | exact trivial | omega) | (refine dp_c ?_ ?_; first | exact trivial | omega)))
          rw [show ((64 * j : Nat) : Int) + 4 * (i : Int) = ((64 * j + 4 * i : Nat) : Int) by omega]
          refine mop_to (word_ok gm 0 N cap (64 * j + 4 * i) (M.getD (64 * j + 4 * i) 0) (M.getD (64 * j + 4 * i + 1) 0) (M.getD (64 * j + 4 * i + 2) 0) (M.getD (64 * j + 4 * i + 3) 0) w12 (by omega) (by omega)
            ?_ ?_ ?_ ?_ (getD_bd M _ hMr) (getD_bd M _ hMr) (getD_bd M _ hMr) (getD_bd M _ hMr)) ?_
          · rw [Nat.zero_add]; exact (h12.cell 2 rfl _).trans (row_at M sp _ (by omega))
          · rw [Nat.zero_add]; exact (h12.cell 2 rfl _).trans (row_at M sp _ (by omega))
          · rw [Nat.zero_add]; exact (h12.cell 2 rfl _).trans (row_at M sp _ (by omega))
          · rw [Nat.zero_add]; exact (h12.cell 2 rfl _).trans (row_at M sp _ (by omega))
          rintro e w13 ⟨rfl, hd13⟩
          have h13 := h12.drawn hd13
          (repeat (first | (refine mop_c ?_ ?_; first | exact trivial | omega) | (refine dp_c ?_ ?_; first | exact trivial | omega)))
          refine mop_st (j := i) h13 (by omega) (by rw [u32s_length, wk_len bl i (by omega)]; omega) rfl (fun w14 h14 => ?_)
          (repeat (first | (refine mop_c ?_ ?_; first | exact trivial | omega) | (refine dp_c ?_ ?_; first | exact trivial | omega)))
          refine ⟨⟨i + 1, by omega, rfl, ?_⟩, by simp [intOf]; omega⟩
          rw [wk_set bl i (by omega)] at h14
          · exact h14
          · rw [wl_new, if_pos (by omega), hbat _ (by omega), hbat _ (by omega), hbat _ (by omega), hbat _ (by omega), ← Nat.add_assoc, ← Nat.add_assoc, ← Nat.add_assoc]
        · obtain rfl : i = 16 := by omega
          refine ⟨fun x w2 => ∃ k : Nat, 16 ≤ k ∧ k ≤ 64 ∧ x = .int .i64 k ∧ St w [⟨gw, 160, u32s (wk bl k), true⟩, ⟨gv, 162, u32s (blocks M j).list, true⟩, ⟨gm, 5, u8s M ++ sp, true⟩, ⟨gk, 160, u32s kl, true⟩, ⟨go, 33, List.replicate 32 (.int .u8 0), true⟩] w2,
            fun x _ => 64 - (intOf x).toNat, ⟨16, by omega, by omega, rfl, h12⟩, ?_⟩
          clear h12
          rintro x u5 w13 ⟨k, hk0, hk, rfl, h13⟩
          (repeat (first | (refine mop_c ?_ ?_; first | exact trivial | omega) | (refine dp_c ?_ ?_; first | exact trivial | omega)))
          refine mif_dec (fun hlt3 => ?_) (fun hge3 => ?_)
          · have d15 := wl_wd bl k (k - 15)
            have d2 := wl_wd bl k (k - 2)
            (repeat (first | (refine mop_c ?_ ?_; first | exact trivial | omega) | (refine dp_c ?_ ?_; first | exact trivial | omega)))
            refine mop_ld ((h13.cell 0 rfl (k - 15)).trans (wk_at bl k (k - 15) (by omega))) (by omega) ?_
            (repeat (first | (refine mop_c ?_ ?_; first | exact trivial | omega) | (refine dp_c ?_ ?_; first | exact trivial | omega)))
            refine mop_ld ((h13.cell 0 rfl (k - 2)).trans (wk_at bl k (k - 2) (by omega))) (by omega) ?_
            (repeat (first | (refine mop_c ?_ ?_; first | exact trivial | omega) | (refine dp_c ?_ ?_; first | exact trivial | omega)))
            refine dq_ld ((h13.cell 0 rfl (k - 16)).trans (wk_at bl k (k - 16) (by omega))) (by omega) ?_
            (repeat (first | (refine mop_c ?_ ?_; first | exact trivial | omega) | (refine dp_c ?_ ?_; first | exact trivial | omega)))
            refine dq_ld ((h13.cell 0 rfl (k - 7)).trans (wk_at bl k (k - 7) (by omega))) (by omega) ?_
            (repeat (first | (refine mop_c ?_ ?_; first | exact trivial | omega) | (refine dp_c ?_ ?_; first | exact trivial | omega)))
            refine df_eq (fun w => turned_k _ 7 w d15 (by decide)) fun w5 hd5 => ?_
            refine df_eq (fun w => turned_k _ 18 w d15 (by decide)) fun w6 hd6 => ?_
            (repeat (first | (refine mop_c ?_ ?_; first | exact trivial | omega) | (refine dp_c ?_ ?_; first | exact trivial | omega)))
            refine df_eq (fun w => turned_k _ 17 w d2 (by decide)) fun w7 hd7 => ?_
            refine df_eq (fun w => turned_k _ 19 w d2 (by decide)) fun w8 hd8 => ?_
            (repeat (first | (refine mop_c ?_ ?_; first | exact trivial | omega) | (refine dp_c ?_ ?_; first | exact trivial | omega)))
            have h14 := h13.drawn (((hd5.trans hd6).trans hd7).trans hd8)
            refine df_st (j := k) h14 (by omega) (by rw [u32s_length, wk_len bl k hk]; omega) rfl (fun w9 h15 => ?_)
            refine dend_intro fun w10 hd10 => ?_
            have h16 := h15.drawn hd10
            (repeat (first | (refine mop_c ?_ ?_; first | exact trivial | omega) | (refine dp_c ?_ ?_; first | exact trivial | omega)))
            refine ⟨⟨k + 1, by omega, by omega, rfl, ?_⟩, by simp [intOf]; omega⟩
            rw [wk_set bl k (by omega)] at h16
            · exact h16
            · rw [wl_new, if_neg (by omega)]
              rfl
          · obtain rfl : k = 64 := by omega
            have hw : wk bl 64 = wl bl 64 := by simp [wk]
            have hWl : (wl bl 64).length = 64 := wl_len bl 64
            rw [hw] at h13
            clear hw
            generalize wl bl 64 = W at h13 hWl hbl
            refine mop_ldN (cells_of_row (h13.mem (k := 1) rfl)) rfl rfl ?_
            refine mop_new h13 (fun gs w14 h14 => ?_)
            refine mop_storeN (q := true) (k := 8) (by kernel_rfl) h14 rfl (u32s_one (blocks M j).list) (by simp) (fun w15 h15 => ?_)
            have e9 : lay (List.replicate 8 (Value.int .u32 0)) (Value.agg (u32s (blocks M j).list).toArray).cells.toList 0 = u32s (blocks M j).list := lay_all _ _ rfl
            rw [e9] at h15
            clear h13 h14 e9
            generalize blocks M j = s0 at hbl hsok h15
            refine ⟨fun x w2 => ∃ i : Nat, i ≤ 64 ∧ x = .int .i64 i ∧ St w [⟨gs, 162, u32s (rl W i s0).list, true⟩, ⟨gw, 160, u32s W, true⟩, ⟨gv, 162, u32s s0.list, true⟩, ⟨gm, 5, u8s M ++ sp, true⟩, ⟨gk, 160, u32s kl, true⟩, ⟨go, 33, List.replicate 32 (.int .u8 0), true⟩] w2,
              fun x _ => 64 - (intOf x).toNat, ⟨0, by omega, rfl, h15⟩, ?_⟩
            clear h15
            rintro x u6 w16 ⟨i, hi4, rfl, h16⟩
            have hr := rl_ok W hsok i
            have hrs : rl W (i + 1) s0 = (rl W i s0).rnd (kl.getD i 0) (W.getD i 0) := rfl
            obtain ⟨s', hs'⟩ : ∃ s', s' = rl W (i + 1) s0 := ⟨_, rfl⟩
            obtain ⟨t, ht⟩ : ∃ t, rl W i s0 = t := ⟨_, rfl⟩
            rw [← hs'] at hrs
            rw [ht] at hr hrs h16
            (repeat (first | (refine mop_c ?_ ?_; first | exact trivial | omega) | (refine dp_c ?_ ?_; first | exact trivial | omega)))
            refine mif_dec (fun hlt4 => ?_) (fun hge4 => ?_)
            · (repeat (first | (refine mop_c ?_ ?_; first | exact trivial | omega) | (refine dp_c ?_ ?_; first | exact trivial | omega)))
              refine mop_ld ((h16.cell 0 rfl 4).trans (show (u32s t.list)[4]? = some (.int .u32 t.e) from rfl)) (by omega) ?_
              (repeat (first | (refine mop_c ?_ ?_; first | exact trivial | omega) | (refine dp_c ?_ ?_; first | exact trivial | omega)))
              refine mop_ld ((h16.cell 0 rfl 0).trans (show (u32s t.list)[0]? = some (.int .u32 t.a) from rfl)) (by omega) ?_
              (repeat (first | (refine mop_c ?_ ?_; first | exact trivial | omega) | (refine dp_c ?_ ?_; first | exact trivial | omega)))
              refine dq_ld ((h16.cell 0 rfl 7).trans (show (u32s t.list)[7]? = some (.int .u32 t.h) from rfl)) (by omega) ?_
              refine df_eq (fun w => turned_k _ 6 w hr.e (by decide)) fun w5 hd5 => ?_
              refine df_eq (fun w => turned_k _ 11 w hr.e (by decide)) fun w6 hd6 => ?_
              (repeat (first | (refine mop_c ?_ ?_; first | exact trivial | omega) | (refine dp_c ?_ ?_; first | exact trivial | omega)))
              refine df_eq (fun w => turned_k _ 25 w hr.e (by decide)) fun w7 hd7 => ?_
              (repeat (first | (refine mop_c ?_ ?_; first | exact trivial | omega) | (refine dp_c ?_ ?_; first | exact trivial | omega)))
              refine dq_ld ((h16.cell 0 rfl 5).trans (show (u32s t.list)[5]? = some (.int .u32 t.f) from rfl)) (by omega) ?_
              (repeat (first | (refine mop_c ?_ ?_; first | exact trivial | omega) | (refine dp_c ?_ ?_; first | exact trivial | omega)))
              refine dq_ld ((h16.cell 0 rfl 6).trans (show (u32s t.list)[6]? = some (.int .u32 t.g) from rfl)) (by omega) ?_
              (repeat (first | (refine mop_c ?_ ?_; first | exact trivial | omega) | (refine dp_c ?_ ?_; first | exact trivial | omega)))
              refine dq_ld ((h16.cell 4 rfl i).trans (u32s_at kl i (by rw [kl_len]; omega))) (by omega) ?_
              (repeat (first | (refine mop_c ?_ ?_; first | exact trivial | omega) | (refine dp_c ?_ ?_; first | exact trivial | omega)))
              refine dq_ld ((h16.cell 1 rfl i).trans (u32s_at W i (by omega))) (by omega) ?_
              (repeat (first | (refine mop_c ?_ ?_; first | exact trivial | omega) | (refine dp_c ?_ ?_; first | exact trivial | omega)))
              refine dend_intro fun w8 hd8 => ?_
              have h17 := h16.drawn (((hd5.trans hd6).trans hd7).trans hd8)
              refine df_eq (fun w => turned_k _ 2 w hr.a (by decide)) fun w9 hd9 => ?_
              refine df_eq (fun w => turned_k _ 13 w hr.a (by decide)) fun w10 hd10 => ?_
              (repeat (first | (refine mop_c ?_ ?_; first | exact trivial | omega) | (refine dp_c ?_ ?_; first | exact trivial | omega)))
              refine df_eq (fun w => turned_k _ 22 w hr.a (by decide)) fun w11 hd11 => ?_
              (repeat (first | (refine mop_c ?_ ?_; first | exact trivial | omega) | (refine dp_c ?_ ?_; first | exact trivial | omega)))
              refine dq_ld ((h17.cell 0 rfl 1).trans (show (u32s t.list)[1]? = some (.int .u32 t.b) from rfl)) (by omega) ?_
              (repeat (first | (refine mop_c ?_ ?_; first | exact trivial | omega) | (refine dp_c ?_ ?_; first | exact trivial | omega)))
              refine dq_ld ((h17.cell 0 rfl 2).trans (show (u32s t.list)[2]? = some (.int .u32 t.c) from rfl)) (by omega) ?_
              (repeat (first | (refine mop_c ?_ ?_; first | exact trivial | omega) | (refine dp_c ?_ ?_; first | exact trivial | omega)))
              refine dq_ld ((h17.cell 0 rfl 1).trans (show (u32s t.list)[1]? = some (.int .u32 t.b) from rfl)) (by omega) ?_
              (repeat (first | (refine mop_c ?_ ?_; first | exact trivial | omega) | (refine dp_c ?_ ?_; first | exact trivial | omega)))
              refine dq_ld ((h17.cell 0 rfl 2).trans (show (u32s t.list)[2]? = some (.int .u32 t.c) from rfl)) (by omega) ?_
              (repeat (first | (refine mop_c ?_ ?_; first | exact trivial | omega) | (refine dp_c ?_ ?_; first | exact trivial | omega)))
              refine dend_intro fun w12 hd12 => ?_
              have h18 := h17.drawn (((hd9.trans hd10).trans hd11).trans hd12)
              clear h16 h17
              (repeat (first | (refine mop_c ?_ ?_; first | exact trivial | omega) | (refine dp_c ?_ ?_; first | exact trivial | omega)))
              refine mop_ld ((h18.cell 0 rfl 0).trans (show (u32s t.list)[0]? = some (.int .u32 t.a) from rfl)) (by omega) ?_
              (repeat (first | (refine mop_c ?_ ?_; first | exact trivial | omega) | (refine dp_c ?_ ?_; first | exact trivial | omega)))
              refine mop_ld ((h18.cell 0 rfl 1).trans (show (u32s t.list)[1]? = some (.int .u32 t.b) from rfl)) (by omega) ?_
              (repeat (first | (refine mop_c ?_ ?_; first | exact trivial | omega) | (refine dp_c ?_ ?_; first | exact trivial | omega)))
              refine mop_ld ((h18.cell 0 rfl 2).trans (show (u32s t.list)[2]? = some (.int .u32 t.c) from rfl)) (by omega) ?_
              (repeat (first | (refine mop_c ?_ ?_; first | exact trivial | omega) | (refine dp_c ?_ ?_; first | exact trivial | omega)))
              refine mop_ld ((h18.cell 0 rfl 3).trans (show (u32s t.list)[3]? = some (.int .u32 t.d) from rfl)) (by omega) ?_
              (repeat (first | (refine mop_c ?_ ?_; first | exact trivial | omega) | (refine dp_c ?_ ?_; first | exact trivial | omega)))
              refine mop_ld ((h18.cell 0 rfl 4).trans (show (u32s t.list)[4]? = some (.int .u32 t.e) from rfl)) (by omega) ?_
              (repeat (first | (refine mop_c ?_ ?_; first | exact trivial | omega) | (refine dp_c ?_ ?_; first | exact trivial | omega)))
              refine mop_ld ((h18.cell 0 rfl 5).trans (show (u32s t.list)[5]? = some (.int .u32 t.f) from rfl)) (by omega) ?_
              (repeat (first | (refine mop_c ?_ ?_; first | exact trivial | omega) | (refine dp_c ?_ ?_; first | exact trivial | omega)))
              refine mop_ld ((h18.cell 0 rfl 6).trans (show (u32s t.list)[6]? = some (.int .u32 t.g) from rfl)) (by omega) ?_
              refine mop_pur (v := .agg (u32s s'.list).toArray) (by rw [hrs]; exact build8 _ _ _ _ _ _ _ _) ?_
              refine mop_storeN (q := true) (k := 8) (by kernel_rfl) h18 rfl (u32s_one s'.list) (by simp [u32s, S8.list]) (fun w13 h19 => ?_)
              have e9 : lay (u32s t.list) (Value.agg (u32s s'.list).toArray).cells.toList 0 = u32s s'.list := lay_all _ _ rfl
              rw [e9] at h19
              (repeat (first | (refine mop_c ?_ ?_; first | exact trivial | omega) | (refine dp_c ?_ ?_; first | exact trivial | omega)))
              exact ⟨⟨i + 1, by omega, rfl, by rw [← hs']; exact h19⟩, by simp [intOf]; omega⟩
            · obtain rfl : i = 64 := by omega
              rw [ht] at hbl
              refine ⟨fun x w2 => ∃ i : Nat, i ≤ 8 ∧ x = .int .i64 i ∧ St w [⟨gv, 162, u32s (addK s0.list t.list i), true⟩, ⟨gs, 162, u32s t.list, true⟩, ⟨gw, 160, u32s W, true⟩, ⟨gm, 5, u8s M ++ sp, true⟩, ⟨gk, 160, u32s kl, true⟩, ⟨go, 33, List.replicate 32 (.int .u8 0), true⟩] w2,
                fun x _ => 8 - (intOf x).toNat, ⟨0, by omega, rfl, h16.up2⟩, ?_⟩
              clear h16
              rintro x u7 w17 ⟨i, hi5, rfl, h17⟩
              (repeat (first | (refine mop_c ?_ ?_; first | exact trivial | omega) | (refine dp_c ?_ ?_; first | exact trivial | omega)))
              have hal : (addK s0.list t.list i).length = 8 := addK_len s0.list t.list i
              refine mif_dec (fun hlt5 => ?_) (fun hge5 => ?_)
              · (repeat (first | (refine mop_c ?_ ?_; first | exact trivial | omega) | (refine dp_c ?_ ?_; first | exact trivial | omega)))
                refine dq_ld ((h17.cell 0 rfl i).trans (u32s_at _ i (by omega))) (by omega) ?_
                (repeat (first | (refine mop_c ?_ ?_; first | exact trivial | omega) | (refine dp_c ?_ ?_; first | exact trivial | omega)))
                refine dq_ld ((h17.cell 1 rfl i).trans (u32s_at t.list i (by simp [S8.list]; omega))) (by omega) ?_
                (repeat (first | (refine mop_c ?_ ?_; first | exact trivial | omega) | (refine dp_c ?_ ?_; first | exact trivial | omega)))
                refine df_st (j := i) h17 (by omega) (by rw [u32s_length]; omega) rfl (fun w18 h18 => ?_)
                refine dend_intro fun w19 hd19 => ?_
                have h19 := h18.drawn hd19
                (repeat (first | (refine mop_c ?_ ?_; first | exact trivial | omega) | (refine dp_c ?_ ?_; first | exact trivial | omega)))
                refine ⟨⟨i + 1, by omega, rfl, ?_⟩, by simp [intOf]; omega⟩
                rw [set_u32s, addK_at s0.list t.list i i (Nat.le_refl i)] at h19
                exact h19
              · obtain rfl : i = 8 := by omega
                (repeat (first | (refine mop_c ?_ ?_; first | exact trivial | omega) | (refine dp_c ?_ ?_; first | exact trivial | omega)))
                refine ⟨⟨j + 1, by omega, by simp only [Value.int.injEq, true_and]; omega, ?_⟩, by simp [intOf]; omega⟩
                have e10 := addK_end s0.list t rfl
                rw [s8_list, ← hbl] at e10
                rw [e10] at h17
                rw [← hS]
                exact h17.swap.drop.swap.drop
      · have hjN : 64 * j = M.length := by omega
        have hfin : feedAll (h0, []) M = (blocks M j, []) := by
          have := blocks_feed M j (by omega)
          rwa [hjN, List.take_length] at this
        rw [hfin]
        generalize blocks M j = y at h10
        have hy8 : y.list.length = 8 := rfl
        refine mop_new h10 (fun gu w11 h11 => ?_)
        refine ⟨fun x w2 => ∃ i : Nat, i ≤ 32 ∧ x = .int .i64 i ∧ St w [⟨gu, 33, u8s (fill (outAt y.list) 32 i), true⟩, ⟨gv, 162, u32s y.list, true⟩, ⟨gm, 5, u8s M ++ sp, true⟩, ⟨gk, 160, u32s kl, true⟩, ⟨go, 33, List.replicate 32 (.int .u8 0), true⟩] w2,
          fun x _ => 32 - (intOf x).toNat, ⟨0, by omega, rfl, h11⟩, ?_⟩
        clear h10 h11
        rintro x u4 w12 ⟨i, hi, rfl, h12⟩
        (repeat (first | (refine mop_c ?_ ?_; first | exact trivial | omega) | (refine dp_c ?_ ?_; first | exact trivial | omega)))
        refine mif_dec (fun hlt2 => ?_) (fun hge2 => ?_)
        · (repeat (first | (refine mop_c ?_ ?_; first | exact trivial | omega) | (refine dp_c ?_ ?_; first | exact trivial | omega)))
          refine mop_ld ((h12.cell 1 rfl (i / 4)).trans (u32s_at y.list (i / 4) (by omega))) (by omega) ?_
          (repeat (first | (refine mop_c ?_ ?_; first | exact trivial | omega) | (refine dp_c ?_ ?_; first | exact trivial | omega)))
          refine mop_st (j := i) h12 (by omega) (by rw [u8s_length, fill_length _ _ _ hi]; omega) rfl (fun w13 h13 => ?_)
          (repeat (first | (refine mop_c ?_ ?_; first | exact trivial | omega) | (refine dp_c ?_ ?_; first | exact trivial | omega)))
          refine ⟨⟨i + 1, by omega, rfl, ?_⟩, by simp [intOf]; omega⟩
          rw [← fill_set _ _ _ (by omega), ← set_u8s]
          have e : outAt y.list i = y.list.getD (i / 4) 0 / 2 ^ (((24 : Int) - 8 * ((i : Int) % 4)) % 18446744073709551616).toNat % 256 := by
            unfold outAt
            congr 3
            omega
          rw [e]
          exact h13
        · obtain rfl : i = 32 := by omega
          have hf : fill (outAt y.list) 32 32 = outB y := by simp [fill, outB]
          rw [hf] at h12
          have hol : (u8s (outB y)).length = 32 := by simp [outB, u8s]
          refine mop_ldN (cells_of_row h12.head) hol rfl ?_
          have h13 := h12.drop.drop.drop.drop
          refine mop_storeN (q := true) (k := 32) (by kernel_rfl) h13 (by simpa [Value.cells] using hol) (by intro u hu; exact u8s_one _ u hu) (by simp) (fun w14 h14 => ?_)
          have e : lay (List.replicate 32 (Value.int .u8 0)) (Value.agg (u8s (outB y)).toArray).cells.toList 0 = u8s (outB y) := lay_all _ _ (by show (u8s (outB y)).length = _; rw [hol]; simp)
          rw [e] at h14
          refine rcell_ldN (cells_of_row h14.head) hol ?_
          exact ⟨rfl, h14.drop⟩
end Go.Proofs.YtpjodlnlmaaihaaGreat
namespace Go.Proofs.YtpjodlnlmaaihaaGreat
open Go.RowKit
theorem buildstr (s : ByteArray) (w : World) : (o_buildSlice 70 1 [(0, .string s)]).run Tryz.prog w = .ok (.value (.slice (some ⟨w.heap.size, 0, none⟩) 1 1)) (w.alloc (.cells [Value.string s].toArray 9)) := by kernel_rfl
theorem sum_one (s : ByteArray) (w : World) (hsz : s.size < 4611686018427387904) : Calls Tryz.prog 80 #[.slice (some ⟨w.heap.size, 0, none⟩) 1 1] (w.alloc (.cells [Value.string s].toArray 9)) fun e w' => e = .returned (hv (shaSum (ints s))) ∧ St w [] w' := by
  have h := sum_ok (some ⟨w.heap.size, 0, none⟩) [s] 1 (w.alloc (.cells [Value.string s].toArray 9)) (rd_new w [Value.string s] 9) (by simp) (by simpa [cat, ints_length] using hsz)
  refine h.mono ?_
  rintro e w' ⟨rfl, h'⟩
  refine ⟨by simp [cat], ?_⟩
  have := (St.nil w).alloc 9 [.string s]
  exact this.drop.call0 h'
theorem strOfNums_append (a b : List Int) : strOfNums a ++ strOfNums b = strOfNums (a ++ b) := by
  apply ByteArray.ext
  simp [strOfNums]
theorem St.ext {w w' : World} {L : List Bk} (h : St w L w') (hn : ∀ b ∈ L, b.nw = true) : Ext w w' :=
  h.only.mono (fun i _ hi => by
    obtain ⟨b, hb, h2, _⟩ := hi
    rw [hn b hb] at h2
    cases h2)
theorem St.ext0 {w w' : World} (h : St w [] w') : Ext w w' := h.ext (fun _ h => by cases h)
theorem p_index_str (s : ByteArray) (i : Int) (h0 : 0 ≤ i) (h1 : i < s.size) : Pur Tryz.prog (o_index 9 (.string s) (.int .i64 i)) (.int .u8 ((ints s).getD i.toNat 0)) := p_index_string (P := Tryz.prog) 9 s .i64 i (by kernel_rfl) h0 h1
end Go.Proofs.YtpjodlnlmaaihaaGreat
namespace Go.Proofs.YtpjodlnlmaaihaaGreat
open Go.RowKit
def xorB (c x : Int) : Int := bits .xor .u8 x c
def pad (l : List Int) : List Int := l ++ List.replicate (64 - l.length) 0
def kk (l : List Int) : List Int := if 64 < l.length then shaSum l else l
def hmac (k m : List Int) : List Int := shaSum ((pad (kk k)).map (xorB 92) ++ shaSum ((pad (kk k)).map (xorB 54) ++ m))
theorem hmac_length (k m : List Int) : (hmac k m).length = 32 := shaSum_length _
theorem hmac_range (k m : List Int) : ∀ x ∈ hmac k m, 0 ≤ x ∧ x < 256 := shaSum_range _
theorem kk_length (l : List Int) : (kk l).length ≤ 64 := by
  unfold kk
  split
  · rw [shaSum_length]; omega
  · omega
theorem pad_length (l : List Int) (h : l.length ≤ 64) : (pad l).length = 64 := by simp [pad]; omega
theorem xorB_range (c x : Int) : 0 ≤ xorB c x ∧ xorB c x < 256 := by
  have := bounds_u8 (wf_bits .xor .u8 x c)
  unfold xorB
  omega
theorem map_xor_range (c : Int) (l : List Int) : ∀ x ∈ l.map (xorB c), 0 ≤ x ∧ x < 256 := by
  intro x hx
  obtain ⟨y, _, rfl⟩ := List.mem_map.1 hx
  exact xorB_range c y
def xk (c : Int) (l : List Int) (i : Nat) : List Int := (l.take i).map (xorB c) ++ l.drop i
theorem xk_length (c : Int) (l : List Int) (i : Nat) : (xk c l i).length = l.length := by simp [xk]; omega
theorem xk_at (c : Int) (l : List Int) (i : Nat) (h : i < l.length) : (xk c l i).getD i 0 = l.getD i 0 := by
  have h1 : (l.take i).length = i := by simp; omega
  unfold xk List.getD
  rw [List.getElem?_append_right (by rw [List.length_map, h1]; omega), List.length_map, h1, Nat.sub_self, List.getElem?_drop]
  simp
theorem xk_set (c : Int) (l : List Int) (i : Nat) (h : i < l.length) : (xk c l i).set i (xorB c (l.getD i 0)) = xk c l (i + 1) := by
  unfold xk
  have h1 : (l.take i).length = i := by simp; omega
  rw [List.set_append, if_neg (by rw [List.length_map, h1]; omega), List.length_map, h1, Nat.sub_self, List.drop_eq_getElem_cons h, List.set_cons_zero, List.take_succ_eq_append_getElem h, List.map_append, List.append_assoc]
  simp [List.getD, h]
theorem xk_all (c : Int) (l : List Int) : xk c l l.length = l.map (xorB c) := by simp [xk]
theorem lay_pad (l : List Int) : lay (u8s (List.replicate 64 0)) (u8s l) 0 = u8s (pad l) := by
  unfold lay pad
  rw [u8s_append, u8s_length, List.take_zero, List.nil_append, Nat.zero_add]
  congr 1
  unfold u8s
  rw [← List.map_drop, List.drop_replicate]
theorem build2s (a b : ByteArray) (w : World) : (o_buildSlice 70 2 [(0, .string a), (1, .string b)]).run Tryz.prog w = .ok (.value (.slice (some ⟨w.heap.size, 0, none⟩) 2 2)) (w.alloc (.cells [Value.string a, .string b].toArray 9)) := by kernel_rfl
theorem RowSt.rd {w0 w : World} {e sz : Nat} {L : List Bk} {A : Option Addr} {n cap : Nat} {xs : List Value} (h : RowSt w0 e sz L A n cap xs w) : Rd w A xs := by
  rcases h.2 with ⟨rfl, rfl, rfl, _⟩ | ⟨g, sp, rfl, hst, _⟩
  · have := h.1
    rw [Nat.zero_mul] at this
    rw [List.eq_nil_of_length_eq_zero this]
    exact .inl rfl
  · refine .inr ⟨g, 0, rfl, ?_, fun j u hu => ?_⟩
    · exact hst.head.lt
    · rw [Nat.zero_add, hst.cell 0 rfl j]
      show (xs ++ sp)[j]? = some u
      rw [List.getElem?_append_left (List.getElem?_eq_some_iff.1 hu).1]
      exact hu
set_option maxRecDepth 100000 in
set_option maxHeartbeats 1000000 in
theorem code_ok (key : ByteArray) (A : Option Addr) (ss : List ByteArray) (c : Nat) (w : World) (hr : Rd w A (ss.map .string)) (hk : key.size < 1000000000000) (hss : ss.length < 1000000) (hsz : (cat ss).length < 1000000000000) :
    Calls Tryz.prog 123 #[.string key, .slice A ss.length c] w fun e w' => e = .returned (hv (hmac (ints key) (cat ss))) ∧ St w [] w' := by
  refine C_mac_Code ?_
  unfold F_mac_Code
  have z32 : (u8s (List.replicate 32 0)).length = 32 := by simp [u8s]
  refine mop_new (St.nil w) (fun r w1 h1 => ?_)
  have h1 : St w [⟨r, 34, u8s (List.replicate 32 0), true⟩] w1 := by simpa [u8s] using h1
  refine ⟨fun v w2 => ∃ k : ByteArray, v = .string k ∧ ints k = kk (ints key) ∧ St w [⟨r, 34, u8s (List.replicate 32 0), true⟩] w2, ?_, ?_⟩
  · (repeat (first | (refine mop_c ?_ ?_; first | exact trivial | omega) | (refine dp_c ?_ ?_; first | exact trivial | omega)))
    refine mif_dec (fun hlt => ?_) (fun hge => ?_)
    · refine mop_run (buildstr key w1) ?_
      refine mop_to (sum_one key w1 (by omega)) ?_
      rintro e w2 ⟨rfl, h2⟩
      have h2 := h1.call0 h2
      have h32 : (u8s (shaSum (ints key))).length = 32 := by rw [u8s_length, shaSum_length]
      refine mop_new h2 (fun g w3 h3 => ?_)
      refine mop_storeN (q := true) (k := 32) (by kernel_rfl) h3 (by simpa [hv, Value.cells] using h32) (by intro u hu; exact u8s_one _ u hu) (by simp) (fun w4 h4 => ?_)
      have e : lay (List.replicate 32 (Value.int .u8 0)) (hv (shaSum (ints key))).cells.toList 0 = u8s (shaSum (ints key)) := lay_all _ _ (by show (u8s (shaSum (ints key))).length = _; rw [h32]; simp)
      rw [e] at h4
      (repeat (first | (refine mop_c ?_ ?_; first | exact trivial | omega) | (refine dp_c ?_ ?_; first | exact trivial | omega)))
      refine mop_purW (pw_conv_bytes 99 9 5 g 0 32 _ (shaSum (ints key)) (by kernel_rfl) (by kernel_rfl) (by kernel_rfl) (shaSum_length _) (fun i hi => by rw [Nat.zero_add, h4.cell 0 rfl i]; exact u8s_at _ i (by rw [shaSum_length]; omega))) ?_
      refine ⟨_, rfl, ?_, h4.drop⟩
      rw [ints_str _ (shaSum_range _), kk, if_pos (by rw [ints_length]; omega)]
    · exact ⟨key, rfl, by rw [kk, if_neg (by rw [ints_length]; omega)], h1⟩
  · rintro v u w2 ⟨k, rfl, hk1, h2⟩
    clear h1
    have hkl : (ints k).length ≤ 64 := by rw [hk1]; exact kk_length _
    have hks : k.size ≤ 64 := by rwa [ints_length] at hkl
    have htk : (ints k).take (min k.size 64) = ints k := List.take_of_length_le (by rw [ints_length]; omega)
    obtain ⟨P, hP⟩ : ∃ P, P = pad (kk (ints key)) := ⟨_, rfl⟩
    have hPl : P.length = 64 := by rw [hP]; exact pad_length _ (kk_length _)
    have hlay : lay (u8s (List.replicate 64 0)) (u8s ((ints k).take (min k.size 64))) 0 = u8s P := by rw [htk, lay_pad, hk1, hP]
    have hm : hmac (ints key) (cat ss) = shaSum (P.map (xorB 92) ++ shaSum (P.map (xorB 54) ++ cat ss)) := by rw [hP]; rfl
    rw [hm]
    refine mop_new h2 (fun p w3 h3 => ?_)
    refine mop_new h3 (fun q w4 h4 => ?_)
    have h4 : St w [⟨q, 168, u8s (List.replicate 64 0), true⟩, ⟨p, 168, u8s (List.replicate 64 0), true⟩, ⟨r, 34, u8s (List.replicate 32 0), true⟩] w4 := by simpa [u8s] using h4
    clear h2 h3
    have z64 : (u8s (List.replicate 64 0)).length = 64 := by simp [u8s]
    (repeat (first | (refine mop_c ?_ ?_; first | exact trivial | omega) | (refine dp_c ?_ ?_; first | exact trivial | omega)))
    obtain ⟨w5, hr5, h5⟩ := run_copy_string (P := Tryz.prog) (o := 0) (m := 64) (c := 64) (s := k) (dT := 99) (sT := 9) (ty := 3) (e := 5) (ks := [false, false]) h4.swap (by kernel_rfl) (by kernel_rfl) (by rw [z64]; omega)
    rw [hlay] at h5
    refine mop_run hr5 ?_
    (repeat (first | (refine mop_c ?_ ?_; first | exact trivial | omega) | (refine dp_c ?_ ?_; first | exact trivial | omega)))
    obtain ⟨w6, hr6, h6⟩ := run_copy_string (P := Tryz.prog) (o := 0) (m := 64) (c := 64) (s := k) (dT := 99) (sT := 9) (ty := 3) (e := 5) (ks := [false, false]) h5.swap (by kernel_rfl) (by kernel_rfl) (by rw [z64]; omega)
    rw [hlay] at h6
    refine mop_run hr6 ?_
    clear h4 h5 hr5 hr6
    refine ⟨fun v w7 => ∃ i : Nat, i ≤ 64 ∧ v = .int .i64 i ∧ St w [⟨q, 168, u8s (xk 92 P i), true⟩, ⟨p, 168, u8s (xk 54 P i), true⟩, ⟨r, 34, u8s (List.replicate 32 0), true⟩] w7, fun v _ => 64 - (intOf v).toNat, ⟨0, by omega, rfl, by simpa [xk] using h6⟩, ?_⟩
    clear h6
    rintro v u w7 ⟨i, hi, rfl, h7⟩
    (repeat (first | (refine mop_c ?_ ?_; first | exact trivial | omega) | (refine dp_c ?_ ?_; first | exact trivial | omega)))
    refine mif_dec (fun hlt => ?_) (fun hge => ?_)
    · have hi' : i < 64 := by omega
      have c1 : ∀ w8 B C, St w (⟨q, 168, B, true⟩ :: ⟨p, 168, u8s (xk 54 P i), true⟩ :: C) w8 → w8.cell? ⟨p, i, none⟩ = some (.int .u8 (P.getD i 0)) := fun w8 B C h => by
        rw [h.cell 1 rfl i, ← xk_at 54 P i (by omega)]; exact u8s_at _ i (by rw [xk_length]; omega)
      have c2 : ∀ w8 B C, St w (B :: ⟨q, 168, u8s (xk 92 P i), true⟩ :: C) w8 → w8.cell? ⟨q, i, none⟩ = some (.int .u8 (P.getD i 0)) := fun w8 B C h => by
        rw [h.cell 1 rfl i, ← xk_at 92 P i (by omega)]; exact u8s_at _ i (by rw [xk_length]; omega)
      (repeat (first | (refine mop_c ?_ ?_; first | exact trivial | omega) | (refine dp_c ?_ ?_; first | exact trivial | omega)))
      refine mop_ld (c1 _ _ _ h7) (by omega) ?_
      (repeat (first | (refine mop_c ?_ ?_; first | exact trivial | omega) | (refine dp_c ?_ ?_; first | exact trivial | omega)))
      refine mop_st (j := i) h7.swap (by omega) (by rw [u8s_length, xk_length]; omega) rfl (fun w8 h8 => ?_)
      rw [set_u8s] at h8
      have h8 : St w (⟨p, 168, u8s (xk 54 P (i + 1)), true⟩ :: ⟨q, 168, u8s (xk 92 P i), true⟩ :: ⟨r, 34, u8s (List.replicate 32 0), true⟩ :: []) w8 := by
        rw [← xk_set 54 P i (by omega)]; exact h8
      (repeat (first | (refine mop_c ?_ ?_; first | exact trivial | omega) | (refine dp_c ?_ ?_; first | exact trivial | omega)))
      refine mop_ld (c2 _ _ _ h8) (by omega) ?_
      (repeat (first | (refine mop_c ?_ ?_; first | exact trivial | omega) | (refine dp_c ?_ ?_; first | exact trivial | omega)))
      refine mop_st (j := i) h8.swap (by omega) (by rw [u8s_length, xk_length]; omega) rfl (fun w9 h9 => ?_)
      rw [set_u8s] at h9
      have h9 : St w (⟨q, 168, u8s (xk 92 P (i + 1)), true⟩ :: ⟨p, 168, u8s (xk 54 P (i + 1)), true⟩ :: ⟨r, 34, u8s (List.replicate 32 0), true⟩ :: []) w9 := by
        rw [← xk_set 92 P i (by omega)]; exact h9
      (repeat (first | (refine mop_c ?_ ?_; first | exact trivial | omega) | (refine dp_c ?_ ?_; first | exact trivial | omega)))
      exact ⟨⟨i + 1, by omega, rfl, h9⟩, by simp [intOf]; omega⟩
    · obtain rfl : i = 64 := by omega
      have a1 : xk 54 P 64 = P.map (xorB 54) := by rw [← hPl]; exact xk_all 54 P
      have a2 : xk 92 P 64 = P.map (xorB 92) := by rw [← hPl]; exact xk_all 92 P
      rw [a1, a2] at h7
      have r1 := map_xor_range 54 P
      have r2 := map_xor_range 92 P
      have l1 : (P.map (xorB 54)).length = 64 := by rw [List.length_map, hPl]
      have l2 : (P.map (xorB 92)).length = 64 := by rw [List.length_map, hPl]
      generalize P.map (xorB 54) = X at h7 r1 l1 ⊢
      generalize P.map (xorB 92) = Y at h7 r2 l2 ⊢
      (repeat (first | (refine mop_c ?_ ?_; first | exact trivial | omega) | (refine dp_c ?_ ?_; first | exact trivial | omega)))
      refine mop_purW (pw_conv_bytes 99 9 5 p 0 64 _ X (by kernel_rfl) (by kernel_rfl) (by kernel_rfl) l1 (fun i hi => by rw [Nat.zero_add, h7.cell 1 rfl i]; exact u8s_at X i (by omega))) ?_
      refine mop_run (buildstr _ _) ?_
      have h8 := h7.alloc 9 [Value.string (strOfNums X)]
      have hrow : RowSt w 9 1 [⟨q, 168, u8s Y, true⟩, ⟨p, 168, u8s X, true⟩, ⟨r, 34, u8s (List.replicate 32 0), true⟩] (some ⟨w7.heap.size, 0, none⟩) 1 1 [Value.string (strOfNums X)] (w7.alloc (.cells [Value.string (strOfNums X)].toArray 9)) :=
        ⟨rfl, .inr ⟨w7.heap.size, [], rfl, h8, rfl, by omega, by unfold maxLen; omega⟩⟩
      have hsrc := src_of_rd (P := Tryz.prog) (size := 1) (tx := 70) (e' := 9) _ (by kernel_rfl) (A := A) (m := ss.length) (c := c) (news := ss.map .string) (by simp) ((h8.only.rd hr (fun b off _ h => by obtain ⟨b', hb, h2, _⟩ := h; simp at hb; rcases hb with rfl | rfl | rfl | rfl <;> cases h2))) (by intro u hu; obtain ⟨x, _, rfl⟩ := List.mem_map.1 hu; rfl)
      refine mop_append hrow hsrc (by unfold maxLen; omega) (by omega) (fun A' cap' w8 h9 => ?_)
      have hrd9 : Rd w8 A' ((strOfNums X :: ss).map .string) := h9.rd
      have hcat : cat (strOfNums X :: ss) = X ++ cat ss := by
        unfold cat
        rw [List.map_cons, List.flatten_cons, ints_str X r1]
      have hsum := sum_ok A' (strOfNums X :: ss) cap' w8 hrd9 (by simp; omega) (by rw [hcat, List.length_append]; omega)
      rw [hcat, List.length_cons, Nat.add_comm ss.length 1] at hsum
      refine mop_to hsum ?_
      rintro e w9 ⟨rfl, h10⟩
      have h10 := h9.base.call0 h10
      clear h7 h8 h9 hrow hsrc hsum hrd9
      obtain ⟨D, hD⟩ : ∃ D, D = shaSum (X ++ cat ss) := ⟨_, rfl⟩
      have rD := shaSum_range (X ++ cat ss)
      have lD := shaSum_length (X ++ cat ss)
      rw [← hD] at rD lD ⊢
      have hDl : (u8s D).length = 32 := by rw [u8s_length, lD]
      refine mop_new h10 (fun d w10 h11 => ?_)
      refine mop_storeN (q := true) (k := 32) (by kernel_rfl) h11 (by simpa [hv, Value.cells] using hDl) (by intro u hu; exact u8s_one _ u hu) (by simp) (fun w11 h12 => ?_)
      have e : lay (List.replicate 32 (Value.int .u8 0)) (hv D).cells.toList 0 = u8s D := lay_all _ _ (by show (u8s D).length = _; rw [hDl]; simp)
      rw [e] at h12
      (repeat (first | (refine mop_c ?_ ?_; first | exact trivial | omega) | (refine dp_c ?_ ?_; first | exact trivial | omega)))
      refine dq_pur (fun w3 hw => pw_conv_bytes 99 9 5 q 0 64 _ Y (by kernel_rfl) (by kernel_rfl) (by kernel_rfl) l2 (fun i hi => hw.cell (by rw [Nat.zero_add, h12.cell 1 rfl i]; exact u8s_at Y i (by omega)))) ?_
      (repeat (first | (refine mop_c ?_ ?_; first | exact trivial | omega) | (refine dp_c ?_ ?_; first | exact trivial | omega)))
      refine dq_pur (fun w3 hw => pw_conv_bytes 99 9 5 d 0 32 _ D (by kernel_rfl) (by kernel_rfl) (by kernel_rfl) lD (fun i hi => hw.cell (by rw [Nat.zero_add, h12.cell 0 rfl i]; exact u8s_at D i (by omega)))) ?_
      refine df_mop fun w12 hd12 => mop_run (build2s _ _ _) ⟨(fun e => by cases e), ?_⟩
      have h13 := (h12.drawn hd12)
      refine df_mop fun w13 hd13 => ?_
      have h14 := (h13.alloc 9 [Value.string (strOfNums Y), .string (strOfNums D)]).drawn hd13
      have hcat2 : cat [strOfNums Y, strOfNums D] = Y ++ D := by
        simp [cat, ints_str Y r2, ints_str D rD]
      have hsum := sum_ok (some ⟨w12.heap.size, 0, none⟩) [strOfNums Y, strOfNums D] 2 w13 (.inr ⟨w12.heap.size, 0, rfl, h14.head.lt, fun j u hu => by rw [Nat.zero_add, h14.cell 0 rfl j]; exact hu⟩) (by simp) (by rw [hcat2, List.length_append]; omega)
      rw [hcat2] at hsum
      refine mop_to hsum ?_
      rintro e w14 ⟨rfl, h15⟩
      have h15 := h14.drop.call0 h15
      refine ⟨(fun e => by cases e), ?_⟩
      refine df_mop fun w15 hd15 => ?_
      have h16 := (h15.drawn hd15).drop.drop.drop
      have hEl : (u8s (shaSum (Y ++ D))).length = 32 := by rw [u8s_length, shaSum_length]
      refine mop_storeN (q := true) (k := 32) (by kernel_rfl) h16 (by simpa [hv, Value.cells] using hEl) (by intro u hu; exact u8s_one _ u hu) (by rw [z32]; omega) (fun w17 h17 => ⟨(fun e => by cases e), ?_⟩)
      have e : lay (u8s (List.replicate 32 0)) (hv (shaSum (Y ++ D))).cells.toList 0 = u8s (shaSum (Y ++ D)) := lay_all _ _ (by show (u8s (shaSum (Y ++ D))).length = _; rw [hEl, z32])
      rw [e] at h17
      refine dend_intro fun w18 hd18 => ?_
      have h18 := h17.drawn hd18
      refine rcell_ldN (cells_of_row h18.head) hEl ?_
      exact ⟨rfl, h18.drop⟩
end Go.Proofs.YtpjodlnlmaaihaaGreat
namespace Go.Proofs.YtpjodlnlmaaihaaGreat
open Go.RowKit
end Go.Proofs.YtpjodlnlmaaihaaGreat
