/- The formulas of the bodies, printed by wip/hoas.py out of the loaded program; each is held against the body by the kernel. -/
import Derived.Test.YthnjpglpglbbkaaFBase
set_option linter.unusedVariables false
namespace Go.Proofs.Ythnjpglpglbbkaa

/-- bevy/bevylaw17.PleaOnce -/
def F_bevylaw17_PleaOnce (x0 : Value) (w : World) (R : Ending → World → Prop) : Prop :=
  mj1 (fun j2 =>
    m R (o_call (fv 60) []) w fun x17 w1 =>
    m R (o_un .not x17) w1 fun x18 w2 =>
    mguard x18 false (fun k => m R (o_move x0) w2 k) w2 fun x20 w3 =>
    mguard x18 false (fun k => m R (o_call (fv 61) [x20]) w3 k) w3 fun x21 w4 =>
    mguard x18 false (fun k => m R (o_un .not x21) w4 k) w4 fun x22 w5 =>
    m R (o_pick x18 (.bool true) x22) w5 fun x23 w6 =>
    j2 x23 w6) fun x23 u2 w7 =>
  mif x23 (
    m R (o_call (fv 60) []) w7 fun x24 w8 =>
    R (.returned x24) w8) (
    m R (o_call (fv 62) []) w7 fun x25 w9 =>
    ml1 (.int .i64 0) w9 fun x4 u5 w10 next5 =>
      m R (o_builtin .len #[112] 3 [false] [x0]) w10 fun x28 w11 =>
      m R (o_bin .lss 3 false x4 x28) w11 fun x29 w12 =>
      mif x29 (
        mj0 (fun j6 =>
          m R (o_indexAddr 112 x0 x4) w12 fun x34 w13 =>
          m R (o_load 120 x34) w13 fun x35 w14 =>
          m R (o_alloc 120) w14 fun x5 w15 =>
          m R (o_store 120 x5 x35) w15 fun _ w16 =>
          m R (o_fieldAddr 120 x5 0) w16 fun x36 w17 =>
          m R (o_load 5 x36) w17 fun x37 w18 =>
          m R (o_bin .rem 5 true x37 (.int .u8 3)) w18 fun x38 w19 =>
          m R (o_bin .eql 5 true x38 (.int .u8 0)) w19 fun x40 w20 =>
          mif x40 (
            m R (o_fieldAddr 120 x5 1) w20 fun x42 w21 =>
            m R (o_load 117 x42) w21 fun x43 w22 =>
            m R (o_fieldAddr 120 x5 2) w22 fun x44 w23 =>
            m R (o_load 30 x44) w23 fun x45 w24 =>
            m R (o_call (fv 63) [x25, x43, x45]) w24 fun x46 w25 =>
            j6 w25) (
            m R (o_bin .eql 5 true x38 (.int .u8 1)) w20 fun x48 w26 =>
            mif x48 (
              m R (o_call (fv 64) [x25]) w26 fun x50 w27 =>
              dp Try.prog (o_fieldAddr 120 x5 2) fun x52 =>
              dq Try.prog w27 (o_load 30 x52) fun x53 =>
              dp Try.prog (o_fieldAddr 120 x5 3) fun x54 =>
              dq Try.prog w27 (o_load 41 x54) fun x55 =>
              dp Try.prog (o_fieldAddr 120 x5 4) fun x56 =>
              dq Try.prog w27 (o_load 118 x56) fun x57 =>
              df Try.prog w27 (o_call (fv 66) [x57]) true fun x58 w28 =>
              df Try.prog w28 (o_call (fv 65) [x25, x53, x55, x58]) false fun x59 w29 =>
              dend w29 fun w30 =>
              dp Try.prog (o_fieldAddr 120 x5 2) fun x61 =>
              dq Try.prog w30 (o_load 30 x61) fun x62 =>
              dp Try.prog (o_fieldAddr 120 x5 3) fun x63 =>
              dq Try.prog w30 (o_load 41 x63) fun x64 =>
              dp Try.prog (o_fieldAddr 120 x5 4) fun x65 =>
              dq Try.prog w30 (o_load 118 x65) fun x66 =>
              df Try.prog w30 (o_call (fv 66) [x66]) true fun x67 w31 =>
              df Try.prog w31 (o_call (fv 65) [x25, x62, x64, x67]) false fun x68 w32 =>
              dp Try.prog (o_builtin .len #[123] 3 [false] [x68]) fun x69 =>
              dp Try.prog (o_bin .neq 3 true x69 (.int .i64 0)) fun x70 =>
              dend w32 fun w33 =>
              mif x70 (
                R (.returned (.bool false)) w33) (
                m R (o_call (fv 64) [x25]) w33 fun x72 w34 =>
                m R (o_call (fv 67) [x25]) w34 fun x74 w35 =>
                ml1 (.int .i64 0) w35 fun x10 u18 w36 next18 =>
                  m R (o_builtin .len #[123] 3 [false] [x50]) w36 fun x77 w37 =>
                  m R (o_bin .lss 3 false x10 x77) w37 fun x78 w38 =>
                  mif x78 (
                    ml2 (.int .i64 0) (.int .i64 0) w38 fun x11 x14 u22 w39 next22 =>
                      m R (o_builtin .len #[123] 3 [false] [x59]) w39 fun x83 w40 =>
                      m R (o_bin .lss 3 false x14 x83) w40 fun x84 w41 =>
                      mif x84 (
                        mj1 (fun j23 =>
                          dp Try.prog (o_indexAddr 123 x59 x14) fun x89 =>
                          dp Try.prog (o_fieldAddr 129 x89 0) fun x90 =>
                          dq Try.prog w41 (o_load 3 x90) fun x91 =>
                          dp Try.prog (o_indexAddr 123 x50 x10) fun x94 =>
                          dp Try.prog (o_fieldAddr 129 x94 0) fun x95 =>
                          dq Try.prog w41 (o_load 3 x95) fun x96 =>
                          dp Try.prog (o_bin .eql 3 false x91 x96) fun x97 =>
                          dend w41 fun w42 =>
                          mif x97 (
                            m R (o_bin .add 3 true x11 (.int .i64 1)) w42 fun x99 w43 =>
                            j23 x99 w43) (
                            j23 x11 w42)) fun x11 u23 w44 =>
                        m R (o_bin .add 3 true x14 (.int .i64 1)) w44 fun x86 w45 =>
                        next22 x11 x86 w45) (
                        ml2 (.bool false) (.int .i64 0) w41 fun x12 x15 u27 w46 next27 =>
                          m R (o_builtin .len #[123] 3 [false] [x72]) w46 fun x102 w47 =>
                          m R (o_bin .lss 3 false x15 x102) w47 fun x103 w48 =>
                          mif x103 (
                            mj1 (fun j28 =>
                              qguard x12 false (fun k => dp Try.prog (o_move x72) k) fun x108 =>
                              qguard x12 false (fun k => dp Try.prog (o_move x15) k) fun x109 =>
                              qguard x12 false (fun k => dp Try.prog (o_indexAddr 123 x108 x109) k) fun x110 =>
                              qguard x12 false (fun k => dp Try.prog (o_fieldAddr 129 x110 0) k) fun x111 =>
                              qguard x12 false (fun k => dq Try.prog w48 (o_load 3 x111) k) fun x112 =>
                              qguard x12 false (fun k => dp Try.prog (o_move x50) k) fun x113 =>
                              qguard x12 false (fun k => dp Try.prog (o_move x10) k) fun x114 =>
                              qguard x12 false (fun k => dp Try.prog (o_indexAddr 123 x113 x114) k) fun x115 =>
                              qguard x12 false (fun k => dp Try.prog (o_fieldAddr 129 x115 0) k) fun x116 =>
                              qguard x12 false (fun k => dq Try.prog w48 (o_load 3 x116) k) fun x117 =>
                              qguard x12 false (fun k => dp Try.prog (o_bin .eql 3 false x112 x117) k) fun x118 =>
                              qguard x12 false (fun k => dp Try.prog (o_move x118) k) fun x119 =>
                              qguard x119 true (fun k => dp Try.prog (o_move x72) k) fun x120 =>
                              qguard x119 true (fun k => dp Try.prog (o_move x15) k) fun x121 =>
                              qguard x119 true (fun k => dp Try.prog (o_indexAddr 123 x120 x121) k) fun x122 =>
                              qguard x119 true (fun k => dp Try.prog (o_fieldAddr 129 x122 2) k) fun x123 =>
                              qguard x119 true (fun k => dq Try.prog w48 (o_load 30 x123) k) fun x124 =>
                              qguard x119 true (fun k => dp Try.prog (o_fieldAddr 120 x5 2) k) fun x125 =>
                              qguard x119 true (fun k => dq Try.prog w48 (o_load 30 x125) k) fun x126 =>
                              qguard x119 true (fun k => dp Try.prog (o_bin .eql 30 false x124 x126) k) fun x127 =>
                              qguard x119 true (fun k => dp Try.prog (o_move x127) k) fun x128 =>
                              qguard x128 false (fun k => dp Try.prog (o_fieldAddr 120 x5 3) k) fun x129 =>
                              qguard x128 false (fun k => dq Try.prog w48 (o_load 41 x129) k) fun x130 =>
                              qguard x128 false (fun k => dp Try.prog (o_move x50) k) fun x131 =>
                              qguard x128 false (fun k => dp Try.prog (o_move x10) k) fun x132 =>
                              qguard x128 false (fun k => dp Try.prog (o_indexAddr 123 x131 x132) k) fun x133 =>
                              qguard x128 false (fun k => dp Try.prog (o_fieldAddr 129 x133 0) k) fun x134 =>
                              qguard x128 false (fun k => dq Try.prog w48 (o_load 3 x134) k) fun x135 =>
                              mguard x128 false (fun k => df Try.prog w48 (o_call (fv 68) [x130, x135]) false k) w48 fun x136 w49 =>
                              qguard x119 true (fun k => dp Try.prog (o_pick x128 (.bool true) x136) k) fun x137 =>
                              qguard x12 false (fun k => dp Try.prog (o_pick x119 x137 (.bool false)) k) fun x138 =>
                              dp Try.prog (o_pick x12 (.bool true) x138) fun x139 =>
                              dend w49 fun w50 =>
                              j28 x139 w50) fun x12 u28 w51 =>
                            m R (o_bin .add 3 true x15 (.int .i64 1)) w51 fun x105 w52 =>
                            next27 x12 x105 w52) (
                            ml2 (.bool false) (.int .i64 0) w48 fun x13 x16 u31 w53 next31 =>
                              m R (o_builtin .len #[123] 3 [false] [x74]) w53 fun x142 w54 =>
                              m R (o_bin .lss 3 false x16 x142) w54 fun x143 w55 =>
                              mif x143 (
                                mj1 (fun j32 =>
                                  qguard x13 false (fun k => dp Try.prog (o_move x74) k) fun x148 =>
                                  qguard x13 false (fun k => dp Try.prog (o_move x16) k) fun x149 =>
                                  qguard x13 false (fun k => dp Try.prog (o_indexAddr 123 x148 x149) k) fun x150 =>
                                  qguard x13 false (fun k => dp Try.prog (o_fieldAddr 129 x150 0) k) fun x151 =>
                                  qguard x13 false (fun k => dq Try.prog w55 (o_load 3 x151) k) fun x152 =>
                                  qguard x13 false (fun k => dp Try.prog (o_move x50) k) fun x153 =>
                                  qguard x13 false (fun k => dp Try.prog (o_move x10) k) fun x154 =>
                                  qguard x13 false (fun k => dp Try.prog (o_indexAddr 123 x153 x154) k) fun x155 =>
                                  qguard x13 false (fun k => dp Try.prog (o_fieldAddr 129 x155 0) k) fun x156 =>
                                  qguard x13 false (fun k => dq Try.prog w55 (o_load 3 x156) k) fun x157 =>
                                  qguard x13 false (fun k => dp Try.prog (o_bin .eql 3 false x152 x157) k) fun x158 =>
                                  qguard x13 false (fun k => dp Try.prog (o_move x158) k) fun x159 =>
                                  qguard x159 true (fun k => dp Try.prog (o_move x74) k) fun x160 =>
                                  qguard x159 true (fun k => dp Try.prog (o_move x16) k) fun x161 =>
                                  qguard x159 true (fun k => dp Try.prog (o_indexAddr 123 x160 x161) k) fun x162 =>
                                  qguard x159 true (fun k => dp Try.prog (o_fieldAddr 129 x162 3) k) fun x163 =>
                                  qguard x159 true (fun k => dq Try.prog w55 (o_load 25 x163) k) fun x164 =>
                                  qguard x159 true (fun k => dp Try.prog (o_bin .neq 25 true x164 (.int .i64 0)) k) fun x165 =>
                                  qguard x13 false (fun k => dp Try.prog (o_pick x159 x165 (.bool false)) k) fun x166 =>
                                  dp Try.prog (o_pick x13 (.bool true) x166) fun x167 =>
                                  dend w55 fun w56 =>
                                  j32 x167 w56) fun x13 u32 w57 =>
                                m R (o_bin .add 3 true x16 (.int .i64 1)) w57 fun x145 w58 =>
                                next31 x13 x145 w58) (
                                mj1 (fun j35 =>
                                  m R (o_bin .gtr 3 true x11 (.int .i64 1)) w55 fun x169 w59 =>
                                  mguard x169 false (fun k => m R (o_move x12) w59 k) w59 fun x171 w60 =>
                                  mguard x169 false (fun k => m R (o_move x13) w60 k) w60 fun x172 w61 =>
                                  mguard x169 false (fun k => m R (o_bin .eql 4 false x171 x172) w61 k) w61 fun x173 w62 =>
                                  m R (o_pick x169 (.bool true) x173) w62 fun x174 w63 =>
                                  j35 x174 w63) fun x174 u35 w64 =>
                                mif x174 (
                                  R (.returned (.bool false)) w64) (
                                  m R (o_bin .add 3 true x10 (.int .i64 1)) w64 fun x80 w65 =>
                                  next18 x80 w65))))) (
                    j6 w38))) (
              m R (o_bin .eql 5 true x38 (.int .u8 2)) w26 fun x176 w66 =>
              mif x176 (
                m R (o_fieldAddr 120 x5 3) w66 fun x178 w67 =>
                m R (o_load 41 x178) w67 fun x179 w68 =>
                m R (o_call (fv 69) [x25, x179]) w68 fun x180 w69 =>
                j6 w69) (
                j6 w66)))) fun u6 w70 =>
        m R (o_bin .add 3 true x4 (.int .i64 1)) w70 fun x31 w71 =>
        next5 x31 w71) (
        R (.returned (.bool true)) w12))
def A_bevylaw17_PleaOnce : Ann := ⟨[(5, [4], 3064991081731777716716694054300618367237478244300226548), (18, [10], 47890485652059026823698344598409383056222640406658052), (22, [11, 14], 1267648182376590172238353811456), (27, [12, 15], 1393796574906896295745754162639025890955264), (31, [13, 16], 374144417762914572151979370829386060991396136951808)], [(2, [23], 16646144), (6, [], 3064991081731777716716694054300618367237478240072368100), (23, [11], 1267495857723318728962340816896), (28, [12], 1393796574827034307931375710344733588983808), (32, [13], 374144329953730352937650751032495362438472707088384), (35, [174], 47516341232902315676638201281271793535053678837235712)], [(13, [⟨0, .q none, 8, 0, 2251799813685248⟩, ⟨1, .q none, 32, 0, 4503599627370496⟩, ⟨2, .q (some 0), 4503599627370496, 2, 9007199254740992⟩, ⟨3, .q none, 32, 0, 18014398509481984⟩, ⟨4, .q (some 0), 18014398509481984, 8, 36028797018963968⟩, ⟨5, .q none, 32, 0, 72057594037927936⟩, ⟨6, .q (some 0), 72057594037927936, 32, 144115188075855872⟩, ⟨7, .f 0 true, 144115188075855872, 96, 288230376151711744⟩, ⟨8, .f 1 false, 335518172239101952, 255, 576460752303423488⟩, ⟨9, .q none, 576460752303423488, 511, 128⟩]), (14, [⟨0, .q none, 8, 0, 1152921504606846976⟩, ⟨1, .q none, 32, 0, 2305843009213693952⟩, ⟨2, .q (some 0), 2305843009213693952, 2, 4611686018427387904⟩, ⟨3, .q none, 32, 0, 9223372036854775808⟩, ⟨4, .q (some 0), 9223372036854775808, 8, 18446744073709551616⟩, ⟨5, .q none, 32, 0, 36893488147419103232⟩, ⟨6, .q (some 0), 36893488147419103232, 32, 73786976294838206464⟩, ⟨7, .f 0 true, 73786976294838206464, 96, 147573952589676412928⟩, ⟨8, .f 1 false, 171785304186420199424, 255, 295147905179352825856⟩, ⟨9, .q none, 295147905179352825856, 511, 590295810358705651712⟩, ⟨10, .q none, 590295810358705651712, 1023, 1180591620717411303424⟩]), (24, [⟨0, .q none, 128, 0, 154742504910672534362390528⟩, ⟨1, .q none, 16384, 0, 309485009821345068724781056⟩, ⟨2, .q none, 464227514732017603087171584, 3, 618970019642690137449562112⟩, ⟨3, .q none, 618970019642690137449562112, 7, 1237940039285380274899124224⟩, ⟨4, .q (some 0), 1237940039285380274899124224, 15, 2475880078570760549798248448⟩, ⟨5, .q none, 64, 0, 4951760157141521099596496896⟩, ⟨6, .q none, 1024, 0, 9903520314283042199192993792⟩, ⟨7, .q none, 14855280471424563298789490688, 96, 19807040628566084398385987584⟩, ⟨8, .q none, 19807040628566084398385987584, 224, 39614081257132168796771975168⟩, ⟨9, .q (some 0), 39614081257132168796771975168, 480, 79228162514264337593543950336⟩, ⟨10, .q none, 81704042592835098143342198784, 1023, 158456325028528675187087900672⟩]), (29, [⟨0, .q none, 4096, 0, 81129638414606681695789005144064⟩, ⟨1, .q none, 81129638414606681695789005144064, 1, 162259276829213363391578010288128⟩, ⟨2, .q none, 162259276829213363391578010288384, 3, 324518553658426726783156020576256⟩, ⟨3, .q none, 162259276829213363391578010320896, 3, 649037107316853453566312041152512⟩, ⟨4, .q none, 1135814937804493543741046072016896, 15, 1298074214633706907132624082305024⟩, ⟨5, .q none, 1460333491462920270524202092593152, 31, 2596148429267413814265248164610048⟩, ⟨6, .q (some 0), 2758407706096627177656826174898176, 63, 5192296858534827628530496329220096⟩, ⟨7, .q none, 162259276829213363391578010288192, 3, 10384593717069655257060992658440192⟩, ⟨8, .q none, 162259276829213363391578010289152, 3, 20769187434139310514121985316880384⟩, ⟨9, .q none, 31316040428038179134574555985608704, 387, 41538374868278621028243970633760768⟩, ⟨10, .q none, 41700634145107834391635548644048896, 899, 83076749736557242056487941267521536⟩, ⟨11, .q (some 0), 83239009013386455419879519277809664, 1923, 166153499473114484112975882535043072⟩, ⟨12, .q none, 171508055608478525104897956874551296, 4095, 332306998946228968225951765070086144⟩, ⟨13, .q none, 332469258223058181589343343080374272, 8191, 664613997892457936451903530140172288⟩, ⟨14, .q none, 664613997892457936451903530140172544, 16383, 1329227995784915872903807060280344576⟩, ⟨15, .q none, 664613997892457936451903530140205056, 16383, 2658455991569831745807614120560689152⟩, ⟨16, .q none, 4652297985247205555163324710981206016, 65535, 5316911983139663491615228241121378304⟩, ⟨17, .q none, 5981525981032121428067131771261550592, 131071, 10633823966279326983230456482242756608⟩, ⟨18, .q (some 0), 11298437964171784919682360012382928896, 262143, 21267647932558653966460912964485513216⟩, ⟨19, .q none, 664613997892457936451903530140172320, 16383, 42535295865117307932921825928971026432⟩, ⟨20, .q (some 0), 43199909863009765869373729459111198720, 540671, 85070591730234615865843651857942052864⟩, ⟨21, .q none, 107002853660685727768756468352567738368, 2097151, 170141183460469231731687303715884105728⟩, ⟨22, .q none, 170805797458361689668139207246024278016, 4194303, 340282366920938463463374607431768211456⟩, ⟨23, .q none, 340282366920938463463374607431768211488, 8388607, 680564733841876926926749214863536422912⟩, ⟨24, .q (some 0), 1020847100762815390390123822295304634368, 16777215, 1361129467683753853853498429727072845824⟩, ⟨25, .q none, 340282366920938463463374607431768211520, 8388607, 2722258935367507707706996859454145691648⟩, ⟨26, .q none, 340282366920938463463374607431768212480, 8388607, 5444517870735015415413993718908291383296⟩, ⟨27, .q none, 8507059173023461586584365185794205286400, 109051903, 10889035741470030830827987437816582766592⟩, ⟨28, .q none, 11229318108390969294291362045248350978048, 243269631, 21778071482940061661655974875633165533184⟩, ⟨29, .q (some 0), 22118353849861000125119349483064933744640, 511705087, 43556142965880123323311949751266331066368⟩, ⟨30, .f 0 false, 45257554800484815640628822788425172123648, 1073741823, 87112285931760246646623899502532662132736⟩, ⟨31, .q none, 87453232912679077568023726013494570516480, 2147483647, 174224571863520493293247799005065324265472⟩, ⟨32, .q none, 174225236639777662580397614300173474725888, 4294967295, 348449143727040986586495598010130648530944⟩, ⟨33, .q none, 348449143889300263415708961401708658819072, 8589934591, 696898287454081973172991196020261297061888⟩, ⟨34, .q none, 696898287454081973172991196020261297061888, 17179869183, 4096⟩]), (33, [⟨0, .q none, 8192, 0, 89202980794122492566142873090593446023921664⟩, ⟨1, .q none, 89202980794122492566142873090593446023921664, 1, 178405961588244985132285746181186892047843328⟩, ⟨2, .q none, 178405961588244985132285746181186892047843840, 3, 356811923176489970264571492362373784095686656⟩, ⟨3, .q none, 178405961588244985132285746181186892047908864, 3, 713623846352979940529142984724747568191373312⟩, ⟨4, .q none, 1248841731117714895926000223268308244334903296, 15, 1427247692705959881058285969449495136382746624⟩, ⟨5, .q none, 1605653654294204866190571715630682028430589952, 31, 2854495385411919762116571938898990272765493248⟩, ⟨6, .q (some 0), 3032901347000164747248857685080177164813336576, 63, 5708990770823839524233143877797980545530986496⟩, ⟨7, .q none, 178405961588244985132285746181186892047843392, 3, 11417981541647679048466287755595961091061972992⟩, ⟨8, .q none, 178405961588244985132285746181186892047844352, 3, 22835963083295358096932575511191922182123945984⟩, ⟨9, .q none, 34432350586531282130531149012969070165233762304, 387, 45671926166590716193865151022383844364247891968⟩, ⟨10, .q none, 45850332128178961178997436768565031256295735296, 899, 91343852333181432387730302044767688728495783936⟩, ⟨11, .q (some 0), 91522258294769677372862587790948875620543627264, 1923, 182687704666362864775460604089535377456991567872⟩, ⟨12, .q none, 188575101398774949284826033713514544894570397696, 4095, 365375409332725729550921208179070754913983135744⟩, ⟨13, .q none, 365553815294313974536053493925251941806030979072, 8191, 730750818665451459101842416358141509827966271488⟩, ⟨14, .q none, 730750818665451459101842416358141509827966272000, 16383, 1461501637330902918203684832716283019655932542976⟩, ⟨15, .q none, 730750818665451459101842416358141509827966337024, 16383, 2923003274661805836407369665432566039311865085952⟩, ⟨16, .q none, 5115255730658160213712896914506990568795763900416, 65535, 5846006549323611672814739330865132078623730171904⟩, ⟨17, .q none, 6576757367989063131916581747223273588451696443392, 131071, 11692013098647223345629478661730264157247460343808⟩, ⟨18, .q (some 0), 12422763917312674804731321078088405667075426615296, 262143, 23384026197294446691258957323460528314494920687616⟩, ⟨19, .q none, 24114777015959898150360799739818669824322886959104, 524287, 46768052394588893382517914646921056628989841375232⟩, ⟨20, .q none, 47498981619215933086604889349025379325709855490048, 1048575, 93536104789177786765035829293842113257979682750464⟩, ⟨21, .q none, 93536283195139375010020961579588294444871730593792, 2097151, 187072209578355573530071658587684226515959365500928⟩, ⟨22, .q none, 187072209578355573530071658587684226515959365500928, 4194303, 8192⟩])], [], []⟩
theorem E_bevylaw17_PleaOnce (x0 : Value) (w : World) (R : Ending → World → Prop) : cwp Try.prog A_bevylaw17_PleaOnce (Try.f11.body.getD .skip) (retPost Try.prog Try.f11.results.toList R) (argE [x0]) w = F_bevylaw17_PleaOnce x0 w R := by kernel_rfl
theorem C_bevylaw17_PleaOnce {x0 : Value} {w : World} {R : Ending → World → Prop} (h : F_bevylaw17_PleaOnce x0 w R) : Calls Try.prog 11 #[x0] w R :=
  calls_cwp (A := A_bevylaw17_PleaOnce) (args := [x0]) mixed Try.func11 (c := Try.f11.body.getD .skip) (by kernel_rfl) (by kernel_rfl) (by kernel_rfl) ((E_bevylaw17_PleaOnce x0 w R).mpr h)

/-- bevy/bevylaw17.PleaNil -/
def F_bevylaw17_PleaNil (x0 : Value) (w : World) (R : Ending → World → Prop) : Prop :=
  m R (o_box 120 x0) w fun x1 w1 =>
  m R (o_fieldAddr 120 x1 3) w1 fun x6 w2 =>
  m R (o_load 41 x6) w2 fun x7 w3 =>
  m R (o_builtin .len #[41] 3 [false] [x7]) w3 fun x8 w4 =>
  m R (o_bin .gtr 3 true x8 (.int .i64 100)) w4 fun x9 w5 =>
  mif x9 (
    m R (o_call (fv 60) []) w5 fun x10 w6 =>
    R (.returned x10) w6) (
    m R (o_fieldAddr 120 x1 1) w5 fun x13 w7 =>
    m R (o_load 117 x13) w7 fun x14 w8 =>
    m R (o_fieldAddr 120 x1 2) w8 fun x15 w9 =>
    m R (o_load 30 x15) w9 fun x16 w10 =>
    m R (o_call (fv 63) [(.pointer none), x14, x16]) w10 fun x17 w11 =>
    m R (o_extract x17 0) w11 fun x18 w12 =>
    m R (o_extract x17 1) w12 fun x19 w13 =>
    m R (o_fieldAddr 120 x1 3) w13 fun x21 w14 =>
    m R (o_load 41 x21) w14 fun x22 w15 =>
    m R (o_call (fv 69) [(.pointer none), x22]) w15 fun x23 w16 =>
    df Try.prog w16 (o_call (fv 60) []) false fun x24 w17 =>
    qguard x24 true (fun k => dp Try.prog (o_move x18) k) fun x26 =>
    qguard x24 true (fun k => dp Try.prog (o_bin .eql 3 true x26 (.int .i64 0)) k) fun x27 =>
    dp Try.prog (o_pick x24 x27 (.bool false)) fun x28 =>
    qguard x28 true (fun k => dp Try.prog (o_move x19) k) fun x30 =>
    qguard x28 true (fun k => dp Try.prog (o_bin .eql 25 true x30 (.int .i64 1)) k) fun x31 =>
    dp Try.prog (o_pick x28 x31 (.bool false)) fun x32 =>
    qguard x32 true (fun k => dp Try.prog (o_move (.pointer none)) k) fun x34 =>
    qguard x32 true (fun k => dp Try.prog (o_fieldAddr 120 x1 2) k) fun x35 =>
    qguard x32 true (fun k => dq Try.prog w17 (o_load 30 x35) k) fun x36 =>
    qguard x32 true (fun k => dp Try.prog (o_fieldAddr 120 x1 3) k) fun x37 =>
    qguard x32 true (fun k => dq Try.prog w17 (o_load 41 x37) k) fun x38 =>
    qguard x32 true (fun k => dp Try.prog (o_fieldAddr 120 x1 4) k) fun x39 =>
    qguard x32 true (fun k => dq Try.prog w17 (o_load 118 x39) k) fun x40 =>
    mguard x32 true (fun k => df Try.prog w17 (o_call (fv 66) [x40]) true k) w17 fun x41 w18 =>
    mguard x32 true (fun k => df Try.prog w18 (o_call (fv 65) [x34, x36, x38, x41]) false k) w18 fun x42 w19 =>
    qguard x32 true (fun k => dp Try.prog (o_builtin .len #[123] 3 [false] [x42]) k) fun x43 =>
    qguard x32 true (fun k => dp Try.prog (o_bin .eql 3 true x43 (.int .i64 0)) k) fun x44 =>
    dp Try.prog (o_pick x32 x44 (.bool false)) fun x45 =>
    qguard x45 true (fun k => dp Try.prog (o_move (.pointer none)) k) fun x47 =>
    mguard x45 true (fun k => df Try.prog w19 (o_call (fv 64) [x47]) false k) w19 fun x48 w20 =>
    qguard x45 true (fun k => dp Try.prog (o_builtin .len #[123] 3 [false] [x48]) k) fun x49 =>
    qguard x45 true (fun k => dp Try.prog (o_bin .eql 3 true x49 (.int .i64 0)) k) fun x50 =>
    dp Try.prog (o_pick x45 x50 (.bool false)) fun x51 =>
    qguard x51 true (fun k => dp Try.prog (o_move (.pointer none)) k) fun x53 =>
    mguard x51 true (fun k => df Try.prog w20 (o_call (fv 67) [x53]) false k) w20 fun x54 w21 =>
    qguard x51 true (fun k => dp Try.prog (o_builtin .len #[123] 3 [false] [x54]) k) fun x55 =>
    qguard x51 true (fun k => dp Try.prog (o_bin .eql 3 true x55 (.int .i64 0)) k) fun x56 =>
    dp Try.prog (o_pick x51 x56 (.bool false)) fun x57 =>
    qguard x57 true (fun k => dp Try.prog (o_move (.pointer none)) k) fun x59 =>
    mguard x57 true (fun k => df Try.prog w21 (o_call (fv 70) [x59]) false k) w21 fun x60 w22 =>
    qguard x57 true (fun k => dp Try.prog (o_bin .eql 3 true x60 (.int .i64 0)) k) fun x61 =>
    dp Try.prog (o_pick x57 x61 (.bool false)) fun x62 =>
    dend w22 fun w23 =>
    R (.returned x62) w23)
def A_bevylaw17_PleaNil : Ann := ⟨[], [], [(6, [⟨0, .f 0 false, 0, 0, 16777216⟩, ⟨1, .q none, 16777216, 1, 33554432⟩, ⟨2, .q none, 33554448, 3, 67108864⟩, ⟨3, .q none, 100663296, 7, 134217728⟩, ⟨4, .q none, 167772160, 15, 268435456⟩, ⟨5, .q none, 268435456, 31, 536870912⟩, ⟨6, .q none, 536870944, 63, 1073741824⟩, ⟨7, .q none, 1610612736, 127, 2147483648⟩, ⟨8, .q none, 2684354560, 255, 4294967296⟩, ⟨9, .q none, 4294967296, 511, 8589934592⟩, ⟨10, .q none, 8589934600, 1023, 17179869184⟩, ⟨11, .q none, 8589934594, 1023, 34359738368⟩, ⟨12, .q (some 1), 42949672960, 3071, 68719476736⟩, ⟨13, .q none, 8589934594, 1023, 137438953472⟩, ⟨14, .q (some 1), 146028888064, 9215, 274877906944⟩, ⟨15, .q none, 8589934594, 1023, 549755813888⟩, ⟨16, .q (some 1), 558345748480, 33791, 1099511627776⟩, ⟨17, .f 1 true, 1108101562368, 99327, 2199023255552⟩, ⟨18, .f 2 false, 2568390443008, 262143, 4398046511104⟩, ⟨19, .q none, 4406636445696, 524287, 8796093022208⟩, ⟨20, .q none, 8804682956800, 1048575, 17592186044416⟩, ⟨21, .q none, 17600775979008, 2097151, 35184372088832⟩, ⟨22, .q none, 35184372088832, 4194303, 70368744177664⟩, ⟨23, .q none, 70368744177672, 8388607, 140737488355328⟩, ⟨24, .f 3 false, 211106232532992, 16777215, 281474976710656⟩, ⟨25, .q none, 351843720888320, 33554431, 562949953421312⟩, ⟨26, .q none, 633318697598976, 67108863, 1125899906842624⟩, ⟨27, .q none, 1196268651020288, 134217727, 2251799813685248⟩, ⟨28, .q none, 2251799813685248, 268435455, 4503599627370496⟩, ⟨29, .q none, 4503599627370504, 536870911, 9007199254740992⟩, ⟨30, .f 4 false, 13510798882111488, 1073741823, 18014398509481984⟩, ⟨31, .q none, 22517998136852480, 2147483647, 36028797018963968⟩, ⟨32, .q none, 40532396646334464, 4294967295, 72057594037927936⟩, ⟨33, .q none, 76561193665298432, 8589934591, 144115188075855872⟩, ⟨34, .q none, 144115188075855872, 17179869183, 288230376151711744⟩, ⟨35, .q none, 288230376151711752, 34359738367, 576460752303423488⟩, ⟨36, .f 5 false, 864691128455135232, 68719476735, 1152921504606846976⟩, ⟨37, .q none, 1441151880758558720, 137438953471, 2305843009213693952⟩, ⟨38, .q none, 2594073385365405696, 274877906943, 4611686018427387904⟩, ⟨39, .q none, 4611686018427387904, 549755813887, 4⟩])], [], []⟩
theorem E_bevylaw17_PleaNil (x0 : Value) (w : World) (R : Ending → World → Prop) : cwp Try.prog A_bevylaw17_PleaNil (Try.f12.body.getD .skip) (retPost Try.prog Try.f12.results.toList R) (argE [x0]) w = F_bevylaw17_PleaNil x0 w R := by kernel_rfl
theorem C_bevylaw17_PleaNil {x0 : Value} {w : World} {R : Ending → World → Prop} (h : F_bevylaw17_PleaNil x0 w R) : Calls Try.prog 12 #[x0] w R :=
  calls_cwp (A := A_bevylaw17_PleaNil) (args := [x0]) mixed Try.func12 (c := Try.f12.body.getD .skip) (by kernel_rfl) (by kernel_rfl) (by kernel_rfl) ((E_bevylaw17_PleaNil x0 w R).mpr h)

/-- bevy/bevylaw17.PleaPlays -/
def F_bevylaw17_PleaPlays (x0 : Value) (w : World) (R : Ending → World → Prop) : Prop :=
  mj1 (fun j2 =>
    m R (o_call (fv 60) []) w fun x15 w1 =>
    m R (o_un .not x15) w1 fun x16 w2 =>
    mguard x16 false (fun k => m R (o_move x0) w2 k) w2 fun x18 w3 =>
    mguard x16 false (fun k => m R (o_call (fv 61) [x18]) w3 k) w3 fun x19 w4 =>
    mguard x16 false (fun k => m R (o_un .not x19) w4 k) w4 fun x20 w5 =>
    m R (o_pick x16 (.bool true) x20) w5 fun x21 w6 =>
    j2 x21 w6) fun x21 u2 w7 =>
  mif x21 (
    m R (o_call (fv 60) []) w7 fun x22 w8 =>
    R (.returned x22) w8) (
    m R (o_call (fv 62) []) w7 fun x23 w9 =>
    m R (o_build 135 []) w9 fun x24 w10 =>
    m R (o_alloc 135) w10 fun x4 w11 =>
    m R (o_store 135 x4 x24) w11 fun _ w12 =>
    ml2 x23 (.int .i64 0) w12 fun x3 x5 u6 w13 next6 =>
      m R (o_builtin .len #[112] 3 [false] [x0]) w13 fun x27 w14 =>
      m R (o_bin .lss 3 false x5 x27) w14 fun x28 w15 =>
      mif x28 (
        m R (o_indexAddr 112 x0 x5) w15 fun x33 w16 =>
        m R (o_load 120 x33) w16 fun x34 w17 =>
        m R (o_alloc 120) w17 fun x6 w18 =>
        m R (o_store 120 x6 x34) w18 fun _ w19 =>
        mj0 (fun j25 =>
          m R (o_fieldAddr 120 x6 0) w19 fun x35 w20 =>
          m R (o_load 5 x35) w20 fun x36 w21 =>
          m R (o_bin .rem 5 true x36 (.int .u8 3)) w21 fun x37 w22 =>
          m R (o_bin .eql 5 true x37 (.int .u8 0)) w22 fun x39 w23 =>
          mif x39 (
            m R (o_fieldAddr 120 x6 1) w23 fun x42 w24 =>
            m R (o_load 117 x42) w24 fun x43 w25 =>
            m R (o_fieldAddr 120 x6 2) w25 fun x44 w26 =>
            m R (o_load 30 x44) w26 fun x45 w27 =>
            m R (o_call (fv 63) [x3, x43, x45]) w27 fun x46 w28 =>
            m R (o_extract x46 0) w28 fun x47 w29 =>
            m R (o_extract x46 1) w29 fun x48 w30 =>
            m R (o_load 135 x4) w30 fun x50 w31 =>
            m R (o_fieldAddr 120 x6 1) w31 fun x51 w32 =>
            m R (o_load 117 x51) w32 fun x52 w33 =>
            m R (o_fieldAddr 120 x6 2) w33 fun x53 w34 =>
            m R (o_load 30 x53) w34 fun x54 w35 =>
            m R (o_call (fv 71) [x50, x52, x54]) w35 fun x55 w36 =>
            m R (o_extract x55 0) w36 fun x56 w37 =>
            m R (o_extract x55 1) w37 fun x57 w38 =>
            m R (o_extract x55 2) w38 fun x58 w39 =>
            m R (o_alloc 135) w39 fun x9 w40 =>
            m R (o_store 135 x9 x56) w40 fun _ w41 =>
            m R (o_load 135 x9) w41 fun x59 w42 =>
            m R (o_store 135 x4 x59) w42 fun _ w43 =>
            mj1 (fun j15 =>
              m R (o_bin .neq 3 false x47 x57) w43 fun x62 w44 =>
              mguard x62 false (fun k => m R (o_move x48) w44 k) w44 fun x64 w45 =>
              mguard x62 false (fun k => m R (o_move x58) w45 k) w45 fun x65 w46 =>
              mguard x62 false (fun k => m R (o_bin .neq 3 false x64 x65) w46 k) w46 fun x66 w47 =>
              m R (o_pick x62 (.bool true) x66) w47 fun x67 w48 =>
              j15 x67 w48) fun x67 u15 w49 =>
            mif x67 (
              R (.returned (.bool false)) w49) (
              j25 w49)) (
            m R (o_bin .eql 5 true x37 (.int .u8 1)) w23 fun x69 w50 =>
            mif x69 (
              dp Try.prog (o_fieldAddr 120 x6 2) fun x71 =>
              dq Try.prog w50 (o_load 30 x71) fun x72 =>
              dp Try.prog (o_fieldAddr 120 x6 3) fun x73 =>
              dq Try.prog w50 (o_load 41 x73) fun x74 =>
              dp Try.prog (o_fieldAddr 120 x6 4) fun x75 =>
              dq Try.prog w50 (o_load 118 x75) fun x76 =>
              df Try.prog w50 (o_call (fv 66) [x76]) true fun x77 w51 =>
              df Try.prog w51 (o_call (fv 65) [x3, x72, x74, x77]) false fun x78 w52 =>
              dend w52 fun w53 =>
              m R (o_load 135 x4) w53 fun x80 w54 =>
              m R (o_fieldAddr 120 x6 2) w54 fun x81 w55 =>
              m R (o_load 30 x81) w55 fun x82 w56 =>
              m R (o_fieldAddr 120 x6 3) w56 fun x83 w57 =>
              m R (o_load 41 x83) w57 fun x84 w58 =>
              m R (o_fieldAddr 120 x6 4) w58 fun x85 w59 =>
              m R (o_load 118 x85) w59 fun x86 w60 =>
              m R (o_call (fv 72) [x80, x82, x84, x86]) w60 fun x87 w61 =>
              m R (o_extract x87 0) w61 fun x88 w62 =>
              m R (o_extract x87 1) w62 fun x89 w63 =>
              m R (o_alloc 135) w63 fun x13 w64 =>
              m R (o_store 135 x13 x88) w64 fun _ w65 =>
              m R (o_load 135 x13) w65 fun x90 w66 =>
              m R (o_store 135 x4 x90) w66 fun _ w67 =>
              m R (o_call (fv 74) [x78]) w67 fun x92 w68 =>
              m R (o_call (fv 73) [x92, x89]) w68 fun x94 w69 =>
              m R (o_un .not x94) w69 fun x95 w70 =>
              mif x95 (
                R (.returned (.bool false)) w70) (
                j25 w70)) (
              m R (o_bin .eql 5 true x37 (.int .u8 2)) w50 fun x97 w71 =>
              mif x97 (
                m R (o_fieldAddr 120 x6 3) w71 fun x99 w72 =>
                m R (o_load 41 x99) w72 fun x100 w73 =>
                m R (o_call (fv 69) [x3, x100]) w73 fun x101 w74 =>
                m R (o_load 135 x4) w74 fun x102 w75 =>
                m R (o_fieldAddr 120 x6 3) w75 fun x103 w76 =>
                m R (o_load 41 x103) w76 fun x104 w77 =>
                m R (o_call (fv 75) [x102, x104]) w77 fun x105 w78 =>
                m R (o_store 135 x4 x105) w78 fun _ w79 =>
                j25 w79) (
                j25 w71)))) fun u25 w80 =>
        mj1 (fun j26 =>
          df Try.prog w80 (o_call (fv 64) [x3]) true fun x107 w81 =>
          df Try.prog w81 (o_call (fv 74) [x107]) true fun x108 w82 =>
          dp Try.prog (o_fieldAddr 135 x4 1) fun x109 =>
          dq Try.prog w80 (o_load 133 x109) fun x110 =>
          df Try.prog w82 (o_call (fv 73) [x108, x110]) false fun x111 w83 =>
          dp Try.prog (o_un .not x111) fun x112 =>
          qguard x112 false (fun k => dp Try.prog (o_move x3) k) fun x114 =>
          mguard x112 false (fun k => df Try.prog w83 (o_call (fv 67) [x114]) true k) w83 fun x115 w84 =>
          mguard x112 false (fun k => df Try.prog w84 (o_call (fv 74) [x115]) true k) w84 fun x116 w85 =>
          qguard x112 false (fun k => dp Try.prog (o_fieldAddr 135 x4 2) k) fun x117 =>
          qguard x112 false (fun k => dq Try.prog w83 (o_load 133 x117) k) fun x118 =>
          mguard x112 false (fun k => df Try.prog w85 (o_call (fv 73) [x116, x118]) false k) w85 fun x119 w86 =>
          qguard x112 false (fun k => dp Try.prog (o_un .not x119) k) fun x120 =>
          dp Try.prog (o_pick x112 (.bool true) x120) fun x121 =>
          qguard x121 false (fun k => dp Try.prog (o_move x3) k) fun x123 =>
          mguard x121 false (fun k => df Try.prog w86 (o_call (fv 70) [x123]) true k) w86 fun x124 w87 =>
          qguard x121 false (fun k => dp Try.prog (o_fieldAddr 135 x4 0) k) fun x125 =>
          qguard x121 false (fun k => dq Try.prog w86 (o_load 3 x125) k) fun x126 =>
          qguard x121 false (fun k => dp Try.prog (o_bin .neq 3 false x124 x126) k) fun x127 =>
          dp Try.prog (o_pick x121 (.bool true) x127) fun x128 =>
          dend w87 fun w88 =>
          j26 x128 w88) fun x128 u26 w89 =>
        mif x128 (
          R (.returned (.bool false)) w89) (
          m R (o_call (fv 70) [x3]) w89 fun x130 w90 =>
          m R (o_call (fv 64) [x3]) w90 fun x132 w91 =>
          m R (o_call (fv 67) [x3]) w91 fun x134 w92 =>
          m R (o_call (fv 76) [x130, x132, x134]) w92 fun x135 w93 =>
          m R (o_bin .add 3 true x5 (.int .i64 1)) w93 fun x30 w94 =>
          next6 x135 x30 w94)) (
        R (.returned (.bool true)) w15))
def A_bevylaw17_PleaPlays : Ann := ⟨[(6, [3, 5], 87112285931760246646623899502532628611052)], [(2, [21], 4161536), (25, [], 81129638414606681695754645438340), (15, [67], 293994983674745978880), (26, [128], 680564652712238512320067519074531278848)], [(17, [⟨0, .q none, 8, 0, 1180591620717411303424⟩, ⟨1, .q none, 64, 0, 2361183241434822606848⟩, ⟨2, .q (some 0), 2361183241434822606848, 2, 4722366482869645213696⟩, ⟨3, .q none, 64, 0, 9444732965739290427392⟩, ⟨4, .q (some 0), 9444732965739290427392, 8, 18889465931478580854784⟩, ⟨5, .q none, 64, 0, 37778931862957161709568⟩, ⟨6, .q (some 0), 37778931862957161709568, 32, 75557863725914323419136⟩, ⟨7, .f 0 true, 75557863725914323419136, 96, 151115727451828646838272⟩, ⟨8, .f 1 false, 175908151486894284210176, 255, 302231454903657293676544⟩, ⟨9, .q none, 302231454903657293676544, 511, 4096⟩]), (25, [⟨0, .q none, 8, 0, 81129638414606681695789005144064⟩, ⟨1, .f 0 true, 81129638414606681695789005144064, 1, 162259276829213363391578010288128⟩, ⟨2, .f 1 true, 162259276829213363391578010288128, 3, 324518553658426726783156020576256⟩, ⟨3, .q none, 16, 0, 649037107316853453566312041152512⟩, ⟨4, .q (some 0), 649037107316853453566312041152512, 8, 1298074214633706907132624082305024⟩, ⟨5, .f 2 false, 1622592768292133633915780102881280, 31, 2596148429267413814265248164610048⟩, ⟨6, .q none, 2596148429267413814265248164610048, 63, 5192296858534827628530496329220096⟩, ⟨7, .q none, 5192296858534827628530496329220096, 127, 10384593717069655257060992658440192⟩, ⟨8, .q none, 10384593717069655257060992658440200, 255, 20769187434139310514121985316880384⟩, ⟨9, .f 3 true, 31153781151208965771182977975320576, 511, 41538374868278621028243970633760768⟩, ⟨10, .f 4 true, 51922968585348276285304963292200960, 1023, 83076749736557242056487941267521536⟩, ⟨11, .q none, 10384593717069655257060992658440208, 255, 166153499473114484112975882535043072⟩, ⟨12, .q (some 3), 176538093190184139370036875193483264, 2303, 332306998946228968225951765070086144⟩, ⟨13, .f 5 false, 425768342399855865539500698996047872, 8191, 664613997892457936451903530140172288⟩, ⟨14, .q none, 674998591609527591708964522798612480, 16383, 1329227995784915872903807060280344576⟩, ⟨15, .q none, 1339612589501985528160868052938784768, 32767, 2658455991569831745807614120560689152⟩, ⟨16, .q none, 2658455991569831745807614120560689152, 65535, 5316911983139663491615228241121378304⟩, ⟨17, .q none, 5316911983139663491615228241121378312, 131071, 10633823966279326983230456482242756608⟩, ⟨18, .f 6 true, 15950735949418990474845684723364134912, 262143, 21267647932558653966460912964485513216⟩, ⟨19, .q none, 5316911983139663491615228241121378320, 131071, 42535295865117307932921825928971026432⟩, ⟨20, .q (some 6), 47852207848256971424537054170092404736, 655359, 85070591730234615865843651857942052864⟩, ⟨21, .q none, 111655151645932933323919793063548944384, 2097151, 170141183460469231731687303715884105728⟩, ⟨22, .q none, 175458095443608895223302531957005484032, 4194303, 340282366920938463463374607431768211456⟩])], [], []⟩
theorem E_bevylaw17_PleaPlays (x0 : Value) (w : World) (R : Ending → World → Prop) : cwp Try.prog A_bevylaw17_PleaPlays (Try.f13.body.getD .skip) (retPost Try.prog Try.f13.results.toList R) (argE [x0]) w = F_bevylaw17_PleaPlays x0 w R := by kernel_rfl
theorem C_bevylaw17_PleaPlays {x0 : Value} {w : World} {R : Ending → World → Prop} (h : F_bevylaw17_PleaPlays x0 w R) : Calls Try.prog 13 #[x0] w R :=
  calls_cwp (A := A_bevylaw17_PleaPlays) (args := [x0]) mixed Try.func13 (c := Try.f13.body.getD .skip) (by kernel_rfl) (by kernel_rfl) (by kernel_rfl) ((E_bevylaw17_PleaPlays x0 w R).mpr h)

/-- bevy/bevylaw17.awake -/
def F_bevylaw17_awake (w : World) (R : Ending → World → Prop) : Prop :=
  m R (o_call (fv 62) []) w fun x6 w1 =>
  m R (o_build 117 [(1, (.int .i64 1))]) w1 fun x9 w2 =>
  m R (o_build 30 [(0, (.int .u8 1))]) w2 fun x10 w3 =>
  m R (o_call (fv 63) [x6, x9, x10]) w3 fun x11 w4 =>
  m R (o_extract x11 0) w4 fun x12 w5 =>
  m R (o_extract x11 1) w5 fun x13 w6 =>
  m R (o_build 30 [(0, (.int .u8 2))]) w6 fun x15 w7 =>
  m R (o_build 118 []) w7 fun x16 w8 =>
  m R (o_call (fv 66) [x16]) w8 fun x17 w9 =>
  m R (o_call (fv 65) [x6, x15, (.slice none 0 0), x17]) w9 fun x18 w10 =>
  m R (o_build 30 [(0, (.int .u8 2))]) w10 fun x20 w11 =>
  m R (o_build 118 []) w11 fun x21 w12 =>
  m R (o_call (fv 66) [x21]) w12 fun x22 w13 =>
  m R (o_call (fv 65) [x6, x20, (.slice none 0 0), x22]) w13 fun x23 w14 =>
  m R (o_bin .eql 3 true x12 (.int .i64 1)) w14 fun x25 w15 =>
  mguard x25 true (fun k => m R (o_move x13) w15 k) w15 fun x27 w16 =>
  mguard x25 true (fun k => m R (o_bin .eql 25 true x27 (.int .i64 0)) w16 k) w16 fun x28 w17 =>
  m R (o_pick x25 x28 (.bool false)) w17 fun x29 w18 =>
  mguard x29 true (fun k => m R (o_move x18) w18 k) w18 fun x31 w19 =>
  mguard x29 true (fun k => m R (o_builtin .len #[123] 3 [false] [x31]) w19 k) w19 fun x32 w20 =>
  mguard x29 true (fun k => m R (o_bin .eql 3 true x32 (.int .i64 1)) w20 k) w20 fun x33 w21 =>
  m R (o_pick x29 x33 (.bool false)) w21 fun x34 w22 =>
  mguard x34 true (fun k => m R (o_move x18) w22 k) w22 fun x36 w23 =>
  mguard x34 true (fun k => m R (o_indexAddr 123 x36 (.int .i64 0)) w23 k) w23 fun x37 w24 =>
  mguard x34 true (fun k => m R (o_fieldAddr 129 x37 2) w24 k) w24 fun x38 w25 =>
  mguard x34 true (fun k => m R (o_load 30 x38) w25 k) w25 fun x39 w26 =>
  mguard x34 true (fun k => m R (o_build 30 [(0, (.int .u8 2))]) w26 k) w26 fun x40 w27 =>
  mguard x34 true (fun k => m R (o_bin .eql 30 false x39 x40) w27 k) w27 fun x41 w28 =>
  m R (o_pick x34 x41 (.bool false)) w28 fun x42 w29 =>
  mguard x42 true (fun k => m R (o_move x23) w29 k) w29 fun x44 w30 =>
  mguard x42 true (fun k => m R (o_builtin .len #[123] 3 [false] [x44]) w30 k) w30 fun x45 w31 =>
  mguard x42 true (fun k => m R (o_bin .eql 3 true x45 (.int .i64 0)) w31 k) w31 fun x46 w32 =>
  m R (o_pick x42 x46 (.bool false)) w32 fun x47 w33 =>
  R (.returned x47) w33
def A_bevylaw17_awake : Ann := ⟨[], [], [], [], []⟩
theorem E_bevylaw17_awake (w : World) (R : Ending → World → Prop) : cwp Try.prog A_bevylaw17_awake (Try.f60.body.getD .skip) (retPost Try.prog Try.f60.results.toList R) (argE []) w = F_bevylaw17_awake w R := by kernel_rfl
theorem C_bevylaw17_awake {w : World} {R : Ending → World → Prop} (h : F_bevylaw17_awake w R) : Calls Try.prog 60 #[] w R :=
  calls_cwp (A := A_bevylaw17_awake) (args := []) mixed Try.func60 (c := Try.f60.body.getD .skip) (by kernel_rfl) (by kernel_rfl) (by kernel_rfl) ((E_bevylaw17_awake w R).mpr h)

/-- bevy/bevylaw17.few -/
def F_bevylaw17_few (x0 : Value) (w : World) (R : Ending → World → Prop) : Prop :=
  ml1 (.int .i64 0) w fun x3 u2 w1 next2 =>
    m R (o_builtin .len #[112] 3 [false] [x0]) w1 fun x6 w2 =>
    m R (o_bin .lss 3 false x3 x6) w2 fun x7 w3 =>
    mif x7 (
      mj1 (fun j5 =>
        m R (o_bin .geq 3 true x3 (.int .i64 100)) w3 fun x11 w4 =>
        mguard x11 false (fun k => m R (o_move x0) w4 k) w4 fun x13 w5 =>
        mguard x11 false (fun k => m R (o_move x3) w5 k) w5 fun x14 w6 =>
        mguard x11 false (fun k => m R (o_indexAddr 112 x13 x14) w6 k) w6 fun x15 w7 =>
        mguard x11 false (fun k => m R (o_fieldAddr 120 x15 3) w7 k) w7 fun x16 w8 =>
        mguard x11 false (fun k => m R (o_load 41 x16) w8 k) w8 fun x17 w9 =>
        mguard x11 false (fun k => m R (o_builtin .len #[41] 3 [false] [x17]) w9 k) w9 fun x18 w10 =>
        mguard x11 false (fun k => m R (o_bin .gtr 3 true x18 (.int .i64 100)) w10 k) w10 fun x19 w11 =>
        m R (o_pick x11 (.bool true) x19) w11 fun x20 w12 =>
        j5 x20 w12) fun x20 u5 w13 =>
      mif x20 (
        R (.returned (.bool false)) w13) (
        m R (o_bin .add 3 true x3 (.int .i64 1)) w13 fun x9 w14 =>
        next2 x9 w14)) (
      R (.returned (.bool true)) w3)
def A_bevylaw17_few : Ann := ⟨[(2, [3], 2097148)], [(5, [20], 2096128)], [], [], []⟩
theorem E_bevylaw17_few (x0 : Value) (w : World) (R : Ending → World → Prop) : cwp Try.prog A_bevylaw17_few (Try.f61.body.getD .skip) (retPost Try.prog Try.f61.results.toList R) (argE [x0]) w = F_bevylaw17_few x0 w R := by kernel_rfl
theorem C_bevylaw17_few {x0 : Value} {w : World} {R : Ending → World → Prop} (h : F_bevylaw17_few x0 w R) : Calls Try.prog 61 #[x0] w R :=
  calls_cwp (A := A_bevylaw17_few) (args := [x0]) mixed Try.func61 (c := Try.f61.body.getD .skip) (by kernel_rfl) (by kernel_rfl) (by kernel_rfl) ((E_bevylaw17_few x0 w R).mpr h)

/-- bevy/plea.New -/
def F_plea_New (w : World) (R : Ending → World → Prop) : Prop :=
  m R (o_build 175 []) w fun x1 w1 =>
  m R (o_box 175 x1) w1 fun x2 w2 =>
  R (.returned x2) w2
def A_plea_New : Ann := ⟨[], [], [], [], []⟩
theorem E_plea_New (w : World) (R : Ending → World → Prop) : cwp Try.prog A_plea_New (Try.f62.body.getD .skip) (retPost Try.prog Try.f62.results.toList R) (argE []) w = F_plea_New w R := by kernel_rfl
theorem C_plea_New {w : World} {R : Ending → World → Prop} (h : F_plea_New w R) : Calls Try.prog 62 #[] w R :=
  calls_cwp (A := A_plea_New) (args := []) mixed Try.func62 (c := Try.f62.body.getD .skip) (by kernel_rfl) (by kernel_rfl) (by kernel_rfl) ((E_plea_New w R).mpr h)

/-- (*bevy/plea.List).Ask -/
def F_plea_List_Ask (x0 x1 x2 : Value) (w : World) (R : Ending → World → Prop) : Prop :=
  m R (o_box 117 x1) w fun x4 w1 =>
  m R (o_box 30 x2) w1 fun x5 w2 =>
  m R (o_bin .eql 114 true x0 (.pointer none)) w2 fun x10 w3 =>
  mif x10 (
    R (.returned (.tuple #[(.int .i64 0), (.int .i64 1)])) w3) (
    m R (o_nilCheck x0) w3 fun x13 w4 =>
    m R (o_fieldAddr 175 x13 1) w4 fun x14 w5 =>
    m R (o_load 123 x14) w5 fun x15 w6 =>
    m R (o_builtin .len #[123] 3 [false] [x15]) w6 fun x16 w7 =>
    m R (o_bin .geq 3 true x16 (.int .i64 32)) w7 fun x17 w8 =>
    mif x17 (
      R (.returned (.tuple #[(.int .i64 0), (.int .i64 9)])) w8) (
      m R (o_nilCheck x0) w8 fun x19 w9 =>
      m R (o_fieldAddr 175 x19 0) w9 fun x20 w10 =>
      m R (o_load 3 x20) w10 fun x21 w11 =>
      m R (o_bin .add 3 true x21 (.int .i64 1)) w11 fun x22 w12 =>
      m R (o_nilCheck x0) w12 fun x23 w13 =>
      m R (o_fieldAddr 175 x23 0) w13 fun x24 w14 =>
      m R (o_store 3 x24 x22) w14 fun _ w15 =>
      dp Try.prog (o_nilCheck x0) fun x27 =>
      dp Try.prog (o_fieldAddr 175 x27 1) fun x28 =>
      dq Try.prog w15 (o_load 123 x28) fun x29 =>
      dp Try.prog (o_nilCheck x0) fun x31 =>
      dp Try.prog (o_fieldAddr 175 x31 0) fun x32 =>
      dq Try.prog w15 (o_load 3 x32) fun x33 =>
      dq Try.prog w15 (o_load 117 x4) fun x34 =>
      dq Try.prog w15 (o_load 30 x5) fun x35 =>
      dp Try.prog (o_build 129 [(0, x33), (1, x34), (2, x35)]) fun x36 =>
      df Try.prog w15 (o_buildSlice 123 1 [(0, x36)]) true fun x37 w16 =>
      df Try.prog w16 (o_builtin .append #[123, 123] 123 [false, false] [x29, x37]) false fun x38 w17 =>
      dp Try.prog (o_nilCheck x0) fun x39 =>
      dp Try.prog (o_fieldAddr 175 x39 1) fun x40 =>
      df Try.prog w17 (o_store 123 x40 x38) false fun _ w18 =>
      dend w18 fun w19 =>
      m R (o_nilCheck x0) w19 fun x42 w20 =>
      m R (o_fieldAddr 175 x42 0) w20 fun x43 w21 =>
      m R (o_load 3 x43) w21 fun x44 w22 =>
      R (.returned (.tuple #[x44, (.int .i64 0)])) w22))
def A_plea_List_Ask : Ann := ⟨[], [], [(6, [⟨0, .q none, 1, 0, 33554432⟩, ⟨1, .q none, 1, 0, 67108864⟩, ⟨2, .q none, 67108864, 2, 134217728⟩, ⟨3, .q none, 134217728, 6, 268435456⟩, ⟨4, .q (some 0), 268435456, 14, 536870912⟩, ⟨5, .q none, 1, 0, 1073741824⟩, ⟨6, .q none, 1073741824, 32, 2147483648⟩, ⟨7, .q none, 2147483648, 96, 4294967296⟩, ⟨8, .q (some 0), 4294967296, 224, 8589934592⟩, ⟨9, .q (some 0), 16, 0, 17179869184⟩, ⟨10, .q (some 0), 32, 0, 34359738368⟩, ⟨11, .q none, 60129542144, 2016, 68719476736⟩, ⟨12, .f 0 true, 68719476736, 4064, 137438953472⟩, ⟨13, .f 1 false, 137975824384, 8190, 274877906944⟩, ⟨14, .q none, 33554432, 16383, 549755813888⟩, ⟨15, .q none, 549755813888, 32767, 1099511627776⟩, ⟨16, .f 2 false, 1374389534720, 65535, 0⟩])], [], []⟩
theorem E_plea_List_Ask (x0 x1 x2 : Value) (w : World) (R : Ending → World → Prop) : cwp Try.prog A_plea_List_Ask (Try.f63.body.getD .skip) (retPost Try.prog Try.f63.results.toList R) (argE [x0, x1, x2]) w = F_plea_List_Ask x0 x1 x2 w R := by kernel_rfl
theorem C_plea_List_Ask {x0 x1 x2 : Value} {w : World} {R : Ending → World → Prop} (h : F_plea_List_Ask x0 x1 x2 w R) : Calls Try.prog 63 #[x0, x1, x2] w R :=
  calls_cwp (A := A_plea_List_Ask) (args := [x0, x1, x2]) mixed Try.func63 (c := Try.f63.body.getD .skip) (by kernel_rfl) (by kernel_rfl) (by kernel_rfl) ((E_plea_List_Ask x0 x1 x2 w R).mpr h)

/-- (*bevy/plea.List).Open -/
def F_plea_List_Open (x0 : Value) (w : World) (R : Ending → World → Prop) : Prop :=
  m R (o_bin .eql 114 true x0 (.pointer none)) w fun x4 w1 =>
  mif x4 (
    R (.returned (.slice none 0 0)) w1) (
    m R (o_nilCheck x0) w1 fun x6 w2 =>
    m R (o_fieldAddr 175 x6 1) w2 fun x7 w3 =>
    m R (o_load 123 x7) w3 fun x8 w4 =>
    m R (o_call (fv 89) [x8]) w4 fun x9 w5 =>
    R (.returned x9) w5)
def A_plea_List_Open : Ann := ⟨[], [], [], [], []⟩
theorem E_plea_List_Open (x0 : Value) (w : World) (R : Ending → World → Prop) : cwp Try.prog A_plea_List_Open (Try.f64.body.getD .skip) (retPost Try.prog Try.f64.results.toList R) (argE [x0]) w = F_plea_List_Open x0 w R := by kernel_rfl
theorem C_plea_List_Open {x0 : Value} {w : World} {R : Ending → World → Prop} (h : F_plea_List_Open x0 w R) : Calls Try.prog 64 #[x0] w R :=
  calls_cwp (A := A_plea_List_Open) (args := [x0]) mixed Try.func64 (c := Try.f64.body.getD .skip) (by kernel_rfl) (by kernel_rfl) (by kernel_rfl) ((E_plea_List_Open x0 w R).mpr h)

/-- (*bevy/plea.List).Move -/
def F_plea_List_Move (x0 x1 x2 x3 : Value) (w : World) (R : Ending → World → Prop) : Prop :=
  m R (o_box 30 x1) w fun x5 w1 =>
  m R (o_bin .eql 114 true x0 (.pointer none)) w1 fun x15 w2 =>
  mif x15 (
    R (.returned (.slice none 0 0)) w2) (
    m R (o_nilCheck x0) w2 fun x17 w3 =>
    m R (o_fieldAddr 175 x17 1) w3 fun x18 w4 =>
    m R (o_load 123 x18) w4 fun x19 w5 =>
    m R (o_builtin .len #[123] 3 [false] [x19]) w5 fun x20 w6 =>
    ml3 (.slice none 0 0) (.slice none 0 0) (.int .i64 0) w6 fun x9 x10 x21 u5 w7 next5 =>
      m R (o_bin .lss 3 false x21 x20) w7 fun x22 w8 =>
      mif x22 (
        mj2 (fun j14 =>
          m R (o_indexAddr 123 x19 x21) w8 fun x23 w9 =>
          m R (o_load 129 x23) w9 fun x24 w10 =>
          m R (o_alloc 129) w10 fun x12 w11 =>
          m R (o_store 129 x12 x24) w11 fun _ w12 =>
          mj1 (fun j8 =>
            m R (o_fieldAddr 129 x12 0) w12 fun x26 w13 =>
            m R (o_load 3 x26) w13 fun x27 w14 =>
            m R (o_call (fv 90) [x2, x27]) w14 fun x28 w15 =>
            mguard x28 false (fun k => m R (o_fieldAddr 129 x12 2) w15 k) w15 fun x30 w16 =>
            mguard x28 false (fun k => m R (o_load 30 x30) w16 k) w16 fun x31 w17 =>
            mguard x28 false (fun k => m R (o_load 30 x5) w17 k) w17 fun x32 w18 =>
            mguard x28 false (fun k => m R (o_bin .eql 30 false x31 x32) w18 k) w18 fun x33 w19 =>
            m R (o_pick x28 (.bool true) x33) w19 fun x34 w20 =>
            j8 x34 w20) fun x34 u8 w21 =>
          mif x34 (
            m R (o_load 129 x12) w21 fun x36 w22 =>
            m R (o_buildSlice 123 1 [(0, x36)]) w22 fun x37 w23 =>
            m R (o_builtin .append #[123, 123] 123 [false, false] [x10, x37]) w23 fun x38 w24 =>
            j14 x9 x38 w24) (
            m R (o_fieldAddr 129 x12 1) w21 fun x40 w25 =>
            m R (o_load 117 x40) w25 fun x41 w26 =>
            m R (o_call x3 [x41]) w26 fun x42 w27 =>
            m R (o_fieldAddr 129 x12 3) w27 fun x43 w28 =>
            m R (o_store 25 x43 x42) w28 fun _ w29 =>
            m R (o_fieldAddr 129 x12 3) w29 fun x44 w30 =>
            m R (o_load 25 x44) w30 fun x45 w31 =>
            m R (o_bin .neq 25 true x45 (.int .i64 0)) w31 fun x46 w32 =>
            mif x46 (
              dp Try.prog (o_nilCheck x0) fun x49 =>
              dp Try.prog (o_fieldAddr 175 x49 2) fun x50 =>
              dq Try.prog w32 (o_load 123 x50) fun x51 =>
              dq Try.prog w32 (o_load 129 x12) fun x52 =>
              df Try.prog w32 (o_buildSlice 123 1 [(0, x52)]) true fun x53 w33 =>
              df Try.prog w33 (o_builtin .append #[123, 123] 123 [false, false] [x51, x53]) false fun x54 w34 =>
              dp Try.prog (o_nilCheck x0) fun x55 =>
              dp Try.prog (o_fieldAddr 175 x55 2) fun x56 =>
              df Try.prog w34 (o_store 123 x56 x54) false fun _ w35 =>
              dend w35 fun w36 =>
              j14 x9 x10 w36) (
              m R (o_load 30 x5) w32 fun x57 w37 =>
              m R (o_fieldAddr 129 x12 2) w37 fun x58 w38 =>
              m R (o_store 30 x58 x57) w38 fun _ w39 =>
              ∃ S : Nat → Prop,
              ((
                dqS Try.prog S w39 (o_load 129 x12) fun x60 =>
                dqS Try.prog S w39 (o_load 129 x12) fun x64 =>
                dfS Try.prog S w39 (o_buildSlice 123 1 [(0, x60)]) true fun x61 w40 =>
                dfS Try.prog S w40 (o_builtin .append #[123, 123] 123 [false, false] [x9, x61]) true fun x62 w41 =>
                dfS Try.prog S w41 (o_buildSlice 123 1 [(0, x64)]) true fun x65 w42 =>
                dfS Try.prog S w42 (o_builtin .append #[123, 123] 123 [false, false] [x10, x65]) false fun x66 w43 =>
                dend w43 fun w44 =>
                j14 x62 x66 w44) ∧ (
                dqS Try.prog S w39 (o_load 129 x12) fun x60 =>
                dqS Try.prog S w39 (o_load 129 x12) fun x64 =>
                dfS Try.prog S w39 (o_buildSlice 123 1 [(0, x60)]) true fun x61 w45 =>
                dfS Try.prog S w45 (o_buildSlice 123 1 [(0, x64)]) true fun x65 w46 =>
                dfS Try.prog S w46 (o_builtin .append #[123, 123] 123 [false, false] [x9, x61]) true fun x62 w47 =>
                dfS Try.prog S w47 (o_builtin .append #[123, 123] 123 [false, false] [x10, x65]) false fun x66 w48 =>
                dend w48 fun w49 =>
                j14 x62 x66 w49) ∧ (
                dqS Try.prog S w39 (o_load 129 x12) fun x60 =>
                dqS Try.prog S w39 (o_load 129 x12) fun x64 =>
                dfS Try.prog S w39 (o_buildSlice 123 1 [(0, x64)]) true fun x65 w50 =>
                dfS Try.prog S w50 (o_buildSlice 123 1 [(0, x60)]) true fun x61 w51 =>
                dfS Try.prog S w51 (o_builtin .append #[123, 123] 123 [false, false] [x9, x61]) true fun x62 w52 =>
                dfS Try.prog S w52 (o_builtin .append #[123, 123] 123 [false, false] [x10, x65]) false fun x66 w53 =>
                dend w53 fun w54 =>
                j14 x62 x66 w54))))) fun x9 x10 u14 w55 =>
        m R (o_bin .add 3 true x21 (.int .i64 1)) w55 fun x67 w56 =>
        next5 x9 x10 x67 w56) (
        m R (o_nilCheck x0) w8 fun x70 w57 =>
        m R (o_fieldAddr 175 x70 1) w57 fun x71 w58 =>
        m R (o_store 123 x71 x10) w58 fun _ w59 =>
        mj0 (fun j19 =>
          m R (o_nilCheck x0) w59 fun x73 w60 =>
          m R (o_fieldAddr 175 x73 2) w60 fun x74 w61 =>
          m R (o_load 123 x74) w61 fun x75 w62 =>
          m R (o_builtin .len #[123] 3 [false] [x75]) w62 fun x76 w63 =>
          m R (o_bin .sub 3 true x76 (.int .i64 32)) w63 fun x77 w64 =>
          m R (o_bin .gtr 3 true x77 (.int .i64 0)) w64 fun x79 w65 =>
          mif x79 (
            m R (o_nilCheck x0) w65 fun x82 w66 =>
            m R (o_fieldAddr 175 x82 2) w66 fun x83 w67 =>
            m R (o_load 123 x83) w67 fun x84 w68 =>
            m R (o_slice 123 x84 (some x77) none none) w68 fun x86 w69 =>
            m R (o_call (fv 89) [x86]) w69 fun x87 w70 =>
            m R (o_nilCheck x0) w70 fun x88 w71 =>
            m R (o_fieldAddr 175 x88 2) w71 fun x89 w72 =>
            m R (o_store 123 x89 x87) w72 fun _ w73 =>
            j19 w73) (
            j19 w65)) fun u19 w74 =>
        R (.returned x9) w74))
def A_plea_List_Move : Ann := ⟨[(5, [9, 10, 21], 295147905179350734336)], [(14, [9, 10], 147573952589668029952), (8, [34], 34326183936), (19, [], 1237935316918897405253918720)], [(11, [⟨0, .q none, 1, 0, 140737488355328⟩, ⟨1, .q none, 1, 0, 281474976710656⟩, ⟨2, .q none, 281474976710656, 2, 562949953421312⟩, ⟨3, .q none, 562949953421312, 6, 1125899906842624⟩, ⟨4, .q (some 0), 1125899906842624, 14, 2251799813685248⟩, ⟨5, .q (some 0), 4096, 0, 4503599627370496⟩, ⟨6, .f 0 true, 4503599627370496, 32, 9007199254740992⟩, ⟨7, .f 1 false, 11258999068426240, 126, 18014398509481984⟩, ⟨8, .q none, 140737488355328, 255, 36028797018963968⟩, ⟨9, .q none, 36028797018963968, 511, 72057594037927936⟩, ⟨10, .f 2 false, 90071992547409920, 1023, 0⟩])], [(13, [⟨[0, 1, 4, 5, 2, 3, 6, 7, 8, 9], [⟨0, .q none, 512, 0, 576460752303423488⟩, ⟨1, .q (some 0), 4096, 0, 1152921504606846976⟩, ⟨2, .f 0 true, 1152921504606846976, 2, 2305843009213693952⟩, ⟨3, .f 1 true, 2882303761517117440, 7, 4611686018427387904⟩, ⟨4, .q none, 1024, 0, 9223372036854775808⟩, ⟨5, .q (some 0), 4096, 0, 18446744073709551616⟩, ⟨6, .f 2 true, 18446744073709551616, 32, 36893488147419103232⟩, ⟨7, .f 3 false, 46116860184273879040, 127, 73786976294838206464⟩, ⟨8, .q none, 4611686018427387904, 255, 512⟩, ⟨9, .q none, 73786976294838206464, 511, 1024⟩]⟩, ⟨[0, 1, 4, 5, 2, 6, 3, 7, 8, 9], [⟨0, .q none, 512, 0, 576460752303423488⟩, ⟨1, .q (some 0), 4096, 0, 1152921504606846976⟩, ⟨2, .f 0 true, 1152921504606846976, 2, 2305843009213693952⟩, ⟨3, .f 2 true, 2882303761517117440, 7, 4611686018427387904⟩, ⟨4, .q none, 1024, 0, 9223372036854775808⟩, ⟨5, .q (some 0), 4096, 0, 18446744073709551616⟩, ⟨6, .f 1 true, 18446744073709551616, 32, 36893488147419103232⟩, ⟨7, .f 3 false, 46116860184273879040, 127, 73786976294838206464⟩, ⟨8, .q none, 4611686018427387904, 255, 512⟩, ⟨9, .q none, 73786976294838206464, 511, 1024⟩]⟩, ⟨[0, 1, 4, 5, 6, 2, 3, 7, 8, 9], [⟨0, .q none, 512, 0, 576460752303423488⟩, ⟨1, .q (some 0), 4096, 0, 1152921504606846976⟩, ⟨2, .f 1 true, 1152921504606846976, 2, 2305843009213693952⟩, ⟨3, .f 2 true, 2882303761517117440, 7, 4611686018427387904⟩, ⟨4, .q none, 1024, 0, 9223372036854775808⟩, ⟨5, .q (some 0), 4096, 0, 18446744073709551616⟩, ⟨6, .f 0 true, 18446744073709551616, 32, 36893488147419103232⟩, ⟨7, .f 3 false, 46116860184273879040, 127, 73786976294838206464⟩, ⟨8, .q none, 4611686018427387904, 255, 512⟩, ⟨9, .q none, 73786976294838206464, 511, 1024⟩]⟩])], [13]⟩
theorem E_plea_List_Move (x0 x1 x2 x3 : Value) (w : World) (R : Ending → World → Prop) : cwp Try.prog A_plea_List_Move (Try.f65.body.getD .skip) (retPost Try.prog Try.f65.results.toList R) (argE [x0, x1, x2, x3]) w = F_plea_List_Move x0 x1 x2 x3 w R := by kernel_rfl
theorem C_plea_List_Move {x0 x1 x2 x3 : Value} {w : World} {R : Ending → World → Prop} (h : F_plea_List_Move x0 x1 x2 x3 w R) : Calls Try.prog 65 #[x0, x1, x2, x3] w R :=
  calls_cwp (A := A_plea_List_Move) (args := [x0, x1, x2, x3]) mixed Try.func65 (c := Try.f65.body.getD .skip) (by kernel_rfl) (by kernel_rfl) (by kernel_rfl) ((E_plea_List_Move x0 x1 x2 x3 w R).mpr h)

/-- bevy/bevylaw17.fits -/
def F_bevylaw17_fits (x0 : Value) (w : World) (R : Ending → World → Prop) : Prop :=
  m R (o_box 118 x0) w fun x1 w1 =>
  m R (o_load 118 x1) w1 fun x3 w2 =>
  m R (o_build 178 [(0, x3)]) w2 fun x4 w3 =>
  m R (o_func (.func 91) [x4] []) w3 fun x5 w4 =>
  R (.returned x5) w4
def A_bevylaw17_fits : Ann := ⟨[], [], [], [], []⟩
theorem E_bevylaw17_fits (x0 : Value) (w : World) (R : Ending → World → Prop) : cwp Try.prog A_bevylaw17_fits (Try.f66.body.getD .skip) (retPost Try.prog Try.f66.results.toList R) (argE [x0]) w = F_bevylaw17_fits x0 w R := by kernel_rfl
theorem C_bevylaw17_fits {x0 : Value} {w : World} {R : Ending → World → Prop} (h : F_bevylaw17_fits x0 w R) : Calls Try.prog 66 #[x0] w R :=
  calls_cwp (A := A_bevylaw17_fits) (args := [x0]) mixed Try.func66 (c := Try.f66.body.getD .skip) (by kernel_rfl) (by kernel_rfl) (by kernel_rfl) ((E_bevylaw17_fits x0 w R).mpr h)

/-- (*bevy/plea.List).Dropped -/
def F_plea_List_Dropped (x0 : Value) (w : World) (R : Ending → World → Prop) : Prop :=
  m R (o_bin .eql 114 true x0 (.pointer none)) w fun x4 w1 =>
  mif x4 (
    R (.returned (.slice none 0 0)) w1) (
    m R (o_nilCheck x0) w1 fun x6 w2 =>
    m R (o_fieldAddr 175 x6 2) w2 fun x7 w3 =>
    m R (o_load 123 x7) w3 fun x8 w4 =>
    m R (o_call (fv 89) [x8]) w4 fun x9 w5 =>
    R (.returned x9) w5)
def A_plea_List_Dropped : Ann := ⟨[], [], [], [], []⟩
theorem E_plea_List_Dropped (x0 : Value) (w : World) (R : Ending → World → Prop) : cwp Try.prog A_plea_List_Dropped (Try.f67.body.getD .skip) (retPost Try.prog Try.f67.results.toList R) (argE [x0]) w = F_plea_List_Dropped x0 w R := by kernel_rfl
theorem C_plea_List_Dropped {x0 : Value} {w : World} {R : Ending → World → Prop} (h : F_plea_List_Dropped x0 w R) : Calls Try.prog 67 #[x0] w R :=
  calls_cwp (A := A_plea_List_Dropped) (args := [x0]) mixed Try.func67 (c := Try.f67.body.getD .skip) (by kernel_rfl) (by kernel_rfl) (by kernel_rfl) ((E_plea_List_Dropped x0 w R).mpr h)

/-- bevy/bevyref17.In -/
def F_bevyref17_In (x0 x1 : Value) (w : World) (R : Ending → World → Prop) : Prop :=
  ml1 (.int .i64 0) w fun x5 u2 w1 next2 =>
    m R (o_builtin .len #[41] 3 [false] [x0]) w1 fun x8 w2 =>
    m R (o_bin .lss 3 false x5 x8) w2 fun x9 w3 =>
    mif x9 (
      m R (o_indexAddr 41 x0 x5) w3 fun x14 w4 =>
      m R (o_load 3 x14) w4 fun x15 w5 =>
      m R (o_bin .eql 3 false x15 x1) w5 fun x17 w6 =>
      mif x17 (
        R (.returned (.bool true)) w6) (
        m R (o_bin .add 3 true x5 (.int .i64 1)) w6 fun x11 w7 =>
        next2 x11 w7)) (
      R (.returned (.bool false)) w3)
def A_bevyref17_In : Ann := ⟨[(2, [5], 262128)], [], [], [], []⟩
theorem E_bevyref17_In (x0 x1 : Value) (w : World) (R : Ending → World → Prop) : cwp Try.prog A_bevyref17_In (Try.f68.body.getD .skip) (retPost Try.prog Try.f68.results.toList R) (argE [x0, x1]) w = F_bevyref17_In x0 x1 w R := by kernel_rfl
theorem C_bevyref17_In {x0 x1 : Value} {w : World} {R : Ending → World → Prop} (h : F_bevyref17_In x0 x1 w R) : Calls Try.prog 68 #[x0, x1] w R :=
  calls_cwp (A := A_bevyref17_In) (args := [x0, x1]) mixed Try.func68 (c := Try.f68.body.getD .skip) (by kernel_rfl) (by kernel_rfl) (by kernel_rfl) ((E_bevyref17_In x0 x1 w R).mpr h)

/-- (*bevy/plea.List).Settle -/
def F_plea_List_Settle (x0 x1 : Value) (w : World) (R : Ending → World → Prop) : Prop :=
  m R (o_box 41 x1) w fun x3 w1 =>
  m R (o_bin .neq 114 true x0 (.pointer none)) w1 fun x5 w2 =>
  mif x5 (
    m R (o_nilCheck x0) w2 fun x8 w3 =>
    m R (o_fieldAddr 175 x8 1) w3 fun x9 w4 =>
    m R (o_load 123 x9) w4 fun x10 w5 =>
    m R (o_func (.func 93) [] [x3]) w5 fun x11 w6 =>
    m R (o_call (fv 92) [x10, x11]) w6 fun x12 w7 =>
    m R (o_nilCheck x0) w7 fun x13 w8 =>
    m R (o_fieldAddr 175 x13 1) w8 fun x14 w9 =>
    m R (o_store 123 x14 x12) w9 fun _ w10 =>
    R (.returned (.tuple #[])) w10) (
    R (.returned (.tuple #[])) w2)
def A_plea_List_Settle : Ann := ⟨[], [], [], [], []⟩
theorem E_plea_List_Settle (x0 x1 : Value) (w : World) (R : Ending → World → Prop) : cwp Try.prog A_plea_List_Settle (Try.f69.body.getD .skip) (retPost Try.prog Try.f69.results.toList R) (argE [x0, x1]) w = F_plea_List_Settle x0 x1 w R := by kernel_rfl
theorem C_plea_List_Settle {x0 x1 : Value} {w : World} {R : Ending → World → Prop} (h : F_plea_List_Settle x0 x1 w R) : Calls Try.prog 69 #[x0, x1] w R :=
  calls_cwp (A := A_plea_List_Settle) (args := [x0, x1]) mixed Try.func69 (c := Try.f69.body.getD .skip) (by kernel_rfl) (by kernel_rfl) (by kernel_rfl) ((E_plea_List_Settle x0 x1 w R).mpr h)

/-- (*bevy/plea.List).Last -/
def F_plea_List_Last (x0 : Value) (w : World) (R : Ending → World → Prop) : Prop :=
  m R (o_bin .eql 114 true x0 (.pointer none)) w fun x4 w1 =>
  mif x4 (
    R (.returned (.int .i64 0)) w1) (
    m R (o_nilCheck x0) w1 fun x6 w2 =>
    m R (o_fieldAddr 175 x6 0) w2 fun x7 w3 =>
    m R (o_load 3 x7) w3 fun x8 w4 =>
    R (.returned x8) w4)
def A_plea_List_Last : Ann := ⟨[], [], [], [], []⟩
theorem E_plea_List_Last (x0 : Value) (w : World) (R : Ending → World → Prop) : cwp Try.prog A_plea_List_Last (Try.f70.body.getD .skip) (retPost Try.prog Try.f70.results.toList R) (argE [x0]) w = F_plea_List_Last x0 w R := by kernel_rfl
theorem C_plea_List_Last {x0 : Value} {w : World} {R : Ending → World → Prop} (h : F_plea_List_Last x0 w R) : Calls Try.prog 70 #[x0] w R :=
  calls_cwp (A := A_plea_List_Last) (args := [x0]) mixed Try.func70 (c := Try.f70.body.getD .skip) (by kernel_rfl) (by kernel_rfl) (by kernel_rfl) ((E_plea_List_Last x0 w R).mpr h)

/-- (bevy/bevyref17.List).Ask -/
def F_bevyref17_List_Ask (x0 x1 x2 : Value) (w : World) (R : Ending → World → Prop) : Prop :=
  m R (o_box 135 x0) w fun x3 w1 =>
  m R (o_box 117 x1) w1 fun x4 w2 =>
  m R (o_box 30 x2) w2 fun x5 w3 =>
  m R (o_alloc 135) w3 fun x6 w4 =>
  m R (o_fieldAddr 135 x3 1) w4 fun x10 w5 =>
  m R (o_load 133 x10) w5 fun x11 w6 =>
  m R (o_builtin .len #[133] 3 [false] [x11]) w6 fun x12 w7 =>
  m R (o_bin .geq 3 true x12 (.int .i64 32)) w7 fun x13 w8 =>
  mif x13 (
    m R (o_load 135 x3) w8 fun x14 w9 =>
    m R (o_store 135 x6 x14) w9 fun _ w10 =>
    rcell Try.prog 135 x6 w10 fun r6 =>
    R (.returned (.tuple #[r6, (.int .i64 0), (.int .i64 9)])) w10) (
    m R (o_fieldAddr 135 x3 1) w8 fun x16 w11 =>
    m R (o_load 133 x16) w11 fun x17 w12 =>
    m R (o_builtin .append #[133, 133] 133 [false, false] [(.slice none 0 0), x17]) w12 fun x18 w13 =>
    m R (o_fieldAddr 135 x3 0) w13 fun x19 w14 =>
    m R (o_load 3 x19) w14 fun x20 w15 =>
    m R (o_bin .add 3 true x20 (.int .i64 1)) w15 fun x21 w16 =>
    m R (o_fieldAddr 135 x3 0) w16 fun x22 w17 =>
    m R (o_store 3 x22 x21) w17 fun _ w18 =>
    m R (o_fieldAddr 135 x3 0) w18 fun x24 w19 =>
    m R (o_load 3 x24) w19 fun x25 w20 =>
    m R (o_load 117 x4) w20 fun x26 w21 =>
    m R (o_load 30 x5) w21 fun x27 w22 =>
    m R (o_build 182 [(0, x25), (1, x26), (2, x27)]) w22 fun x28 w23 =>
    m R (o_buildSlice 133 1 [(0, x28)]) w23 fun x29 w24 =>
    m R (o_builtin .append #[133, 133] 133 [false, false] [x18, x29]) w24 fun x30 w25 =>
    m R (o_fieldAddr 135 x3 1) w25 fun x31 w26 =>
    m R (o_store 133 x31 x30) w26 fun _ w27 =>
    ∃ S : Nat → Prop,
      dqS Try.prog S w27 (o_load 135 x3) fun x32 =>
      dp Try.prog (o_fieldAddr 135 x3 0) fun x33 =>
      dqS Try.prog S w27 (o_load 3 x33) fun x34 =>
      dfS Try.prog S w27 (o_store 135 x6 x32) true fun _ w28 =>
      dend w28 fun w29 =>
      rcell Try.prog 135 x6 w29 fun r6 =>
      R (.returned (.tuple #[r6, x34, (.int .i64 0)])) w29)
def A_bevyref17_List_Ask : Ann := ⟨[], [], [(7, [⟨0, .q (some 0), 8, 0, 4294967296⟩, ⟨1, .q none, 8, 0, 8589934592⟩, ⟨2, .q (some 0), 8589934592, 2, 17179869184⟩, ⟨3, .f 0 true, 4294967360, 1, 0⟩, ⟨4, .q none, 17179869184, 15, 128⟩, ⟨5, .q none, 0, 31, 256⟩])], [], [7]⟩
theorem E_bevyref17_List_Ask (x0 x1 x2 : Value) (w : World) (R : Ending → World → Prop) : cwp Try.prog A_bevyref17_List_Ask (Try.f71.body.getD .skip) (retPost Try.prog Try.f71.results.toList R) (argE [x0, x1, x2]) w = F_bevyref17_List_Ask x0 x1 x2 w R := by kernel_rfl
theorem C_bevyref17_List_Ask {x0 x1 x2 : Value} {w : World} {R : Ending → World → Prop} (h : F_bevyref17_List_Ask x0 x1 x2 w R) : Calls Try.prog 71 #[x0, x1, x2] w R :=
  calls_cwp (A := A_bevyref17_List_Ask) (args := [x0, x1, x2]) mixed Try.func71 (c := Try.f71.body.getD .skip) (by kernel_rfl) (by kernel_rfl) (by kernel_rfl) ((E_bevyref17_List_Ask x0 x1 x2 w R).mpr h)

/-- (bevy/bevyref17.List).Move -/
def F_bevyref17_List_Move (x0 x1 x2 x3 : Value) (w : World) (R : Ending → World → Prop) : Prop :=
  m R (o_box 135 x0) w fun x4 w1 =>
  m R (o_box 30 x1) w1 fun x5 w2 =>
  m R (o_box 118 x3) w2 fun x7 w3 =>
  m R (o_alloc 135) w3 fun x8 w4 =>
  m R (o_fieldAddr 135 x4 0) w4 fun x14 w5 =>
  m R (o_load 3 x14) w5 fun x15 w6 =>
  m R (o_build 135 [(0, x15)]) w6 fun x16 w7 =>
  m R (o_alloc 135) w7 fun x10 w8 =>
  m R (o_store 135 x10 x16) w8 fun _ w9 =>
  m R (o_fieldAddr 135 x10 2) w9 fun x17 w10 =>
  m R (o_load 133 x17) w10 fun x18 w11 =>
  m R (o_fieldAddr 135 x4 2) w11 fun x19 w12 =>
  m R (o_load 133 x19) w12 fun x20 w13 =>
  m R (o_builtin .append #[133, 133] 133 [false, false] [x18, x20]) w13 fun x21 w14 =>
  m R (o_fieldAddr 135 x10 2) w14 fun x22 w15 =>
  m R (o_store 133 x22 x21) w15 fun _ w16 =>
  ml2 (.slice none 0 0) (.int .i64 0) w16 fun x11 x12 u5 w17 next5 =>
    m R (o_fieldAddr 135 x4 1) w17 fun x24 w18 =>
    m R (o_load 133 x24) w18 fun x25 w19 =>
    m R (o_builtin .len #[133] 3 [false] [x25]) w19 fun x26 w20 =>
    m R (o_bin .lss 3 false x12 x26) w20 fun x27 w21 =>
    mif x27 (
      mj1 (fun j6 =>
        m R (o_fieldAddr 135 x4 1) w21 fun x30 w22 =>
        m R (o_load 133 x30) w22 fun x31 w23 =>
        m R (o_indexAddr 133 x31 x12) w23 fun x33 w24 =>
        m R (o_load 182 x33) w24 fun x34 w25 =>
        m R (o_alloc 182) w25 fun x13 w26 =>
        m R (o_store 182 x13 x34) w26 fun _ w27 =>
        mj1 (fun j9 =>
          m R (o_fieldAddr 182 x13 0) w27 fun x36 w28 =>
          m R (o_load 3 x36) w28 fun x37 w29 =>
          m R (o_call (fv 68) [x2, x37]) w29 fun x38 w30 =>
          mguard x38 false (fun k => m R (o_fieldAddr 182 x13 2) w30 k) w30 fun x40 w31 =>
          mguard x38 false (fun k => m R (o_load 30 x40) w31 k) w31 fun x41 w32 =>
          mguard x38 false (fun k => m R (o_load 30 x5) w32 k) w32 fun x42 w33 =>
          mguard x38 false (fun k => m R (o_bin .eql 30 false x41 x42) w33 k) w33 fun x43 w34 =>
          m R (o_pick x38 (.bool true) x43) w34 fun x44 w35 =>
          j9 x44 w35) fun x44 u9 w36 =>
        mif x44 (
          m R (o_fieldAddr 135 x10 1) w36 fun x45 w37 =>
          m R (o_load 133 x45) w37 fun x46 w38 =>
          m R (o_load 182 x13) w38 fun x47 w39 =>
          m R (o_buildSlice 133 1 [(0, x47)]) w39 fun x48 w40 =>
          m R (o_builtin .append #[133, 133] 133 [false, false] [x46, x48]) w40 fun x49 w41 =>
          m R (o_fieldAddr 135 x10 1) w41 fun x50 w42 =>
          m R (o_store 133 x50 x49) w42 fun _ w43 =>
          j6 x11 w43) (
          m R (o_fieldAddr 182 x13 1) w36 fun x51 w44 =>
          m R (o_load 117 x51) w44 fun x52 w45 =>
          m R (o_call (fv 94) [x52]) w45 fun x53 w46 =>
          m R (o_indexAddr 118 x7 x53) w46 fun x54 w47 =>
          m R (o_load 3 x54) w47 fun x55 w48 =>
          m R (o_fieldAddr 182 x13 3) w48 fun x56 w49 =>
          m R (o_store 3 x56 x55) w49 fun _ w50 =>
          m R (o_fieldAddr 182 x13 3) w50 fun x57 w51 =>
          m R (o_load 3 x57) w51 fun x58 w52 =>
          m R (o_bin .neq 3 true x58 (.int .i64 0)) w52 fun x59 w53 =>
          mif x59 (
            m R (o_fieldAddr 135 x10 2) w53 fun x60 w54 =>
            m R (o_load 133 x60) w54 fun x61 w55 =>
            m R (o_load 182 x13) w55 fun x62 w56 =>
            m R (o_buildSlice 133 1 [(0, x62)]) w56 fun x63 w57 =>
            m R (o_builtin .append #[133, 133] 133 [false, false] [x61, x63]) w57 fun x64 w58 =>
            m R (o_fieldAddr 135 x10 2) w58 fun x65 w59 =>
            m R (o_store 133 x65 x64) w59 fun _ w60 =>
            j6 x11 w60) (
            m R (o_load 30 x5) w53 fun x66 w61 =>
            m R (o_fieldAddr 182 x13 2) w61 fun x67 w62 =>
            m R (o_store 30 x67 x66) w62 fun _ w63 =>
            m R (o_fieldAddr 135 x10 1) w63 fun x68 w64 =>
            m R (o_load 133 x68) w64 fun x69 w65 =>
            m R (o_load 182 x13) w65 fun x70 w66 =>
            m R (o_buildSlice 133 1 [(0, x70)]) w66 fun x71 w67 =>
            m R (o_builtin .append #[133, 133] 133 [false, false] [x69, x71]) w67 fun x72 w68 =>
            m R (o_fieldAddr 135 x10 1) w68 fun x73 w69 =>
            m R (o_store 133 x73 x72) w69 fun _ w70 =>
            m R (o_load 182 x13) w70 fun x75 w71 =>
            m R (o_buildSlice 133 1 [(0, x75)]) w71 fun x76 w72 =>
            m R (o_builtin .append #[133, 133] 133 [false, false] [x11, x76]) w72 fun x77 w73 =>
            j6 x77 w73))) fun x11 u6 w74 =>
      m R (o_bin .add 3 true x12 (.int .i64 1)) w74 fun x29 w75 =>
      next5 x11 x29 w75) (
      ml0 w21 fun u16 w76 next16 =>
        m R (o_fieldAddr 135 x10 2) w76 fun x78 w77 =>
        m R (o_load 133 x78) w77 fun x79 w78 =>
        m R (o_builtin .len #[133] 3 [false] [x79]) w78 fun x80 w79 =>
        m R (o_bin .gtr 3 true x80 (.int .i64 32)) w79 fun x81 w80 =>
        mif x81 (
          m R (o_fieldAddr 135 x10 2) w80 fun x82 w81 =>
          m R (o_load 133 x82) w81 fun x83 w82 =>
          m R (o_slice 133 x83 (some (.int .i64 1)) none none) w82 fun x84 w83 =>
          m R (o_fieldAddr 135 x10 2) w83 fun x85 w84 =>
          m R (o_store 133 x85 x84) w84 fun _ w85 =>
          next16 w85) (
          m R (o_load 135 x10) w80 fun x86 w86 =>
          m R (o_store 135 x8 x86) w86 fun _ w87 =>
          rcell Try.prog 135 x8 w87 fun r8 =>
          R (.returned (.tuple #[r8, x11])) w87))
def A_bevyref17_List_Move : Ann := ⟨[(5, [11, 12], 302231454903657285302272), (16, [], 77069021000432609887518720)], [(6, [11], 302231454903656219944960), (9, [44], 35150012350464)], [], [], []⟩
theorem E_bevyref17_List_Move (x0 x1 x2 x3 : Value) (w : World) (R : Ending → World → Prop) : cwp Try.prog A_bevyref17_List_Move (Try.f72.body.getD .skip) (retPost Try.prog Try.f72.results.toList R) (argE [x0, x1, x2, x3]) w = F_bevyref17_List_Move x0 x1 x2 x3 w R := by kernel_rfl
theorem C_bevyref17_List_Move {x0 x1 x2 x3 : Value} {w : World} {R : Ending → World → Prop} (h : F_bevyref17_List_Move x0 x1 x2 x3 w R) : Calls Try.prog 72 #[x0, x1, x2, x3] w R :=
  calls_cwp (A := A_bevyref17_List_Move) (args := [x0, x1, x2, x3]) mixed Try.func72 (c := Try.f72.body.getD .skip) (by kernel_rfl) (by kernel_rfl) (by kernel_rfl) ((E_bevyref17_List_Move x0 x1 x2 x3 w R).mpr h)

/-- bevy/bevyref17.Same -/
def F_bevyref17_Same (x0 x1 : Value) (w : World) (R : Ending → World → Prop) : Prop :=
  m R (o_builtin .len #[133] 3 [false] [x0]) w fun x7 w1 =>
  m R (o_builtin .len #[133] 3 [false] [x1]) w1 fun x9 w2 =>
  m R (o_bin .neq 3 false x7 x9) w2 fun x10 w3 =>
  mif x10 (
    R (.returned (.bool false)) w3) (
    ml1 (.int .i64 0) w3 fun x5 u4 w4 next4 =>
      m R (o_builtin .len #[133] 3 [false] [x0]) w4 fun x13 w5 =>
      m R (o_bin .lss 3 false x5 x13) w5 fun x14 w6 =>
      mif x14 (
        dp Try.prog (o_indexAddr 133 x0 x5) fun x19 =>
        dq Try.prog w6 (o_load 182 x19) fun x20 =>
        dp Try.prog (o_indexAddr 133 x1 x5) fun x23 =>
        dq Try.prog w6 (o_load 182 x23) fun x24 =>
        dp Try.prog (o_bin .neq 182 false x20 x24) fun x25 =>
        dend w6 fun w7 =>
        mif x25 (
          R (.returned (.bool false)) w7) (
          m R (o_bin .add 3 true x5 (.int .i64 1)) w7 fun x16 w8 =>
          next4 x16 w8)) (
        R (.returned (.bool true)) w6))
def A_bevyref17_Same : Ann := ⟨[(4, [5], 67106864)], [], [(6, [⟨0, .q none, 1, 0, 131072⟩, ⟨1, .q none, 32, 0, 262144⟩, ⟨2, .q none, 393216, 3, 524288⟩, ⟨3, .q (some 0), 524288, 7, 1048576⟩, ⟨4, .q none, 2, 0, 2097152⟩, ⟨5, .q none, 32, 0, 4194304⟩, ⟨6, .q none, 6291456, 48, 8388608⟩, ⟨7, .q (some 0), 8388608, 112, 16777216⟩, ⟨8, .q none, 17825792, 255, 33554432⟩])], [], []⟩
theorem E_bevyref17_Same (x0 x1 : Value) (w : World) (R : Ending → World → Prop) : cwp Try.prog A_bevyref17_Same (Try.f73.body.getD .skip) (retPost Try.prog Try.f73.results.toList R) (argE [x0, x1]) w = F_bevyref17_Same x0 x1 w R := by kernel_rfl
theorem C_bevyref17_Same {x0 x1 : Value} {w : World} {R : Ending → World → Prop} (h : F_bevyref17_Same x0 x1 w R) : Calls Try.prog 73 #[x0, x1] w R :=
  calls_cwp (A := A_bevyref17_Same) (args := [x0, x1]) mixed Try.func73 (c := Try.f73.body.getD .skip) (by kernel_rfl) (by kernel_rfl) (by kernel_rfl) ((E_bevyref17_Same x0 x1 w R).mpr h)

/-- bevy/bevylaw17.plain -/
def F_bevylaw17_plain (x0 : Value) (w : World) (R : Ending → World → Prop) : Prop :=
  ml2 (.slice none 0 0) (.int .i64 0) w fun x3 x4 u3 w1 next3 =>
    m R (o_builtin .len #[123] 3 [false] [x0]) w1 fun x7 w2 =>
    m R (o_bin .lss 3 false x4 x7) w2 fun x8 w3 =>
    mif x8 (
      dp Try.prog (o_indexAddr 123 x0 x4) fun x14 =>
      dp Try.prog (o_fieldAddr 129 x14 0) fun x15 =>
      dq Try.prog w3 (o_load 3 x15) fun x16 =>
      dp Try.prog (o_indexAddr 123 x0 x4) fun x19 =>
      dp Try.prog (o_fieldAddr 129 x19 1) fun x20 =>
      dq Try.prog w3 (o_load 117 x20) fun x21 =>
      dp Try.prog (o_indexAddr 123 x0 x4) fun x24 =>
      dp Try.prog (o_fieldAddr 129 x24 2) fun x25 =>
      dq Try.prog w3 (o_load 30 x25) fun x26 =>
      dp Try.prog (o_indexAddr 123 x0 x4) fun x29 =>
      dp Try.prog (o_fieldAddr 129 x29 3) fun x30 =>
      dq Try.prog w3 (o_load 25 x30) fun x31 =>
      dp Try.prog (o_build 182 [(0, x16), (1, x21), (2, x26), (3, x31)]) fun x32 =>
      df Try.prog w3 (o_buildSlice 133 1 [(0, x32)]) false fun x33 w4 =>
      df Try.prog w4 (o_builtin .append #[133, 133] 133 [false, false] [x3, x33]) false fun x34 w5 =>
      dend w5 fun w6 =>
      m R (o_bin .add 3 true x4 (.int .i64 1)) w6 fun x10 w7 =>
      next3 x34 x10 w7) (
      R (.returned x3) w3)
def A_bevylaw17_plain : Ann := ⟨[(3, [3, 4], 34359738360)], [], [(5, [⟨0, .q none, 8, 0, 2048⟩, ⟨1, .q none, 1, 0, 4096⟩, ⟨2, .q none, 16, 0, 8192⟩, ⟨3, .q none, 12288, 6, 16384⟩, ⟨4, .q none, 16384, 14, 32768⟩, ⟨5, .q (some 0), 32768, 30, 65536⟩, ⟨6, .q none, 1, 0, 131072⟩, ⟨7, .q none, 16, 0, 262144⟩, ⟨8, .q none, 393216, 192, 524288⟩, ⟨9, .q none, 524288, 448, 1048576⟩, ⟨10, .q (some 0), 1048576, 960, 2097152⟩, ⟨11, .q none, 1, 0, 4194304⟩, ⟨12, .q none, 16, 0, 8388608⟩, ⟨13, .q none, 12582912, 6144, 16777216⟩, ⟨14, .q none, 16777216, 14336, 33554432⟩, ⟨15, .q (some 0), 33554432, 30720, 67108864⟩, ⟨16, .q none, 1, 0, 134217728⟩, ⟨17, .q none, 16, 0, 268435456⟩, ⟨18, .q none, 402653184, 196608, 536870912⟩, ⟨19, .q none, 536870912, 458752, 1073741824⟩, ⟨20, .q (some 0), 1073741824, 983040, 2147483648⟩, ⟨21, .q none, 2216755200, 2097150, 4294967296⟩, ⟨22, .f 0 false, 4294967296, 4194302, 8589934592⟩, ⟨23, .f 1 false, 8589936640, 8388607, 17179869184⟩, ⟨24, .q none, 17179869184, 16777215, 8⟩])], [], []⟩
theorem E_bevylaw17_plain (x0 : Value) (w : World) (R : Ending → World → Prop) : cwp Try.prog A_bevylaw17_plain (Try.f74.body.getD .skip) (retPost Try.prog Try.f74.results.toList R) (argE [x0]) w = F_bevylaw17_plain x0 w R := by kernel_rfl
theorem C_bevylaw17_plain {x0 : Value} {w : World} {R : Ending → World → Prop} (h : F_bevylaw17_plain x0 w R) : Calls Try.prog 74 #[x0] w R :=
  calls_cwp (A := A_bevylaw17_plain) (args := [x0]) mixed Try.func74 (c := Try.f74.body.getD .skip) (by kernel_rfl) (by kernel_rfl) (by kernel_rfl) ((E_bevylaw17_plain x0 w R).mpr h)

/-- (bevy/bevyref17.List).Settle -/
def F_bevyref17_List_Settle (x0 x1 : Value) (w : World) (R : Ending → World → Prop) : Prop :=
  m R (o_box 135 x0) w fun x2 w1 =>
  m R (o_alloc 135) w1 fun x4 w2 =>
  m R (o_fieldAddr 135 x2 0) w2 fun x7 w3 =>
  m R (o_load 3 x7) w3 fun x8 w4 =>
  m R (o_fieldAddr 135 x2 2) w4 fun x9 w5 =>
  m R (o_load 133 x9) w5 fun x10 w6 =>
  m R (o_build 135 [(0, x8), (2, x10)]) w6 fun x11 w7 =>
  m R (o_alloc 135) w7 fun x5 w8 =>
  m R (o_store 135 x5 x11) w8 fun _ w9 =>
  ml1 (.int .i64 0) w9 fun x6 u3 w10 next3 =>
    m R (o_fieldAddr 135 x2 1) w10 fun x13 w11 =>
    m R (o_load 133 x13) w11 fun x14 w12 =>
    m R (o_builtin .len #[133] 3 [false] [x14]) w12 fun x15 w13 =>
    m R (o_bin .lss 3 false x6 x15) w13 fun x16 w14 =>
    mif x16 (
      mj0 (fun j4 =>
        m R (o_fieldAddr 135 x2 1) w14 fun x20 w15 =>
        m R (o_load 133 x20) w15 fun x21 w16 =>
        m R (o_indexAddr 133 x21 x6) w16 fun x23 w17 =>
        m R (o_fieldAddr 182 x23 0) w17 fun x24 w18 =>
        m R (o_load 3 x24) w18 fun x25 w19 =>
        m R (o_call (fv 68) [x1, x25]) w19 fun x26 w20 =>
        m R (o_un .not x26) w20 fun x27 w21 =>
        mif x27 (
          dp Try.prog (o_fieldAddr 135 x5 1) fun x28 =>
          dq Try.prog w21 (o_load 133 x28) fun x29 =>
          dp Try.prog (o_fieldAddr 135 x2 1) fun x30 =>
          dq Try.prog w21 (o_load 133 x30) fun x31 =>
          dp Try.prog (o_indexAddr 133 x31 x6) fun x33 =>
          dq Try.prog w21 (o_load 182 x33) fun x34 =>
          df Try.prog w21 (o_buildSlice 133 1 [(0, x34)]) true fun x35 w22 =>
          df Try.prog w22 (o_builtin .append #[133, 133] 133 [false, false] [x29, x35]) false fun x36 w23 =>
          dp Try.prog (o_fieldAddr 135 x5 1) fun x37 =>
          df Try.prog w23 (o_store 133 x37 x36) false fun _ w24 =>
          dend w24 fun w25 =>
          j4 w25) (
          j4 w21)) fun u4 w26 =>
      m R (o_bin .add 3 true x6 (.int .i64 1)) w26 fun x18 w27 =>
      next3 x18 w27) (
      m R (o_load 135 x5) w14 fun x38 w28 =>
      m R (o_store 135 x4 x38) w28 fun _ w29 =>
      rcell Try.prog 135 x4 w29 fun r4 =>
      R (.returned r4) w29)
def A_bevyref17_List_Settle : Ann := ⟨[(3, [6], 274877902912)], [(4, [], 274877382656)], [(6, [⟨0, .q none, 32, 0, 268435456⟩, ⟨1, .q (some 0), 268435456, 1, 536870912⟩, ⟨2, .q none, 4, 0, 1073741824⟩, ⟨3, .q (some 0), 1073741824, 4, 2147483648⟩, ⟨4, .q none, 64, 0, 4294967296⟩, ⟨5, .q none, 6442450944, 28, 8589934592⟩, ⟨6, .q (some 0), 8589934592, 60, 17179869184⟩, ⟨7, .f 0 true, 17179869184, 124, 34359738368⟩, ⟨8, .f 1 false, 34896609280, 255, 68719476736⟩, ⟨9, .q none, 32, 511, 137438953472⟩, ⟨10, .f 2 false, 206158430208, 1023, 0⟩])], [], []⟩
theorem E_bevyref17_List_Settle (x0 x1 : Value) (w : World) (R : Ending → World → Prop) : cwp Try.prog A_bevyref17_List_Settle (Try.f75.body.getD .skip) (retPost Try.prog Try.f75.results.toList R) (argE [x0, x1]) w = F_bevyref17_List_Settle x0 x1 w R := by kernel_rfl
theorem C_bevyref17_List_Settle {x0 x1 : Value} {w : World} {R : Ending → World → Prop} (h : F_bevyref17_List_Settle x0 x1 w R) : Calls Try.prog 75 #[x0, x1] w R :=
  calls_cwp (A := A_bevyref17_List_Settle) (args := [x0, x1]) mixed Try.func75 (c := Try.f75.body.getD .skip) (by kernel_rfl) (by kernel_rfl) (by kernel_rfl) ((E_bevyref17_List_Settle x0 x1 w R).mpr h)

/-- bevy/plea.Restore -/
def F_plea_Restore (x0 x1 x2 : Value) (w : World) (R : Ending → World → Prop) : Prop :=
  m R (o_call (fv 89) [x1]) w fun x9 w1 =>
  m R (o_call (fv 89) [x2]) w1 fun x11 w2 =>
  m R (o_build 175 [(0, x0), (1, x9), (2, x11)]) w2 fun x12 w3 =>
  m R (o_box 175 x12) w3 fun x13 w4 =>
  R (.returned x13) w4
def A_plea_Restore : Ann := ⟨[], [], [], [], []⟩
theorem E_plea_Restore (x0 x1 x2 : Value) (w : World) (R : Ending → World → Prop) : cwp Try.prog A_plea_Restore (Try.f76.body.getD .skip) (retPost Try.prog Try.f76.results.toList R) (argE [x0, x1, x2]) w = F_plea_Restore x0 x1 x2 w R := by kernel_rfl
theorem C_plea_Restore {x0 x1 x2 : Value} {w : World} {R : Ending → World → Prop} (h : F_plea_Restore x0 x1 x2 w R) : Calls Try.prog 76 #[x0, x1, x2] w R :=
  calls_cwp (A := A_plea_Restore) (args := [x0, x1, x2]) mixed Try.func76 (c := Try.f76.body.getD .skip) (by kernel_rfl) (by kernel_rfl) (by kernel_rfl) ((E_plea_Restore x0 x1 x2 w R).mpr h)

/-- slices.Clone[[]bevy/plea.Plea,bevy/plea.Plea] -/
def F_slices_Clone_plea_Plea_plea_Plea (x0 : Value) (w : World) (R : Ending → World → Prop) : Prop :=
  m R (o_bin .eql 123 true x0 (.slice none 0 0)) w fun x4 w1 =>
  mif x4 (
    R (.returned (.slice none 0 0)) w1) (
    m R (o_buildSlice 123 0 []) w1 fun x5 w2 =>
    m R (o_builtin .append #[123, 123] 123 [false, false] [x5, x0]) w2 fun x7 w3 =>
    R (.returned x7) w3)
def A_slices_Clone_plea_Plea_plea_Plea : Ann := ⟨[], [], [], [], []⟩
theorem E_slices_Clone_plea_Plea_plea_Plea (x0 : Value) (w : World) (R : Ending → World → Prop) : cwp Try.prog A_slices_Clone_plea_Plea_plea_Plea (Try.f89.body.getD .skip) (retPost Try.prog Try.f89.results.toList R) (argE [x0]) w = F_slices_Clone_plea_Plea_plea_Plea x0 w R := by kernel_rfl
theorem C_slices_Clone_plea_Plea_plea_Plea {x0 : Value} {w : World} {R : Ending → World → Prop} (h : F_slices_Clone_plea_Plea_plea_Plea x0 w R) : Calls Try.prog 89 #[x0] w R :=
  calls_cwp (A := A_slices_Clone_plea_Plea_plea_Plea) (args := [x0]) mixed Try.func89 (c := Try.f89.body.getD .skip) (by kernel_rfl) (by kernel_rfl) (by kernel_rfl) ((E_slices_Clone_plea_Plea_plea_Plea x0 w R).mpr h)

/-- slices.Contains[[]int,int] -/
def F_slices_Contains_int_int (x0 x1 : Value) (w : World) (R : Ending → World → Prop) : Prop :=
  m R (o_call (fv 100) [x0, x1]) w fun x7 w1 =>
  m R (o_bin .geq 3 true x7 (.int .i64 0)) w1 fun x8 w2 =>
  R (.returned x8) w2
def A_slices_Contains_int_int : Ann := ⟨[], [], [], [], []⟩
theorem E_slices_Contains_int_int (x0 x1 : Value) (w : World) (R : Ending → World → Prop) : cwp Try.prog A_slices_Contains_int_int (Try.f90.body.getD .skip) (retPost Try.prog Try.f90.results.toList R) (argE [x0, x1]) w = F_slices_Contains_int_int x0 x1 w R := by kernel_rfl
theorem C_slices_Contains_int_int {x0 x1 : Value} {w : World} {R : Ending → World → Prop} (h : F_slices_Contains_int_int x0 x1 w R) : Calls Try.prog 90 #[x0, x1] w R :=
  calls_cwp (A := A_slices_Contains_int_int) (args := [x0, x1]) mixed Try.func90 (c := Try.f90.body.getD .skip) (by kernel_rfl) (by kernel_rfl) (by kernel_rfl) ((E_slices_Contains_int_int x0 x1 w R).mpr h)

/-- (bevy/bevylaw17.Table).Fits -/
def F_bevylaw17_Table_Fits (x0 x1 : Value) (w : World) (R : Ending → World → Prop) : Prop :=
  m R (o_box 178 x0) w fun x2 w1 =>
  m R (o_box 117 x1) w1 fun x3 w2 =>
  m R (o_load 117 x3) w2 fun x5 w3 =>
  m R (o_call (fv 94) [x5]) w3 fun x6 w4 =>
  m R (o_fieldAddr 178 x2 0) w4 fun x7 w5 =>
  m R (o_indexAddr 118 x7 x6) w5 fun x8 w6 =>
  m R (o_load 3 x8) w6 fun x9 w7 =>
  R (.returned x9) w7
def A_bevylaw17_Table_Fits : Ann := ⟨[], [], [], [], []⟩
theorem E_bevylaw17_Table_Fits (x0 x1 : Value) (w : World) (R : Ending → World → Prop) : cwp Try.prog A_bevylaw17_Table_Fits (Try.f91.body.getD .skip) (retPost Try.prog Try.f91.results.toList R) (argE [x0, x1]) w = F_bevylaw17_Table_Fits x0 x1 w R := by kernel_rfl
theorem C_bevylaw17_Table_Fits {x0 x1 : Value} {w : World} {R : Ending → World → Prop} (h : F_bevylaw17_Table_Fits x0 x1 w R) : Calls Try.prog 91 #[x0, x1] w R :=
  calls_cwp (A := A_bevylaw17_Table_Fits) (args := [x0, x1]) mixed Try.func91 (c := Try.f91.body.getD .skip) (by kernel_rfl) (by kernel_rfl) (by kernel_rfl) ((E_bevylaw17_Table_Fits x0 x1 w R).mpr h)

/-- slices.DeleteFunc[[]bevy/plea.Plea,bevy/plea.Plea] -/
def F_slices_DeleteFunc_plea_Plea_plea_Plea (x0 x1 : Value) (w : World) (R : Ending → World → Prop) : Prop :=
  m R (o_call (fv 101) [x0, x1]) w fun x10 w1 =>
  m R (o_bin .eql 3 true x10 (.int .i64 (-1))) w1 fun x12 w2 =>
  mif x12 (
    R (.returned x0) w2) (
    m R (o_bin .add 3 true x10 (.int .i64 1)) w2 fun x15 w3 =>
    ml2 x10 x15 w3 fun x5 x6 u5 w4 next5 =>
      m R (o_builtin .len #[123] 3 [false] [x0]) w4 fun x18 w5 =>
      m R (o_bin .lss 3 false x6 x18) w5 fun x19 w6 =>
      mif x19 (
        mj1 (fun j6 =>
          m R (o_indexAddr 123 x0 x6) w6 fun x24 w7 =>
          m R (o_load 129 x24) w7 fun x25 w8 =>
          m R (o_alloc 129) w8 fun x7 w9 =>
          m R (o_store 129 x7 x25) w9 fun _ w10 =>
          m R (o_load 129 x7) w10 fun x27 w11 =>
          m R (o_call x1 [x27]) w11 fun x28 w12 =>
          m R (o_un .not x28) w12 fun x29 w13 =>
          mif x29 (
            m R (o_load 129 x7) w13 fun x32 w14 =>
            m R (o_indexAddr 123 x0 x5) w14 fun x33 w15 =>
            m R (o_store 129 x33 x32) w15 fun _ w16 =>
            m R (o_bin .add 3 true x5 (.int .i64 1)) w16 fun x35 w17 =>
            j6 x35 w17) (
            j6 x5 w13)) fun x5 u6 w18 =>
        m R (o_bin .add 3 true x6 (.int .i64 1)) w18 fun x21 w19 =>
        next5 x5 x21 w19) (
        m R (o_slice 123 x0 (some x5) none none) w6 fun x38 w20 =>
        m R (o_builtin .clear #[123] 0 [false] [x38]) w20 fun _ w21 =>
        m R (o_slice 123 x0 none (some x5) none) w21 fun x41 w22 =>
        R (.returned x41) w22))
def A_slices_DeleteFunc_plea_Plea_plea_Plea : Ann := ⟨[(5, [5, 6], 68719411424)], [(6, [5], 68715282592)], [], [], []⟩
theorem E_slices_DeleteFunc_plea_Plea_plea_Plea (x0 x1 : Value) (w : World) (R : Ending → World → Prop) : cwp Try.prog A_slices_DeleteFunc_plea_Plea_plea_Plea (Try.f92.body.getD .skip) (retPost Try.prog Try.f92.results.toList R) (argE [x0, x1]) w = F_slices_DeleteFunc_plea_Plea_plea_Plea x0 x1 w R := by kernel_rfl
theorem C_slices_DeleteFunc_plea_Plea_plea_Plea {x0 x1 : Value} {w : World} {R : Ending → World → Prop} (h : F_slices_DeleteFunc_plea_Plea_plea_Plea x0 x1 w R) : Calls Try.prog 92 #[x0, x1] w R :=
  calls_cwp (A := A_slices_DeleteFunc_plea_Plea_plea_Plea) (args := [x0, x1]) mixed Try.func92 (c := Try.f92.body.getD .skip) (by kernel_rfl) (by kernel_rfl) (by kernel_rfl) ((E_slices_DeleteFunc_plea_Plea_plea_Plea x0 x1 w R).mpr h)

/-- (*bevy/plea.List).Settle$1 -/
def F_plea_List_Settle_1 (x0 x1 : Value) (w : World) (R : Ending → World → Prop) : Prop :=
  m R (o_box 129 x0) w fun x2 w1 =>
  m R (o_load 41 x1) w1 fun x4 w2 =>
  m R (o_fieldAddr 129 x2 0) w2 fun x5 w3 =>
  m R (o_load 3 x5) w3 fun x6 w4 =>
  m R (o_call (fv 90) [x4, x6]) w4 fun x7 w5 =>
  R (.returned x7) w5
def A_plea_List_Settle_1 : Ann := ⟨[], [], [], [], []⟩
theorem E_plea_List_Settle_1 (x0 x1 : Value) (w : World) (R : Ending → World → Prop) : cwp Try.prog A_plea_List_Settle_1 (Try.f93.body.getD .skip) (retPost Try.prog Try.f93.results.toList R) (argE [x0, x1]) w = F_plea_List_Settle_1 x0 x1 w R := by kernel_rfl
theorem C_plea_List_Settle_1 {x0 x1 : Value} {w : World} {R : Ending → World → Prop} (h : F_plea_List_Settle_1 x0 x1 w R) : Calls Try.prog 93 #[x0, x1] w R :=
  calls_cwp (A := A_plea_List_Settle_1) (args := [x0, x1]) mixed Try.func93 (c := Try.f93.body.getD .skip) (by kernel_rfl) (by kernel_rfl) (by kernel_rfl) ((E_plea_List_Settle_1 x0 x1 w R).mpr h)

/-- bevy/bevyref17.Slot -/
def F_bevyref17_Slot (x0 : Value) (w : World) (R : Ending → World → Prop) : Prop :=
  m R (o_box 117 x0) w fun x1 w1 =>
  m R (o_fieldAddr 117 x1 1) w1 fun x3 w2 =>
  m R (o_load 3 x3) w2 fun x4 w3 =>
  m R (o_conv 3 49 x4) w3 fun x5 w4 =>
  m R (o_bin .rem 49 true x5 (.int .u64 8)) w4 fun x6 w5 =>
  m R (o_conv 49 3 x6) w5 fun x7 w6 =>
  R (.returned x7) w6
def A_bevyref17_Slot : Ann := ⟨[], [], [], [], []⟩
theorem E_bevyref17_Slot (x0 : Value) (w : World) (R : Ending → World → Prop) : cwp Try.prog A_bevyref17_Slot (Try.f94.body.getD .skip) (retPost Try.prog Try.f94.results.toList R) (argE [x0]) w = F_bevyref17_Slot x0 w R := by kernel_rfl
theorem C_bevyref17_Slot {x0 : Value} {w : World} {R : Ending → World → Prop} (h : F_bevyref17_Slot x0 w R) : Calls Try.prog 94 #[x0] w R :=
  calls_cwp (A := A_bevyref17_Slot) (args := [x0]) mixed Try.func94 (c := Try.f94.body.getD .skip) (by kernel_rfl) (by kernel_rfl) (by kernel_rfl) ((E_bevyref17_Slot x0 w R).mpr h)

/-- slices.Index[[]int,int] -/
def F_slices_Index_int_int (x0 x1 : Value) (w : World) (R : Ending → World → Prop) : Prop :=
  m R (o_builtin .len #[41] 3 [false] [x0]) w fun x7 w1 =>
  ml1 (.int .i64 0) w1 fun x8 u2 w2 next2 =>
    m R (o_bin .lss 3 false x8 x7) w2 fun x9 w3 =>
    mif x9 (
      m R (o_indexAddr 41 x0 x8) w3 fun x14 w4 =>
      m R (o_load 3 x14) w4 fun x15 w5 =>
      m R (o_bin .eql 3 false x1 x15) w5 fun x16 w6 =>
      mif x16 (
        R (.returned x8) w6) (
        m R (o_bin .add 3 true x8 (.int .i64 1)) w6 fun x18 w7 =>
        next2 x18 w7)) (
      R (.returned (.int .i64 (-1))) w3)
def A_slices_Index_int_int : Ann := ⟨[(2, [8], 524080)], [], [], [], []⟩
theorem E_slices_Index_int_int (x0 x1 : Value) (w : World) (R : Ending → World → Prop) : cwp Try.prog A_slices_Index_int_int (Try.f100.body.getD .skip) (retPost Try.prog Try.f100.results.toList R) (argE [x0, x1]) w = F_slices_Index_int_int x0 x1 w R := by kernel_rfl
theorem C_slices_Index_int_int {x0 x1 : Value} {w : World} {R : Ending → World → Prop} (h : F_slices_Index_int_int x0 x1 w R) : Calls Try.prog 100 #[x0, x1] w R :=
  calls_cwp (A := A_slices_Index_int_int) (args := [x0, x1]) mixed Try.func100 (c := Try.f100.body.getD .skip) (by kernel_rfl) (by kernel_rfl) (by kernel_rfl) ((E_slices_Index_int_int x0 x1 w R).mpr h)

/-- slices.IndexFunc[[]bevy/plea.Plea,bevy/plea.Plea] -/
def F_slices_IndexFunc_plea_Plea_plea_Plea (x0 x1 : Value) (w : World) (R : Ending → World → Prop) : Prop :=
  m R (o_builtin .len #[123] 3 [false] [x0]) w fun x7 w1 =>
  ml1 (.int .i64 0) w1 fun x8 u2 w2 next2 =>
    m R (o_bin .lss 3 false x8 x7) w2 fun x9 w3 =>
    mif x9 (
      m R (o_indexAddr 123 x0 x8) w3 fun x14 w4 =>
      m R (o_load 129 x14) w4 fun x15 w5 =>
      m R (o_call x1 [x15]) w5 fun x16 w6 =>
      mif x16 (
        R (.returned x8) w6) (
        m R (o_bin .add 3 true x8 (.int .i64 1)) w6 fun x18 w7 =>
        next2 x18 w7)) (
      R (.returned (.int .i64 (-1))) w3)
def A_slices_IndexFunc_plea_Plea_plea_Plea : Ann := ⟨[(2, [8], 524080)], [], [], [], []⟩
theorem E_slices_IndexFunc_plea_Plea_plea_Plea (x0 x1 : Value) (w : World) (R : Ending → World → Prop) : cwp Try.prog A_slices_IndexFunc_plea_Plea_plea_Plea (Try.f101.body.getD .skip) (retPost Try.prog Try.f101.results.toList R) (argE [x0, x1]) w = F_slices_IndexFunc_plea_Plea_plea_Plea x0 x1 w R := by kernel_rfl
theorem C_slices_IndexFunc_plea_Plea_plea_Plea {x0 x1 : Value} {w : World} {R : Ending → World → Prop} (h : F_slices_IndexFunc_plea_Plea_plea_Plea x0 x1 w R) : Calls Try.prog 101 #[x0, x1] w R :=
  calls_cwp (A := A_slices_IndexFunc_plea_Plea_plea_Plea) (args := [x0, x1]) mixed Try.func101 (c := Try.f101.body.getD .skip) (by kernel_rfl) (by kernel_rfl) (by kernel_rfl) ((E_slices_IndexFunc_plea_Plea_plea_Plea x0 x1 w R).mpr h)
end Go.Proofs.Ythnjpglpglbbkaa
