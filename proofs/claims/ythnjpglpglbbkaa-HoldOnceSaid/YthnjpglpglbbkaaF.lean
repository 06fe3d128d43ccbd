/- The formulas of the bodies, printed by wip/hoas.py out of the loaded program; each is held against the body by the kernel. -/
import Derived.Test.YthnjpglpglbbkaaFBase
set_option linter.unusedVariables false
namespace Go.Proofs.Ythnjpglpglbbkaa

/-- bevy/bevylaw16.HoldOnce -/
def F_bevylaw16_HoldOnce (x0 x1 : Value) (w : World) (R : Ending → World → Prop) : Prop :=
  mj1 (fun j2 =>
    m R (o_call (fv 14) []) w fun x14 w1 =>
    m R (o_un .not x14) w1 fun x15 w2 =>
    mguard x15 false (fun k => m R (o_move x1) w2 k) w2 fun x17 w3 =>
    mguard x15 false (fun k => m R (o_builtin .len #[22] 3 [false] [x17]) w3 k) w3 fun x18 w4 =>
    mguard x15 false (fun k => m R (o_bin .gtr 3 true x18 (.int .i64 400)) w4 k) w4 fun x19 w5 =>
    m R (o_pick x15 (.bool true) x19) w5 fun x20 w6 =>
    j2 x20 w6) fun x20 u2 w7 =>
  mif x20 (
    m R (o_call (fv 14) []) w7 fun x21 w8 =>
    R (.returned x21) w8) (
    m R (o_conv 5 3 x0) w7 fun x24 w9 =>
    m R (o_call (fv 15) [x24]) w9 fun x25 w10 =>
    m R (o_extract x25 0) w10 fun x26 w11 =>
    m R (o_extract x25 1) w11 fun x27 w12 =>
    ml2 (.slice none 0 0) (.int .i64 0) w12 fun x7 x8 u6 w13 next6 =>
      m R (o_builtin .len #[22] 3 [false] [x1]) w13 fun x30 w14 =>
      m R (o_bin .lss 3 false x8 x30) w14 fun x31 w15 =>
      mif x31 (
        mj1 (fun j7 =>
          m R (o_indexAddr 22 x1 x8) w15 fun x37 w16 =>
          m R (o_load 34 x37) w16 fun x38 w17 =>
          m R (o_call (fv 17) [x38]) w17 fun x39 w18 =>
          m R (o_call (fv 16) [x26, x39]) w18 fun x40 w19 =>
          m R (o_bin .eql 25 true x40 (.int .i64 0)) w19 fun x41 w20 =>
          mif x41 (
            m R (o_indexAddr 22 x1 x8) w20 fun x45 w21 =>
            m R (o_load 34 x45) w21 fun x46 w22 =>
            m R (o_buildSlice 22 1 [(0, x46)]) w22 fun x47 w23 =>
            m R (o_builtin .append #[22, 22] 22 [false, false] [x7, x47]) w23 fun x48 w24 =>
            j7 x48 w24) (
            j7 x7 w20)) fun x7 u7 w25 =>
        m R (o_bin .add 3 true x8 (.int .i64 1)) w25 fun x33 w26 =>
        next6 x7 x33 w26) (
        mj1 (fun j11 =>
          m R (o_builtin .len #[22] 3 [false] [x7]) w15 fun x50 w27 =>
          m R (o_conv 5 3 x0) w27 fun x52 w28 =>
          m R (o_bin .gtr 3 false x50 x52) w28 fun x53 w29 =>
          mguard x53 false (fun k => m R (o_move x26) w29 k) w29 fun x55 w30 =>
          mguard x53 false (fun k => m R (o_call (fv 18) [x55]) w30 k) w30 fun x56 w31 =>
          mguard x53 false (fun k => m R (o_move x7) w31 k) w31 fun x57 w32 =>
          mguard x53 false (fun k => m R (o_builtin .len #[22] 3 [false] [x57]) w32 k) w32 fun x58 w33 =>
          mguard x53 false (fun k => m R (o_bin .neq 3 false x56 x58) w33 k) w33 fun x59 w34 =>
          m R (o_pick x53 (.bool true) x59) w34 fun x60 w35 =>
          j11 x60 w35) fun x60 u11 w36 =>
        mif x60 (
          R (.returned (.bool false)) w36) (
          ml2 (.int .i64 0) (.int .i64 0) w36 fun x9 x10 u14 w37 next14 =>
            m R (o_builtin .len #[22] 3 [false] [x7]) w37 fun x63 w38 =>
            m R (o_bin .lss 3 false x10 x63) w38 fun x64 w39 =>
            mif x64 (
              m R (o_indexAddr 22 x7 x10) w39 fun x70 w40 =>
              m R (o_fieldAddr 34 x70 1) w40 fun x71 w41 =>
              m R (o_load 30 x71) w41 fun x72 w42 =>
              m R (o_call (fv 20) [x26, x72]) w42 fun x73 w43 =>
              m R (o_call (fv 19) [x73]) w43 fun x74 w44 =>
              ml2 (.int .i64 0) x10 w44 fun x12 x13 u19 w45 next19 =>
                mj0 (fun j21 =>
                  m R (o_builtin .len #[22] 3 [false] [x7]) w45 fun x78 w46 =>
                  m R (o_bin .lss 3 false x13 x78) w46 fun x79 w47 =>
                  mguard x79 true (fun k => m R (o_move x74) w47 k) w47 fun x81 w48 =>
                  mguard x79 true (fun k => m R (o_builtin .len #[22] 3 [false] [x81]) w48 k) w48 fun x82 w49 =>
                  mguard x79 true (fun k => m R (o_bin .gtr 3 true x82 (.int .i64 0)) w49 k) w49 fun x83 w50 =>
                  m R (o_pick x79 x83 (.bool false)) w50 fun x84 w51 =>
                  mif x84 (
                    j21 w51) (
                    m R (o_builtin .len #[22] 3 [false] [x74]) w51 fun x117 w52 =>
                    m R (o_bin .neq 3 false x12 x117) w52 fun x118 w53 =>
                    mif x118 (
                      R (.returned (.bool false)) w53) (
                      m R (o_bin .add 3 false x9 x12) w53 fun x121 w54 =>
                      m R (o_bin .add 3 true x10 (.int .i64 1)) w54 fun x66 w55 =>
                      next14 x121 x66 w55))) fun u21 w56 =>
                mj1 (fun j20 =>
                  dp Try.prog (o_indexAddr 22 x7 x13) fun x89 =>
                  dp Try.prog (o_fieldAddr 34 x89 1) fun x90 =>
                  dq Try.prog w56 (o_load 30 x90) fun x91 =>
                  dp Try.prog (o_indexAddr 22 x7 x10) fun x94 =>
                  dp Try.prog (o_fieldAddr 34 x94 1) fun x95 =>
                  dq Try.prog w56 (o_load 30 x95) fun x96 =>
                  dp Try.prog (o_bin .eql 30 false x91 x96) fun x97 =>
                  dend w56 fun w57 =>
                  mif x97 (
                    mj1 (fun j23 =>
                      dp Try.prog (o_builtin .len #[22] 3 [false] [x74]) fun x100 =>
                      dp Try.prog (o_bin .geq 3 false x12 x100) fun x101 =>
                      qguard x101 false (fun k => dp Try.prog (o_move x74) k) fun x103 =>
                      qguard x101 false (fun k => dp Try.prog (o_move x12) k) fun x104 =>
                      qguard x101 false (fun k => dp Try.prog (o_indexAddr 22 x103 x104) k) fun x105 =>
                      qguard x101 false (fun k => dq Try.prog w57 (o_load 34 x105) k) fun x106 =>
                      qguard x101 false (fun k => dp Try.prog (o_move x7) k) fun x107 =>
                      qguard x101 false (fun k => dp Try.prog (o_move x13) k) fun x108 =>
                      qguard x101 false (fun k => dp Try.prog (o_indexAddr 22 x107 x108) k) fun x109 =>
                      qguard x101 false (fun k => dq Try.prog w57 (o_load 34 x109) k) fun x110 =>
                      qguard x101 false (fun k => dp Try.prog (o_bin .neq 34 false x106 x110) k) fun x111 =>
                      dp Try.prog (o_pick x101 (.bool true) x111) fun x112 =>
                      dend w57 fun w58 =>
                      j23 x112 w58) fun x112 u23 w59 =>
                    mif x112 (
                      R (.returned (.bool false)) w59) (
                      m R (o_bin .add 3 true x12 (.int .i64 1)) w59 fun x114 w60 =>
                      j20 x114 w60)) (
                    j20 x12 w57)) fun x12 u20 w61 =>
                m R (o_bin .add 3 true x13 (.int .i64 1)) w61 fun x86 w62 =>
                next19 x12 x86 w62) (
              m R (o_builtin .len #[22] 3 [false] [x7]) w39 fun x124 w63 =>
              m R (o_bin .eql 3 false x9 x124) w63 fun x125 w64 =>
              mguard x125 true (fun k => m R (o_move x26) w64 k) w64 fun x127 w65 =>
              mguard x125 true (fun k => m R (o_call (fv 18) [x127]) w65 k) w65 fun x128 w66 =>
              mguard x125 true (fun k => m R (o_bin .eql 3 true x128 (.int .i64 0)) w66 k) w66 fun x129 w67 =>
              m R (o_pick x125 x129 (.bool false)) w67 fun x130 w68 =>
              R (.returned x130) w68))))
def A_bevylaw16_HoldOnce : Ann := ⟨[(6, [7, 8], 562949684986240), (14, [9, 10], 5316911983139663489309385231907700240), (19, [12, 13], 41538374868203063164518056310353936)], [(2, [20], 2080768), (7, [7], 562932773552256), (11, [60], 2305280059260272640), (21, [], 38610068363942219267178496), (20, [12], 41538374713536116117571436271374352), (23, [112], 10384276804419598199710618482638848)], [(21, [⟨0, .q none, 128, 0, 154742504910672534362390528⟩, ⟨1, .q none, 8192, 0, 309485009821345068724781056⟩, ⟨2, .q none, 464227514732017603087171584, 3, 618970019642690137449562112⟩, ⟨3, .q none, 618970019642690137449562112, 7, 1237940039285380274899124224⟩, ⟨4, .q (some 0), 1237940039285380274899124224, 15, 2475880078570760549798248448⟩, ⟨5, .q none, 128, 0, 4951760157141521099596496896⟩, ⟨6, .q none, 1024, 0, 9903520314283042199192993792⟩, ⟨7, .q none, 14855280471424563298789490688, 96, 19807040628566084398385987584⟩, ⟨8, .q none, 19807040628566084398385987584, 224, 39614081257132168796771975168⟩, ⟨9, .q (some 0), 39614081257132168796771975168, 480, 79228162514264337593543950336⟩, ⟨10, .q none, 81704042592835098143342198784, 1023, 158456325028528675187087900672⟩]), (22, [⟨0, .q none, 4096, 0, 316912650057057350374175801344⟩, ⟨1, .q none, 2048, 0, 633825300114114700748351602688⟩, ⟨2, .q none, 633825300114114700748351602688, 2, 1267650600228229401496703205376⟩, ⟨3, .q none, 1584563250285286751870879006720, 7, 2535301200456458802993406410752⟩, ⟨4, .q none, 2535301200456458802993406410752, 15, 5070602400912917605986812821504⟩, ⟨5, .q none, 5070602400912917605986812823552, 31, 10141204801825835211973625643008⟩, ⟨6, .q none, 5070602400912917605986812825600, 31, 20282409603651670423947251286016⟩, ⟨7, .q none, 35494216806390423241907689750528, 127, 40564819207303340847894502572032⟩, ⟨8, .q (some 0), 45635421608216258453881315393536, 255, 81129638414606681695789005144064⟩, ⟨9, .q none, 5070602400912917605986812821632, 31, 162259276829213363391578010288128⟩, ⟨10, .q none, 5070602400912917605986812829696, 31, 324518553658426726783156020576256⟩, ⟨11, .q none, 491848432888553007780720843685888, 1567, 649037107316853453566312041152512⟩, ⟨12, .q (some 0), 654107709717766371172298853974016, 3615, 1298074214633706907132624082305024⟩, ⟨13, .q none, 1384274455449226506434399900270592, 8191, 2596148429267413814265248164610048⟩, ⟨14, .q none, 2601219031668326731871234977431552, 16383, 5192296858534827628530496329220096⟩])], [], []⟩
theorem E_bevylaw16_HoldOnce (x0 x1 : Value) (w : World) (R : Ending → World → Prop) : cwp Try.prog A_bevylaw16_HoldOnce (Try.f3.body.getD .skip) (retPost Try.prog Try.f3.results.toList R) (argE [x0, x1]) w = F_bevylaw16_HoldOnce x0 x1 w R := by kernel_rfl
theorem C_bevylaw16_HoldOnce {x0 x1 : Value} {w : World} {R : Ending → World → Prop} (h : F_bevylaw16_HoldOnce x0 x1 w R) : Calls Try.prog 3 #[x0, x1] w R :=
  calls_cwp (A := A_bevylaw16_HoldOnce) (args := [x0, x1]) mixed Try.func3 (c := Try.f3.body.getD .skip) (by kernel_rfl) (by kernel_rfl) (by kernel_rfl) ((E_bevylaw16_HoldOnce x0 x1 w R).mpr h)

/-- bevy/bevylaw16.HoldPlays -/
def F_bevylaw16_HoldPlays (x0 x1 : Value) (w : World) (R : Ending → World → Prop) : Prop :=
  mj1 (fun j2 =>
    m R (o_call (fv 14) []) w fun x17 w1 =>
    m R (o_un .not x17) w1 fun x18 w2 =>
    mguard x18 false (fun k => m R (o_move x1) w2 k) w2 fun x20 w3 =>
    mguard x18 false (fun k => m R (o_builtin .len #[75] 3 [false] [x20]) w3 k) w3 fun x21 w4 =>
    mguard x18 false (fun k => m R (o_bin .gtr 3 true x21 (.int .i64 400)) w4 k) w4 fun x22 w5 =>
    m R (o_pick x18 (.bool true) x22) w5 fun x23 w6 =>
    j2 x23 w6) fun x23 u2 w7 =>
  mif x23 (
    m R (o_call (fv 14) []) w7 fun x24 w8 =>
    R (.returned x24) w8) (
    m R (o_call (fv 15) [x0]) w7 fun x27 w9 =>
    m R (o_extract x27 0) w9 fun x28 w10 =>
    m R (o_extract x27 1) w10 fun x29 w11 =>
    mj1 (fun j5 =>
      m R (o_bin .lss 3 true x0 (.int .i64 0)) w11 fun x31 w12 =>
      mguard x31 false (fun k => m R (o_move x0) w12 k) w12 fun x33 w13 =>
      mguard x31 false (fun k => m R (o_bin .gtr 3 true x33 (.int .i64 256)) w13 k) w13 fun x34 w14 =>
      m R (o_pick x31 (.bool true) x34) w14 fun x35 w15 =>
      j5 x35 w15) fun x35 u5 w16 =>
    mif x35 (
      m R (o_bin .eql 25 true x29 (.int .i64 1)) w16 fun x37 w17 =>
      mguard x37 true (fun k => m R (o_move x28) w17 k) w17 fun x39 w18 =>
      mguard x37 true (fun k => m R (o_bin .eql 24 true x39 (.pointer none)) w18 k) w18 fun x40 w19 =>
      m R (o_pick x37 x40 (.bool false)) w19 fun x41 w20 =>
      R (.returned x41) w20) (
      m R (o_build 77 [(0, x0)]) w16 fun x43 w21 =>
      m R (o_alloc 77) w21 fun x7 w22 =>
      m R (o_store 77 x7 x43) w22 fun _ w23 =>
      ml1 (.int .i64 0) w23 fun x8 u8 w24 next8 =>
        m R (o_builtin .len #[75] 3 [false] [x1]) w24 fun x46 w25 =>
        m R (o_bin .lss 3 false x8 x46) w25 fun x47 w26 =>
        mif x47 (
          m R (o_indexAddr 75 x1 x8) w26 fun x52 w27 =>
          m R (o_fieldAddr 79 x52 1) w27 fun x53 w28 =>
          m R (o_load 34 x53) w28 fun x54 w29 =>
          m R (o_alloc 34) w29 fun x9 w30 =>
          m R (o_store 34 x9 x54) w30 fun _ w31 =>
          mj1 (fun j27 =>
            m R (o_indexAddr 75 x1 x8) w31 fun x57 w32 =>
            m R (o_fieldAddr 79 x57 0) w32 fun x58 w33 =>
            m R (o_load 5 x58) w33 fun x59 w34 =>
            m R (o_bin .rem 5 true x59 (.int .u8 4)) w34 fun x60 w35 =>
            m R (o_bin .eql 5 true x60 (.int .u8 0)) w35 fun x62 w36 =>
            mif x62 (
              m R (o_load 77 x7) w36 fun x64 w37 =>
              m R (o_load 34 x9) w37 fun x65 w38 =>
              m R (o_call (fv 39) [x64, x65]) w38 fun x66 w39 =>
              m R (o_extract x66 0) w39 fun x67 w40 =>
              m R (o_extract x66 1) w40 fun x68 w41 =>
              m R (o_alloc 77) w41 fun x11 w42 =>
              m R (o_store 77 x11 x67) w42 fun _ w43 =>
              m R (o_load 34 x9) w43 fun x70 w44 =>
              m R (o_call (fv 17) [x70]) w44 fun x71 w45 =>
              m R (o_call (fv 16) [x28, x71]) w45 fun x72 w46 =>
              m R (o_bin .eql 3 false x72 x68) w46 fun x74 w47 =>
              m R (o_load 77 x11) w47 fun x75 w48 =>
              m R (o_store 77 x7 x75) w48 fun _ w49 =>
              j27 x74 w49) (
              m R (o_bin .eql 5 true x60 (.int .u8 1)) w36 fun x77 w50 =>
              mif x77 (
                m R (o_load 77 x7) w50 fun x79 w51 =>
                m R (o_fieldAddr 34 x9 1) w51 fun x80 w52 =>
                m R (o_load 30 x80) w52 fun x81 w53 =>
                m R (o_call (fv 40) [x79, x81]) w53 fun x82 w54 =>
                m R (o_extract x82 0) w54 fun x83 w55 =>
                m R (o_extract x82 1) w55 fun x84 w56 =>
                m R (o_alloc 77) w56 fun x13 w57 =>
                m R (o_store 77 x13 x83) w57 fun _ w58 =>
                m R (o_fieldAddr 34 x9 1) w58 fun x86 w59 =>
                m R (o_load 30 x86) w59 fun x87 w60 =>
                m R (o_call (fv 20) [x28, x87]) w60 fun x88 w61 =>
                m R (o_call (fv 19) [x88]) w61 fun x89 w62 =>
                m R (o_call (fv 41) [x89, x84]) w62 fun x91 w63 =>
                m R (o_load 77 x13) w63 fun x92 w64 =>
                m R (o_store 77 x7 x92) w64 fun _ w65 =>
                j27 x91 w65) (
                m R (o_bin .eql 5 true x60 (.int .u8 2)) w50 fun x94 w66 =>
                mif x94 (
                  m R (o_load 77 x7) w66 fun x96 w67 =>
                  m R (o_fieldAddr 34 x9 2) w67 fun x97 w68 =>
                  m R (o_load 3 x97) w68 fun x98 w69 =>
                  m R (o_call (fv 42) [x96, x98]) w69 fun x99 w70 =>
                  m R (o_extract x99 0) w70 fun x100 w71 =>
                  m R (o_extract x99 1) w71 fun x101 w72 =>
                  m R (o_alloc 77) w72 fun x15 w73 =>
                  m R (o_store 77 x15 x100) w73 fun _ w74 =>
                  m R (o_fieldAddr 34 x9 2) w74 fun x103 w75 =>
                  m R (o_load 3 x103) w75 fun x104 w76 =>
                  m R (o_call (fv 43) [x28, x104]) w76 fun x105 w77 =>
                  m R (o_bin .eql 3 false x105 x101) w77 fun x107 w78 =>
                  m R (o_load 77 x15) w78 fun x108 w79 =>
                  m R (o_store 77 x7 x108) w79 fun _ w80 =>
                  j27 x107 w80) (
                  m R (o_bin .eql 5 true x60 (.int .u8 3)) w66 fun x110 w81 =>
                  mif x110 (
                    dp Try.prog (o_fieldAddr 34 x9 0) fun x112 =>
                    dq Try.prog w81 (o_load 30 x112) fun x113 =>
                    df Try.prog w81 (o_call (fv 44) [x28, x113]) true fun x114 w82 =>
                    dq Try.prog w81 (o_load 77 x7) fun x115 =>
                    dp Try.prog (o_fieldAddr 34 x9 0) fun x116 =>
                    dq Try.prog w81 (o_load 30 x116) fun x117 =>
                    df Try.prog w82 (o_call (fv 45) [x115, x117]) false fun x118 w83 =>
                    dp Try.prog (o_bin .eql 4 false x114 x118) fun x119 =>
                    dend w83 fun w84 =>
                    j27 x119 w84) (
                    j27 (.bool true) w81))))) fun x10 u27 w85 =>
          mj1 (fun j28 =>
            dp Try.prog (o_un .not x10) fun x121 =>
            qguard x121 false (fun k => dp Try.prog (o_move x28) k) fun x123 =>
            mguard x121 false (fun k => df Try.prog w85 (o_call (fv 18) [x123]) true k) w85 fun x124 w86 =>
            qguard x121 false (fun k => dp Try.prog (o_fieldAddr 77 x7 1) k) fun x125 =>
            qguard x121 false (fun k => dq Try.prog w85 (o_load 22 x125) k) fun x126 =>
            qguard x121 false (fun k => dp Try.prog (o_builtin .len #[22] 3 [false] [x126]) k) fun x127 =>
            qguard x121 false (fun k => dp Try.prog (o_bin .neq 3 false x124 x127) k) fun x128 =>
            dp Try.prog (o_pick x121 (.bool true) x128) fun x129 =>
            qguard x129 false (fun k => dp Try.prog (o_move x28) k) fun x131 =>
            mguard x129 false (fun k => df Try.prog w86 (o_call (fv 46) [x131]) true k) w86 fun x132 w87 =>
            mguard x129 false (fun k => df Try.prog w87 (o_call (fv 19) [x132]) true k) w87 fun x133 w88 =>
            qguard x129 false (fun k => dp Try.prog (o_fieldAddr 77 x7 1) k) fun x134 =>
            qguard x129 false (fun k => dq Try.prog w86 (o_load 22 x134) k) fun x135 =>
            mguard x129 false (fun k => df Try.prog w88 (o_call (fv 41) [x133, x135]) false k) w88 fun x136 w89 =>
            qguard x129 false (fun k => dp Try.prog (o_un .not x136) k) fun x137 =>
            dp Try.prog (o_pick x129 (.bool true) x137) fun x138 =>
            dend w89 fun w90 =>
            j28 x138 w90) fun x138 u28 w91 =>
          mif x138 (
            R (.returned (.bool false)) w91) (
            m R (o_bin .add 3 true x8 (.int .i64 1)) w91 fun x49 w92 =>
            next8 x49 w92)) (
          R (.returned (.bool true)) w26)))
def A_bevylaw16_HoldPlays : Ann := ⟨[(8, [8], 696898287454081973172991196002669111148304)], [(2, [23], 16646144), (5, [35], 67645734912), (27, [10], 1329227995784915872867778263261510656), (28, [138], 696896958226086188257118292213201016717312)], [(26, [⟨0, .q none, 32, 0, 2596148429267413814265248164610048⟩, ⟨1, .q none, 512, 0, 5192296858534827628530496329220096⟩, ⟨2, .q (some 0), 5192296858534827628530496329220096, 2, 10384593717069655257060992658440192⟩, ⟨3, .f 0 true, 12980742146337069071326240823050240, 7, 20769187434139310514121985316880384⟩, ⟨4, .q (some 0), 128, 0, 41538374868278621028243970633760768⟩, ⟨5, .q none, 512, 0, 83076749736557242056487941267521536⟩, ⟨6, .q (some 0), 83076749736557242056487941267521536, 32, 166153499473114484112975882535043072⟩, ⟨7, .f 1 false, 207691874341393105141219853168803840, 127, 332306998946228968225951765070086144⟩, ⟨8, .q none, 353076186380368278740073750386966528, 255, 664613997892457936451903530140172288⟩, ⟨9, .q none, 664613997892457936451903530140172288, 511, 1024⟩]), (27, [⟨0, .q none, 1024, 0, 1329227995784915872903807060280344576⟩, ⟨1, .q none, 1329227995784915872903807060280344576, 1, 2658455991569831745807614120560689152⟩, ⟨2, .q none, 2658455991569831745807614120560689152, 3, 5316911983139663491615228241121378304⟩, ⟨3, .q none, 5316911983139663491615228241121378336, 7, 10633823966279326983230456482242756608⟩, ⟨4, .f 0 true, 15950735949418990474845684723364134912, 15, 21267647932558653966460912964485513216⟩, ⟨5, .q none, 5316911983139663491615228241121378432, 7, 42535295865117307932921825928971026432⟩, ⟨6, .q (some 0), 47852207848256971424537054170092404736, 39, 85070591730234615865843651857942052864⟩, ⟨7, .q none, 90387503713374279357458880099063431168, 103, 170141183460469231731687303715884105728⟩, ⟨8, .q none, 196725743376167549189763444921490997248, 255, 340282366920938463463374607431768211456⟩, ⟨9, .q none, 345599278904078126954989835672889589760, 511, 680564733841876926926749214863536422912⟩, ⟨10, .q none, 680564733841876926926749214863536422912, 1023, 1361129467683753853853498429727072845824⟩, ⟨11, .q none, 1361129467683753853853498429727072845856, 2047, 2722258935367507707706996859454145691648⟩, ⟨12, .f 1 true, 4083388403051261561560495289181218537472, 4095, 5444517870735015415413993718908291383296⟩, ⟨13, .f 2 true, 6805647338418769269267492148635364229120, 8191, 10889035741470030830827987437816582766592⟩, ⟨14, .q none, 1361129467683753853853498429727072845952, 2047, 21778071482940061661655974875633165533184⟩, ⟨15, .q (some 1), 23139200950623815515509473305360238379008, 18431, 43556142965880123323311949751266331066368⟩, ⟨16, .f 3 false, 55806308175033908007993435618809986678784, 65535, 87112285931760246646623899502532662132736⟩, ⟨17, .q none, 88473415399444000500477397932259734978560, 131071, 174224571863520493293247799005065324265472⟩, ⟨18, .q none, 175585701331204247147101297434792397111296, 262143, 348449143727040986586495598010130648530944⟩])], [], []⟩
theorem E_bevylaw16_HoldPlays (x0 x1 : Value) (w : World) (R : Ending → World → Prop) : cwp Try.prog A_bevylaw16_HoldPlays (Try.f7.body.getD .skip) (retPost Try.prog Try.f7.results.toList R) (argE [x0, x1]) w = F_bevylaw16_HoldPlays x0 x1 w R := by kernel_rfl
theorem C_bevylaw16_HoldPlays {x0 x1 : Value} {w : World} {R : Ending → World → Prop} (h : F_bevylaw16_HoldPlays x0 x1 w R) : Calls Try.prog 7 #[x0, x1] w R :=
  calls_cwp (A := A_bevylaw16_HoldPlays) (args := [x0, x1]) mixed Try.func7 (c := Try.f7.body.getD .skip) (by kernel_rfl) (by kernel_rfl) (by kernel_rfl) ((E_bevylaw16_HoldPlays x0 x1 w R).mpr h)

/-- bevy/bevylaw16.HoldNil -/
def F_bevylaw16_HoldNil (x0 : Value) (w : World) (R : Ending → World → Prop) : Prop :=
  m R (o_box 34 x0) w fun x1 w1 =>
  m R (o_call (fv 14) []) w1 fun x4 w2 =>
  mguard x4 true (fun k => m R (o_move (.pointer none)) w2 k) w2 fun x6 w3 =>
  mguard x4 true (fun k => m R (o_load 34 x1) w3 k) w3 fun x7 w4 =>
  mguard x4 true (fun k => m R (o_call (fv 17) [x7]) w4 k) w4 fun x8 w5 =>
  mguard x4 true (fun k => m R (o_call (fv 16) [x6, x8]) w5 k) w5 fun x9 w6 =>
  mguard x4 true (fun k => m R (o_bin .eql 25 true x9 (.int .i64 1)) w6 k) w6 fun x10 w7 =>
  m R (o_pick x4 x10 (.bool false)) w7 fun x11 w8 =>
  mguard x11 true (fun k => m R (o_move (.pointer none)) w8 k) w8 fun x13 w9 =>
  mguard x11 true (fun k => m R (o_fieldAddr 34 x1 0) w9 k) w9 fun x14 w10 =>
  mguard x11 true (fun k => m R (o_load 30 x14) w10 k) w10 fun x15 w11 =>
  mguard x11 true (fun k => m R (o_call (fv 44) [x13, x15]) w11 k) w11 fun x16 w12 =>
  mguard x11 true (fun k => m R (o_un .not x16) w12 k) w12 fun x17 w13 =>
  m R (o_pick x11 x17 (.bool false)) w13 fun x18 w14 =>
  mguard x18 true (fun k => m R (o_move (.pointer none)) w14 k) w14 fun x20 w15 =>
  mguard x18 true (fun k => m R (o_fieldAddr 34 x1 1) w15 k) w15 fun x21 w16 =>
  mguard x18 true (fun k => m R (o_load 30 x21) w16 k) w16 fun x22 w17 =>
  mguard x18 true (fun k => m R (o_call (fv 20) [x20, x22]) w17 k) w17 fun x23 w18 =>
  mguard x18 true (fun k => m R (o_builtin .len #[37] 3 [false] [x23]) w18 k) w18 fun x24 w19 =>
  mguard x18 true (fun k => m R (o_bin .eql 3 true x24 (.int .i64 0)) w19 k) w19 fun x25 w20 =>
  m R (o_pick x18 x25 (.bool false)) w20 fun x26 w21 =>
  mguard x26 true (fun k => m R (o_move (.pointer none)) w21 k) w21 fun x28 w22 =>
  mguard x26 true (fun k => m R (o_fieldAddr 34 x1 2) w22 k) w22 fun x29 w23 =>
  mguard x26 true (fun k => m R (o_load 3 x29) w23 k) w23 fun x30 w24 =>
  mguard x26 true (fun k => m R (o_call (fv 43) [x28, x30]) w24 k) w24 fun x31 w25 =>
  mguard x26 true (fun k => m R (o_bin .eql 3 true x31 (.int .i64 0)) w25 k) w25 fun x32 w26 =>
  m R (o_pick x26 x32 (.bool false)) w26 fun x33 w27 =>
  mguard x33 true (fun k => m R (o_move (.pointer none)) w27 k) w27 fun x35 w28 =>
  mguard x33 true (fun k => m R (o_call (fv 18) [x35]) w28 k) w28 fun x36 w29 =>
  mguard x33 true (fun k => m R (o_bin .eql 3 true x36 (.int .i64 0)) w29 k) w29 fun x37 w30 =>
  m R (o_pick x33 x37 (.bool false)) w30 fun x38 w31 =>
  mguard x38 true (fun k => m R (o_move (.pointer none)) w31 k) w31 fun x40 w32 =>
  mguard x38 true (fun k => m R (o_call (fv 46) [x40]) w32 k) w32 fun x41 w33 =>
  mguard x38 true (fun k => m R (o_builtin .len #[37] 3 [false] [x41]) w33 k) w33 fun x42 w34 =>
  mguard x38 true (fun k => m R (o_bin .eql 3 true x42 (.int .i64 0)) w34 k) w34 fun x43 w35 =>
  m R (o_pick x38 x43 (.bool false)) w35 fun x44 w36 =>
  R (.returned x44) w36
def A_bevylaw16_HoldNil : Ann := ⟨[], [], [], [], []⟩
theorem E_bevylaw16_HoldNil (x0 : Value) (w : World) (R : Ending → World → Prop) : cwp Try.prog A_bevylaw16_HoldNil (Try.f8.body.getD .skip) (retPost Try.prog Try.f8.results.toList R) (argE [x0]) w = F_bevylaw16_HoldNil x0 w R := by kernel_rfl
theorem C_bevylaw16_HoldNil {x0 : Value} {w : World} {R : Ending → World → Prop} (h : F_bevylaw16_HoldNil x0 w R) : Calls Try.prog 8 #[x0] w R :=
  calls_cwp (A := A_bevylaw16_HoldNil) (args := [x0]) mixed Try.func8 (c := Try.f8.body.getD .skip) (by kernel_rfl) (by kernel_rfl) (by kernel_rfl) ((E_bevylaw16_HoldNil x0 w R).mpr h)

/-- bevy/bevylaw16.awake -/
def F_bevylaw16_awake (w : World) (R : Ending → World → Prop) : Prop :=
  m R (o_call (fv 15) [(.int .i64 1)]) w fun x7 w1 =>
  m R (o_extract x7 0) w1 fun x8 w2 =>
  m R (o_extract x7 1) w2 fun x9 w3 =>
  m R (o_build 30 [(0, (.int .u8 1))]) w3 fun x11 w4 =>
  m R (o_build 30 [(0, (.int .u8 9))]) w4 fun x12 w5 =>
  m R (o_build 32 [(0, x11), (1, x12), (3, (.string (ByteArray.mk #[97])))]) w5 fun x13 w6 =>
  m R (o_call (fv 16) [x8, x13]) w6 fun x14 w7 =>
  m R (o_build 30 [(0, (.int .u8 2))]) w7 fun x16 w8 =>
  m R (o_build 30 [(0, (.int .u8 9))]) w8 fun x17 w9 =>
  m R (o_build 32 [(0, x16), (1, x17)]) w9 fun x18 w10 =>
  m R (o_call (fv 16) [x8, x18]) w10 fun x19 w11 =>
  m R (o_build 30 [(0, (.int .u8 9))]) w11 fun x21 w12 =>
  m R (o_call (fv 20) [x8, x21]) w12 fun x22 w13 =>
  m R (o_bin .eql 25 true x9 (.int .i64 0)) w13 fun x24 w14 =>
  mguard x24 true (fun k => m R (o_move x14) w14 k) w14 fun x26 w15 =>
  mguard x24 true (fun k => m R (o_bin .eql 25 true x26 (.int .i64 0)) w15 k) w15 fun x27 w16 =>
  m R (o_pick x24 x27 (.bool false)) w16 fun x28 w17 =>
  mguard x28 true (fun k => m R (o_move x19) w17 k) w17 fun x30 w18 =>
  mguard x28 true (fun k => m R (o_bin .eql 25 true x30 (.int .i64 9)) w18 k) w18 fun x31 w19 =>
  m R (o_pick x28 x31 (.bool false)) w19 fun x32 w20 =>
  mguard x32 true (fun k => m R (o_move x22) w20 k) w20 fun x34 w21 =>
  mguard x32 true (fun k => m R (o_builtin .len #[37] 3 [false] [x34]) w21 k) w21 fun x35 w22 =>
  mguard x32 true (fun k => m R (o_bin .eql 3 true x35 (.int .i64 1)) w22 k) w22 fun x36 w23 =>
  m R (o_pick x32 x36 (.bool false)) w23 fun x37 w24 =>
  mguard x37 true (fun k => m R (o_move x22) w24 k) w24 fun x39 w25 =>
  mguard x37 true (fun k => m R (o_indexAddr 37 x39 (.int .i64 0)) w25 k) w25 fun x40 w26 =>
  mguard x37 true (fun k => m R (o_fieldAddr 32 x40 3) w26 k) w26 fun x41 w27 =>
  mguard x37 true (fun k => m R (o_load 9 x41) w27 k) w27 fun x42 w28 =>
  mguard x37 true (fun k => m R (o_bin .eql 9 true x42 (.string (ByteArray.mk #[97]))) w28 k) w28 fun x43 w29 =>
  m R (o_pick x37 x43 (.bool false)) w29 fun x44 w30 =>
  mguard x44 true (fun k => m R (o_move x8) w30 k) w30 fun x46 w31 =>
  mguard x44 true (fun k => m R (o_call (fv 18) [x46]) w31 k) w31 fun x47 w32 =>
  mguard x44 true (fun k => m R (o_bin .eql 3 true x47 (.int .i64 0)) w32 k) w32 fun x48 w33 =>
  m R (o_pick x44 x48 (.bool false)) w33 fun x49 w34 =>
  R (.returned x49) w34
def A_bevylaw16_awake : Ann := ⟨[], [], [], [], []⟩
theorem E_bevylaw16_awake (w : World) (R : Ending → World → Prop) : cwp Try.prog A_bevylaw16_awake (Try.f14.body.getD .skip) (retPost Try.prog Try.f14.results.toList R) (argE []) w = F_bevylaw16_awake w R := by kernel_rfl
theorem C_bevylaw16_awake {w : World} {R : Ending → World → Prop} (h : F_bevylaw16_awake w R) : Calls Try.prog 14 #[] w R :=
  calls_cwp (A := A_bevylaw16_awake) (args := []) mixed Try.func14 (c := Try.f14.body.getD .skip) (by kernel_rfl) (by kernel_rfl) (by kernel_rfl) ((E_bevylaw16_awake w R).mpr h)

/-- bevy/hold.New -/
def F_hold_New (x0 : Value) (w : World) (R : Ending → World → Prop) : Prop :=
  mj1 (fun j2 =>
    m R (o_bin .lss 3 true x0 (.int .i64 0)) w fun x5 w1 =>
    mguard x5 false (fun k => m R (o_move x0) w1 k) w1 fun x7 w2 =>
    mguard x5 false (fun k => m R (o_bin .gtr 3 true x7 (.int .i64 256)) w2 k) w2 fun x8 w3 =>
    m R (o_pick x5 (.bool true) x8) w3 fun x9 w4 =>
    j2 x9 w4) fun x9 u2 w5 =>
  mif x9 (
    R (.returned (.tuple #[(.pointer none), (.int .i64 1)])) w5) (
    m R (o_build 145 [(0, x0)]) w5 fun x11 w6 =>
    m R (o_box 145 x11) w6 fun x12 w7 =>
    R (.returned (.tuple #[x12, (.int .i64 0)])) w7)
def A_hold_New : Ann := ⟨[], [(2, [9], 1008)], [], [], []⟩
theorem E_hold_New (x0 : Value) (w : World) (R : Ending → World → Prop) : cwp Try.prog A_hold_New (Try.f15.body.getD .skip) (retPost Try.prog Try.f15.results.toList R) (argE [x0]) w = F_hold_New x0 w R := by kernel_rfl
theorem C_hold_New {x0 : Value} {w : World} {R : Ending → World → Prop} (h : F_hold_New x0 w R) : Calls Try.prog 15 #[x0] w R :=
  calls_cwp (A := A_hold_New) (args := [x0]) mixed Try.func15 (c := Try.f15.body.getD .skip) (by kernel_rfl) (by kernel_rfl) (by kernel_rfl) ((E_hold_New x0 w R).mpr h)

/-- (*bevy/hold.Hold).Put -/
def F_hold_Hold_Put (x0 x1 : Value) (w : World) (R : Ending → World → Prop) : Prop :=
  m R (o_box 32 x1) w fun x3 w1 =>
  m R (o_bin .eql 24 true x0 (.pointer none)) w1 fun x7 w2 =>
  mif x7 (
    R (.returned (.int .i64 1)) w2) (
    m R (o_nilCheck x0) w2 fun x10 w3 =>
    m R (o_fieldAddr 145 x10 1) w3 fun x11 w4 =>
    m R (o_load 37 x11) w4 fun x12 w5 =>
    m R (o_func (.func 78) [] [x3]) w5 fun x13 w6 =>
    m R (o_call (fv 77) [x12, x13]) w6 fun x14 w7 =>
    mif x14 (
      R (.returned (.int .i64 8)) w7) (
      dp Try.prog (o_nilCheck x0) fun x17 =>
      dp Try.prog (o_fieldAddr 145 x17 1) fun x18 =>
      dq Try.prog w7 (o_load 37 x18) fun x19 =>
      dp Try.prog (o_builtin .len #[37] 3 [false] [x19]) fun x20 =>
      dp Try.prog (o_nilCheck x0) fun x22 =>
      dp Try.prog (o_fieldAddr 145 x22 0) fun x23 =>
      dq Try.prog w7 (o_load 3 x23) fun x24 =>
      dp Try.prog (o_bin .geq 3 false x20 x24) fun x25 =>
      dend w7 fun w8 =>
      mif x25 (
        R (.returned (.int .i64 9)) w8) (
        dp Try.prog (o_nilCheck x0) fun x28 =>
        dp Try.prog (o_fieldAddr 145 x28 1) fun x29 =>
        dq Try.prog w8 (o_load 37 x29) fun x30 =>
        dq Try.prog w8 (o_load 32 x3) fun x31 =>
        df Try.prog w8 (o_buildSlice 37 1 [(0, x31)]) true fun x32 w9 =>
        df Try.prog w9 (o_builtin .append #[37, 37] 37 [false, false] [x30, x32]) false fun x33 w10 =>
        dp Try.prog (o_nilCheck x0) fun x34 =>
        dp Try.prog (o_fieldAddr 145 x34 1) fun x35 =>
        df Try.prog w10 (o_store 37 x35 x33) false fun _ w11 =>
        dend w11 fun w12 =>
        R (.returned (.int .i64 0)) w12)))
def A_hold_Hold_Put : Ann := ⟨[], [], [(5, [⟨0, .q none, 1, 0, 65536⟩, ⟨1, .q none, 65536, 1, 131072⟩, ⟨2, .q none, 131072, 3, 262144⟩, ⟨3, .q (some 0), 262144, 7, 524288⟩, ⟨4, .q none, 524288, 15, 1048576⟩, ⟨5, .q none, 1, 0, 2097152⟩, ⟨6, .q none, 2097152, 32, 4194304⟩, ⟨7, .q none, 4194304, 96, 8388608⟩, ⟨8, .q (some 0), 8388608, 224, 16777216⟩, ⟨9, .q none, 17825792, 511, 33554432⟩, ⟨10, .q none, 33554432, 1023, 32768⟩]), (7, [⟨0, .q none, 1, 0, 67108864⟩, ⟨1, .q none, 1, 0, 134217728⟩, ⟨2, .q none, 134217728, 2, 268435456⟩, ⟨3, .q none, 268435456, 6, 536870912⟩, ⟨4, .q (some 0), 536870912, 14, 1073741824⟩, ⟨5, .q (some 0), 8, 0, 2147483648⟩, ⟨6, .f 0 true, 2147483648, 32, 4294967296⟩, ⟨7, .f 1 false, 5368709120, 126, 8589934592⟩, ⟨8, .q none, 67108864, 255, 17179869184⟩, ⟨9, .q none, 17179869184, 511, 34359738368⟩, ⟨10, .f 2 false, 42949672960, 1023, 0⟩])], [], []⟩
theorem E_hold_Hold_Put (x0 x1 : Value) (w : World) (R : Ending → World → Prop) : cwp Try.prog A_hold_Hold_Put (Try.f16.body.getD .skip) (retPost Try.prog Try.f16.results.toList R) (argE [x0, x1]) w = F_hold_Hold_Put x0 x1 w R := by kernel_rfl
theorem C_hold_Hold_Put {x0 x1 : Value} {w : World} {R : Ending → World → Prop} (h : F_hold_Hold_Put x0 x1 w R) : Calls Try.prog 16 #[x0, x1] w R :=
  calls_cwp (A := A_hold_Hold_Put) (args := [x0, x1]) mixed Try.func16 (c := Try.f16.body.getD .skip) (by kernel_rfl) (by kernel_rfl) (by kernel_rfl) ((E_hold_Hold_Put x0 x1 w R).mpr h)

/-- bevy/bevylaw16.item -/
def F_bevylaw16_item (x0 : Value) (w : World) (R : Ending → World → Prop) : Prop :=
  m R (o_box 34 x0) w fun x1 w1 =>
  m R (o_alloc 32) w1 fun x2 w2 =>
  m R (o_fieldAddr 34 x1 0) w2 fun x3 w3 =>
  m R (o_load 30 x3) w3 fun x4 w4 =>
  m R (o_fieldAddr 34 x1 1) w4 fun x5 w5 =>
  m R (o_load 30 x5) w5 fun x6 w6 =>
  m R (o_fieldAddr 34 x1 2) w6 fun x7 w7 =>
  m R (o_load 3 x7) w7 fun x8 w8 =>
  m R (o_fieldAddr 34 x1 3) w8 fun x9 w9 =>
  m R (o_load 9 x9) w9 fun x10 w10 =>
  m R (o_build 32 [(0, x4), (1, x6), (2, x8), (3, x10)]) w10 fun x11 w11 =>
  m R (o_store 32 x2 x11) w11 fun _ w12 =>
  rcell Try.prog 32 x2 w12 fun r2 =>
  R (.returned r2) w12
def A_bevylaw16_item : Ann := ⟨[], [], [], [], []⟩
theorem E_bevylaw16_item (x0 : Value) (w : World) (R : Ending → World → Prop) : cwp Try.prog A_bevylaw16_item (Try.f17.body.getD .skip) (retPost Try.prog Try.f17.results.toList R) (argE [x0]) w = F_bevylaw16_item x0 w R := by kernel_rfl
theorem C_bevylaw16_item {x0 : Value} {w : World} {R : Ending → World → Prop} (h : F_bevylaw16_item x0 w R) : Calls Try.prog 17 #[x0] w R :=
  calls_cwp (A := A_bevylaw16_item) (args := [x0]) mixed Try.func17 (c := Try.f17.body.getD .skip) (by kernel_rfl) (by kernel_rfl) (by kernel_rfl) ((E_bevylaw16_item x0 w R).mpr h)

/-- (*bevy/hold.Hold).Len -/
def F_hold_Hold_Len (x0 : Value) (w : World) (R : Ending → World → Prop) : Prop :=
  m R (o_bin .eql 24 true x0 (.pointer none)) w fun x4 w1 =>
  mif x4 (
    R (.returned (.int .i64 0)) w1) (
    m R (o_nilCheck x0) w1 fun x6 w2 =>
    m R (o_fieldAddr 145 x6 1) w2 fun x7 w3 =>
    m R (o_load 37 x7) w3 fun x8 w4 =>
    m R (o_builtin .len #[37] 3 [false] [x8]) w4 fun x9 w5 =>
    R (.returned x9) w5)
def A_hold_Hold_Len : Ann := ⟨[], [], [], [], []⟩
theorem E_hold_Hold_Len (x0 : Value) (w : World) (R : Ending → World → Prop) : cwp Try.prog A_hold_Hold_Len (Try.f18.body.getD .skip) (retPost Try.prog Try.f18.results.toList R) (argE [x0]) w = F_hold_Hold_Len x0 w R := by kernel_rfl
theorem C_hold_Hold_Len {x0 : Value} {w : World} {R : Ending → World → Prop} (h : F_hold_Hold_Len x0 w R) : Calls Try.prog 18 #[x0] w R :=
  calls_cwp (A := A_hold_Hold_Len) (args := [x0]) mixed Try.func18 (c := Try.f18.body.getD .skip) (by kernel_rfl) (by kernel_rfl) (by kernel_rfl) ((E_hold_Hold_Len x0 w R).mpr h)

/-- bevy/bevylaw16.plain -/
def F_bevylaw16_plain (x0 : Value) (w : World) (R : Ending → World → Prop) : Prop :=
  ml2 (.slice none 0 0) (.int .i64 0) w fun x3 x4 u3 w1 next3 =>
    m R (o_builtin .len #[37] 3 [false] [x0]) w1 fun x7 w2 =>
    m R (o_bin .lss 3 false x4 x7) w2 fun x8 w3 =>
    mif x8 (
      dp Try.prog (o_indexAddr 37 x0 x4) fun x14 =>
      dp Try.prog (o_fieldAddr 32 x14 0) fun x15 =>
      dq Try.prog w3 (o_load 30 x15) fun x16 =>
      dp Try.prog (o_indexAddr 37 x0 x4) fun x19 =>
      dp Try.prog (o_fieldAddr 32 x19 1) fun x20 =>
      dq Try.prog w3 (o_load 30 x20) fun x21 =>
      dp Try.prog (o_indexAddr 37 x0 x4) fun x24 =>
      dp Try.prog (o_fieldAddr 32 x24 2) fun x25 =>
      dq Try.prog w3 (o_load 3 x25) fun x26 =>
      dp Try.prog (o_indexAddr 37 x0 x4) fun x29 =>
      dp Try.prog (o_fieldAddr 32 x29 3) fun x30 =>
      dq Try.prog w3 (o_load 9 x30) fun x31 =>
      dp Try.prog (o_build 34 [(0, x16), (1, x21), (2, x26), (3, x31)]) fun x32 =>
      df Try.prog w3 (o_buildSlice 22 1 [(0, x32)]) false fun x33 w4 =>
      df Try.prog w4 (o_builtin .append #[22, 22] 22 [false, false] [x3, x33]) false fun x34 w5 =>
      dend w5 fun w6 =>
      m R (o_bin .add 3 true x4 (.int .i64 1)) w6 fun x10 w7 =>
      next3 x34 x10 w7) (
      R (.returned x3) w3)
def A_bevylaw16_plain : Ann := ⟨[(3, [3, 4], 34359738360)], [], [(5, [⟨0, .q none, 8, 0, 2048⟩, ⟨1, .q none, 1, 0, 4096⟩, ⟨2, .q none, 16, 0, 8192⟩, ⟨3, .q none, 12288, 6, 16384⟩, ⟨4, .q none, 16384, 14, 32768⟩, ⟨5, .q (some 0), 32768, 30, 65536⟩, ⟨6, .q none, 1, 0, 131072⟩, ⟨7, .q none, 16, 0, 262144⟩, ⟨8, .q none, 393216, 192, 524288⟩, ⟨9, .q none, 524288, 448, 1048576⟩, ⟨10, .q (some 0), 1048576, 960, 2097152⟩, ⟨11, .q none, 1, 0, 4194304⟩, ⟨12, .q none, 16, 0, 8388608⟩, ⟨13, .q none, 12582912, 6144, 16777216⟩, ⟨14, .q none, 16777216, 14336, 33554432⟩, ⟨15, .q (some 0), 33554432, 30720, 67108864⟩, ⟨16, .q none, 1, 0, 134217728⟩, ⟨17, .q none, 16, 0, 268435456⟩, ⟨18, .q none, 402653184, 196608, 536870912⟩, ⟨19, .q none, 536870912, 458752, 1073741824⟩, ⟨20, .q (some 0), 1073741824, 983040, 2147483648⟩, ⟨21, .q none, 2216755200, 2097150, 4294967296⟩, ⟨22, .f 0 false, 4294967296, 4194302, 8589934592⟩, ⟨23, .f 1 false, 8589936640, 8388607, 17179869184⟩, ⟨24, .q none, 17179869184, 16777215, 8⟩])], [], []⟩
theorem E_bevylaw16_plain (x0 : Value) (w : World) (R : Ending → World → Prop) : cwp Try.prog A_bevylaw16_plain (Try.f19.body.getD .skip) (retPost Try.prog Try.f19.results.toList R) (argE [x0]) w = F_bevylaw16_plain x0 w R := by kernel_rfl
theorem C_bevylaw16_plain {x0 : Value} {w : World} {R : Ending → World → Prop} (h : F_bevylaw16_plain x0 w R) : Calls Try.prog 19 #[x0] w R :=
  calls_cwp (A := A_bevylaw16_plain) (args := [x0]) mixed Try.func19 (c := Try.f19.body.getD .skip) (by kernel_rfl) (by kernel_rfl) (by kernel_rfl) ((E_bevylaw16_plain x0 w R).mpr h)

/-- (*bevy/hold.Hold).Take -/
def F_hold_Hold_Take (x0 x1 : Value) (w : World) (R : Ending → World → Prop) : Prop :=
  m R (o_box 30 x1) w fun x3 w1 =>
  m R (o_func (.func 80) [] [x3]) w1 fun x6 w2 =>
  m R (o_call (fv 79) [x0, x6]) w2 fun x7 w3 =>
  R (.returned x7) w3
def A_hold_Hold_Take : Ann := ⟨[], [], [], [], []⟩
theorem E_hold_Hold_Take (x0 x1 : Value) (w : World) (R : Ending → World → Prop) : cwp Try.prog A_hold_Hold_Take (Try.f20.body.getD .skip) (retPost Try.prog Try.f20.results.toList R) (argE [x0, x1]) w = F_hold_Hold_Take x0 x1 w R := by kernel_rfl
theorem C_hold_Hold_Take {x0 x1 : Value} {w : World} {R : Ending → World → Prop} (h : F_hold_Hold_Take x0 x1 w R) : Calls Try.prog 20 #[x0, x1] w R :=
  calls_cwp (A := A_hold_Hold_Take) (args := [x0, x1]) mixed Try.func20 (c := Try.f20.body.getD .skip) (by kernel_rfl) (by kernel_rfl) (by kernel_rfl) ((E_hold_Hold_Take x0 x1 w R).mpr h)

/-- (bevy/bevyref16.Hold).Put -/
def F_bevyref16_Hold_Put (x0 x1 : Value) (w : World) (R : Ending → World → Prop) : Prop :=
  m R (o_box 77 x0) w fun x2 w1 =>
  m R (o_box 34 x1) w1 fun x3 w2 =>
  m R (o_alloc 77) w2 fun x4 w3 =>
  ml1 (.int .i64 0) w3 fun x6 u2 w4 next2 =>
    m R (o_fieldAddr 77 x2 1) w4 fun x9 w5 =>
    m R (o_load 22 x9) w5 fun x10 w6 =>
    m R (o_builtin .len #[22] 3 [false] [x10]) w6 fun x11 w7 =>
    m R (o_bin .lss 3 false x6 x11) w7 fun x12 w8 =>
    mif x12 (
      mj1 (fun j5 =>
        dp Try.prog (o_fieldAddr 77 x2 1) fun x15 =>
        dq Try.prog w8 (o_load 22 x15) fun x16 =>
        dp Try.prog (o_indexAddr 22 x16 x6) fun x18 =>
        dp Try.prog (o_fieldAddr 34 x18 0) fun x19 =>
        dq Try.prog w8 (o_load 30 x19) fun x20 =>
        dp Try.prog (o_fieldAddr 34 x3 0) fun x21 =>
        dq Try.prog w8 (o_load 30 x21) fun x22 =>
        dp Try.prog (o_bin .eql 30 false x20 x22) fun x23 =>
        qguard x23 true (fun k => dp Try.prog (o_fieldAddr 77 x2 1) k) fun x25 =>
        qguard x23 true (fun k => dq Try.prog w8 (o_load 22 x25) k) fun x26 =>
        qguard x23 true (fun k => dp Try.prog (o_move x6) k) fun x27 =>
        qguard x23 true (fun k => dp Try.prog (o_indexAddr 22 x26 x27) k) fun x28 =>
        qguard x23 true (fun k => dp Try.prog (o_fieldAddr 34 x28 3) k) fun x29 =>
        qguard x23 true (fun k => dq Try.prog w8 (o_load 9 x29) k) fun x30 =>
        qguard x23 true (fun k => dp Try.prog (o_fieldAddr 34 x3 3) k) fun x31 =>
        qguard x23 true (fun k => dq Try.prog w8 (o_load 9 x31) k) fun x32 =>
        qguard x23 true (fun k => dp Try.prog (o_bin .eql 9 false x30 x32) k) fun x33 =>
        dp Try.prog (o_pick x23 x33 (.bool false)) fun x34 =>
        dend w8 fun w9 =>
        j5 x34 w9) fun x34 u5 w10 =>
      mif x34 (
        m R (o_load 77 x2) w10 fun x35 w11 =>
        m R (o_store 77 x4 x35) w11 fun _ w12 =>
        rcell Try.prog 77 x4 w12 fun r4 =>
        R (.returned (.tuple #[r4, (.int .i64 8)])) w12) (
        m R (o_bin .add 3 true x6 (.int .i64 1)) w10 fun x14 w13 =>
        next2 x14 w13)) (
      m R (o_fieldAddr 77 x2 1) w8 fun x36 w14 =>
      m R (o_load 22 x36) w14 fun x37 w15 =>
      m R (o_builtin .len #[22] 3 [false] [x37]) w15 fun x38 w16 =>
      m R (o_fieldAddr 77 x2 0) w16 fun x39 w17 =>
      m R (o_load 3 x39) w17 fun x40 w18 =>
      m R (o_bin .geq 3 false x38 x40) w18 fun x41 w19 =>
      mif x41 (
        m R (o_load 77 x2) w19 fun x42 w20 =>
        m R (o_store 77 x4 x42) w20 fun _ w21 =>
        rcell Try.prog 77 x4 w21 fun r4 =>
        R (.returned (.tuple #[r4, (.int .i64 9)])) w21) (
        m R (o_fieldAddr 77 x2 1) w19 fun x44 w22 =>
        m R (o_load 22 x44) w22 fun x45 w23 =>
        m R (o_builtin .append #[22, 22] 22 [false, false] [(.slice none 0 0), x45]) w23 fun x46 w24 =>
        ∃ S : Nat → Prop,
          dp Try.prog (o_fieldAddr 77 x2 0) fun x47 =>
          dqS Try.prog S w24 (o_load 3 x47) fun x48 =>
          dqS Try.prog S w24 (o_load 34 x3) fun x50 =>
          dfS Try.prog S w24 (o_buildSlice 22 1 [(0, x50)]) true fun x51 w25 =>
          dfS Try.prog S w25 (o_builtin .append #[22, 22] 22 [false, false] [x46, x51]) true fun x52 w26 =>
          dp Try.prog (o_build 77 [(0, x48), (1, x52)]) fun x53 =>
          dfS Try.prog S w26 (o_store 77 x4 x53) false fun _ w27 =>
          dend w27 fun w28 =>
          rcell Try.prog 77 x4 w28 fun r4 =>
          R (.returned (.tuple #[r4, (.int .i64 0)])) w28))
def A_bevyref16_Hold_Put : Ann := ⟨[(2, [6], 68719476576)], [(5, [34], 34359705600)], [(4, [⟨0, .q none, 4, 0, 32768⟩, ⟨1, .q (some 0), 32768, 1, 65536⟩, ⟨2, .q none, 64, 0, 131072⟩, ⟨3, .q none, 196608, 7, 262144⟩, ⟨4, .q none, 262144, 15, 524288⟩, ⟨5, .q (some 0), 524288, 31, 1048576⟩, ⟨6, .q none, 8, 0, 2097152⟩, ⟨7, .q (some 0), 2097152, 64, 4194304⟩, ⟨8, .q none, 5242880, 255, 8388608⟩, ⟨9, .q none, 8388608, 511, 16777216⟩, ⟨10, .q none, 16777220, 1023, 33554432⟩, ⟨11, .q (some 0), 50331648, 2047, 67108864⟩, ⟨12, .q none, 16777280, 1023, 134217728⟩, ⟨13, .q none, 218103808, 8191, 268435456⟩, ⟨14, .q none, 285212672, 16383, 536870912⟩, ⟨15, .q (some 0), 553648128, 32767, 1073741824⟩, ⟨16, .q none, 16777224, 1023, 2147483648⟩, ⟨17, .q (some 0), 2164260864, 66559, 4294967296⟩, ⟨18, .q none, 5385486336, 262143, 8589934592⟩, ⟨19, .q none, 8606711808, 524287, 17179869184⟩]), (10, [⟨0, .q none, 4, 0, 140737488355328⟩, ⟨1, .q (some 0), 140737488355328, 1, 281474976710656⟩, ⟨2, .q none, 128, 0, 562949953421312⟩, ⟨3, .q (some 0), 8, 0, 1125899906842624⟩, ⟨4, .f 0 true, 1125899906842624, 8, 2251799813685248⟩, ⟨5, .f 1 true, 2814749767106560, 28, 4503599627370496⟩, ⟨6, .q none, 4785074604081152, 63, 9007199254740992⟩, ⟨7, .f 2 false, 9007199254741008, 127, 0⟩, ⟨8, .q none, 0, 255, 32⟩])], [], [10]⟩
theorem E_bevyref16_Hold_Put (x0 x1 : Value) (w : World) (R : Ending → World → Prop) : cwp Try.prog A_bevyref16_Hold_Put (Try.f39.body.getD .skip) (retPost Try.prog Try.f39.results.toList R) (argE [x0, x1]) w = F_bevyref16_Hold_Put x0 x1 w R := by kernel_rfl
theorem C_bevyref16_Hold_Put {x0 x1 : Value} {w : World} {R : Ending → World → Prop} (h : F_bevyref16_Hold_Put x0 x1 w R) : Calls Try.prog 39 #[x0, x1] w R :=
  calls_cwp (A := A_bevyref16_Hold_Put) (args := [x0, x1]) mixed Try.func39 (c := Try.f39.body.getD .skip) (by kernel_rfl) (by kernel_rfl) (by kernel_rfl) ((E_bevyref16_Hold_Put x0 x1 w R).mpr h)

/-- (bevy/bevyref16.Hold).Take -/
def F_bevyref16_Hold_Take (x0 x1 : Value) (w : World) (R : Ending → World → Prop) : Prop :=
  m R (o_box 77 x0) w fun x2 w1 =>
  m R (o_box 30 x1) w1 fun x3 w2 =>
  m R (o_alloc 77) w2 fun x4 w3 =>
  m R (o_fieldAddr 77 x2 0) w3 fun x9 w4 =>
  m R (o_load 3 x9) w4 fun x10 w5 =>
  m R (o_build 77 [(0, x10)]) w5 fun x11 w6 =>
  m R (o_alloc 77) w6 fun x6 w7 =>
  m R (o_store 77 x6 x11) w7 fun _ w8 =>
  ml2 (.slice none 0 0) (.int .i64 0) w8 fun x7 x8 u4 w9 next4 =>
    m R (o_fieldAddr 77 x2 1) w9 fun x13 w10 =>
    m R (o_load 22 x13) w10 fun x14 w11 =>
    m R (o_builtin .len #[22] 3 [false] [x14]) w11 fun x15 w12 =>
    m R (o_bin .lss 3 false x8 x15) w12 fun x16 w13 =>
    mif x16 (
      mj1 (fun j5 =>
        dp Try.prog (o_fieldAddr 77 x2 1) fun x19 =>
        dq Try.prog w13 (o_load 22 x19) fun x20 =>
        dp Try.prog (o_indexAddr 22 x20 x8) fun x22 =>
        dp Try.prog (o_fieldAddr 34 x22 1) fun x23 =>
        dq Try.prog w13 (o_load 30 x23) fun x24 =>
        dq Try.prog w13 (o_load 30 x3) fun x25 =>
        dp Try.prog (o_bin .eql 30 false x24 x25) fun x26 =>
        dend w13 fun w14 =>
        mif x26 (
          m R (o_fieldAddr 77 x2 1) w14 fun x28 w15 =>
          m R (o_load 22 x28) w15 fun x29 w16 =>
          m R (o_indexAddr 22 x29 x8) w16 fun x31 w17 =>
          m R (o_load 34 x31) w17 fun x32 w18 =>
          m R (o_buildSlice 22 1 [(0, x32)]) w18 fun x33 w19 =>
          m R (o_builtin .append #[22, 22] 22 [false, false] [x7, x33]) w19 fun x34 w20 =>
          j5 x34 w20) (
          dp Try.prog (o_fieldAddr 77 x6 1) fun x35 =>
          dq Try.prog w14 (o_load 22 x35) fun x36 =>
          dp Try.prog (o_fieldAddr 77 x2 1) fun x37 =>
          dq Try.prog w14 (o_load 22 x37) fun x38 =>
          dp Try.prog (o_indexAddr 22 x38 x8) fun x40 =>
          dq Try.prog w14 (o_load 34 x40) fun x41 =>
          df Try.prog w14 (o_buildSlice 22 1 [(0, x41)]) true fun x42 w21 =>
          df Try.prog w21 (o_builtin .append #[22, 22] 22 [false, false] [x36, x42]) false fun x43 w22 =>
          dp Try.prog (o_fieldAddr 77 x6 1) fun x44 =>
          df Try.prog w22 (o_store 22 x44 x43) false fun _ w23 =>
          dend w23 fun w24 =>
          j5 x7 w24)) fun x7 u5 w25 =>
      m R (o_bin .add 3 true x8 (.int .i64 1)) w25 fun x18 w26 =>
      next4 x7 x18 w26) (
      m R (o_load 77 x6) w13 fun x45 w27 =>
      m R (o_store 77 x4 x45) w27 fun _ w28 =>
      rcell Try.prog 77 x4 w28 fun r4 =>
      R (.returned (.tuple #[r4, x7])) w28)
def A_bevyref16_Hold_Take : Ann := ⟨[(4, [7, 8], 35184372085120)], [(5, [7], 35184371564672)], [(6, [⟨0, .q none, 4, 0, 524288⟩, ⟨1, .q (some 0), 524288, 1, 1048576⟩, ⟨2, .q none, 256, 0, 2097152⟩, ⟨3, .q none, 3145728, 7, 4194304⟩, ⟨4, .q none, 4194304, 15, 8388608⟩, ⟨5, .q (some 0), 8388608, 31, 16777216⟩, ⟨6, .q (some 0), 8, 0, 33554432⟩, ⟨7, .q none, 50331648, 127, 67108864⟩]), (8, [⟨0, .q none, 64, 0, 34359738368⟩, ⟨1, .q (some 0), 34359738368, 1, 68719476736⟩, ⟨2, .q none, 4, 0, 137438953472⟩, ⟨3, .q (some 0), 137438953472, 4, 274877906944⟩, ⟨4, .q none, 256, 0, 549755813888⟩, ⟨5, .q none, 824633720832, 28, 1099511627776⟩, ⟨6, .q (some 0), 1099511627776, 60, 2199023255552⟩, ⟨7, .f 0 true, 2199023255552, 124, 4398046511104⟩, ⟨8, .f 1 false, 4466765987840, 255, 8796093022208⟩, ⟨9, .q none, 64, 511, 17592186044416⟩, ⟨10, .f 2 false, 26388279066624, 1023, 0⟩])], [], []⟩
theorem E_bevyref16_Hold_Take (x0 x1 : Value) (w : World) (R : Ending → World → Prop) : cwp Try.prog A_bevyref16_Hold_Take (Try.f40.body.getD .skip) (retPost Try.prog Try.f40.results.toList R) (argE [x0, x1]) w = F_bevyref16_Hold_Take x0 x1 w R := by kernel_rfl
theorem C_bevyref16_Hold_Take {x0 x1 : Value} {w : World} {R : Ending → World → Prop} (h : F_bevyref16_Hold_Take x0 x1 w R) : Calls Try.prog 40 #[x0, x1] w R :=
  calls_cwp (A := A_bevyref16_Hold_Take) (args := [x0, x1]) mixed Try.func40 (c := Try.f40.body.getD .skip) (by kernel_rfl) (by kernel_rfl) (by kernel_rfl) ((E_bevyref16_Hold_Take x0 x1 w R).mpr h)

/-- bevy/bevyref16.Same -/
def F_bevyref16_Same (x0 x1 : Value) (w : World) (R : Ending → World → Prop) : Prop :=
  m R (o_builtin .len #[22] 3 [false] [x0]) w fun x7 w1 =>
  m R (o_builtin .len #[22] 3 [false] [x1]) w1 fun x9 w2 =>
  m R (o_bin .neq 3 false x7 x9) w2 fun x10 w3 =>
  mif x10 (
    R (.returned (.bool false)) w3) (
    ml1 (.int .i64 0) w3 fun x5 u4 w4 next4 =>
      m R (o_builtin .len #[22] 3 [false] [x0]) w4 fun x13 w5 =>
      m R (o_bin .lss 3 false x5 x13) w5 fun x14 w6 =>
      mif x14 (
        dp Try.prog (o_indexAddr 22 x0 x5) fun x19 =>
        dq Try.prog w6 (o_load 34 x19) fun x20 =>
        dp Try.prog (o_indexAddr 22 x1 x5) fun x23 =>
        dq Try.prog w6 (o_load 34 x23) fun x24 =>
        dp Try.prog (o_bin .neq 34 false x20 x24) fun x25 =>
        dend w6 fun w7 =>
        mif x25 (
          R (.returned (.bool false)) w7) (
          m R (o_bin .add 3 true x5 (.int .i64 1)) w7 fun x16 w8 =>
          next4 x16 w8)) (
        R (.returned (.bool true)) w6))
def A_bevyref16_Same : Ann := ⟨[(4, [5], 67106864)], [], [(6, [⟨0, .q none, 1, 0, 131072⟩, ⟨1, .q none, 32, 0, 262144⟩, ⟨2, .q none, 393216, 3, 524288⟩, ⟨3, .q (some 0), 524288, 7, 1048576⟩, ⟨4, .q none, 2, 0, 2097152⟩, ⟨5, .q none, 32, 0, 4194304⟩, ⟨6, .q none, 6291456, 48, 8388608⟩, ⟨7, .q (some 0), 8388608, 112, 16777216⟩, ⟨8, .q none, 17825792, 255, 33554432⟩])], [], []⟩
theorem E_bevyref16_Same (x0 x1 : Value) (w : World) (R : Ending → World → Prop) : cwp Try.prog A_bevyref16_Same (Try.f41.body.getD .skip) (retPost Try.prog Try.f41.results.toList R) (argE [x0, x1]) w = F_bevyref16_Same x0 x1 w R := by kernel_rfl
theorem C_bevyref16_Same {x0 x1 : Value} {w : World} {R : Ending → World → Prop} (h : F_bevyref16_Same x0 x1 w R) : Calls Try.prog 41 #[x0, x1] w R :=
  calls_cwp (A := A_bevyref16_Same) (args := [x0, x1]) mixed Try.func41 (c := Try.f41.body.getD .skip) (by kernel_rfl) (by kernel_rfl) (by kernel_rfl) ((E_bevyref16_Same x0 x1 w R).mpr h)

/-- (bevy/bevyref16.Hold).Drop -/
def F_bevyref16_Hold_Drop (x0 x1 : Value) (w : World) (R : Ending → World → Prop) : Prop :=
  m R (o_box 77 x0) w fun x2 w1 =>
  m R (o_alloc 77) w1 fun x4 w2 =>
  m R (o_fieldAddr 77 x2 0) w2 fun x9 w3 =>
  m R (o_load 3 x9) w3 fun x10 w4 =>
  m R (o_build 77 [(0, x10)]) w4 fun x11 w5 =>
  m R (o_alloc 77) w5 fun x6 w6 =>
  m R (o_store 77 x6 x11) w6 fun _ w7 =>
  ml2 (.int .i64 0) (.int .i64 0) w7 fun x7 x8 u4 w8 next4 =>
    m R (o_fieldAddr 77 x2 1) w8 fun x13 w9 =>
    m R (o_load 22 x13) w9 fun x14 w10 =>
    m R (o_builtin .len #[22] 3 [false] [x14]) w10 fun x15 w11 =>
    m R (o_bin .lss 3 false x8 x15) w11 fun x16 w12 =>
    mif x16 (
      mj1 (fun j5 =>
        m R (o_fieldAddr 77 x2 1) w12 fun x19 w13 =>
        m R (o_load 22 x19) w13 fun x20 w14 =>
        m R (o_indexAddr 22 x20 x8) w14 fun x22 w15 =>
        m R (o_fieldAddr 34 x22 2) w15 fun x23 w16 =>
        m R (o_load 3 x23) w16 fun x24 w17 =>
        m R (o_bin .lss 3 false x24 x1) w17 fun x26 w18 =>
        mif x26 (
          m R (o_bin .add 3 true x7 (.int .i64 1)) w18 fun x28 w19 =>
          j5 x28 w19) (
          dp Try.prog (o_fieldAddr 77 x6 1) fun x29 =>
          dq Try.prog w18 (o_load 22 x29) fun x30 =>
          dp Try.prog (o_fieldAddr 77 x2 1) fun x31 =>
          dq Try.prog w18 (o_load 22 x31) fun x32 =>
          dp Try.prog (o_indexAddr 22 x32 x8) fun x34 =>
          dq Try.prog w18 (o_load 34 x34) fun x35 =>
          df Try.prog w18 (o_buildSlice 22 1 [(0, x35)]) true fun x36 w20 =>
          df Try.prog w20 (o_builtin .append #[22, 22] 22 [false, false] [x30, x36]) false fun x37 w21 =>
          dp Try.prog (o_fieldAddr 77 x6 1) fun x38 =>
          df Try.prog w21 (o_store 22 x38 x37) false fun _ w22 =>
          dend w22 fun w23 =>
          j5 x7 w23)) fun x7 u5 w24 =>
      m R (o_bin .add 3 true x8 (.int .i64 1)) w24 fun x18 w25 =>
      next4 x7 x18 w25) (
      m R (o_load 77 x6) w12 fun x39 w26 =>
      m R (o_store 77 x4 x39) w26 fun _ w27 =>
      rcell Try.prog 77 x4 w27 fun r4 =>
      R (.returned (.tuple #[r4, x7])) w27)
def A_bevyref16_Hold_Drop : Ann := ⟨[(4, [7, 8], 549755810176)], [(5, [7], 549755289728)], [(8, [⟨0, .q none, 64, 0, 536870912⟩, ⟨1, .q (some 0), 536870912, 1, 1073741824⟩, ⟨2, .q none, 4, 0, 2147483648⟩, ⟨3, .q (some 0), 2147483648, 4, 4294967296⟩, ⟨4, .q none, 256, 0, 8589934592⟩, ⟨5, .q none, 12884901888, 28, 17179869184⟩, ⟨6, .q (some 0), 17179869184, 60, 34359738368⟩, ⟨7, .f 0 true, 34359738368, 124, 68719476736⟩, ⟨8, .f 1 false, 69793218560, 255, 137438953472⟩, ⟨9, .q none, 64, 511, 274877906944⟩, ⟨10, .f 2 false, 412316860416, 1023, 0⟩])], [], []⟩
theorem E_bevyref16_Hold_Drop (x0 x1 : Value) (w : World) (R : Ending → World → Prop) : cwp Try.prog A_bevyref16_Hold_Drop (Try.f42.body.getD .skip) (retPost Try.prog Try.f42.results.toList R) (argE [x0, x1]) w = F_bevyref16_Hold_Drop x0 x1 w R := by kernel_rfl
theorem C_bevyref16_Hold_Drop {x0 x1 : Value} {w : World} {R : Ending → World → Prop} (h : F_bevyref16_Hold_Drop x0 x1 w R) : Calls Try.prog 42 #[x0, x1] w R :=
  calls_cwp (A := A_bevyref16_Hold_Drop) (args := [x0, x1]) mixed Try.func42 (c := Try.f42.body.getD .skip) (by kernel_rfl) (by kernel_rfl) (by kernel_rfl) ((E_bevyref16_Hold_Drop x0 x1 w R).mpr h)

/-- (*bevy/hold.Hold).Drop -/
def F_hold_Hold_Drop (x0 x1 : Value) (w : World) (R : Ending → World → Prop) : Prop :=
  m R (o_box 3 x1) w fun x3 w1 =>
  m R (o_func (.func 85) [] [x3]) w1 fun x6 w2 =>
  m R (o_call (fv 79) [x0, x6]) w2 fun x7 w3 =>
  m R (o_builtin .len #[37] 3 [false] [x7]) w3 fun x8 w4 =>
  R (.returned x8) w4
def A_hold_Hold_Drop : Ann := ⟨[], [], [], [], []⟩
theorem E_hold_Hold_Drop (x0 x1 : Value) (w : World) (R : Ending → World → Prop) : cwp Try.prog A_hold_Hold_Drop (Try.f43.body.getD .skip) (retPost Try.prog Try.f43.results.toList R) (argE [x0, x1]) w = F_hold_Hold_Drop x0 x1 w R := by kernel_rfl
theorem C_hold_Hold_Drop {x0 x1 : Value} {w : World} {R : Ending → World → Prop} (h : F_hold_Hold_Drop x0 x1 w R) : Calls Try.prog 43 #[x0, x1] w R :=
  calls_cwp (A := A_hold_Hold_Drop) (args := [x0, x1]) mixed Try.func43 (c := Try.f43.body.getD .skip) (by kernel_rfl) (by kernel_rfl) (by kernel_rfl) ((E_hold_Hold_Drop x0 x1 w R).mpr h)

/-- (*bevy/hold.Hold).Has -/
def F_hold_Hold_Has (x0 x1 : Value) (w : World) (R : Ending → World → Prop) : Prop :=
  m R (o_box 30 x1) w fun x3 w1 =>
  m R (o_bin .neq 24 true x0 (.pointer none)) w1 fun x6 w2 =>
  mguard x6 true (fun k => m R (o_move x0) w2 k) w2 fun x8 w3 =>
  mguard x6 true (fun k => m R (o_nilCheck x8) w3 k) w3 fun x9 w4 =>
  mguard x6 true (fun k => m R (o_fieldAddr 145 x9 1) w4 k) w4 fun x10 w5 =>
  mguard x6 true (fun k => m R (o_load 37 x10) w5 k) w5 fun x11 w6 =>
  mguard x6 true (fun k => m R (o_func (.func 86) [] [x3]) w6 k) w6 fun x12 w7 =>
  mguard x6 true (fun k => m R (o_call (fv 77) [x11, x12]) w7 k) w7 fun x13 w8 =>
  m R (o_pick x6 x13 (.bool false)) w8 fun x14 w9 =>
  R (.returned x14) w9
def A_hold_Hold_Has : Ann := ⟨[], [], [], [], []⟩
theorem E_hold_Hold_Has (x0 x1 : Value) (w : World) (R : Ending → World → Prop) : cwp Try.prog A_hold_Hold_Has (Try.f44.body.getD .skip) (retPost Try.prog Try.f44.results.toList R) (argE [x0, x1]) w = F_hold_Hold_Has x0 x1 w R := by kernel_rfl
theorem C_hold_Hold_Has {x0 x1 : Value} {w : World} {R : Ending → World → Prop} (h : F_hold_Hold_Has x0 x1 w R) : Calls Try.prog 44 #[x0, x1] w R :=
  calls_cwp (A := A_hold_Hold_Has) (args := [x0, x1]) mixed Try.func44 (c := Try.f44.body.getD .skip) (by kernel_rfl) (by kernel_rfl) (by kernel_rfl) ((E_hold_Hold_Has x0 x1 w R).mpr h)

/-- (bevy/bevyref16.Hold).Has -/
def F_bevyref16_Hold_Has (x0 x1 : Value) (w : World) (R : Ending → World → Prop) : Prop :=
  m R (o_box 77 x0) w fun x2 w1 =>
  m R (o_box 30 x1) w1 fun x3 w2 =>
  ml1 (.int .i64 0) w2 fun x5 u2 w3 next2 =>
    m R (o_fieldAddr 77 x2 1) w3 fun x7 w4 =>
    m R (o_load 22 x7) w4 fun x8 w5 =>
    m R (o_builtin .len #[22] 3 [false] [x8]) w5 fun x9 w6 =>
    m R (o_bin .lss 3 false x5 x9) w6 fun x10 w7 =>
    mif x10 (
      dp Try.prog (o_fieldAddr 77 x2 1) fun x13 =>
      dq Try.prog w7 (o_load 22 x13) fun x14 =>
      dp Try.prog (o_indexAddr 22 x14 x5) fun x16 =>
      dp Try.prog (o_fieldAddr 34 x16 0) fun x17 =>
      dq Try.prog w7 (o_load 30 x17) fun x18 =>
      dq Try.prog w7 (o_load 30 x3) fun x19 =>
      dp Try.prog (o_bin .eql 30 false x18 x19) fun x20 =>
      dend w7 fun w8 =>
      mif x20 (
        R (.returned (.bool true)) w8) (
        m R (o_bin .add 3 true x5 (.int .i64 1)) w8 fun x12 w9 =>
        next2 x12 w9)) (
      R (.returned (.bool false)) w7)
def A_bevyref16_Hold_Has : Ann := ⟨[(2, [5], 2097136)], [], [(4, [⟨0, .q none, 4, 0, 8192⟩, ⟨1, .q (some 0), 8192, 1, 16384⟩, ⟨2, .q none, 32, 0, 32768⟩, ⟨3, .q none, 49152, 7, 65536⟩, ⟨4, .q none, 65536, 15, 131072⟩, ⟨5, .q (some 0), 131072, 31, 262144⟩, ⟨6, .q (some 0), 8, 0, 524288⟩, ⟨7, .q none, 786432, 127, 1048576⟩])], [], []⟩
theorem E_bevyref16_Hold_Has (x0 x1 : Value) (w : World) (R : Ending → World → Prop) : cwp Try.prog A_bevyref16_Hold_Has (Try.f45.body.getD .skip) (retPost Try.prog Try.f45.results.toList R) (argE [x0, x1]) w = F_bevyref16_Hold_Has x0 x1 w R := by kernel_rfl
theorem C_bevyref16_Hold_Has {x0 x1 : Value} {w : World} {R : Ending → World → Prop} (h : F_bevyref16_Hold_Has x0 x1 w R) : Calls Try.prog 45 #[x0, x1] w R :=
  calls_cwp (A := A_bevyref16_Hold_Has) (args := [x0, x1]) mixed Try.func45 (c := Try.f45.body.getD .skip) (by kernel_rfl) (by kernel_rfl) (by kernel_rfl) ((E_bevyref16_Hold_Has x0 x1 w R).mpr h)

/-- (*bevy/hold.Hold).All -/
def F_hold_Hold_All (x0 : Value) (w : World) (R : Ending → World → Prop) : Prop :=
  m R (o_bin .eql 24 true x0 (.pointer none)) w fun x4 w1 =>
  mif x4 (
    R (.returned (.slice none 0 0)) w1) (
    m R (o_nilCheck x0) w1 fun x6 w2 =>
    m R (o_fieldAddr 145 x6 1) w2 fun x7 w3 =>
    m R (o_load 37 x7) w3 fun x8 w4 =>
    m R (o_call (fv 87) [x8]) w4 fun x9 w5 =>
    R (.returned x9) w5)
def A_hold_Hold_All : Ann := ⟨[], [], [], [], []⟩
theorem E_hold_Hold_All (x0 : Value) (w : World) (R : Ending → World → Prop) : cwp Try.prog A_hold_Hold_All (Try.f46.body.getD .skip) (retPost Try.prog Try.f46.results.toList R) (argE [x0]) w = F_hold_Hold_All x0 w R := by kernel_rfl
theorem C_hold_Hold_All {x0 : Value} {w : World} {R : Ending → World → Prop} (h : F_hold_Hold_All x0 w R) : Calls Try.prog 46 #[x0] w R :=
  calls_cwp (A := A_hold_Hold_All) (args := [x0]) mixed Try.func46 (c := Try.f46.body.getD .skip) (by kernel_rfl) (by kernel_rfl) (by kernel_rfl) ((E_hold_Hold_All x0 w R).mpr h)

/-- slices.ContainsFunc[[]bevy/hold.Item,bevy/hold.Item] -/
def F_slices_ContainsFunc_hold_Item_hold_Item (x0 x1 : Value) (w : World) (R : Ending → World → Prop) : Prop :=
  m R (o_call (fv 95) [x0, x1]) w fun x7 w1 =>
  m R (o_bin .geq 3 true x7 (.int .i64 0)) w1 fun x8 w2 =>
  R (.returned x8) w2
def A_slices_ContainsFunc_hold_Item_hold_Item : Ann := ⟨[], [], [], [], []⟩
theorem E_slices_ContainsFunc_hold_Item_hold_Item (x0 x1 : Value) (w : World) (R : Ending → World → Prop) : cwp Try.prog A_slices_ContainsFunc_hold_Item_hold_Item (Try.f77.body.getD .skip) (retPost Try.prog Try.f77.results.toList R) (argE [x0, x1]) w = F_slices_ContainsFunc_hold_Item_hold_Item x0 x1 w R := by kernel_rfl
theorem C_slices_ContainsFunc_hold_Item_hold_Item {x0 x1 : Value} {w : World} {R : Ending → World → Prop} (h : F_slices_ContainsFunc_hold_Item_hold_Item x0 x1 w R) : Calls Try.prog 77 #[x0, x1] w R :=
  calls_cwp (A := A_slices_ContainsFunc_hold_Item_hold_Item) (args := [x0, x1]) mixed Try.func77 (c := Try.f77.body.getD .skip) (by kernel_rfl) (by kernel_rfl) (by kernel_rfl) ((E_slices_ContainsFunc_hold_Item_hold_Item x0 x1 w R).mpr h)

/-- (*bevy/hold.Hold).Put$1 -/
def F_hold_Hold_Put_1 (x0 x1 : Value) (w : World) (R : Ending → World → Prop) : Prop :=
  m R (o_box 32 x0) w fun x2 w1 =>
  m R (o_fieldAddr 32 x2 0) w1 fun x4 w2 =>
  m R (o_load 30 x4) w2 fun x5 w3 =>
  m R (o_fieldAddr 32 x1 0) w3 fun x6 w4 =>
  m R (o_load 30 x6) w4 fun x7 w5 =>
  m R (o_bin .eql 30 false x5 x7) w5 fun x8 w6 =>
  mguard x8 true (fun k => m R (o_fieldAddr 32 x2 3) w6 k) w6 fun x10 w7 =>
  mguard x8 true (fun k => m R (o_load 9 x10) w7 k) w7 fun x11 w8 =>
  mguard x8 true (fun k => m R (o_fieldAddr 32 x1 3) w8 k) w8 fun x12 w9 =>
  mguard x8 true (fun k => m R (o_load 9 x12) w9 k) w9 fun x13 w10 =>
  mguard x8 true (fun k => m R (o_bin .eql 9 false x11 x13) w10 k) w10 fun x14 w11 =>
  m R (o_pick x8 x14 (.bool false)) w11 fun x15 w12 =>
  R (.returned x15) w12
def A_hold_Hold_Put_1 : Ann := ⟨[], [], [], [], []⟩
theorem E_hold_Hold_Put_1 (x0 x1 : Value) (w : World) (R : Ending → World → Prop) : cwp Try.prog A_hold_Hold_Put_1 (Try.f78.body.getD .skip) (retPost Try.prog Try.f78.results.toList R) (argE [x0, x1]) w = F_hold_Hold_Put_1 x0 x1 w R := by kernel_rfl
theorem C_hold_Hold_Put_1 {x0 x1 : Value} {w : World} {R : Ending → World → Prop} (h : F_hold_Hold_Put_1 x0 x1 w R) : Calls Try.prog 78 #[x0, x1] w R :=
  calls_cwp (A := A_hold_Hold_Put_1) (args := [x0, x1]) mixed Try.func78 (c := Try.f78.body.getD .skip) (by kernel_rfl) (by kernel_rfl) (by kernel_rfl) ((E_hold_Hold_Put_1 x0 x1 w R).mpr h)

/-- (*bevy/hold.Hold).part -/
def F_hold_Hold_part (x0 x1 : Value) (w : World) (R : Ending → World → Prop) : Prop :=
  m R (o_bin .eql 24 true x0 (.pointer none)) w fun x10 w1 =>
  mif x10 (
    R (.returned (.slice none 0 0)) w1) (
    m R (o_nilCheck x0) w1 fun x12 w2 =>
    m R (o_fieldAddr 145 x12 1) w2 fun x13 w3 =>
    m R (o_load 37 x13) w3 fun x14 w4 =>
    m R (o_builtin .len #[37] 3 [false] [x14]) w4 fun x15 w5 =>
    ml3 (.slice none 0 0) (.slice none 0 0) (.int .i64 0) w5 fun x5 x6 x16 u5 w6 next5 =>
      m R (o_bin .lss 3 false x16 x15) w6 fun x17 w7 =>
      mif x17 (
        mj2 (fun j10 =>
          m R (o_indexAddr 37 x14 x16) w7 fun x18 w8 =>
          m R (o_load 32 x18) w8 fun x19 w9 =>
          m R (o_alloc 32) w9 fun x8 w10 =>
          m R (o_store 32 x8 x19) w10 fun _ w11 =>
          m R (o_load 32 x8) w11 fun x21 w12 =>
          m R (o_call x1 [x21]) w12 fun x22 w13 =>
          mif x22 (
            m R (o_load 32 x8) w13 fun x24 w14 =>
            m R (o_buildSlice 37 1 [(0, x24)]) w14 fun x25 w15 =>
            m R (o_builtin .append #[37, 37] 37 [false, false] [x5, x25]) w15 fun x26 w16 =>
            j10 x26 x6 w16) (
            m R (o_load 32 x8) w13 fun x28 w17 =>
            m R (o_buildSlice 37 1 [(0, x28)]) w17 fun x29 w18 =>
            m R (o_builtin .append #[37, 37] 37 [false, false] [x6, x29]) w18 fun x30 w19 =>
            j10 x5 x30 w19)) fun x5 x6 u10 w20 =>
        m R (o_bin .add 3 true x16 (.int .i64 1)) w20 fun x31 w21 =>
        next5 x5 x6 x31 w21) (
        m R (o_nilCheck x0) w7 fun x34 w22 =>
        m R (o_fieldAddr 145 x34 1) w22 fun x35 w23 =>
        m R (o_store 37 x35 x6) w23 fun _ w24 =>
        R (.returned x5) w24))
def A_hold_Hold_part : Ann := ⟨[(5, [5, 6, 16], 4294902112)], [(10, [5, 6], 2147221856)], [], [], []⟩
theorem E_hold_Hold_part (x0 x1 : Value) (w : World) (R : Ending → World → Prop) : cwp Try.prog A_hold_Hold_part (Try.f79.body.getD .skip) (retPost Try.prog Try.f79.results.toList R) (argE [x0, x1]) w = F_hold_Hold_part x0 x1 w R := by kernel_rfl
theorem C_hold_Hold_part {x0 x1 : Value} {w : World} {R : Ending → World → Prop} (h : F_hold_Hold_part x0 x1 w R) : Calls Try.prog 79 #[x0, x1] w R :=
  calls_cwp (A := A_hold_Hold_part) (args := [x0, x1]) mixed Try.func79 (c := Try.f79.body.getD .skip) (by kernel_rfl) (by kernel_rfl) (by kernel_rfl) ((E_hold_Hold_part x0 x1 w R).mpr h)

/-- (*bevy/hold.Hold).Take$1 -/
def F_hold_Hold_Take_1 (x0 x1 : Value) (w : World) (R : Ending → World → Prop) : Prop :=
  m R (o_box 32 x0) w fun x2 w1 =>
  m R (o_fieldAddr 32 x2 1) w1 fun x4 w2 =>
  m R (o_load 30 x4) w2 fun x5 w3 =>
  m R (o_load 30 x1) w3 fun x6 w4 =>
  m R (o_bin .eql 30 false x5 x6) w4 fun x7 w5 =>
  R (.returned x7) w5
def A_hold_Hold_Take_1 : Ann := ⟨[], [], [], [], []⟩
theorem E_hold_Hold_Take_1 (x0 x1 : Value) (w : World) (R : Ending → World → Prop) : cwp Try.prog A_hold_Hold_Take_1 (Try.f80.body.getD .skip) (retPost Try.prog Try.f80.results.toList R) (argE [x0, x1]) w = F_hold_Hold_Take_1 x0 x1 w R := by kernel_rfl
theorem C_hold_Hold_Take_1 {x0 x1 : Value} {w : World} {R : Ending → World → Prop} (h : F_hold_Hold_Take_1 x0 x1 w R) : Calls Try.prog 80 #[x0, x1] w R :=
  calls_cwp (A := A_hold_Hold_Take_1) (args := [x0, x1]) mixed Try.func80 (c := Try.f80.body.getD .skip) (by kernel_rfl) (by kernel_rfl) (by kernel_rfl) ((E_hold_Hold_Take_1 x0 x1 w R).mpr h)

/-- (*bevy/hold.Hold).Drop$1 -/
def F_hold_Hold_Drop_1 (x0 x1 : Value) (w : World) (R : Ending → World → Prop) : Prop :=
  m R (o_box 32 x0) w fun x2 w1 =>
  m R (o_fieldAddr 32 x2 2) w1 fun x4 w2 =>
  m R (o_load 3 x4) w2 fun x5 w3 =>
  m R (o_load 3 x1) w3 fun x6 w4 =>
  m R (o_bin .lss 3 false x5 x6) w4 fun x7 w5 =>
  R (.returned x7) w5
def A_hold_Hold_Drop_1 : Ann := ⟨[], [], [], [], []⟩
theorem E_hold_Hold_Drop_1 (x0 x1 : Value) (w : World) (R : Ending → World → Prop) : cwp Try.prog A_hold_Hold_Drop_1 (Try.f85.body.getD .skip) (retPost Try.prog Try.f85.results.toList R) (argE [x0, x1]) w = F_hold_Hold_Drop_1 x0 x1 w R := by kernel_rfl
theorem C_hold_Hold_Drop_1 {x0 x1 : Value} {w : World} {R : Ending → World → Prop} (h : F_hold_Hold_Drop_1 x0 x1 w R) : Calls Try.prog 85 #[x0, x1] w R :=
  calls_cwp (A := A_hold_Hold_Drop_1) (args := [x0, x1]) mixed Try.func85 (c := Try.f85.body.getD .skip) (by kernel_rfl) (by kernel_rfl) (by kernel_rfl) ((E_hold_Hold_Drop_1 x0 x1 w R).mpr h)

/-- (*bevy/hold.Hold).Has$1 -/
def F_hold_Hold_Has_1 (x0 x1 : Value) (w : World) (R : Ending → World → Prop) : Prop :=
  m R (o_box 32 x0) w fun x2 w1 =>
  m R (o_fieldAddr 32 x2 0) w1 fun x4 w2 =>
  m R (o_load 30 x4) w2 fun x5 w3 =>
  m R (o_load 30 x1) w3 fun x6 w4 =>
  m R (o_bin .eql 30 false x5 x6) w4 fun x7 w5 =>
  R (.returned x7) w5
def A_hold_Hold_Has_1 : Ann := ⟨[], [], [], [], []⟩
theorem E_hold_Hold_Has_1 (x0 x1 : Value) (w : World) (R : Ending → World → Prop) : cwp Try.prog A_hold_Hold_Has_1 (Try.f86.body.getD .skip) (retPost Try.prog Try.f86.results.toList R) (argE [x0, x1]) w = F_hold_Hold_Has_1 x0 x1 w R := by kernel_rfl
theorem C_hold_Hold_Has_1 {x0 x1 : Value} {w : World} {R : Ending → World → Prop} (h : F_hold_Hold_Has_1 x0 x1 w R) : Calls Try.prog 86 #[x0, x1] w R :=
  calls_cwp (A := A_hold_Hold_Has_1) (args := [x0, x1]) mixed Try.func86 (c := Try.f86.body.getD .skip) (by kernel_rfl) (by kernel_rfl) (by kernel_rfl) ((E_hold_Hold_Has_1 x0 x1 w R).mpr h)

/-- slices.Clone[[]bevy/hold.Item,bevy/hold.Item] -/
def F_slices_Clone_hold_Item_hold_Item (x0 : Value) (w : World) (R : Ending → World → Prop) : Prop :=
  m R (o_bin .eql 37 true x0 (.slice none 0 0)) w fun x4 w1 =>
  mif x4 (
    R (.returned (.slice none 0 0)) w1) (
    m R (o_buildSlice 37 0 []) w1 fun x5 w2 =>
    m R (o_builtin .append #[37, 37] 37 [false, false] [x5, x0]) w2 fun x7 w3 =>
    R (.returned x7) w3)
def A_slices_Clone_hold_Item_hold_Item : Ann := ⟨[], [], [], [], []⟩
theorem E_slices_Clone_hold_Item_hold_Item (x0 : Value) (w : World) (R : Ending → World → Prop) : cwp Try.prog A_slices_Clone_hold_Item_hold_Item (Try.f87.body.getD .skip) (retPost Try.prog Try.f87.results.toList R) (argE [x0]) w = F_slices_Clone_hold_Item_hold_Item x0 w R := by kernel_rfl
theorem C_slices_Clone_hold_Item_hold_Item {x0 : Value} {w : World} {R : Ending → World → Prop} (h : F_slices_Clone_hold_Item_hold_Item x0 w R) : Calls Try.prog 87 #[x0] w R :=
  calls_cwp (A := A_slices_Clone_hold_Item_hold_Item) (args := [x0]) mixed Try.func87 (c := Try.f87.body.getD .skip) (by kernel_rfl) (by kernel_rfl) (by kernel_rfl) ((E_slices_Clone_hold_Item_hold_Item x0 w R).mpr h)

/-- slices.IndexFunc[[]bevy/hold.Item,bevy/hold.Item] -/
def F_slices_IndexFunc_hold_Item_hold_Item (x0 x1 : Value) (w : World) (R : Ending → World → Prop) : Prop :=
  m R (o_builtin .len #[37] 3 [false] [x0]) w fun x7 w1 =>
  ml1 (.int .i64 0) w1 fun x8 u2 w2 next2 =>
    m R (o_bin .lss 3 false x8 x7) w2 fun x9 w3 =>
    mif x9 (
      m R (o_indexAddr 37 x0 x8) w3 fun x14 w4 =>
      m R (o_load 32 x14) w4 fun x15 w5 =>
      m R (o_call x1 [x15]) w5 fun x16 w6 =>
      mif x16 (
        R (.returned x8) w6) (
        m R (o_bin .add 3 true x8 (.int .i64 1)) w6 fun x18 w7 =>
        next2 x18 w7)) (
      R (.returned (.int .i64 (-1))) w3)
def A_slices_IndexFunc_hold_Item_hold_Item : Ann := ⟨[(2, [8], 524080)], [], [], [], []⟩
theorem E_slices_IndexFunc_hold_Item_hold_Item (x0 x1 : Value) (w : World) (R : Ending → World → Prop) : cwp Try.prog A_slices_IndexFunc_hold_Item_hold_Item (Try.f95.body.getD .skip) (retPost Try.prog Try.f95.results.toList R) (argE [x0, x1]) w = F_slices_IndexFunc_hold_Item_hold_Item x0 x1 w R := by kernel_rfl
theorem C_slices_IndexFunc_hold_Item_hold_Item {x0 x1 : Value} {w : World} {R : Ending → World → Prop} (h : F_slices_IndexFunc_hold_Item_hold_Item x0 x1 w R) : Calls Try.prog 95 #[x0, x1] w R :=
  calls_cwp (A := A_slices_IndexFunc_hold_Item_hold_Item) (args := [x0, x1]) mixed Try.func95 (c := Try.f95.body.getD .skip) (by kernel_rfl) (by kernel_rfl) (by kernel_rfl) ((E_slices_IndexFunc_hold_Item_hold_Item x0 x1 w R).mpr h)
end Go.Proofs.Ythnjpglpglbbkaa
