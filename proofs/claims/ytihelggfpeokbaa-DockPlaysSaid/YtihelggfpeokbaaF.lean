/- The formulas of the bodies, printed by wip/hoas.py out of the loaded program; each is held against the body by the kernel. -/
import Derived.Test.YtihelggfpeokbaaFBase
set_option linter.unusedVariables false
namespace Go.Proofs.Ytihelggfpeokbaa

/-- bevy/bevylaw18.DockOrders -/
def F_bevylaw18_DockOrders (x0 x1 x2 : Value) (w : World) (R : Ending → World → Prop) : Prop :=
  mj1 (fun j2 =>
    m R (o_call (fv 6) []) w fun x18 w1 =>
    m R (o_un .not x18) w1 fun x19 w2 =>
    mguard x19 false (fun k => m R (o_move x1) w2 k) w2 fun x21 w3 =>
    mguard x19 false (fun k => m R (o_builtin .len #[22] 3 [false] [x21]) w3 k) w3 fun x22 w4 =>
    mguard x19 false (fun k => m R (o_bin .gtr 3 true x22 (.int .i64 500)) w4 k) w4 fun x23 w5 =>
    m R (o_pick x19 (.bool true) x23) w5 fun x24 w6 =>
    mguard x24 false (fun k => m R (o_move x2) w6 k) w6 fun x26 w7 =>
    mguard x24 false (fun k => m R (o_builtin .len #[23] 3 [false] [x26]) w7 k) w7 fun x27 w8 =>
    mguard x24 false (fun k => m R (o_bin .gtr 3 true x27 (.int .i64 500)) w8 k) w8 fun x28 w9 =>
    m R (o_pick x24 (.bool true) x28) w9 fun x29 w10 =>
    j2 x29 w10) fun x29 u2 w11 =>
  mif x29 (
    m R (o_call (fv 6) []) w11 fun x30 w12 =>
    R (.returned x30) w12) (
    m R (o_conv 5 3 x0) w11 fun x33 w13 =>
    m R (o_bin .add 3 true (.int .i64 1) x33) w13 fun x34 w14 =>
    m R (o_call (fv 7) [x34]) w14 fun x35 w15 =>
    m R (o_extract x35 0) w15 fun x36 w16 =>
    m R (o_extract x35 1) w16 fun x37 w17 =>
    ml4 (.slice none 0 0) (.slice none 0 0) (.int .i64 0) (.int .i64 0) w17 fun x9 x10 x11 x12 u7 w18 next7 =>
      m R (o_builtin .len #[22] 3 [false] [x1]) w18 fun x40 w19 =>
      m R (o_bin .lss 3 false x12 x40) w19 fun x41 w20 =>
      mif x41 (
        mj3 (fun j8 =>
          mj2 (fun j12 =>
            m R (o_indexAddr 22 x1 x12) w20 fun x47 w21 =>
            m R (o_load 3 x47) w21 fun x48 w22 =>
            m R (o_call (fv 8) [x36, x48]) w22 fun x49 w23 =>
            m R (o_bin .eql 26 true x49 (.int .i64 0)) w23 fun x50 w24 =>
            mif x50 (
              m R (o_indexAddr 22 x1 x12) w24 fun x54 w25 =>
              m R (o_load 3 x54) w25 fun x55 w26 =>
              m R (o_buildSlice 22 1 [(0, x55)]) w26 fun x56 w27 =>
              m R (o_builtin .append #[22, 22] 22 [false, false] [x9, x56]) w27 fun x57 w28 =>
              j12 x57 x11 w28) (
              m R (o_bin .add 3 true x11 (.int .i64 1)) w24 fun x59 w29 =>
              j12 x9 x59 w29)) fun x9 x11 u12 w30 =>
          mj1 (fun j13 =>
            m R (o_builtin .len #[23] 3 [false] [x2]) w30 fun x62 w31 =>
            m R (o_bin .lss 3 false x12 x62) w31 fun x63 w32 =>
            mguard x63 true (fun k => m R (o_move x2) w32 k) w32 fun x65 w33 =>
            mguard x63 true (fun k => m R (o_move x12) w33 k) w33 fun x66 w34 =>
            mguard x63 true (fun k => m R (o_indexAddr 23 x65 x66) w34 k) w34 fun x67 w35 =>
            mguard x63 true (fun k => m R (o_load 4 x67) w35 k) w35 fun x68 w36 =>
            m R (o_pick x63 x68 (.bool false)) w36 fun x69 w37 =>
            j13 x69 w37) fun x69 u13 w38 =>
          mif x69 (
            m R (o_call (fv 9) [x36]) w38 fun x72 w39 =>
            m R (o_extract x72 0) w39 fun x73 w40 =>
            m R (o_extract x72 1) w40 fun x74 w41 =>
            mif x74 (
              m R (o_buildSlice 22 1 [(0, x73)]) w41 fun x78 w42 =>
              m R (o_builtin .append #[22, 22] 22 [false, false] [x10, x78]) w42 fun x79 w43 =>
              j8 x9 x79 x11 w43) (
              j8 x9 x10 x11 w41)) (
            j8 x9 x10 x11 w38)) fun x9 x10 x11 u8 w44 =>
        m R (o_bin .add 3 true x12 (.int .i64 1)) w44 fun x43 w45 =>
        next7 x9 x10 x11 x43 w45) (
        m R (o_call (fv 10) [x36]) w20 fun x81 w46 =>
        m R (o_call (fv 9) [x36]) w46 fun x84 w47 =>
        m R (o_extract x84 0) w47 fun x85 w48 =>
        m R (o_extract x84 1) w48 fun x86 w49 =>
        ml3 x10 x85 x86 w49 fun x10 x15 x16 u18 w50 next18 =>
          mif x16 (
            m R (o_buildSlice 22 1 [(0, x15)]) w50 fun x95 w51 =>
            m R (o_builtin .append #[22, 22] 22 [false, false] [x10, x95]) w51 fun x96 w52 =>
            m R (o_call (fv 9) [x36]) w52 fun x90 w53 =>
            m R (o_extract x90 0) w53 fun x91 w54 =>
            m R (o_extract x90 1) w54 fun x92 w55 =>
            next18 x96 x91 x92 w55) (
            mj1 (fun j22 =>
              m R (o_builtin .len #[22] 3 [false] [x9]) w50 fun x98 w56 =>
              m R (o_builtin .len #[22] 3 [false] [x10]) w56 fun x100 w57 =>
              m R (o_bin .neq 3 false x98 x100) w57 fun x101 w58 =>
              mguard x101 false (fun k => m R (o_move x36) w58 k) w58 fun x103 w59 =>
              mguard x101 false (fun k => m R (o_call (fv 11) [x103]) w59 k) w59 fun x104 w60 =>
              mguard x101 false (fun k => m R (o_move x11) w60 k) w60 fun x105 w61 =>
              mguard x101 false (fun k => m R (o_bin .neq 3 false x104 x105) w61 k) w61 fun x106 w62 =>
              m R (o_pick x101 (.bool true) x106) w62 fun x107 w63 =>
              j22 x107 w63) fun x107 u22 w64 =>
            mif x107 (
              R (.returned (.bool false)) w64) (
              ml1 (.int .i64 0) w64 fun x17 u24 w65 next24 =>
                m R (o_builtin .len #[22] 3 [false] [x9]) w65 fun x110 w66 =>
                m R (o_bin .lss 3 false x17 x110) w66 fun x111 w67 =>
                mif x111 (
                  dp Try.prog (o_indexAddr 22 x9 x17) fun x116 =>
                  dq Try.prog w67 (o_load 3 x116) fun x117 =>
                  dp Try.prog (o_indexAddr 22 x10 x17) fun x120 =>
                  dq Try.prog w67 (o_load 3 x120) fun x121 =>
                  dp Try.prog (o_bin .neq 3 false x117 x121) fun x122 =>
                  dend w67 fun w68 =>
                  mif x122 (
                    R (.returned (.bool false)) w68) (
                    m R (o_bin .add 3 true x17 (.int .i64 1)) w68 fun x113 w69 =>
                    next24 x113 w69)) (
                  m R (o_call (fv 8) [x36, (.int .i64 1)]) w67 fun x124 w70 =>
                  m R (o_bin .eql 26 true x124 (.int .i64 21)) w70 fun x125 w71 =>
                  R (.returned x125) w71)))))
def A_bevylaw18_DockOrders : Ann := ⟨[(7, [9, 10, 11, 12], 1208925819614354296831488), (18, [10, 15, 16], 158301582523618002652725609472), (24, [17], 10633499447725668556503673326222311488)], [(2, [29], 1073479680), (8, [9, 10, 11], 1208925819597036988689920), (12, [9, 11], 1152903912420805120), (13, [69], 1179438699212804456448), (22, [107], 324360097333398198107968932675584)], [(26, [⟨0, .q none, 512, 0, 20769187434139310514121985316880384⟩, ⟨1, .q none, 131072, 0, 41538374868278621028243970633760768⟩, ⟨2, .q none, 62307562302417931542365955950641152, 3, 83076749736557242056487941267521536⟩, ⟨3, .q (some 0), 83076749736557242056487941267521536, 7, 166153499473114484112975882535043072⟩, ⟨4, .q none, 1024, 0, 332306998946228968225951765070086144⟩, ⟨5, .q none, 131072, 0, 664613997892457936451903530140172288⟩, ⟨6, .q none, 996920996838686904677855295210258432, 48, 1329227995784915872903807060280344576⟩, ⟨7, .q (some 0), 1329227995784915872903807060280344576, 112, 2658455991569831745807614120560689152⟩, ⟨8, .q none, 2824609491042946229920590003095732224, 255, 5316911983139663491615228241121378304⟩])], [], []⟩
theorem E_bevylaw18_DockOrders (x0 x1 x2 : Value) (w : World) (R : Ending → World → Prop) : cwp Try.prog A_bevylaw18_DockOrders (Try.f3.body.getD .skip) (retPost Try.prog Try.f3.results.toList R) (argE [x0, x1, x2]) w = F_bevylaw18_DockOrders x0 x1 x2 w R := by kernel_rfl
theorem C_bevylaw18_DockOrders {x0 x1 x2 : Value} {w : World} {R : Ending → World → Prop} (h : F_bevylaw18_DockOrders x0 x1 x2 w R) : Calls Try.prog 3 #[x0, x1, x2] w R :=
  calls_cwp (A := A_bevylaw18_DockOrders) (args := [x0, x1, x2]) mixed Try.func3 (c := Try.f3.body.getD .skip) (by kernel_rfl) (by kernel_rfl) (by kernel_rfl) ((E_bevylaw18_DockOrders x0 x1 x2 w R).mpr h)

/-- bevy/bevylaw18.DockPlays -/
def F_bevylaw18_DockPlays (x0 x1 : Value) (w : World) (R : Ending → World → Prop) : Prop :=
  m R (o_box 34 x0) w fun x2 w1 =>
  mj1 (fun j2 =>
    m R (o_call (fv 6) []) w1 fun x29 w2 =>
    m R (o_un .not x29) w2 fun x30 w3 =>
    mguard x30 false (fun k => m R (o_move x1) w3 k) w3 fun x32 w4 =>
    mguard x30 false (fun k => m R (o_builtin .len #[35] 3 [false] [x32]) w4 k) w4 fun x33 w5 =>
    mguard x30 false (fun k => m R (o_bin .gtr 3 true x33 (.int .i64 500)) w5 k) w5 fun x34 w6 =>
    m R (o_pick x30 (.bool true) x34) w6 fun x35 w7 =>
    j2 x35 w7) fun x35 u2 w8 =>
  mif x35 (
    m R (o_call (fv 6) []) w8 fun x36 w9 =>
    R (.returned x36) w9) (
    m R (o_alloc 36) w8 fun x5 w10 =>
    m R (o_alloc 39) w10 fun x6 w11 =>
    ml1 (.int .i64 0) w11 fun x7 u6 w12 next6 =>
      m R (o_bin .lss 3 true x7 (.int .i64 3)) w12 fun x38 w13 =>
      mif x38 (
        m R (o_indexAddr 34 x2 x7) w13 fun x43 w14 =>
        m R (o_load 5 x43) w14 fun x44 w15 =>
        m R (o_conv 5 3 x44) w15 fun x45 w16 =>
        m R (o_bin .add 3 true (.int .i64 1) x45) w16 fun x46 w17 =>
        m R (o_call (fv 7) [x46]) w17 fun x47 w18 =>
        m R (o_extract x47 0) w18 fun x48 w19 =>
        m R (o_extract x47 1) w19 fun x49 w20 =>
        m R (o_indexAddr 36 x5 x7) w20 fun x52 w21 =>
        m R (o_store 25 x52 x48) w21 fun _ w22 =>
        m R (o_indexAddr 34 x2 x7) w22 fun x55 w23 =>
        m R (o_load 5 x55) w23 fun x56 w24 =>
        m R (o_conv 5 3 x56) w24 fun x57 w25 =>
        m R (o_bin .add 3 true (.int .i64 1) x57) w25 fun x58 w26 =>
        m R (o_indexAddr 39 x6 x7) w26 fun x59 w27 =>
        m R (o_fieldAddr 38 x59 0) w27 fun x60 w28 =>
        m R (o_store 3 x60 x58) w28 fun _ w29 =>
        m R (o_bin .add 3 true x7 (.int .i64 1)) w29 fun x40 w30 =>
        next6 x40 w30) (
        ml1 (.int .i64 0) w13 fun x10 u12 w31 next12 =>
          m R (o_builtin .len #[35] 3 [false] [x1]) w31 fun x63 w32 =>
          m R (o_bin .lss 3 false x10 x63) w32 fun x64 w33 =>
          mif x64 (
            m R (o_indexAddr 35 x1 x10) w33 fun x69 w34 =>
            m R (o_load 41 x69) w34 fun x70 w35 =>
            m R (o_alloc 41) w35 fun x11 w36 =>
            m R (o_store 41 x11 x70) w36 fun _ w37 =>
            m R (o_fieldAddr 41 x11 1) w37 fun x71 w38 =>
            m R (o_load 5 x71) w38 fun x72 w39 =>
            m R (o_bin .rem 5 true x72 (.int .u8 3)) w39 fun x73 w40 =>
            m R (o_conv 5 3 x73) w40 fun x74 w41 =>
            mj1 (fun j47 =>
              m R (o_fieldAddr 41 x11 0) w41 fun x75 w42 =>
              m R (o_load 5 x75) w42 fun x76 w43 =>
              m R (o_bin .rem 5 true x76 (.int .u8 5)) w43 fun x77 w44 =>
              m R (o_bin .eql 5 true x77 (.int .u8 0)) w44 fun x79 w45 =>
              mif x79 (
                ∃ S : Rl,
                  dp Try.prog (o_indexAddr 36 x5 x74) fun x81 =>
                  dqS Try.prog S w45 (o_load 25 x81) fun x82 =>
                  dp Try.prog (o_fieldAddr 41 x11 2) fun x83 =>
                  dqS Try.prog S w45 (o_load 3 x83) fun x84 =>
                  dfS Try.prog S w45 (o_call (fv 8) [x82, x84]) true fun x85 w46 =>
                  dp Try.prog (o_indexAddr 39 x6 x74) fun x87 =>
                  dp Try.prog (o_fieldAddr 41 x11 2) fun x88 =>
                  dqS Try.prog S w45 (o_load 3 x88) fun x89 =>
                  dfS Try.prog S w46 (o_call (fv 12) [x87, x89]) false fun x90 w47 =>
                  dp Try.prog (o_bin .eql 3 false x85 x90) fun x91 =>
                  dend w47 fun w48 =>
                  j47 x91 w48) (
                m R (o_bin .eql 5 true x77 (.int .u8 1)) w45 fun x93 w49 =>
                mif x93 (
                  m R (o_indexAddr 36 x5 x74) w49 fun x96 w50 =>
                  m R (o_load 25 x96) w50 fun x97 w51 =>
                  m R (o_call (fv 9) [x97]) w51 fun x98 w52 =>
                  m R (o_extract x98 0) w52 fun x99 w53 =>
                  m R (o_extract x98 1) w53 fun x100 w54 =>
                  m R (o_indexAddr 39 x6 x74) w54 fun x103 w55 =>
                  m R (o_call (fv 13) [x103]) w55 fun x104 w56 =>
                  m R (o_extract x104 0) w56 fun x105 w57 =>
                  m R (o_extract x104 1) w57 fun x106 w58 =>
                  m R (o_bin .eql 3 false x99 x105) w58 fun x109 w59 =>
                  mguard x109 true (fun k => m R (o_move x100) w59 k) w59 fun x111 w60 =>
                  mguard x109 true (fun k => m R (o_move x106) w60 k) w60 fun x112 w61 =>
                  mguard x109 true (fun k => m R (o_bin .eql 4 false x111 x112) w61 k) w61 fun x113 w62 =>
                  m R (o_pick x109 x113 (.bool false)) w62 fun x114 w63 =>
                  j47 x114 w63) (
                  m R (o_bin .eql 5 true x77 (.int .u8 2)) w49 fun x116 w64 =>
                  mif x116 (
                    m R (o_indexAddr 36 x5 x74) w64 fun x118 w65 =>
                    m R (o_load 25 x118) w65 fun x119 w66 =>
                    m R (o_call (fv 10) [x119]) w66 fun x120 w67 =>
                    m R (o_indexAddr 39 x6 x74) w67 fun x122 w68 =>
                    m R (o_fieldAddr 38 x122 2) w68 fun x123 w69 =>
                    m R (o_store 4 x123 (.bool true)) w69 fun _ w70 =>
                    j47 (.bool true) w70) (
                    m R (o_bin .eql 5 true x77 (.int .u8 3)) w64 fun x125 w71 =>
                    mif x125 (
                      m R (o_indexAddr 36 x5 (.int .i64 0)) w71 fun x127 w72 =>
                      m R (o_load 25 x127) w72 fun x128 w73 =>
                      m R (o_indexAddr 36 x5 (.int .i64 1)) w73 fun x129 w74 =>
                      m R (o_load 25 x129) w74 fun x130 w75 =>
                      m R (o_indexAddr 36 x5 (.int .i64 2)) w75 fun x131 w76 =>
                      m R (o_load 25 x131) w76 fun x132 w77 =>
                      m R (o_buildSlice 73 3 [(0, x128), (1, x130), (2, x132)]) w77 fun x133 w78 =>
                      m R (o_call (fv 14) [x133]) w78 fun x134 w79 =>
                      m R (o_extract x134 0) w79 fun x135 w80 =>
                      m R (o_extract x134 1) w80 fun x136 w81 =>
                      m R (o_extract x134 2) w81 fun x137 w82 =>
                      ml2 (.int .i64 (-1)) (.int .i64 2) w82 fun x21 x22 u31 w83 next31 =>
                        m R (o_bin .geq 3 true x22 (.int .i64 0)) w83 fun x139 w84 =>
                        mif x139 (
                          mj1 (fun j32 =>
                            m R (o_indexAddr 39 x6 x22) w84 fun x143 w85 =>
                            m R (o_fieldAddr 38 x143 3) w85 fun x144 w86 =>
                            m R (o_load 22 x144) w86 fun x145 w87 =>
                            m R (o_builtin .len #[22] 3 [false] [x145]) w87 fun x146 w88 =>
                            m R (o_bin .gtr 3 true x146 (.int .i64 0)) w88 fun x147 w89 =>
                            mif x147 (
                              j32 x22 w89) (
                              j32 x21 w89)) fun x21 u32 w90 =>
                          m R (o_bin .sub 3 true x22 (.int .i64 1)) w90 fun x141 w91 =>
                          next31 x21 x141 w91) (
                          mj1 (fun j38 =>
                            m R (o_bin .geq 3 true x21 (.int .i64 0)) w84 fun x150 w92 =>
                            mif x150 (
                              m R (o_indexAddr 39 x6 x21) w92 fun x153 w93 =>
                              m R (o_call (fv 13) [x153]) w93 fun x154 w94 =>
                              m R (o_extract x154 0) w94 fun x155 w95 =>
                              m R (o_extract x154 1) w95 fun x156 w96 =>
                              j38 x155 w96) (
                              j38 (.int .i64 0) w92)) fun x23 u38 w97 =>
                          m R (o_bin .eql 3 false x136 x21) w97 fun x159 w98 =>
                          mguard x159 true (fun k => m R (o_move x137) w98 k) w98 fun x161 w99 =>
                          mguard x159 true (fun k => m R (o_move x21) w99 k) w99 fun x162 w100 =>
                          mguard x159 true (fun k => m R (o_bin .geq 3 true x162 (.int .i64 0)) w100 k) w100 fun x163 w101 =>
                          mguard x159 true (fun k => m R (o_bin .eql 4 false x161 x163) w101 k) w101 fun x164 w102 =>
                          m R (o_pick x159 x164 (.bool false)) w102 fun x165 w103 =>
                          mguard x165 true (fun k => m R (o_move x135) w103 k) w103 fun x167 w104 =>
                          mguard x165 true (fun k => m R (o_move x23) w104 k) w104 fun x168 w105 =>
                          mguard x165 true (fun k => m R (o_bin .eql 3 false x167 x168) w105 k) w105 fun x169 w106 =>
                          m R (o_pick x165 x169 (.bool false)) w106 fun x170 w107 =>
                          j47 x170 w107)) (
                      m R (o_bin .eql 5 true x77 (.int .u8 4)) w71 fun x172 w108 =>
                      mif x172 (
                        m R (o_bin .add 3 true x74 (.int .i64 1)) w108 fun x174 w109 =>
                        m R (o_bin .rem 3 true x174 (.int .i64 3)) w109 fun x175 w110 =>
                        ml1 (.int .i64 0) w110 fun x25 u42 w111 next42 =>
                          mj0 (fun j43 =>
                            dp Try.prog (o_indexAddr 39 x6 x175) fun x177 =>
                            dp Try.prog (o_fieldAddr 38 x177 2) fun x178 =>
                            dq Try.prog w111 (o_load 4 x178) fun x179 =>
                            dp Try.prog (o_un .not x179) fun x180 =>
                            qguard x180 true (fun k => dp Try.prog (o_move x175) k) fun x182 =>
                            qguard x180 true (fun k => dp Try.prog (o_indexAddr 39 x6 x182) k) fun x183 =>
                            qguard x180 true (fun k => dp Try.prog (o_fieldAddr 38 x183 3) k) fun x184 =>
                            qguard x180 true (fun k => dq Try.prog w111 (o_load 22 x184) k) fun x185 =>
                            qguard x180 true (fun k => dp Try.prog (o_builtin .len #[22] 3 [false] [x185]) k) fun x186 =>
                            qguard x180 true (fun k => dp Try.prog (o_move x175) k) fun x187 =>
                            qguard x180 true (fun k => dp Try.prog (o_indexAddr 39 x6 x187) k) fun x188 =>
                            qguard x180 true (fun k => dp Try.prog (o_fieldAddr 38 x188 0) k) fun x189 =>
                            qguard x180 true (fun k => dq Try.prog w111 (o_load 3 x189) k) fun x190 =>
                            qguard x180 true (fun k => dp Try.prog (o_bin .lss 3 false x186 x190) k) fun x191 =>
                            dp Try.prog (o_pick x180 x191 (.bool false)) fun x192 =>
                            qguard x192 true (fun k => dp Try.prog (o_move x74) k) fun x194 =>
                            qguard x192 true (fun k => dp Try.prog (o_indexAddr 39 x6 x194) k) fun x195 =>
                            qguard x192 true (fun k => dp Try.prog (o_fieldAddr 38 x195 3) k) fun x196 =>
                            qguard x192 true (fun k => dq Try.prog w111 (o_load 22 x196) k) fun x197 =>
                            qguard x192 true (fun k => dp Try.prog (o_builtin .len #[22] 3 [false] [x197]) k) fun x198 =>
                            qguard x192 true (fun k => dp Try.prog (o_bin .gtr 3 true x198 (.int .i64 0)) k) fun x199 =>
                            dp Try.prog (o_pick x192 x199 (.bool false)) fun x200 =>
                            dend w111 fun w112 =>
                            mif x200 (
                              j43 w112) (
                              dp Try.prog (o_indexAddr 36 x5 x74) fun x214 =>
                              dq Try.prog w112 (o_load 25 x214) fun x215 =>
                              dp Try.prog (o_indexAddr 36 x5 x175) fun x217 =>
                              dq Try.prog w112 (o_load 25 x217) fun x218 =>
                              df Try.prog w112 (o_call (fv 15) [x215, x218]) false fun x219 w113 =>
                              dp Try.prog (o_bin .eql 3 false x219 x25) fun x221 =>
                              dend w113 fun w114 =>
                              j47 x221 w114)) fun u43 w115 =>
                          m R (o_indexAddr 39 x6 x74) w115 fun x203 w116 =>
                          m R (o_call (fv 13) [x203]) w116 fun x204 w117 =>
                          m R (o_extract x204 0) w117 fun x205 w118 =>
                          m R (o_extract x204 1) w118 fun x206 w119 =>
                          m R (o_indexAddr 39 x6 x175) w119 fun x208 w120 =>
                          m R (o_call (fv 12) [x208, x205]) w120 fun x210 w121 =>
                          m R (o_bin .add 3 true x25 (.int .i64 1)) w121 fun x212 w122 =>
                          next42 x212 w122) (
                        j47 (.bool true) w108)))))) fun x13 u47 w123 =>
            ml2 x13 (.int .i64 0) w123 fun x13 x28 u48 w124 next48 =>
              m R (o_bin .lss 3 true x28 (.int .i64 3)) w124 fun x223 w125 =>
              mif x223 (
                mj1 (fun j49 =>
                  ∃ S : Rl,
                    qguard x13 true (fun k => dp Try.prog (o_move x28) k) fun x228 =>
                    qguard x13 true (fun k => dp Try.prog (o_indexAddr 36 x5 x228) k) fun x229 =>
                    qguard x13 true (fun k => dqS Try.prog S w125 (o_load 25 x229) k) fun x230 =>
                    mguard x13 true (fun k => dfS Try.prog S w125 (o_call (fv 16) [x230]) true k) w125 fun x231 w126 =>
                    qguard x13 true (fun k => dp Try.prog (o_move x28) k) fun x232 =>
                    qguard x13 true (fun k => dp Try.prog (o_indexAddr 39 x6 x232) k) fun x233 =>
                    qguard x13 true (fun k => dp Try.prog (o_fieldAddr 38 x233 3) k) fun x234 =>
                    qguard x13 true (fun k => dqS Try.prog S w125 (o_load 22 x234) k) fun x235 =>
                    qguard x13 true (fun k => dp Try.prog (o_builtin .len #[22] 3 [false] [x235]) k) fun x236 =>
                    qguard x13 true (fun k => dp Try.prog (o_bin .eql 3 false x231 x236) k) fun x237 =>
                    dp Try.prog (o_pick x13 x237 (.bool false)) fun x238 =>
                    qguard x238 true (fun k => dp Try.prog (o_move x28) k) fun x240 =>
                    qguard x238 true (fun k => dp Try.prog (o_indexAddr 36 x5 x240) k) fun x241 =>
                    qguard x238 true (fun k => dqS Try.prog S w126 (o_load 25 x241) k) fun x242 =>
                    mguard x238 true (fun k => dfS Try.prog S w126 (o_call (fv 11) [x242]) true k) w126 fun x243 w127 =>
                    qguard x238 true (fun k => dp Try.prog (o_move x28) k) fun x244 =>
                    qguard x238 true (fun k => dp Try.prog (o_indexAddr 39 x6 x244) k) fun x245 =>
                    qguard x238 true (fun k => dp Try.prog (o_fieldAddr 38 x245 1) k) fun x246 =>
                    qguard x238 true (fun k => dqS Try.prog S w126 (o_load 3 x246) k) fun x247 =>
                    qguard x238 true (fun k => dp Try.prog (o_bin .eql 3 false x243 x247) k) fun x248 =>
                    dp Try.prog (o_pick x238 x248 (.bool false)) fun x249 =>
                    dend w127 fun w128 =>
                    j49 x249 w128) fun x13 u49 w129 =>
                m R (o_bin .add 3 true x28 (.int .i64 1)) w129 fun x225 w130 =>
                next48 x13 x225 w130) (
                m R (o_un .not x13) w125 fun x251 w131 =>
                mif x251 (
                  R (.returned (.bool false)) w131) (
                  m R (o_bin .add 3 true x10 (.int .i64 1)) w131 fun x66 w132 =>
                  next12 x66 w132))) (
            R (.returned (.bool true)) w33)))
def A_bevylaw18_DockPlays : Ann := ⟨[(6, [7], 2305842871774741376), (12, [10], 7237005577332262213973186563042994240829374041602535252463793157485893778448), (31, [21, 22], 713275397209252899542556489126737437549133824), (42, [25], 13164036458473867365935635406811407350664992601092467711887278080), (48, [13, 28], 1809251387593078886705636692093994788452435841991347707481381629848008531968)], [(2, [35], 68182605824), (47, [13], 6739986666787659948666753771754907668409286067856211257319009280000), (32, [21], 708048660053347284743759055156585477816975360), (38, [23], 181974080820009884834931461104810629888808583168), (43, [], 3213875992737009246965870537285636008150082011394390534127616), (49, [13], 1809251286493278884890737462092688212128820815852056122954234825709201661952)], [(19, [⟨0, .q none, 4096, 0, 1208925819614629174706176⟩, ⟨1, .q none, 1208925819614629174706208, 1, 2417851639229258349412352⟩, ⟨2, .q (some 0), 2417851639229258349412352, 3, 4835703278458516698824704⟩, ⟨3, .q none, 2048, 0, 9671406556917033397649408⟩, ⟨4, .q (some 0), 9671406556917033397649408, 8, 19342813113834066795298816⟩, ⟨5, .f 0 true, 24178516392292583494123520, 31, 38685626227668133590597632⟩, ⟨6, .q none, 4096, 0, 77371252455336267181195264⟩, ⟨7, .q none, 77371252455336267181195328, 64, 154742504910672534362390528⟩, ⟨8, .q none, 2048, 0, 309485009821345068724781056⟩, ⟨9, .q (some 0), 309485009821345068724781056, 256, 618970019642690137449562112⟩, ⟨10, .f 1 false, 773712524553362671811952640, 1023, 1237940039285380274899124224⟩, ⟨11, .q none, 1276625665513048408489721856, 2047, 2475880078570760549798248448⟩, ⟨12, .q none, 2475880078570760549798248448, 4095, 8192⟩]), (42, [⟨0, .q none, 16777216, 0, 95780971304118053647396689196894323976171195136475136⟩, ⟨1, .q none, 95780971304118053647396689196894323976171195136475200, 1, 191561942608236107294793378393788647952342390272950272⟩, ⟨2, .q none, 191561942608236107294793378393788647952342390272950272, 3, 383123885216472214589586756787577295904684780545900544⟩, ⟨3, .q (some 0), 383123885216472214589586756787577295904684780545900544, 7, 766247770432944429179173513575154591809369561091801088⟩, ⟨4, .q none, 766247770432944429179173513575154591809369561091801088, 15, 1532495540865888858358347027150309183618739122183602176⟩, ⟨5, .q none, 1532495540865888858358347027150309183618739122183602176, 31, 3064991081731777716716694054300618367237478244367204352⟩, ⟨6, .q none, 3064991081731777716716694054300618367237478244383981568, 63, 6129982163463555433433388108601236734474956488734408704⟩, ⟨7, .q none, 9194973245195333150150082162901855101712434733101613120, 127, 12259964326927110866866776217202473468949912977468817408⟩, ⟨8, .q none, 15324955408658888583583470271503091836187391221836021760, 255, 24519928653854221733733552434404946937899825954937634816⟩, ⟨9, .q (some 0), 27584919735585999450450246488705565305137304199304839168, 511, 49039857307708443467467104868809893875799651909875269632⟩, ⟨10, .q none, 52104848389440221184183798923110512243037130154242473984, 1023, 98079714615416886934934209737619787751599303819750539264⟩, ⟨11, .q none, 3064991081731777716716694054300618367237478244383981568, 63, 196159429230833773869868419475239575503198607639501078528⟩, ⟨12, .q none, 199224420312565551586585113529540193870436085883868282944, 2111, 392318858461667547739736838950479151006397215279002157056⟩, ⟨13, .q none, 395383849543399325456453533004779769373634693523369361408, 6207, 784637716923335095479473677900958302012794430558004314112⟩, ⟨14, .q (some 0), 787702708005066873196190371955258920380031908802371518464, 14399, 1569275433846670190958947355801916604025588861116008628224⟩, ⟨15, .q none, 1670420139543818855610598259593837010144425643180126371840, 32767, 3138550867693340381917894711603833208051177722232017256448⟩, ⟨16, .q none, 3141615858775072159634611405658133826418415200476384460800, 65535, 6277101735386680763835789423207666416102355444464034512896⟩, ⟨17, .q none, 6277101735386680763835789423207666416102355444464034512896, 131071, 12554203470773361527671578846415332832204710888928069025792⟩, ⟨18, .q none, 12554203470773361527671578846415332832204710888928069029888, 262143, 25108406941546723055343157692830665664409421777856138051584⟩, ⟨19, .q none, 37662610412320084583014736539245998496614132666784207077440, 524287, 50216813883093446110686315385661331328818843555712276103168⟩, ⟨20, .q none, 62771017353866807638357894232076664161023554444640345128960, 1048575, 100433627766186892221372630771322662657637687111424552206336⟩, ⟨21, .q (some 0), 112987831236960253749044209617737995489842398000352621232128, 2097151, 200867255532373784442745261542645325315275374222849104412672⟩, ⟨22, .q none, 213421459003147145970416840389060658147480085111777173438464, 4194303, 401734511064747568885490523085290650630550748445698208825344⟩, ⟨23, .q none, 414288714535520930413162101931705983462755459334626277851136, 8388607, 803469022129495137770981046170581301261101496891396417650688⟩, ⟨24, .q none, 816023225600268499298652625016996634093306207780324486676480, 16777215, 1606938044258990275541962092341162602522202993782792835301376⟩]), (46, [⟨0, .q none, 4096, 0, 13164036458569648337239753460458804039861886925068638906788872192⟩, ⟨1, .q none, 13164036458569648337239753460458804039861886925068638906788872224, 1, 26328072917139296674479506920917608079723773850137277813577744384⟩, ⟨2, .q (some 0), 26328072917139296674479506920917608079723773850137277813577744384, 3, 52656145834278593348959013841835216159447547700274555627155488768⟩, ⟨3, .q none, 16777216, 0, 105312291668557186697918027683670432318895095400549111254310977536⟩, ⟨4, .q none, 105312291668557186697918027683670432318895095400549111254310977568, 8, 210624583337114373395836055367340864637790190801098222508621955072⟩, ⟨5, .q (some 0), 210624583337114373395836055367340864637790190801098222508621955072, 24, 421249166674228746791672110734681729275580381602196445017243910144⟩, ⟨6, .f 0 false, 473905312508507340140631124576516945435027929302471000644399398912, 63, 842498333348457493583344221469363458551160763204392890034487820288⟩, ⟨7, .q none, 33554432, 0, 1684996666696914987166688442938726917102321526408785780068975640576⟩, ⟨8, .q none, 2527495000045372480750032664408090375653482289613178670103463460864, 255, 3369993333393829974333376885877453834204643052817571560137951281152⟩, ⟨9, .q none, 3369993333393829974333376885877453834204643052817571560137951281152, 511, 8192⟩]), (50, [⟨0, .q none, 8192, 0, 107839786668602559178668060348078522694548577690162289924414440996864⟩, ⟨1, .q none, 107839786668602559178668060348078522694548577690162289924414440996864, 1, 215679573337205118357336120696157045389097155380324579848828881993728⟩, ⟨2, .q none, 215679573337205118357336120696157045389097155380324579848829150429184, 3, 431359146674410236714672241392314090778194310760649159697657763987456⟩, ⟨3, .q none, 647038720011615355072008362088471136167291466140973739546486645981216, 7, 862718293348820473429344482784628181556388621521298319395315527974912⟩, ⟨4, .q (some 0), 1078397866686025591786680603480785226945485776901622899244144409968640, 15, 1725436586697640946858688965569256363112777243042596638790631055949824⟩, ⟨5, .f 0 true, 1941116160034846065216025086265413408501874398422921218639459937943552, 31, 3450873173395281893717377931138512726225554486085193277581262111899648⟩, ⟨6, .q none, 215679573337205118357336120696157045389097155380324579848829150429184, 3, 6901746346790563787434755862277025452451108972170386555162524223799296⟩, ⟨7, .q none, 7117425920127768905792091982973182497840206127550711135011353105793088, 67, 13803492693581127574869511724554050904902217944340773110325048447598592⟩, ⟨8, .q none, 14019172266918332693226847845250207950291315099721097690173877329592320, 195, 27606985387162255149739023449108101809804435888681546220650096895197184⟩, ⟨9, .q (some 0), 27822664960499460268096359569804258855193533044061870800498925777190912, 451, 55213970774324510299478046898216203619608871777363092441300193790394368⟩, ⟨10, .q none, 55429650347661715417835383018912360664997968932743417021149022672388096, 963, 110427941548649020598956093796432407239217743554726184882600387580788736⟩, ⟨11, .q none, 114094494295381507611030807848267077010832395196191702740030478574682112, 2047, 220855883097298041197912187592864814478435487109452369765200775161577472⟩, ⟨12, .q none, 221071562670635246316269523713560971523824584264832694345049604043571200, 4095, 441711766194596082395824375185729628956870974218904739530401550323154944⟩, ⟨13, .q none, 441711766194596082395824375185729628956870974218904739530401550323154944, 8191, 883423532389192164791648750371459257913741948437809479060803100646309888⟩, ⟨14, .q none, 883423532389192164791648750371459257913741948437809479060803100914745344, 16383, 1766847064778384329583297500742918515827483896875618958121606201292619776⟩, ⟨15, .q none, 2650270597167576494374946251114377773741225845313428437182409301938929696, 32767, 3533694129556768659166595001485837031654967793751237916243212402585239552⟩, ⟨16, .q (some 1), 4417117661945960823958243751857296289568709742189047395304015503231549440, 65535, 7067388259113537318333190002971674063309935587502475832486424805170479104⟩, ⟨17, .f 1 true, 7950811791502729483124838753343133321223677535940285311547227905816788992, 131071, 14134776518227074636666380005943348126619871175004951664972849610340958208⟩, ⟨18, .q none, 883423532389192164791648750371459257913741948437809479060803100914745344, 16383, 28269553036454149273332760011886696253239742350009903329945699220681916416⟩, ⟨19, .q none, 29152976568843341438124408762258155511153484298447712809006502321328226368, 278527, 56539106072908298546665520023773392506479484700019806659891398441363832832⟩, ⟨20, .q none, 57422529605297490711457168774144851764393226648457616138952201542010142720, 802815, 113078212145816597093331040047546785012958969400039613319782796882727665664⟩, ⟨21, .q (some 1), 113961635678205789258122688797918244270872711348477422798843599983373975552, 1851391, 226156424291633194186662080095093570025917938800079226639565593765455331328⟩, ⟨22, .q none, 241174624342249460988120108851408377410451551923521987783599246476442599424, 4194303, 452312848583266388373324160190187140051835877600158453279131187530910662656⟩, ⟨23, .q none, 453196272115655580538115808940558599309749619548596262758191990631556972544, 8388607, 904625697166532776746648320380374280103671755200316906558262375061821325312⟩, ⟨24, .q none, 904625697166532776746648320380374280103671755200316906558262375061821325312, 16777215, 8192⟩])], [], [19, 50]⟩
theorem E_bevylaw18_DockPlays (x0 x1 : Value) (w : World) (R : Ending → World → Prop) : cwp Try.prog A_bevylaw18_DockPlays (Try.f4.body.getD .skip) (retPost Try.prog Try.f4.results.toList R) (argE [x0, x1]) w = F_bevylaw18_DockPlays x0 x1 w R := by kernel_rfl
theorem C_bevylaw18_DockPlays {x0 x1 : Value} {w : World} {R : Ending → World → Prop} (h : F_bevylaw18_DockPlays x0 x1 w R) : Calls Try.prog 4 #[x0, x1] w R :=
  calls_cwp (A := A_bevylaw18_DockPlays) (args := [x0, x1]) mixed Try.func4 (c := Try.f4.body.getD .skip) (by kernel_rfl) (by kernel_rfl) (by kernel_rfl) ((E_bevylaw18_DockPlays x0 x1 w R).mpr h)

/-- bevy/bevylaw18.DockNil -/
def F_bevylaw18_DockNil (x0 : Value) (w : World) (R : Ending → World → Prop) : Prop :=
  mj1 (fun j2 =>
    m R (o_bin .geq 3 true x0 (.int .i64 1)) w fun x13 w1 =>
    mguard x13 true (fun k => m R (o_move x0) w1 k) w1 fun x15 w2 =>
    mguard x13 true (fun k => m R (o_bin .leq 3 true x15 (.int .i64 65536)) w2 k) w2 fun x16 w3 =>
    m R (o_pick x13 x16 (.bool false)) w3 fun x17 w4 =>
    j2 x17 w4) fun x17 u2 w5 =>
  mif x17 (
    m R (o_call (fv 17) [x0]) w5 fun x20 w6 =>
    m R (o_extract x20 0) w6 fun x21 w7 =>
    m R (o_extract x20 1) w7 fun x22 w8 =>
    m R (o_call (fv 6) []) w8 fun x23 w9 =>
    mguard x23 true (fun k => m R (o_move x22) w9 k) w9 fun x25 w10 =>
    mguard x23 true (fun k => m R (o_bin .eql 26 true x25 (.int .i64 0)) w10 k) w10 fun x26 w11 =>
    m R (o_pick x23 x26 (.bool false)) w11 fun x27 w12 =>
    mguard x27 true (fun k => m R (o_move x21) w12 k) w12 fun x29 w13 =>
    mguard x27 true (fun k => m R (o_call (fv 18) [x29]) w13 k) w13 fun x30 w14 =>
    mguard x27 true (fun k => m R (o_bin .eql 3 true x30 (.int .i64 0)) w14 k) w14 fun x31 w15 =>
    m R (o_pick x27 x31 (.bool false)) w15 fun x32 w16 =>
    mguard x32 true (fun k => m R (o_move x21) w16 k) w16 fun x34 w17 =>
    mguard x32 true (fun k => m R (o_move x21) w17 k) w17 fun x35 w18 =>
    mguard x32 true (fun k => m R (o_call (fv 19) [x34, x35]) w18 k) w18 fun x36 w19 =>
    mguard x32 true (fun k => m R (o_bin .eql 3 true x36 (.int .i64 0)) w19 k) w19 fun x37 w20 =>
    m R (o_pick x32 x37 (.bool false)) w20 fun x38 w21 =>
    R (.returned x38) w21) (
    m R (o_call (fv 17) [x0]) w5 fun x41 w22 =>
    m R (o_extract x41 0) w22 fun x42 w23 =>
    m R (o_extract x41 1) w23 fun x43 w24 =>
    m R (o_call (fv 20) [x42]) w24 fun x45 w25 =>
    m R (o_call (fv 21) [x42]) w25 fun x48 w26 =>
    m R (o_extract x48 0) w26 fun x49 w27 =>
    m R (o_extract x48 1) w27 fun x50 w28 =>
    m R (o_buildSlice 77 2 [(0, x42), (1, (.pointer none))]) w28 fun x53 w29 =>
    m R (o_call (fv 22) [x53]) w29 fun x54 w30 =>
    m R (o_extract x54 0) w30 fun x55 w31 =>
    m R (o_extract x54 1) w31 fun x56 w32 =>
    m R (o_extract x54 2) w32 fun x57 w33 =>
    m R (o_call (fv 6) []) w33 fun x58 w34 =>
    mguard x58 true (fun k => m R (o_move x42) w34 k) w34 fun x60 w35 =>
    mguard x58 true (fun k => m R (o_bin .eql 47 true x60 (.pointer none)) w35 k) w35 fun x61 w36 =>
    m R (o_pick x58 x61 (.bool false)) w36 fun x62 w37 =>
    mguard x62 true (fun k => m R (o_move x43) w37 k) w37 fun x64 w38 =>
    mguard x62 true (fun k => m R (o_bin .eql 26 true x64 (.int .i64 1)) w38 k) w38 fun x65 w39 =>
    m R (o_pick x62 x65 (.bool false)) w39 fun x66 w40 =>
    mguard x66 true (fun k => m R (o_move x42) w40 k) w40 fun x68 w41 =>
    mguard x66 true (fun k => m R (o_call (fv 23) [x68, (.string (ByteArray.mk #[]))]) w41 k) w41 fun x69 w42 =>
    mguard x66 true (fun k => m R (o_bin .eql 26 true x69 (.int .i64 1)) w42 k) w42 fun x70 w43 =>
    m R (o_pick x66 x70 (.bool false)) w43 fun x71 w44 =>
    mguard x71 true (fun k => m R (o_move x49) w44 k) w44 fun x73 w45 =>
    mguard x71 true (fun k => m R (o_bin .eql 9 true x73 (.string (ByteArray.mk #[]))) w45 k) w45 fun x74 w46 =>
    m R (o_pick x71 x74 (.bool false)) w46 fun x75 w47 =>
    mguard x75 true (fun k => m R (o_move x50) w47 k) w47 fun x77 w48 =>
    mguard x75 true (fun k => m R (o_un .not x77) w48 k) w48 fun x78 w49 =>
    m R (o_pick x75 x78 (.bool false)) w49 fun x79 w50 =>
    mguard x79 true (fun k => m R (o_move x42) w50 k) w50 fun x81 w51 =>
    mguard x79 true (fun k => m R (o_call (fv 18) [x81]) w51 k) w51 fun x82 w52 =>
    mguard x79 true (fun k => m R (o_bin .eql 3 true x82 (.int .i64 0)) w52 k) w52 fun x83 w53 =>
    m R (o_pick x79 x83 (.bool false)) w53 fun x84 w54 =>
    mguard x84 true (fun k => m R (o_move x42) w54 k) w54 fun x86 w55 =>
    mguard x84 true (fun k => m R (o_call (fv 24) [x86]) w55 k) w55 fun x87 w56 =>
    mguard x84 true (fun k => m R (o_bin .eql 3 true x87 (.int .i64 0)) w56 k) w56 fun x88 w57 =>
    m R (o_pick x84 x88 (.bool false)) w57 fun x89 w58 =>
    mguard x89 true (fun k => m R (o_move x56) w58 k) w58 fun x91 w59 =>
    mguard x89 true (fun k => m R (o_bin .eql 3 true x91 (.int .i64 (-1))) w59 k) w59 fun x92 w60 =>
    m R (o_pick x89 x92 (.bool false)) w60 fun x93 w61 =>
    mguard x93 true (fun k => m R (o_move x57) w61 k) w61 fun x95 w62 =>
    mguard x93 true (fun k => m R (o_un .not x95) w62 k) w62 fun x96 w63 =>
    m R (o_pick x93 x96 (.bool false)) w63 fun x97 w64 =>
    mguard x97 true (fun k => m R (o_move x42) w64 k) w64 fun x99 w65 =>
    mguard x97 true (fun k => m R (o_move x42) w65 k) w65 fun x100 w66 =>
    mguard x97 true (fun k => m R (o_call (fv 19) [x99, x100]) w66 k) w66 fun x101 w67 =>
    mguard x97 true (fun k => m R (o_bin .eql 3 true x101 (.int .i64 0)) w67 k) w67 fun x102 w68 =>
    m R (o_pick x97 x102 (.bool false)) w68 fun x103 w69 =>
    R (.returned x103) w69)
def A_bevylaw18_DockNil : Ann := ⟨[], [(2, [17], 258048)], [], [], []⟩
theorem E_bevylaw18_DockNil (x0 : Value) (w : World) (R : Ending → World → Prop) : cwp Try.prog A_bevylaw18_DockNil (Try.f5.body.getD .skip) (retPost Try.prog Try.f5.results.toList R) (argE [x0]) w = F_bevylaw18_DockNil x0 w R := by kernel_rfl
theorem C_bevylaw18_DockNil {x0 : Value} {w : World} {R : Ending → World → Prop} (h : F_bevylaw18_DockNil x0 w R) : Calls Try.prog 5 #[x0] w R :=
  calls_cwp (A := A_bevylaw18_DockNil) (args := [x0]) mixed Try.func5 (c := Try.f5.body.getD .skip) (by kernel_rfl) (by kernel_rfl) (by kernel_rfl) ((E_bevylaw18_DockNil x0 w R).mpr h)

/-- bevy/bevylaw18.awake -/
def F_bevylaw18_awake (w : World) (R : Ending → World → Prop) : Prop :=
  m R (o_call (fv 7) [(.int .i64 1)]) w fun x8 w1 =>
  m R (o_extract x8 0) w1 fun x9 w2 =>
  m R (o_extract x8 1) w2 fun x10 w3 =>
  m R (o_call (fv 8) [x9, (.int .i64 5)]) w3 fun x12 w4 =>
  m R (o_call (fv 8) [x9, (.int .i64 6)]) w4 fun x14 w5 =>
  m R (o_call (fv 9) [x9]) w5 fun x17 w6 =>
  m R (o_extract x17 0) w6 fun x18 w7 =>
  m R (o_extract x17 1) w7 fun x19 w8 =>
  m R (o_bin .eql 26 true x10 (.int .i64 0)) w8 fun x21 w9 =>
  mguard x21 true (fun k => m R (o_move x12) w9 k) w9 fun x23 w10 =>
  mguard x21 true (fun k => m R (o_bin .eql 26 true x23 (.int .i64 0)) w10 k) w10 fun x24 w11 =>
  m R (o_pick x21 x24 (.bool false)) w11 fun x25 w12 =>
  mguard x25 true (fun k => m R (o_move x14) w12 k) w12 fun x27 w13 =>
  mguard x25 true (fun k => m R (o_bin .eql 26 true x27 (.int .i64 9)) w13 k) w13 fun x28 w14 =>
  m R (o_pick x25 x28 (.bool false)) w14 fun x29 w15 =>
  mguard x29 true (fun k => m R (o_move x9) w15 k) w15 fun x31 w16 =>
  mguard x29 true (fun k => m R (o_call (fv 11) [x31]) w16 k) w16 fun x32 w17 =>
  mguard x29 true (fun k => m R (o_bin .eql 3 true x32 (.int .i64 1)) w17 k) w17 fun x33 w18 =>
  m R (o_pick x29 x33 (.bool false)) w18 fun x34 w19 =>
  mguard x34 true (fun k => m R (o_move x19) w19 k) w19 fun x36 w20 =>
  m R (o_pick x34 x36 (.bool false)) w20 fun x37 w21 =>
  mguard x37 true (fun k => m R (o_move x18) w21 k) w21 fun x39 w22 =>
  mguard x37 true (fun k => m R (o_bin .eql 3 true x39 (.int .i64 5)) w22 k) w22 fun x40 w23 =>
  m R (o_pick x37 x40 (.bool false)) w23 fun x41 w24 =>
  R (.returned x41) w24
def A_bevylaw18_awake : Ann := ⟨[], [], [], [], []⟩
theorem E_bevylaw18_awake (w : World) (R : Ending → World → Prop) : cwp Try.prog A_bevylaw18_awake (Try.f6.body.getD .skip) (retPost Try.prog Try.f6.results.toList R) (argE []) w = F_bevylaw18_awake w R := by kernel_rfl
theorem C_bevylaw18_awake {w : World} {R : Ending → World → Prop} (h : F_bevylaw18_awake w R) : Calls Try.prog 6 #[] w R :=
  calls_cwp (A := A_bevylaw18_awake) (args := []) mixed Try.func6 (c := Try.f6.body.getD .skip) (by kernel_rfl) (by kernel_rfl) (by kernel_rfl) ((E_bevylaw18_awake w R).mpr h)

/-- bevy/dock.New[int] -/
def F_dock_New_int (x0 : Value) (w : World) (R : Ending → World → Prop) : Prop :=
  mj1 (fun j2 =>
    m R (o_bin .lss 3 true x0 (.int .i64 1)) w fun x5 w1 =>
    mguard x5 false (fun k => m R (o_move x0) w1 k) w1 fun x7 w2 =>
    mguard x5 false (fun k => m R (o_bin .gtr 3 true x7 (.int .i64 65536)) w2 k) w2 fun x8 w3 =>
    m R (o_pick x5 (.bool true) x8) w3 fun x9 w4 =>
    j2 x9 w4) fun x9 u2 w5 =>
  mif x9 (
    R (.returned (.tuple #[(.pointer none), (.int .i64 1)])) w5) (
    ((
      df Try.prog w5 (o_makeChan 57 x0) false fun x11 w6 =>
      df Try.prog w6 (o_makeChan 58 (.int .i64 0)) false fun x12 w7 =>
      dp Try.prog (o_build 68 [(0, x11), (1, x12)]) fun x13 =>
      df Try.prog w7 (o_box 68 x13) false fun x14 w8 =>
      dend w8 fun w9 =>
      R (.returned (.tuple #[x14, (.int .i64 0)])) w9) ∧ (
      df Try.prog w5 (o_makeChan 58 (.int .i64 0)) false fun x12 w10 =>
      df Try.prog w10 (o_makeChan 57 x0) false fun x11 w11 =>
      dp Try.prog (o_build 68 [(0, x11), (1, x12)]) fun x13 =>
      df Try.prog w11 (o_box 68 x13) false fun x14 w12 =>
      dend w12 fun w13 =>
      R (.returned (.tuple #[x14, (.int .i64 0)])) w13)))
def A_dock_New_int : Ann := ⟨[], [(2, [9], 1008)], [], [(3, [⟨[0, 1, 2, 3, 4, 5, 6], [⟨0, .q none, 1, 0, 1024⟩, ⟨1, .f 0 false, 1024, 1, 2048⟩, ⟨2, .f 1 false, 0, 0, 4096⟩, ⟨3, .q none, 6144, 7, 8192⟩, ⟨4, .f 2 false, 8192, 15, 16384⟩, ⟨5, .q none, 16384, 31, 4⟩, ⟨6, .q none, 0, 63, 8⟩]⟩, ⟨[0, 2, 1, 3, 4, 5, 6], [⟨0, .q none, 1, 0, 1024⟩, ⟨1, .f 1 false, 1024, 1, 2048⟩, ⟨2, .f 0 false, 0, 0, 4096⟩, ⟨3, .q none, 6144, 7, 8192⟩, ⟨4, .f 2 false, 8192, 15, 16384⟩, ⟨5, .q none, 16384, 31, 4⟩, ⟨6, .q none, 0, 63, 8⟩]⟩])], []⟩
theorem E_dock_New_int (x0 : Value) (w : World) (R : Ending → World → Prop) : cwp Try.prog A_dock_New_int (Try.f7.body.getD .skip) (retPost Try.prog Try.f7.results.toList R) (argE [x0]) w = F_dock_New_int x0 w R := by kernel_rfl
theorem C_dock_New_int {x0 : Value} {w : World} {R : Ending → World → Prop} (h : F_dock_New_int x0 w R) : Calls Try.prog 7 #[x0] w R :=
  calls_cwp (A := A_dock_New_int) (args := [x0]) mixed Try.func7 (c := Try.f7.body.getD .skip) (by kernel_rfl) (by kernel_rfl) (by kernel_rfl) ((E_dock_New_int x0 w R).mpr h)

/-- (*bevy/dock.Box[int]).Post -/
def F_dock_Box_int_Post (x0 x1 : Value) (w : World) (R : Ending → World → Prop) : Prop :=
  m R (o_bin .eql 25 true x0 (.pointer none)) w fun x7 w1 =>
  mif x7 (
    R (.returned (.int .i64 1)) w1) (
    m R (o_call (fv 25) [x0]) w1 fun x10 w2 =>
    mif x10 (
      R (.returned (.int .i64 21)) w2) (
      m R (o_nilCheck x0) w2 fun x12 w3 =>
      m R (o_fieldAddr 68 x12 0) w3 fun x13 w4 =>
      m R (o_load 57 x13) w4 fun x14 w5 =>
      mcom Try.prog (o_select [(x14, (some x1), 3)] false) w5 fun x16 w6 =>
      m R (o_extract x16 0) w6 fun x17 w7 =>
      m R (o_bin .eql 3 true x17 (.int .i64 0)) w7 fun x18 w8 =>
      mif x18 (
        R (.returned (.int .i64 0)) w8) (
        m R (o_nilCheck x0) w8 fun x20 w9 =>
        m R (o_fieldAddr 68 x20 3) w9 fun x21 w10 =>
        m R (o_call (fv 26) [x21, (.int .i64 1)]) w10 fun x22 w11 =>
        R (.returned (.int .i64 9)) w11)))
def A_dock_Box_int_Post : Ann := ⟨[], [], [], [], []⟩
theorem E_dock_Box_int_Post (x0 x1 : Value) (w : World) (R : Ending → World → Prop) : cwp Try.prog A_dock_Box_int_Post (Try.f8.body.getD .skip) (retPost Try.prog Try.f8.results.toList R) (argE [x0, x1]) w = F_dock_Box_int_Post x0 x1 w R := by kernel_rfl
theorem C_dock_Box_int_Post {x0 x1 : Value} {w : World} {R : Ending → World → Prop} (h : F_dock_Box_int_Post x0 x1 w R) : Calls Try.prog 8 #[x0, x1] w R :=
  calls_cwp (A := A_dock_Box_int_Post) (args := [x0, x1]) mixed Try.func8 (c := Try.f8.body.getD .skip) (by kernel_rfl) (by kernel_rfl) (by kernel_rfl) ((E_dock_Box_int_Post x0 x1 w R).mpr h)

/-- (*bevy/dock.Box[int]).Take -/
def F_dock_Box_int_Take (x0 : Value) (w : World) (R : Ending → World → Prop) : Prop :=
  m R (o_bin .eql 25 true x0 (.pointer none)) w fun x7 w1 =>
  mif x7 (
    R (.returned (.tuple #[(.int .i64 0), (.bool false)])) w1) (
    m R (o_nilCheck x0) w1 fun x10 w2 =>
    m R (o_fieldAddr 68 x10 0) w2 fun x11 w3 =>
    m R (o_load 57 x11) w3 fun x12 w4 =>
    mcom Try.prog (o_select [(x12, none, 3)] false) w4 fun x13 w5 =>
    m R (o_extract x13 0) w5 fun x14 w6 =>
    m R (o_bin .eql 3 true x14 (.int .i64 0)) w6 fun x15 w7 =>
    mif x15 (
      m R (o_extract x13 2) w7 fun x17 w8 =>
      R (.returned (.tuple #[x17, (.bool true)])) w8) (
      R (.returned (.tuple #[(.int .i64 0), (.bool false)])) w7))
def A_dock_Box_int_Take : Ann := ⟨[], [], [], [], []⟩
theorem E_dock_Box_int_Take (x0 : Value) (w : World) (R : Ending → World → Prop) : cwp Try.prog A_dock_Box_int_Take (Try.f9.body.getD .skip) (retPost Try.prog Try.f9.results.toList R) (argE [x0]) w = F_dock_Box_int_Take x0 w R := by kernel_rfl
theorem C_dock_Box_int_Take {x0 : Value} {w : World} {R : Ending → World → Prop} (h : F_dock_Box_int_Take x0 w R) : Calls Try.prog 9 #[x0] w R :=
  calls_cwp (A := A_dock_Box_int_Take) (args := [x0]) mixed Try.func9 (c := Try.f9.body.getD .skip) (by kernel_rfl) (by kernel_rfl) (by kernel_rfl) ((E_dock_Box_int_Take x0 w R).mpr h)

/-- (*bevy/dock.Box[int]).Close -/
def F_dock_Box_int_Close (x0 : Value) (w : World) (R : Ending → World → Prop) : Prop :=
  mj1 (fun j1 =>
    m R (o_bin .neq 25 true x0 (.pointer none)) w fun x3 w1 =>
    mguard x3 true (fun k => m R (o_move x0) w1 k) w1 fun x5 w2 =>
    mguard x3 true (fun k => m R (o_nilCheck x5) w2 k) w2 fun x6 w3 =>
    mguard x3 true (fun k => m R (o_fieldAddr 68 x6 2) w3 k) w3 fun x7 w4 =>
    mguard x3 true (fun k => m R (o_call (fv 27) [x7, (.bool false), (.bool true)]) w4 k) w4 fun x8 w5 =>
    m R (o_pick x3 x8 (.bool false)) w5 fun x9 w6 =>
    j1 x9 w6) fun x9 u1 w7 =>
  mif x9 (
    m R (o_nilCheck x0) w7 fun x11 w8 =>
    m R (o_fieldAddr 68 x11 1) w8 fun x12 w9 =>
    m R (o_load 58 x12) w9 fun x13 w10 =>
    m R (o_builtin .close #[58] 0 [false] [x13]) w10 fun _ w11 =>
    R (.returned (.tuple #[])) w11) (
    R (.returned (.tuple #[])) w7)
def A_dock_Box_int_Close : Ann := ⟨[], [(1, [9], 1020)], [], [], []⟩
theorem E_dock_Box_int_Close (x0 : Value) (w : World) (R : Ending → World → Prop) : cwp Try.prog A_dock_Box_int_Close (Try.f10.body.getD .skip) (retPost Try.prog Try.f10.results.toList R) (argE [x0]) w = F_dock_Box_int_Close x0 w R := by kernel_rfl
theorem C_dock_Box_int_Close {x0 : Value} {w : World} {R : Ending → World → Prop} (h : F_dock_Box_int_Close x0 w R) : Calls Try.prog 10 #[x0] w R :=
  calls_cwp (A := A_dock_Box_int_Close) (args := [x0]) mixed Try.func10 (c := Try.f10.body.getD .skip) (by kernel_rfl) (by kernel_rfl) (by kernel_rfl) ((E_dock_Box_int_Close x0 w R).mpr h)

/-- (*bevy/dock.Box[int]).Lost -/
def F_dock_Box_int_Lost (x0 : Value) (w : World) (R : Ending → World → Prop) : Prop :=
  m R (o_bin .eql 25 true x0 (.pointer none)) w fun x4 w1 =>
  mif x4 (
    R (.returned (.int .i64 0)) w1) (
    m R (o_nilCheck x0) w1 fun x6 w2 =>
    m R (o_fieldAddr 68 x6 3) w2 fun x7 w3 =>
    m R (o_call (fv 28) [x7]) w3 fun x8 w4 =>
    R (.returned x8) w4)
def A_dock_Box_int_Lost : Ann := ⟨[], [], [], [], []⟩
theorem E_dock_Box_int_Lost (x0 : Value) (w : World) (R : Ending → World → Prop) : cwp Try.prog A_dock_Box_int_Lost (Try.f11.body.getD .skip) (retPost Try.prog Try.f11.results.toList R) (argE [x0]) w = F_dock_Box_int_Lost x0 w R := by kernel_rfl
theorem C_dock_Box_int_Lost {x0 : Value} {w : World} {R : Ending → World → Prop} (h : F_dock_Box_int_Lost x0 w R) : Calls Try.prog 11 #[x0] w R :=
  calls_cwp (A := A_dock_Box_int_Lost) (args := [x0]) mixed Try.func11 (c := Try.f11.body.getD .skip) (by kernel_rfl) (by kernel_rfl) (by kernel_rfl) ((E_dock_Box_int_Lost x0 w R).mpr h)

/-- (*bevy/bevyref18.Box).Post -/
def F_bevyref18_Box_Post (x0 x1 : Value) (w : World) (R : Ending → World → Prop) : Prop :=
  m R (o_nilCheck x0) w fun x6 w1 =>
  m R (o_fieldAddr 38 x6 2) w1 fun x7 w2 =>
  m R (o_load 4 x7) w2 fun x8 w3 =>
  mif x8 (
    R (.returned (.int .i64 21)) w3) (
    dp Try.prog (o_nilCheck x0) fun x10 =>
    dp Try.prog (o_fieldAddr 38 x10 3) fun x11 =>
    dq Try.prog w3 (o_load 22 x11) fun x12 =>
    dp Try.prog (o_builtin .len #[22] 3 [false] [x12]) fun x13 =>
    dp Try.prog (o_nilCheck x0) fun x15 =>
    dp Try.prog (o_fieldAddr 38 x15 0) fun x16 =>
    dq Try.prog w3 (o_load 3 x16) fun x17 =>
    dp Try.prog (o_bin .geq 3 false x13 x17) fun x18 =>
    dend w3 fun w4 =>
    mif x18 (
      m R (o_nilCheck x0) w4 fun x20 w5 =>
      m R (o_fieldAddr 38 x20 1) w5 fun x21 w6 =>
      m R (o_load 3 x21) w6 fun x22 w7 =>
      m R (o_bin .add 3 true x22 (.int .i64 1)) w7 fun x23 w8 =>
      m R (o_nilCheck x0) w8 fun x24 w9 =>
      m R (o_fieldAddr 38 x24 1) w9 fun x25 w10 =>
      m R (o_store 3 x25 x23) w10 fun _ w11 =>
      R (.returned (.int .i64 9)) w11) (
      m R (o_nilCheck x0) w4 fun x28 w12 =>
      m R (o_fieldAddr 38 x28 3) w12 fun x29 w13 =>
      m R (o_load 22 x29) w13 fun x30 w14 =>
      m R (o_buildSlice 22 1 [(0, x1)]) w14 fun x32 w15 =>
      m R (o_builtin .append #[22, 22] 22 [false, false] [x30, x32]) w15 fun x33 w16 =>
      m R (o_nilCheck x0) w16 fun x34 w17 =>
      m R (o_fieldAddr 38 x34 3) w17 fun x35 w18 =>
      m R (o_store 22 x35 x33) w18 fun _ w19 =>
      R (.returned (.int .i64 0)) w19))
def A_bevyref18_Box_Post : Ann := ⟨[], [], [(3, [⟨0, .q none, 1, 0, 512⟩, ⟨1, .q none, 512, 1, 1024⟩, ⟨2, .q none, 1024, 3, 2048⟩, ⟨3, .q (some 0), 2048, 7, 4096⟩, ⟨4, .q none, 4096, 15, 8192⟩, ⟨5, .q none, 1, 0, 16384⟩, ⟨6, .q none, 16384, 32, 32768⟩, ⟨7, .q none, 32768, 96, 65536⟩, ⟨8, .q (some 0), 65536, 224, 131072⟩, ⟨9, .q none, 139264, 511, 262144⟩])], [], []⟩
theorem E_bevyref18_Box_Post (x0 x1 : Value) (w : World) (R : Ending → World → Prop) : cwp Try.prog A_bevyref18_Box_Post (Try.f12.body.getD .skip) (retPost Try.prog Try.f12.results.toList R) (argE [x0, x1]) w = F_bevyref18_Box_Post x0 x1 w R := by kernel_rfl
theorem C_bevyref18_Box_Post {x0 x1 : Value} {w : World} {R : Ending → World → Prop} (h : F_bevyref18_Box_Post x0 x1 w R) : Calls Try.prog 12 #[x0, x1] w R :=
  calls_cwp (A := A_bevyref18_Box_Post) (args := [x0, x1]) mixed Try.func12 (c := Try.f12.body.getD .skip) (by kernel_rfl) (by kernel_rfl) (by kernel_rfl) ((E_bevyref18_Box_Post x0 x1 w R).mpr h)

/-- (*bevy/bevyref18.Box).Take -/
def F_bevyref18_Box_Take (x0 : Value) (w : World) (R : Ending → World → Prop) : Prop :=
  m R (o_nilCheck x0) w fun x6 w1 =>
  m R (o_fieldAddr 38 x6 3) w1 fun x7 w2 =>
  m R (o_load 22 x7) w2 fun x8 w3 =>
  m R (o_builtin .len #[22] 3 [false] [x8]) w3 fun x9 w4 =>
  m R (o_bin .eql 3 true x9 (.int .i64 0)) w4 fun x10 w5 =>
  mif x10 (
    R (.returned (.tuple #[(.int .i64 0), (.bool false)])) w5) (
    m R (o_nilCheck x0) w5 fun x12 w6 =>
    m R (o_fieldAddr 38 x12 3) w6 fun x13 w7 =>
    m R (o_load 22 x13) w7 fun x14 w8 =>
    m R (o_indexAddr 22 x14 (.int .i64 0)) w8 fun x15 w9 =>
    m R (o_load 3 x15) w9 fun x16 w10 =>
    m R (o_nilCheck x0) w10 fun x19 w11 =>
    m R (o_fieldAddr 38 x19 3) w11 fun x20 w12 =>
    m R (o_load 22 x20) w12 fun x21 w13 =>
    m R (o_slice 22 x21 (some (.int .i64 1)) none none) w13 fun x22 w14 =>
    m R (o_nilCheck x0) w14 fun x23 w15 =>
    m R (o_fieldAddr 38 x23 3) w15 fun x24 w16 =>
    m R (o_store 22 x24 x22) w16 fun _ w17 =>
    R (.returned (.tuple #[x16, (.bool true)])) w17)
def A_bevyref18_Box_Take : Ann := ⟨[], [], [], [], []⟩
theorem E_bevyref18_Box_Take (x0 : Value) (w : World) (R : Ending → World → Prop) : cwp Try.prog A_bevyref18_Box_Take (Try.f13.body.getD .skip) (retPost Try.prog Try.f13.results.toList R) (argE [x0]) w = F_bevyref18_Box_Take x0 w R := by kernel_rfl
theorem C_bevyref18_Box_Take {x0 : Value} {w : World} {R : Ending → World → Prop} (h : F_bevyref18_Box_Take x0 w R) : Calls Try.prog 13 #[x0] w R :=
  calls_cwp (A := A_bevyref18_Box_Take) (args := [x0]) mixed Try.func13 (c := Try.f13.body.getD .skip) (by kernel_rfl) (by kernel_rfl) (by kernel_rfl) ((E_bevyref18_Box_Take x0 w R).mpr h)

/-- bevy/dock.First[int] -/
def F_dock_First_int (x0 : Value) (w : World) (R : Ending → World → Prop) : Prop :=
  m R (o_builtin .len #[73] 3 [false] [x0]) w fun x11 w1 =>
  ml1 (.int .i64 0) w1 fun x12 u2 w2 next2 =>
    m R (o_bin .lss 3 false x12 x11) w2 fun x13 w3 =>
    mif x13 (
      m R (o_indexAddr 73 x0 x12) w3 fun x15 w4 =>
      m R (o_load 25 x15) w4 fun x16 w5 =>
      m R (o_call (fv 9) [x16]) w5 fun x19 w6 =>
      m R (o_extract x19 0) w6 fun x20 w7 =>
      m R (o_extract x19 1) w7 fun x21 w8 =>
      mif x21 (
        R (.returned (.tuple #[x20, x12, (.bool true)])) w8) (
        m R (o_bin .add 3 true x12 (.int .i64 1)) w8 fun x25 w9 =>
        next2 x25 w9)) (
      R (.returned (.tuple #[(.int .i64 0), (.int .i64 (-1)), (.bool false)])) w3)
def A_dock_First_int : Ann := ⟨[(2, [12], 67105276)], [], [], [], []⟩
theorem E_dock_First_int (x0 : Value) (w : World) (R : Ending → World → Prop) : cwp Try.prog A_dock_First_int (Try.f14.body.getD .skip) (retPost Try.prog Try.f14.results.toList R) (argE [x0]) w = F_dock_First_int x0 w R := by kernel_rfl
theorem C_dock_First_int {x0 : Value} {w : World} {R : Ending → World → Prop} (h : F_dock_First_int x0 w R) : Calls Try.prog 14 #[x0] w R :=
  calls_cwp (A := A_dock_First_int) (args := [x0]) mixed Try.func14 (c := Try.f14.body.getD .skip) (by kernel_rfl) (by kernel_rfl) (by kernel_rfl) ((E_dock_First_int x0 w R).mpr h)

/-- bevy/dock.Pour[int] -/
def F_dock_Pour_int (x0 x1 : Value) (w : World) (R : Ending → World → Prop) : Prop :=
  mj1 (fun j3 =>
    m R (o_bin .eql 25 true x0 (.pointer none)) w fun x9 w1 =>
    mguard x9 false (fun k => m R (o_move x1) w1 k) w1 fun x11 w2 =>
    mguard x9 false (fun k => m R (o_bin .eql 25 true x11 (.pointer none)) w2 k) w2 fun x12 w3 =>
    m R (o_pick x9 (.bool true) x12) w3 fun x13 w4 =>
    mguard x13 false (fun k => m R (o_move x0) w4 k) w4 fun x15 w5 =>
    mguard x13 false (fun k => m R (o_move x1) w5 k) w5 fun x16 w6 =>
    mguard x13 false (fun k => m R (o_bin .eql 25 false x15 x16) w6 k) w6 fun x17 w7 =>
    m R (o_pick x13 (.bool true) x17) w7 fun x18 w8 =>
    j3 x18 w8) fun x18 u3 w9 =>
  mif x18 (
    R (.returned (.int .i64 0)) w9) (
    mj1 (fun j9 =>
      ml1 (.int .i64 0) w9 fun x5 u4 w10 next4 =>
        mj0 (fun j5 =>
          df Try.prog w10 (o_call (fv 25) [x1]) false fun x20 w11 =>
          dp Try.prog (o_un .not x20) fun x21 =>
          qguard x21 true (fun k => dp Try.prog (o_move x1) k) fun x23 =>
          mguard x21 true (fun k => df Try.prog w11 (o_call (fv 16) [x23]) true k) w11 fun x24 w12 =>
          qguard x21 true (fun k => dp Try.prog (o_move x1) k) fun x25 =>
          qguard x21 true (fun k => dp Try.prog (o_nilCheck x25) k) fun x26 =>
          qguard x21 true (fun k => dp Try.prog (o_fieldAddr 68 x26 0) k) fun x27 =>
          qguard x21 true (fun k => dq Try.prog w11 (o_load 57 x27) k) fun x28 =>
          qguard x21 true (fun k => dq Try.prog w12 (o_builtin .cap #[57] 3 [false] [x28]) k) fun x29 =>
          qguard x21 true (fun k => dp Try.prog (o_bin .lss 3 false x24 x29) k) fun x30 =>
          dp Try.prog (o_pick x21 x30 (.bool false)) fun x31 =>
          dend w12 fun w13 =>
          mif x31 (
            j5 w13) (
            j9 x5 w13)) fun u5 w14 =>
        m R (o_call (fv 9) [x0]) w14 fun x34 w15 =>
        m R (o_extract x34 0) w15 fun x35 w16 =>
        m R (o_extract x34 1) w16 fun x36 w17 =>
        m R (o_un .not x36) w17 fun x38 w18 =>
        mif x38 (
          j9 x5 w18) (
          m R (o_call (fv 8) [x1, x35]) w18 fun x41 w19 =>
          m R (o_bin .add 3 true x5 (.int .i64 1)) w19 fun x43 w20 =>
          next4 x43 w20)) fun x5 u9 w21 =>
    R (.returned x5) w21)
def A_dock_Pour_int : Ann := ⟨[(4, [5], 17592185520352)], [(3, [18], 524032), (9, [5], 17592185520352), (5, [], 4294443008)], [(4, [⟨0, .q none, 2, 0, 524288⟩, ⟨1, .f 0 false, 524288, 1, 1048576⟩, ⟨2, .q none, 1048576, 3, 2097152⟩, ⟨3, .q none, 2097152, 7, 4194304⟩, ⟨4, .q none, 4194306, 15, 8388608⟩, ⟨5, .f 1 true, 12582912, 31, 16777216⟩, ⟨6, .q none, 4194306, 15, 33554432⟩, ⟨7, .q none, 37748736, 79, 67108864⟩, ⟨8, .q none, 71303168, 207, 134217728⟩, ⟨9, .q (some 1), 138412032, 463, 268435456⟩, ⟨10, .q (some 2), 272629760, 1023, 536870912⟩, ⟨11, .q none, 557842432, 2047, 1073741824⟩, ⟨12, .q none, 1077936128, 4095, 2147483648⟩])], [], []⟩
theorem E_dock_Pour_int (x0 x1 : Value) (w : World) (R : Ending → World → Prop) : cwp Try.prog A_dock_Pour_int (Try.f15.body.getD .skip) (retPost Try.prog Try.f15.results.toList R) (argE [x0, x1]) w = F_dock_Pour_int x0 x1 w R := by kernel_rfl
theorem C_dock_Pour_int {x0 x1 : Value} {w : World} {R : Ending → World → Prop} (h : F_dock_Pour_int x0 x1 w R) : Calls Try.prog 15 #[x0, x1] w R :=
  calls_cwp (A := A_dock_Pour_int) (args := [x0, x1]) mixed Try.func15 (c := Try.f15.body.getD .skip) (by kernel_rfl) (by kernel_rfl) (by kernel_rfl) ((E_dock_Pour_int x0 x1 w R).mpr h)

/-- (*bevy/dock.Box[int]).Len -/
def F_dock_Box_int_Len (x0 : Value) (w : World) (R : Ending → World → Prop) : Prop :=
  m R (o_bin .eql 25 true x0 (.pointer none)) w fun x4 w1 =>
  mif x4 (
    R (.returned (.int .i64 0)) w1) (
    m R (o_nilCheck x0) w1 fun x6 w2 =>
    m R (o_fieldAddr 68 x6 0) w2 fun x7 w3 =>
    m R (o_load 57 x7) w3 fun x8 w4 =>
    m R (o_builtin .len #[57] 3 [false] [x8]) w4 fun x9 w5 =>
    R (.returned x9) w5)
def A_dock_Box_int_Len : Ann := ⟨[], [], [], [], []⟩
theorem E_dock_Box_int_Len (x0 : Value) (w : World) (R : Ending → World → Prop) : cwp Try.prog A_dock_Box_int_Len (Try.f16.body.getD .skip) (retPost Try.prog Try.f16.results.toList R) (argE [x0]) w = F_dock_Box_int_Len x0 w R := by kernel_rfl
theorem C_dock_Box_int_Len {x0 : Value} {w : World} {R : Ending → World → Prop} (h : F_dock_Box_int_Len x0 w R) : Calls Try.prog 16 #[x0] w R :=
  calls_cwp (A := A_dock_Box_int_Len) (args := [x0]) mixed Try.func16 (c := Try.f16.body.getD .skip) (by kernel_rfl) (by kernel_rfl) (by kernel_rfl) ((E_dock_Box_int_Len x0 w R).mpr h)

/-- bevy/dock.New[string] -/
def F_dock_New_string (x0 : Value) (w : World) (R : Ending → World → Prop) : Prop :=
  mj1 (fun j2 =>
    m R (o_bin .lss 3 true x0 (.int .i64 1)) w fun x5 w1 =>
    mguard x5 false (fun k => m R (o_move x0) w1 k) w1 fun x7 w2 =>
    mguard x5 false (fun k => m R (o_bin .gtr 3 true x7 (.int .i64 65536)) w2 k) w2 fun x8 w3 =>
    m R (o_pick x5 (.bool true) x8) w3 fun x9 w4 =>
    j2 x9 w4) fun x9 u2 w5 =>
  mif x9 (
    R (.returned (.tuple #[(.pointer none), (.int .i64 1)])) w5) (
    ((
      df Try.prog w5 (o_makeChan 74 x0) false fun x11 w6 =>
      df Try.prog w6 (o_makeChan 58 (.int .i64 0)) false fun x12 w7 =>
      dp Try.prog (o_build 76 [(0, x11), (1, x12)]) fun x13 =>
      df Try.prog w7 (o_box 76 x13) false fun x14 w8 =>
      dend w8 fun w9 =>
      R (.returned (.tuple #[x14, (.int .i64 0)])) w9) ∧ (
      df Try.prog w5 (o_makeChan 58 (.int .i64 0)) false fun x12 w10 =>
      df Try.prog w10 (o_makeChan 74 x0) false fun x11 w11 =>
      dp Try.prog (o_build 76 [(0, x11), (1, x12)]) fun x13 =>
      df Try.prog w11 (o_box 76 x13) false fun x14 w12 =>
      dend w12 fun w13 =>
      R (.returned (.tuple #[x14, (.int .i64 0)])) w13)))
def A_dock_New_string : Ann := ⟨[], [(2, [9], 1008)], [], [(3, [⟨[0, 1, 2, 3, 4, 5, 6], [⟨0, .q none, 1, 0, 1024⟩, ⟨1, .f 0 false, 1024, 1, 2048⟩, ⟨2, .f 1 false, 0, 0, 4096⟩, ⟨3, .q none, 6144, 7, 8192⟩, ⟨4, .f 2 false, 8192, 15, 16384⟩, ⟨5, .q none, 16384, 31, 4⟩, ⟨6, .q none, 0, 63, 8⟩]⟩, ⟨[0, 2, 1, 3, 4, 5, 6], [⟨0, .q none, 1, 0, 1024⟩, ⟨1, .f 1 false, 1024, 1, 2048⟩, ⟨2, .f 0 false, 0, 0, 4096⟩, ⟨3, .q none, 6144, 7, 8192⟩, ⟨4, .f 2 false, 8192, 15, 16384⟩, ⟨5, .q none, 16384, 31, 4⟩, ⟨6, .q none, 0, 63, 8⟩]⟩])], []⟩
theorem E_dock_New_string (x0 : Value) (w : World) (R : Ending → World → Prop) : cwp Try.prog A_dock_New_string (Try.f17.body.getD .skip) (retPost Try.prog Try.f17.results.toList R) (argE [x0]) w = F_dock_New_string x0 w R := by kernel_rfl
theorem C_dock_New_string {x0 : Value} {w : World} {R : Ending → World → Prop} (h : F_dock_New_string x0 w R) : Calls Try.prog 17 #[x0] w R :=
  calls_cwp (A := A_dock_New_string) (args := [x0]) mixed Try.func17 (c := Try.f17.body.getD .skip) (by kernel_rfl) (by kernel_rfl) (by kernel_rfl) ((E_dock_New_string x0 w R).mpr h)

/-- (*bevy/dock.Box[string]).Len -/
def F_dock_Box_string_Len (x0 : Value) (w : World) (R : Ending → World → Prop) : Prop :=
  m R (o_bin .eql 47 true x0 (.pointer none)) w fun x4 w1 =>
  mif x4 (
    R (.returned (.int .i64 0)) w1) (
    m R (o_nilCheck x0) w1 fun x6 w2 =>
    m R (o_fieldAddr 76 x6 0) w2 fun x7 w3 =>
    m R (o_load 74 x7) w3 fun x8 w4 =>
    m R (o_builtin .len #[74] 3 [false] [x8]) w4 fun x9 w5 =>
    R (.returned x9) w5)
def A_dock_Box_string_Len : Ann := ⟨[], [], [], [], []⟩
theorem E_dock_Box_string_Len (x0 : Value) (w : World) (R : Ending → World → Prop) : cwp Try.prog A_dock_Box_string_Len (Try.f18.body.getD .skip) (retPost Try.prog Try.f18.results.toList R) (argE [x0]) w = F_dock_Box_string_Len x0 w R := by kernel_rfl
theorem C_dock_Box_string_Len {x0 : Value} {w : World} {R : Ending → World → Prop} (h : F_dock_Box_string_Len x0 w R) : Calls Try.prog 18 #[x0] w R :=
  calls_cwp (A := A_dock_Box_string_Len) (args := [x0]) mixed Try.func18 (c := Try.f18.body.getD .skip) (by kernel_rfl) (by kernel_rfl) (by kernel_rfl) ((E_dock_Box_string_Len x0 w R).mpr h)

/-- bevy/dock.Pour[string] -/
def F_dock_Pour_string (x0 x1 : Value) (w : World) (R : Ending → World → Prop) : Prop :=
  mj1 (fun j3 =>
    m R (o_bin .eql 47 true x0 (.pointer none)) w fun x9 w1 =>
    mguard x9 false (fun k => m R (o_move x1) w1 k) w1 fun x11 w2 =>
    mguard x9 false (fun k => m R (o_bin .eql 47 true x11 (.pointer none)) w2 k) w2 fun x12 w3 =>
    m R (o_pick x9 (.bool true) x12) w3 fun x13 w4 =>
    mguard x13 false (fun k => m R (o_move x0) w4 k) w4 fun x15 w5 =>
    mguard x13 false (fun k => m R (o_move x1) w5 k) w5 fun x16 w6 =>
    mguard x13 false (fun k => m R (o_bin .eql 47 false x15 x16) w6 k) w6 fun x17 w7 =>
    m R (o_pick x13 (.bool true) x17) w7 fun x18 w8 =>
    j3 x18 w8) fun x18 u3 w9 =>
  mif x18 (
    R (.returned (.int .i64 0)) w9) (
    mj1 (fun j9 =>
      ml1 (.int .i64 0) w9 fun x5 u4 w10 next4 =>
        mj0 (fun j5 =>
          df Try.prog w10 (o_call (fv 29) [x1]) false fun x20 w11 =>
          dp Try.prog (o_un .not x20) fun x21 =>
          qguard x21 true (fun k => dp Try.prog (o_move x1) k) fun x23 =>
          mguard x21 true (fun k => df Try.prog w11 (o_call (fv 18) [x23]) true k) w11 fun x24 w12 =>
          qguard x21 true (fun k => dp Try.prog (o_move x1) k) fun x25 =>
          qguard x21 true (fun k => dp Try.prog (o_nilCheck x25) k) fun x26 =>
          qguard x21 true (fun k => dp Try.prog (o_fieldAddr 76 x26 0) k) fun x27 =>
          qguard x21 true (fun k => dq Try.prog w11 (o_load 74 x27) k) fun x28 =>
          qguard x21 true (fun k => dq Try.prog w12 (o_builtin .cap #[74] 3 [false] [x28]) k) fun x29 =>
          qguard x21 true (fun k => dp Try.prog (o_bin .lss 3 false x24 x29) k) fun x30 =>
          dp Try.prog (o_pick x21 x30 (.bool false)) fun x31 =>
          dend w12 fun w13 =>
          mif x31 (
            j5 w13) (
            j9 x5 w13)) fun u5 w14 =>
        m R (o_call (fv 21) [x0]) w14 fun x34 w15 =>
        m R (o_extract x34 0) w15 fun x35 w16 =>
        m R (o_extract x34 1) w16 fun x36 w17 =>
        m R (o_un .not x36) w17 fun x38 w18 =>
        mif x38 (
          j9 x5 w18) (
          m R (o_call (fv 23) [x1, x35]) w18 fun x41 w19 =>
          m R (o_bin .add 3 true x5 (.int .i64 1)) w19 fun x43 w20 =>
          next4 x43 w20)) fun x5 u9 w21 =>
    R (.returned x5) w21)
def A_dock_Pour_string : Ann := ⟨[(4, [5], 17592185520352)], [(3, [18], 524032), (9, [5], 17592185520352), (5, [], 4294443008)], [(4, [⟨0, .q none, 2, 0, 524288⟩, ⟨1, .f 0 false, 524288, 1, 1048576⟩, ⟨2, .q none, 1048576, 3, 2097152⟩, ⟨3, .q none, 2097152, 7, 4194304⟩, ⟨4, .q none, 4194306, 15, 8388608⟩, ⟨5, .f 1 true, 12582912, 31, 16777216⟩, ⟨6, .q none, 4194306, 15, 33554432⟩, ⟨7, .q none, 37748736, 79, 67108864⟩, ⟨8, .q none, 71303168, 207, 134217728⟩, ⟨9, .q (some 1), 138412032, 463, 268435456⟩, ⟨10, .q (some 2), 272629760, 1023, 536870912⟩, ⟨11, .q none, 557842432, 2047, 1073741824⟩, ⟨12, .q none, 1077936128, 4095, 2147483648⟩])], [], []⟩
theorem E_dock_Pour_string (x0 x1 : Value) (w : World) (R : Ending → World → Prop) : cwp Try.prog A_dock_Pour_string (Try.f19.body.getD .skip) (retPost Try.prog Try.f19.results.toList R) (argE [x0, x1]) w = F_dock_Pour_string x0 x1 w R := by kernel_rfl
theorem C_dock_Pour_string {x0 x1 : Value} {w : World} {R : Ending → World → Prop} (h : F_dock_Pour_string x0 x1 w R) : Calls Try.prog 19 #[x0, x1] w R :=
  calls_cwp (A := A_dock_Pour_string) (args := [x0, x1]) mixed Try.func19 (c := Try.f19.body.getD .skip) (by kernel_rfl) (by kernel_rfl) (by kernel_rfl) ((E_dock_Pour_string x0 x1 w R).mpr h)

/-- (*bevy/dock.Box[string]).Close -/
def F_dock_Box_string_Close (x0 : Value) (w : World) (R : Ending → World → Prop) : Prop :=
  mj1 (fun j1 =>
    m R (o_bin .neq 47 true x0 (.pointer none)) w fun x3 w1 =>
    mguard x3 true (fun k => m R (o_move x0) w1 k) w1 fun x5 w2 =>
    mguard x3 true (fun k => m R (o_nilCheck x5) w2 k) w2 fun x6 w3 =>
    mguard x3 true (fun k => m R (o_fieldAddr 76 x6 2) w3 k) w3 fun x7 w4 =>
    mguard x3 true (fun k => m R (o_call (fv 27) [x7, (.bool false), (.bool true)]) w4 k) w4 fun x8 w5 =>
    m R (o_pick x3 x8 (.bool false)) w5 fun x9 w6 =>
    j1 x9 w6) fun x9 u1 w7 =>
  mif x9 (
    m R (o_nilCheck x0) w7 fun x11 w8 =>
    m R (o_fieldAddr 76 x11 1) w8 fun x12 w9 =>
    m R (o_load 58 x12) w9 fun x13 w10 =>
    m R (o_builtin .close #[58] 0 [false] [x13]) w10 fun _ w11 =>
    R (.returned (.tuple #[])) w11) (
    R (.returned (.tuple #[])) w7)
def A_dock_Box_string_Close : Ann := ⟨[], [(1, [9], 1020)], [], [], []⟩
theorem E_dock_Box_string_Close (x0 : Value) (w : World) (R : Ending → World → Prop) : cwp Try.prog A_dock_Box_string_Close (Try.f20.body.getD .skip) (retPost Try.prog Try.f20.results.toList R) (argE [x0]) w = F_dock_Box_string_Close x0 w R := by kernel_rfl
theorem C_dock_Box_string_Close {x0 : Value} {w : World} {R : Ending → World → Prop} (h : F_dock_Box_string_Close x0 w R) : Calls Try.prog 20 #[x0] w R :=
  calls_cwp (A := A_dock_Box_string_Close) (args := [x0]) mixed Try.func20 (c := Try.f20.body.getD .skip) (by kernel_rfl) (by kernel_rfl) (by kernel_rfl) ((E_dock_Box_string_Close x0 w R).mpr h)

/-- (*bevy/dock.Box[string]).Take -/
def F_dock_Box_string_Take (x0 : Value) (w : World) (R : Ending → World → Prop) : Prop :=
  m R (o_bin .eql 47 true x0 (.pointer none)) w fun x7 w1 =>
  mif x7 (
    R (.returned (.tuple #[(.string (ByteArray.mk #[])), (.bool false)])) w1) (
    m R (o_nilCheck x0) w1 fun x10 w2 =>
    m R (o_fieldAddr 76 x10 0) w2 fun x11 w3 =>
    m R (o_load 74 x11) w3 fun x12 w4 =>
    mcom Try.prog (o_select [(x12, none, 9)] false) w4 fun x13 w5 =>
    m R (o_extract x13 0) w5 fun x14 w6 =>
    m R (o_bin .eql 3 true x14 (.int .i64 0)) w6 fun x15 w7 =>
    mif x15 (
      m R (o_extract x13 2) w7 fun x17 w8 =>
      R (.returned (.tuple #[x17, (.bool true)])) w8) (
      R (.returned (.tuple #[(.string (ByteArray.mk #[])), (.bool false)])) w7))
def A_dock_Box_string_Take : Ann := ⟨[], [], [], [], []⟩
theorem E_dock_Box_string_Take (x0 : Value) (w : World) (R : Ending → World → Prop) : cwp Try.prog A_dock_Box_string_Take (Try.f21.body.getD .skip) (retPost Try.prog Try.f21.results.toList R) (argE [x0]) w = F_dock_Box_string_Take x0 w R := by kernel_rfl
theorem C_dock_Box_string_Take {x0 : Value} {w : World} {R : Ending → World → Prop} (h : F_dock_Box_string_Take x0 w R) : Calls Try.prog 21 #[x0] w R :=
  calls_cwp (A := A_dock_Box_string_Take) (args := [x0]) mixed Try.func21 (c := Try.f21.body.getD .skip) (by kernel_rfl) (by kernel_rfl) (by kernel_rfl) ((E_dock_Box_string_Take x0 w R).mpr h)

/-- bevy/dock.First[string] -/
def F_dock_First_string (x0 : Value) (w : World) (R : Ending → World → Prop) : Prop :=
  m R (o_builtin .len #[77] 3 [false] [x0]) w fun x11 w1 =>
  ml1 (.int .i64 0) w1 fun x12 u2 w2 next2 =>
    m R (o_bin .lss 3 false x12 x11) w2 fun x13 w3 =>
    mif x13 (
      m R (o_indexAddr 77 x0 x12) w3 fun x15 w4 =>
      m R (o_load 47 x15) w4 fun x16 w5 =>
      m R (o_call (fv 21) [x16]) w5 fun x19 w6 =>
      m R (o_extract x19 0) w6 fun x20 w7 =>
      m R (o_extract x19 1) w7 fun x21 w8 =>
      mif x21 (
        R (.returned (.tuple #[x20, x12, (.bool true)])) w8) (
        m R (o_bin .add 3 true x12 (.int .i64 1)) w8 fun x25 w9 =>
        next2 x25 w9)) (
      R (.returned (.tuple #[(.string (ByteArray.mk #[])), (.int .i64 (-1)), (.bool false)])) w3)
def A_dock_First_string : Ann := ⟨[(2, [12], 67105276)], [], [], [], []⟩
theorem E_dock_First_string (x0 : Value) (w : World) (R : Ending → World → Prop) : cwp Try.prog A_dock_First_string (Try.f22.body.getD .skip) (retPost Try.prog Try.f22.results.toList R) (argE [x0]) w = F_dock_First_string x0 w R := by kernel_rfl
theorem C_dock_First_string {x0 : Value} {w : World} {R : Ending → World → Prop} (h : F_dock_First_string x0 w R) : Calls Try.prog 22 #[x0] w R :=
  calls_cwp (A := A_dock_First_string) (args := [x0]) mixed Try.func22 (c := Try.f22.body.getD .skip) (by kernel_rfl) (by kernel_rfl) (by kernel_rfl) ((E_dock_First_string x0 w R).mpr h)

/-- (*bevy/dock.Box[string]).Post -/
def F_dock_Box_string_Post (x0 x1 : Value) (w : World) (R : Ending → World → Prop) : Prop :=
  m R (o_bin .eql 47 true x0 (.pointer none)) w fun x7 w1 =>
  mif x7 (
    R (.returned (.int .i64 1)) w1) (
    m R (o_call (fv 29) [x0]) w1 fun x10 w2 =>
    mif x10 (
      R (.returned (.int .i64 21)) w2) (
      m R (o_nilCheck x0) w2 fun x12 w3 =>
      m R (o_fieldAddr 76 x12 0) w3 fun x13 w4 =>
      m R (o_load 74 x13) w4 fun x14 w5 =>
      mcom Try.prog (o_select [(x14, (some x1), 9)] false) w5 fun x16 w6 =>
      m R (o_extract x16 0) w6 fun x17 w7 =>
      m R (o_bin .eql 3 true x17 (.int .i64 0)) w7 fun x18 w8 =>
      mif x18 (
        R (.returned (.int .i64 0)) w8) (
        m R (o_nilCheck x0) w8 fun x20 w9 =>
        m R (o_fieldAddr 76 x20 3) w9 fun x21 w10 =>
        m R (o_call (fv 26) [x21, (.int .i64 1)]) w10 fun x22 w11 =>
        R (.returned (.int .i64 9)) w11)))
def A_dock_Box_string_Post : Ann := ⟨[], [], [], [], []⟩
theorem E_dock_Box_string_Post (x0 x1 : Value) (w : World) (R : Ending → World → Prop) : cwp Try.prog A_dock_Box_string_Post (Try.f23.body.getD .skip) (retPost Try.prog Try.f23.results.toList R) (argE [x0, x1]) w = F_dock_Box_string_Post x0 x1 w R := by kernel_rfl
theorem C_dock_Box_string_Post {x0 x1 : Value} {w : World} {R : Ending → World → Prop} (h : F_dock_Box_string_Post x0 x1 w R) : Calls Try.prog 23 #[x0, x1] w R :=
  calls_cwp (A := A_dock_Box_string_Post) (args := [x0, x1]) mixed Try.func23 (c := Try.f23.body.getD .skip) (by kernel_rfl) (by kernel_rfl) (by kernel_rfl) ((E_dock_Box_string_Post x0 x1 w R).mpr h)

/-- (*bevy/dock.Box[string]).Lost -/
def F_dock_Box_string_Lost (x0 : Value) (w : World) (R : Ending → World → Prop) : Prop :=
  m R (o_bin .eql 47 true x0 (.pointer none)) w fun x4 w1 =>
  mif x4 (
    R (.returned (.int .i64 0)) w1) (
    m R (o_nilCheck x0) w1 fun x6 w2 =>
    m R (o_fieldAddr 76 x6 3) w2 fun x7 w3 =>
    m R (o_call (fv 28) [x7]) w3 fun x8 w4 =>
    R (.returned x8) w4)
def A_dock_Box_string_Lost : Ann := ⟨[], [], [], [], []⟩
theorem E_dock_Box_string_Lost (x0 : Value) (w : World) (R : Ending → World → Prop) : cwp Try.prog A_dock_Box_string_Lost (Try.f24.body.getD .skip) (retPost Try.prog Try.f24.results.toList R) (argE [x0]) w = F_dock_Box_string_Lost x0 w R := by kernel_rfl
theorem C_dock_Box_string_Lost {x0 : Value} {w : World} {R : Ending → World → Prop} (h : F_dock_Box_string_Lost x0 w R) : Calls Try.prog 24 #[x0] w R :=
  calls_cwp (A := A_dock_Box_string_Lost) (args := [x0]) mixed Try.func24 (c := Try.f24.body.getD .skip) (by kernel_rfl) (by kernel_rfl) (by kernel_rfl) ((E_dock_Box_string_Lost x0 w R).mpr h)

/-- (*bevy/dock.Box[int]).isShut -/
def F_dock_Box_int_isShut (x0 : Value) (w : World) (R : Ending → World → Prop) : Prop :=
  m R (o_nilCheck x0) w fun x4 w1 =>
  m R (o_fieldAddr 68 x4 1) w1 fun x5 w2 =>
  m R (o_load 58 x5) w2 fun x6 w3 =>
  mcom Try.prog (o_select [(x6, none, 4)] false) w3 fun x7 w4 =>
  m R (o_extract x7 0) w4 fun x8 w5 =>
  m R (o_bin .eql 3 true x8 (.int .i64 0)) w5 fun x9 w6 =>
  mif x9 (
    R (.returned (.bool true)) w6) (
    R (.returned (.bool false)) w6)
def A_dock_Box_int_isShut : Ann := ⟨[], [], [], [], []⟩
theorem E_dock_Box_int_isShut (x0 : Value) (w : World) (R : Ending → World → Prop) : cwp Try.prog A_dock_Box_int_isShut (Try.f25.body.getD .skip) (retPost Try.prog Try.f25.results.toList R) (argE [x0]) w = F_dock_Box_int_isShut x0 w R := by kernel_rfl
theorem C_dock_Box_int_isShut {x0 : Value} {w : World} {R : Ending → World → Prop} (h : F_dock_Box_int_isShut x0 w R) : Calls Try.prog 25 #[x0] w R :=
  calls_cwp (A := A_dock_Box_int_isShut) (args := [x0]) mixed Try.func25 (c := Try.f25.body.getD .skip) (by kernel_rfl) (by kernel_rfl) (by kernel_rfl) ((E_dock_Box_int_isShut x0 w R).mpr h)

/-- (*sync/atomic.Int64).Add -/
def F_sync_atomic_Int64_Add (x0 x1 : Value) (w : World) (R : Ending → World → Prop) : Prop :=
  m R (o_nilCheck x0) w fun x6 w1 =>
  m R (o_fieldAddr 66 x6 2) w1 fun x7 w2 =>
  m R (o_call (fv 30) [x7, x1]) w2 fun x9 w3 =>
  R (.returned x9) w3
def A_sync_atomic_Int64_Add : Ann := ⟨[], [], [], [], []⟩
theorem E_sync_atomic_Int64_Add (x0 x1 : Value) (w : World) (R : Ending → World → Prop) : cwp Try.prog A_sync_atomic_Int64_Add (Try.f26.body.getD .skip) (retPost Try.prog Try.f26.results.toList R) (argE [x0, x1]) w = F_sync_atomic_Int64_Add x0 x1 w R := by kernel_rfl
theorem C_sync_atomic_Int64_Add {x0 x1 : Value} {w : World} {R : Ending → World → Prop} (h : F_sync_atomic_Int64_Add x0 x1 w R) : Calls Try.prog 26 #[x0, x1] w R :=
  calls_cwp (A := A_sync_atomic_Int64_Add) (args := [x0, x1]) mixed Try.func26 (c := Try.f26.body.getD .skip) (by kernel_rfl) (by kernel_rfl) (by kernel_rfl) ((E_sync_atomic_Int64_Add x0 x1 w R).mpr h)

/-- (*sync/atomic.Bool).CompareAndSwap -/
def F_sync_atomic_Bool_CompareAndSwap (x0 x1 x2 : Value) (w : World) (R : Ending → World → Prop) : Prop :=
  dp Try.prog (o_nilCheck x0) fun x8 =>
  dp Try.prog (o_fieldAddr 63 x8 1) fun x9 =>
  df Try.prog w (o_call (fv 32) [x1]) false fun x11 w1 =>
  df Try.prog w1 (o_call (fv 32) [x2]) false fun x13 w2 =>
  df Try.prog w2 (o_call (fv 31) [x9, x11, x13]) false fun x14 w3 =>
  dend w3 fun w4 =>
  R (.returned x14) w4
def A_sync_atomic_Bool_CompareAndSwap : Ann := ⟨[], [], [(1, [⟨0, .q none, 1, 0, 128⟩, ⟨1, .q none, 128, 1, 256⟩, ⟨2, .q none, 256, 3, 512⟩, ⟨3, .q none, 2, 0, 1024⟩, ⟨4, .f 0 false, 1024, 8, 2048⟩, ⟨5, .q none, 4, 0, 4096⟩, ⟨6, .f 1 false, 4096, 56, 8192⟩, ⟨7, .f 2 false, 10752, 127, 16384⟩, ⟨8, .q none, 16384, 255, 64⟩])], [], []⟩
theorem E_sync_atomic_Bool_CompareAndSwap (x0 x1 x2 : Value) (w : World) (R : Ending → World → Prop) : cwp Try.prog A_sync_atomic_Bool_CompareAndSwap (Try.f27.body.getD .skip) (retPost Try.prog Try.f27.results.toList R) (argE [x0, x1, x2]) w = F_sync_atomic_Bool_CompareAndSwap x0 x1 x2 w R := by kernel_rfl
theorem C_sync_atomic_Bool_CompareAndSwap {x0 x1 x2 : Value} {w : World} {R : Ending → World → Prop} (h : F_sync_atomic_Bool_CompareAndSwap x0 x1 x2 w R) : Calls Try.prog 27 #[x0, x1, x2] w R :=
  calls_cwp (A := A_sync_atomic_Bool_CompareAndSwap) (args := [x0, x1, x2]) mixed Try.func27 (c := Try.f27.body.getD .skip) (by kernel_rfl) (by kernel_rfl) (by kernel_rfl) ((E_sync_atomic_Bool_CompareAndSwap x0 x1 x2 w R).mpr h)

/-- (*sync/atomic.Int64).Load -/
def F_sync_atomic_Int64_Load (x0 : Value) (w : World) (R : Ending → World → Prop) : Prop :=
  m R (o_nilCheck x0) w fun x4 w1 =>
  m R (o_fieldAddr 66 x4 2) w1 fun x5 w2 =>
  m R (o_call (fv 33) [x5]) w2 fun x6 w3 =>
  R (.returned x6) w3
def A_sync_atomic_Int64_Load : Ann := ⟨[], [], [], [], []⟩
theorem E_sync_atomic_Int64_Load (x0 : Value) (w : World) (R : Ending → World → Prop) : cwp Try.prog A_sync_atomic_Int64_Load (Try.f28.body.getD .skip) (retPost Try.prog Try.f28.results.toList R) (argE [x0]) w = F_sync_atomic_Int64_Load x0 w R := by kernel_rfl
theorem C_sync_atomic_Int64_Load {x0 : Value} {w : World} {R : Ending → World → Prop} (h : F_sync_atomic_Int64_Load x0 w R) : Calls Try.prog 28 #[x0] w R :=
  calls_cwp (A := A_sync_atomic_Int64_Load) (args := [x0]) mixed Try.func28 (c := Try.f28.body.getD .skip) (by kernel_rfl) (by kernel_rfl) (by kernel_rfl) ((E_sync_atomic_Int64_Load x0 w R).mpr h)

/-- (*bevy/dock.Box[string]).isShut -/
def F_dock_Box_string_isShut (x0 : Value) (w : World) (R : Ending → World → Prop) : Prop :=
  m R (o_nilCheck x0) w fun x4 w1 =>
  m R (o_fieldAddr 76 x4 1) w1 fun x5 w2 =>
  m R (o_load 58 x5) w2 fun x6 w3 =>
  mcom Try.prog (o_select [(x6, none, 4)] false) w3 fun x7 w4 =>
  m R (o_extract x7 0) w4 fun x8 w5 =>
  m R (o_bin .eql 3 true x8 (.int .i64 0)) w5 fun x9 w6 =>
  mif x9 (
    R (.returned (.bool true)) w6) (
    R (.returned (.bool false)) w6)
def A_dock_Box_string_isShut : Ann := ⟨[], [], [], [], []⟩
theorem E_dock_Box_string_isShut (x0 : Value) (w : World) (R : Ending → World → Prop) : cwp Try.prog A_dock_Box_string_isShut (Try.f29.body.getD .skip) (retPost Try.prog Try.f29.results.toList R) (argE [x0]) w = F_dock_Box_string_isShut x0 w R := by kernel_rfl
theorem C_dock_Box_string_isShut {x0 : Value} {w : World} {R : Ending → World → Prop} (h : F_dock_Box_string_isShut x0 w R) : Calls Try.prog 29 #[x0] w R :=
  calls_cwp (A := A_dock_Box_string_isShut) (args := [x0]) mixed Try.func29 (c := Try.f29.body.getD .skip) (by kernel_rfl) (by kernel_rfl) (by kernel_rfl) ((E_dock_Box_string_isShut x0 w R).mpr h)

/-- sync/atomic.b32 -/
def F_sync_atomic_b32 (x0 : Value) (w : World) (R : Ending → World → Prop) : Prop :=
  mif x0 (
    R (.returned (.int .u32 1)) w) (
    R (.returned (.int .u32 0)) w)
def A_sync_atomic_b32 : Ann := ⟨[], [], [], [], []⟩
theorem E_sync_atomic_b32 (x0 : Value) (w : World) (R : Ending → World → Prop) : cwp Try.prog A_sync_atomic_b32 (Try.f32.body.getD .skip) (retPost Try.prog Try.f32.results.toList R) (argE [x0]) w = F_sync_atomic_b32 x0 w R := by kernel_rfl
theorem C_sync_atomic_b32 {x0 : Value} {w : World} {R : Ending → World → Prop} (h : F_sync_atomic_b32 x0 w R) : Calls Try.prog 32 #[x0] w R :=
  calls_cwp (A := A_sync_atomic_b32) (args := [x0]) mixed Try.func32 (c := Try.f32.body.getD .skip) (by kernel_rfl) (by kernel_rfl) (by kernel_rfl) ((E_sync_atomic_b32 x0 w R).mpr h)
end Go.Proofs.Ytihelggfpeokbaa
