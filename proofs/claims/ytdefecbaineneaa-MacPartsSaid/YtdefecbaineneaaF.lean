/- The formulas of the bodies, printed by wip/hoas.py out of the loaded program; each is held against the body by the kernel. -/
import Derived.Test.YtdefecbaineneaaFBase
set_option linter.unusedVariables false
namespace Go.Proofs.Ytdefecbaineneaa

/-- bevy/bevylaw02.ShaOne -/
def F_bevylaw02_ShaOne (x0 : Value) (w : World) (R : Ending → World → Prop) : Prop :=
  m R (o_builtin .len #[9] 3 [false] [x0]) w fun x4 w1 =>
  m R (o_bin .gtr 3 true x4 (.int .i64 20000)) w1 fun x5 w2 =>
  mguard x5 false (fun k => m R (o_move x0) w2 k) w2 fun x7 w3 =>
  mguard x5 false (fun k => m R (o_buildSlice 27 1 [(0, x7)]) w3 k) w3 fun x8 w4 =>
  mguard x5 false (fun k => m R (o_call (fv 14) [x8]) w4 k) w4 fun x9 w5 =>
  mguard x5 false (fun k => m R (o_move x0) w5 k) w5 fun x10 w6 =>
  mguard x5 false (fun k => m R (o_call (fv 15) [x10]) w6 k) w6 fun x11 w7 =>
  mguard x5 false (fun k => m R (o_bin .eql 23 false x9 x11) w7 k) w7 fun x12 w8 =>
  m R (o_pick x5 (.bool true) x12) w8 fun x13 w9 =>
  R (.returned x13) w9
def A_bevylaw02_ShaOne : Ann := ⟨[], [], [], [], []⟩
theorem E_bevylaw02_ShaOne (x0 : Value) (w : World) (R : Ending → World → Prop) : cwp Try.prog A_bevylaw02_ShaOne (Try.f3.body.getD .skip) (retPost Try.prog Try.f3.results.toList R) (argE [x0]) w = F_bevylaw02_ShaOne x0 w R := by kernel_rfl
theorem C_bevylaw02_ShaOne {x0 : Value} {w : World} {R : Ending → World → Prop} (h : F_bevylaw02_ShaOne x0 w R) : Calls Try.prog 3 #[x0] w R :=
  calls_cwp (A := A_bevylaw02_ShaOne) (args := [x0]) mixed Try.func3 (c := Try.f3.body.getD .skip) (by kernel_rfl) (by kernel_rfl) (by kernel_rfl) ((E_bevylaw02_ShaOne x0 w R).mpr h)

/-- bevy/bevylaw02.ShaSums -/
def F_bevylaw02_ShaSums (x0 : Value) (w : World) (R : Ending → World → Prop) : Prop :=
  ml2 (.string (ByteArray.mk #[])) (.int .i64 0) w fun x3 x4 u3 w1 next3 =>
    m R (o_builtin .len #[27] 3 [false] [x0]) w1 fun x7 w2 =>
    m R (o_bin .lss 3 false x4 x7) w2 fun x8 w3 =>
    mif x8 (
      mj1 (fun j6 =>
        m R (o_bin .gtr 3 true x4 (.int .i64 1000)) w3 fun x12 w4 =>
        mguard x12 false (fun k => m R (o_move x0) w4 k) w4 fun x14 w5 =>
        mguard x12 false (fun k => m R (o_move x4) w5 k) w5 fun x15 w6 =>
        mguard x12 false (fun k => m R (o_indexAddr 27 x14 x15) w6 k) w6 fun x16 w7 =>
        mguard x12 false (fun k => m R (o_load 9 x16) w7 k) w7 fun x17 w8 =>
        mguard x12 false (fun k => m R (o_builtin .len #[9] 3 [false] [x17]) w8 k) w8 fun x18 w9 =>
        mguard x12 false (fun k => m R (o_bin .gtr 3 true x18 (.int .i64 20000)) w9 k) w9 fun x19 w10 =>
        m R (o_pick x12 (.bool true) x19) w10 fun x20 w11 =>
        j6 x20 w11) fun x20 u6 w12 =>
      mif x20 (
        m R (o_call (fv 16) []) w12 fun x21 w13 =>
        R (.returned x21) w13) (
        m R (o_indexAddr 27 x0 x4) w12 fun x25 w14 =>
        m R (o_load 9 x25) w14 fun x26 w15 =>
        m R (o_bin .add 9 false x3 x26) w15 fun x27 w16 =>
        m R (o_builtin .len #[9] 3 [false] [x27]) w16 fun x29 w17 =>
        m R (o_bin .gtr 3 true x29 (.int .i64 20000)) w17 fun x30 w18 =>
        mif x30 (
          m R (o_call (fv 16) []) w18 fun x31 w19 =>
          R (.returned x31) w19) (
          m R (o_bin .add 3 true x4 (.int .i64 1)) w18 fun x10 w20 =>
          next3 x27 x10 w20))) (
      m R (o_call (fv 16) []) w3 fun x32 w21 =>
      mguard x32 true (fun k => m R (o_move x0) w21 k) w21 fun x34 w22 =>
      mguard x32 true (fun k => m R (o_call (fv 14) [x34]) w22 k) w22 fun x35 w23 =>
      mguard x32 true (fun k => m R (o_move x3) w23 k) w23 fun x36 w24 =>
      mguard x32 true (fun k => m R (o_call (fv 15) [x36]) w24 k) w24 fun x37 w25 =>
      mguard x32 true (fun k => m R (o_bin .eql 23 false x35 x37) w25 k) w25 fun x38 w26 =>
      m R (o_pick x32 x38 (.bool false)) w26 fun x39 w27 =>
      mguard x39 true (fun k => m R (o_move x3) w27 k) w27 fun x41 w28 =>
      mguard x39 true (fun k => m R (o_buildSlice 27 1 [(0, x41)]) w28 k) w28 fun x42 w29 =>
      mguard x39 true (fun k => m R (o_call (fv 14) [x42]) w29 k) w29 fun x43 w30 =>
      mguard x39 true (fun k => m R (o_move x3) w30 k) w30 fun x44 w31 =>
      mguard x39 true (fun k => m R (o_call (fv 15) [x44]) w31 k) w31 fun x45 w32 =>
      mguard x39 true (fun k => m R (o_bin .eql 23 false x43 x45) w32 k) w32 fun x46 w33 =>
      m R (o_pick x39 x46 (.bool false)) w33 fun x47 w34 =>
      R (.returned x47) w34)
def A_bevylaw02_ShaSums : Ann := ⟨[(3, [3, 4], 4294967292)], [(6, [20], 2095104)], [], [], []⟩
theorem E_bevylaw02_ShaSums (x0 : Value) (w : World) (R : Ending → World → Prop) : cwp Try.prog A_bevylaw02_ShaSums (Try.f4.body.getD .skip) (retPost Try.prog Try.f4.results.toList R) (argE [x0]) w = F_bevylaw02_ShaSums x0 w R := by kernel_rfl
theorem C_bevylaw02_ShaSums {x0 : Value} {w : World} {R : Ending → World → Prop} (h : F_bevylaw02_ShaSums x0 w R) : Calls Try.prog 4 #[x0] w R :=
  calls_cwp (A := A_bevylaw02_ShaSums) (args := [x0]) mixed Try.func4 (c := Try.f4.body.getD .skip) (by kernel_rfl) (by kernel_rfl) (by kernel_rfl) ((E_bevylaw02_ShaSums x0 w R).mpr h)

/-- bevy/bevylaw02.ShaHex -/
def F_bevylaw02_ShaHex (x0 : Value) (w : World) (R : Ending → World → Prop) : Prop :=
  m R (o_box 23 x0) w fun x1 w1 =>
  df Try.prog w1 (o_call (fv 16) []) false fun x3 w2 =>
  qguard x3 true (fun k => dq Try.prog w2 (o_load 23 x1) k) fun x5 =>
  mguard x3 true (fun k => df Try.prog w2 (o_call (fv 17) [x5]) true k) w2 fun x6 w3 =>
  qguard x3 true (fun k => dq Try.prog w2 (o_load 23 x1) k) fun x7 =>
  mguard x3 true (fun k => df Try.prog w3 (o_call (fv 18) [x7]) false k) w3 fun x8 w4 =>
  qguard x3 true (fun k => dp Try.prog (o_bin .eql 9 false x6 x8) k) fun x9 =>
  dp Try.prog (o_pick x3 x9 (.bool false)) fun x10 =>
  dend w4 fun w5 =>
  R (.returned x10) w5
def A_bevylaw02_ShaHex : Ann := ⟨[], [], [(1, [⟨0, .f 0 false, 0, 0, 8⟩, ⟨1, .q none, 8, 1, 16⟩, ⟨2, .q (some 1), 18, 3, 32⟩, ⟨3, .f 1 true, 48, 7, 64⟩, ⟨4, .q (some 1), 18, 3, 128⟩, ⟨5, .f 2 false, 144, 31, 256⟩, ⟨6, .q none, 336, 63, 512⟩, ⟨7, .q none, 528, 127, 1024⟩, ⟨8, .q none, 1024, 255, 4⟩])], [], []⟩
theorem E_bevylaw02_ShaHex (x0 : Value) (w : World) (R : Ending → World → Prop) : cwp Try.prog A_bevylaw02_ShaHex (Try.f5.body.getD .skip) (retPost Try.prog Try.f5.results.toList R) (argE [x0]) w = F_bevylaw02_ShaHex x0 w R := by kernel_rfl
theorem C_bevylaw02_ShaHex {x0 : Value} {w : World} {R : Ending → World → Prop} (h : F_bevylaw02_ShaHex x0 w R) : Calls Try.prog 5 #[x0] w R :=
  calls_cwp (A := A_bevylaw02_ShaHex) (args := [x0]) mixed Try.func5 (c := Try.f5.body.getD .skip) (by kernel_rfl) (by kernel_rfl) (by kernel_rfl) ((E_bevylaw02_ShaHex x0 w R).mpr h)

/-- bevy/bevylaw02.ShaOrders -/
def F_bevylaw02_ShaOrders (x0 x1 x2 : Value) (w : World) (R : Ending → World → Prop) : Prop :=
  m R (o_box 23 x0) w fun x3 w1 =>
  m R (o_box 23 x1) w1 fun x4 w2 =>
  m R (o_box 23 x2) w2 fun x5 w3 =>
  m R (o_load 23 x3) w3 fun x8 w4 =>
  m R (o_load 23 x4) w4 fun x9 w5 =>
  m R (o_call (fv 19) [x8, x9]) w5 fun x10 w6 =>
  mj1 (fun j3 =>
    m R (o_call (fv 16) []) w6 fun x11 w7 =>
    m R (o_un .not x11) w7 fun x12 w8 =>
    mguard x12 false (fun k => m R (o_move x10) w8 k) w8 fun x14 w9 =>
    mguard x12 false (fun k => m R (o_load 23 x4) w9 k) w9 fun x15 w10 =>
    mguard x12 false (fun k => m R (o_load 23 x3) w10 k) w10 fun x16 w11 =>
    mguard x12 false (fun k => m R (o_call (fv 19) [x15, x16]) w11 k) w11 fun x17 w12 =>
    mguard x12 false (fun k => m R (o_un .neg x17) w12 k) w12 fun x18 w13 =>
    mguard x12 false (fun k => m R (o_bin .neq 3 false x14 x18) w13 k) w13 fun x19 w14 =>
    m R (o_pick x12 (.bool true) x19) w14 fun x20 w15 =>
    mguard x20 false (fun k => m R (o_move x10) w15 k) w15 fun x22 w16 =>
    mguard x20 false (fun k => m R (o_bin .lss 3 true x22 (.int .i64 0)) w16 k) w16 fun x23 w17 =>
    mguard x20 false (fun k => m R (o_load 23 x3) w17 k) w17 fun x24 w18 =>
    mguard x20 false (fun k => m R (o_load 23 x4) w18 k) w18 fun x25 w19 =>
    mguard x20 false (fun k => m R (o_call (fv 20) [x24, x25]) w19 k) w19 fun x26 w20 =>
    mguard x20 false (fun k => m R (o_bin .neq 4 false x23 x26) w20 k) w20 fun x27 w21 =>
    m R (o_pick x20 (.bool true) x27) w21 fun x28 w22 =>
    mguard x28 false (fun k => m R (o_move x10) w22 k) w22 fun x30 w23 =>
    mguard x28 false (fun k => m R (o_bin .eql 3 true x30 (.int .i64 0)) w23 k) w23 fun x31 w24 =>
    mguard x28 false (fun k => m R (o_load 23 x3) w24 k) w24 fun x32 w25 =>
    mguard x28 false (fun k => m R (o_load 23 x4) w25 k) w25 fun x33 w26 =>
    mguard x28 false (fun k => m R (o_bin .eql 23 false x32 x33) w26 k) w26 fun x34 w27 =>
    mguard x28 false (fun k => m R (o_bin .neq 4 false x31 x34) w27 k) w27 fun x35 w28 =>
    m R (o_pick x28 (.bool true) x35) w28 fun x36 w29 =>
    mguard x36 false (fun k => m R (o_move x10) w29 k) w29 fun x38 w30 =>
    mguard x36 false (fun k => m R (o_bin .lss 3 true x38 (.int .i64 (-1))) w30 k) w30 fun x39 w31 =>
    m R (o_pick x36 (.bool true) x39) w31 fun x40 w32 =>
    mguard x40 false (fun k => m R (o_move x10) w32 k) w32 fun x42 w33 =>
    mguard x40 false (fun k => m R (o_bin .gtr 3 true x42 (.int .i64 1)) w33 k) w33 fun x43 w34 =>
    m R (o_pick x40 (.bool true) x43) w34 fun x44 w35 =>
    j3 x44 w35) fun x44 u3 w36 =>
  mif x44 (
    R (.returned (.bool false)) w36) (
    m R (o_bin .gtr 3 true x10 (.int .i64 0)) w36 fun x46 w37 =>
    mguard x46 false (fun k => m R (o_load 23 x4) w37 k) w37 fun x48 w38 =>
    mguard x46 false (fun k => m R (o_load 23 x5) w38 k) w38 fun x49 w39 =>
    mguard x46 false (fun k => m R (o_call (fv 19) [x48, x49]) w39 k) w39 fun x50 w40 =>
    mguard x46 false (fun k => m R (o_bin .gtr 3 true x50 (.int .i64 0)) w40 k) w40 fun x51 w41 =>
    m R (o_pick x46 (.bool true) x51) w41 fun x52 w42 =>
    mguard x52 false (fun k => m R (o_load 23 x3) w42 k) w42 fun x54 w43 =>
    mguard x52 false (fun k => m R (o_load 23 x5) w43 k) w43 fun x55 w44 =>
    mguard x52 false (fun k => m R (o_call (fv 19) [x54, x55]) w44 k) w44 fun x56 w45 =>
    mguard x52 false (fun k => m R (o_bin .leq 3 true x56 (.int .i64 0)) w45 k) w45 fun x57 w46 =>
    m R (o_pick x52 (.bool true) x57) w46 fun x58 w47 =>
    R (.returned x58) w47)
def A_bevylaw02_ShaOrders : Ann := ⟨[], [(3, [44], 35184372086784)], [], [], []⟩
theorem E_bevylaw02_ShaOrders (x0 x1 x2 : Value) (w : World) (R : Ending → World → Prop) : cwp Try.prog A_bevylaw02_ShaOrders (Try.f6.body.getD .skip) (retPost Try.prog Try.f6.results.toList R) (argE [x0, x1, x2]) w = F_bevylaw02_ShaOrders x0 x1 x2 w R := by kernel_rfl
theorem C_bevylaw02_ShaOrders {x0 x1 x2 : Value} {w : World} {R : Ending → World → Prop} (h : F_bevylaw02_ShaOrders x0 x1 x2 w R) : Calls Try.prog 6 #[x0, x1, x2] w R :=
  calls_cwp (A := A_bevylaw02_ShaOrders) (args := [x0, x1, x2]) mixed Try.func6 (c := Try.f6.body.getD .skip) (by kernel_rfl) (by kernel_rfl) (by kernel_rfl) ((E_bevylaw02_ShaOrders x0 x1 x2 w R).mpr h)

/-- bevy/bevylaw03.MacCodes -/
def F_bevylaw03_MacCodes (x0 x1 : Value) (w : World) (R : Ending → World → Prop) : Prop :=
  ml2 (.string (ByteArray.mk #[])) (.int .i64 0) w fun x5 x6 u3 w1 next3 =>
    m R (o_builtin .len #[27] 3 [false] [x1]) w1 fun x9 w2 =>
    m R (o_bin .lss 3 false x6 x9) w2 fun x10 w3 =>
    mif x10 (
      mj1 (fun j6 =>
        m R (o_bin .gtr 3 true x6 (.int .i64 100)) w3 fun x14 w4 =>
        mguard x14 false (fun k => m R (o_move x1) w4 k) w4 fun x16 w5 =>
        mguard x14 false (fun k => m R (o_move x6) w5 k) w5 fun x17 w6 =>
        mguard x14 false (fun k => m R (o_indexAddr 27 x16 x17) w6 k) w6 fun x18 w7 =>
        mguard x14 false (fun k => m R (o_load 9 x18) w7 k) w7 fun x19 w8 =>
        mguard x14 false (fun k => m R (o_builtin .len #[9] 3 [false] [x19]) w8 k) w8 fun x20 w9 =>
        mguard x14 false (fun k => m R (o_bin .gtr 3 true x20 (.int .i64 5000)) w9 k) w9 fun x21 w10 =>
        m R (o_pick x14 (.bool true) x21) w10 fun x22 w11 =>
        j6 x22 w11) fun x22 u6 w12 =>
      mif x22 (
        m R (o_call (fv 21) []) w12 fun x23 w13 =>
        R (.returned x23) w13) (
        m R (o_indexAddr 27 x1 x6) w12 fun x27 w14 =>
        m R (o_load 9 x27) w14 fun x28 w15 =>
        m R (o_bin .add 9 false x5 x28) w15 fun x29 w16 =>
        m R (o_builtin .len #[9] 3 [false] [x29]) w16 fun x31 w17 =>
        m R (o_bin .gtr 3 true x31 (.int .i64 5000)) w17 fun x32 w18 =>
        mif x32 (
          m R (o_call (fv 21) []) w18 fun x33 w19 =>
          R (.returned x33) w19) (
          m R (o_bin .add 3 true x6 (.int .i64 1)) w18 fun x12 w20 =>
          next3 x29 x12 w20))) (
      m R (o_builtin .len #[9] 3 [false] [x0]) w3 fun x35 w21 =>
      m R (o_bin .gtr 3 true x35 (.int .i64 5000)) w21 fun x36 w22 =>
      mif x36 (
        m R (o_call (fv 21) []) w22 fun x37 w23 =>
        R (.returned x37) w23) (
        m R (o_call (fv 21) []) w22 fun x38 w24 =>
        mguard x38 true (fun k => m R (o_move x0) w24 k) w24 fun x40 w25 =>
        mguard x38 true (fun k => m R (o_move x1) w25 k) w25 fun x41 w26 =>
        mguard x38 true (fun k => m R (o_call (fv 22) [x40, x41]) w26 k) w26 fun x42 w27 =>
        mguard x38 true (fun k => m R (o_move x0) w27 k) w27 fun x43 w28 =>
        mguard x38 true (fun k => m R (o_move x5) w28 k) w28 fun x44 w29 =>
        mguard x38 true (fun k => m R (o_call (fv 23) [x43, x44]) w29 k) w29 fun x45 w30 =>
        mguard x38 true (fun k => m R (o_bin .eql 23 false x42 x45) w30 k) w30 fun x46 w31 =>
        m R (o_pick x38 x46 (.bool false)) w31 fun x47 w32 =>
        R (.returned x47) w32))
def A_bevylaw03_MacCodes : Ann := ⟨[(3, [5, 6], 17179869168)], [(6, [22], 8380416)], [], [], []⟩
theorem E_bevylaw03_MacCodes (x0 x1 : Value) (w : World) (R : Ending → World → Prop) : cwp Try.prog A_bevylaw03_MacCodes (Try.f7.body.getD .skip) (retPost Try.prog Try.f7.results.toList R) (argE [x0, x1]) w = F_bevylaw03_MacCodes x0 x1 w R := by kernel_rfl
theorem C_bevylaw03_MacCodes {x0 x1 : Value} {w : World} {R : Ending → World → Prop} (h : F_bevylaw03_MacCodes x0 x1 w R) : Calls Try.prog 7 #[x0, x1] w R :=
  calls_cwp (A := A_bevylaw03_MacCodes) (args := [x0, x1]) mixed Try.func7 (c := Try.f7.body.getD .skip) (by kernel_rfl) (by kernel_rfl) (by kernel_rfl) ((E_bevylaw03_MacCodes x0 x1 w R).mpr h)

/-- bevy/bevylaw03.MacMixes -/
def F_bevylaw03_MacMixes (x0 x1 : Value) (w : World) (R : Ending → World → Prop) : Prop :=
  m R (o_box 23 x0) w fun x2 w1 =>
  m R (o_box 23 x1) w1 fun x3 w2 =>
  df Try.prog w2 (o_call (fv 21) []) false fun x5 w3 =>
  qguard x5 true (fun k => dq Try.prog w3 (o_load 23 x2) k) fun x7 =>
  qguard x5 true (fun k => dq Try.prog w3 (o_load 23 x3) k) fun x8 =>
  mguard x5 true (fun k => df Try.prog w3 (o_call (fv 24) [x7, x8]) true k) w3 fun x9 w4 =>
  qguard x5 true (fun k => dq Try.prog w3 (o_load 23 x2) k) fun x10 =>
  qguard x5 true (fun k => dq Try.prog w3 (o_load 23 x3) k) fun x11 =>
  mguard x5 true (fun k => df Try.prog w4 (o_call (fv 25) [x10, x11]) false k) w4 fun x12 w5 =>
  qguard x5 true (fun k => dp Try.prog (o_bin .eql 23 false x9 x12) k) fun x13 =>
  dp Try.prog (o_pick x5 x13 (.bool false)) fun x14 =>
  dend w5 fun w6 =>
  R (.returned x14) w6
def A_bevylaw03_MacMixes : Ann := ⟨[], [], [(1, [⟨0, .f 0 false, 0, 0, 32⟩, ⟨1, .q none, 32, 1, 64⟩, ⟨2, .q (some 1), 68, 3, 128⟩, ⟨3, .q (some 1), 72, 3, 256⟩, ⟨4, .f 1 true, 448, 15, 512⟩, ⟨5, .q (some 1), 68, 3, 1024⟩, ⟨6, .q (some 1), 72, 3, 2048⟩, ⟨7, .f 2 false, 3136, 127, 4096⟩, ⟨8, .q none, 4672, 255, 8192⟩, ⟨9, .q none, 8256, 511, 16384⟩, ⟨10, .q none, 16384, 1023, 16⟩])], [], []⟩
theorem E_bevylaw03_MacMixes (x0 x1 : Value) (w : World) (R : Ending → World → Prop) : cwp Try.prog A_bevylaw03_MacMixes (Try.f8.body.getD .skip) (retPost Try.prog Try.f8.results.toList R) (argE [x0, x1]) w = F_bevylaw03_MacMixes x0 x1 w R := by kernel_rfl
theorem C_bevylaw03_MacMixes {x0 x1 : Value} {w : World} {R : Ending → World → Prop} (h : F_bevylaw03_MacMixes x0 x1 w R) : Calls Try.prog 8 #[x0, x1] w R :=
  calls_cwp (A := A_bevylaw03_MacMixes) (args := [x0, x1]) mixed Try.func8 (c := Try.f8.body.getD .skip) (by kernel_rfl) (by kernel_rfl) (by kernel_rfl) ((E_bevylaw03_MacMixes x0 x1 w R).mpr h)

/-- bevy/bevylaw02.ShaDigits -/
def F_bevylaw02_ShaDigits (x0 x1 : Value) (w : World) (R : Ending → World → Prop) : Prop :=
  m R (o_box 23 x0) w fun x2 w1 =>
  m R (o_load 23 x2) w1 fun x10 w2 =>
  m R (o_call (fv 17) [x10]) w2 fun x11 w3 =>
  m R (o_call (fv 26) [x11]) w3 fun x14 w4 =>
  m R (o_extract x14 0) w4 fun x15 w5 =>
  m R (o_extract x14 1) w5 fun x16 w6 =>
  m R (o_alloc 23) w6 fun x6 w7 =>
  m R (o_store 23 x6 x15) w7 fun _ w8 =>
  mj1 (fun j4 =>
    m R (o_call (fv 16) []) w8 fun x17 w9 =>
    m R (o_un .not x17) w9 fun x18 w10 =>
    mguard x18 false (fun k => m R (o_move x11) w10 k) w10 fun x20 w11 =>
    mguard x18 false (fun k => m R (o_load 23 x2) w11 k) w11 fun x21 w12 =>
    mguard x18 false (fun k => m R (o_call (fv 18) [x21]) w12 k) w12 fun x22 w13 =>
    mguard x18 false (fun k => m R (o_bin .neq 9 false x20 x22) w13 k) w13 fun x23 w14 =>
    m R (o_pick x18 (.bool true) x23) w14 fun x24 w15 =>
    mguard x24 false (fun k => m R (o_move x16) w15 k) w15 fun x26 w16 =>
    mguard x24 false (fun k => m R (o_un .not x26) w16 k) w16 fun x27 w17 =>
    m R (o_pick x24 (.bool true) x27) w17 fun x28 w18 =>
    mguard x28 false (fun k => m R (o_load 23 x6) w18 k) w18 fun x30 w19 =>
    mguard x28 false (fun k => m R (o_load 23 x2) w19 k) w19 fun x31 w20 =>
    mguard x28 false (fun k => m R (o_bin .neq 23 false x30 x31) w20 k) w20 fun x32 w21 =>
    m R (o_pick x28 (.bool true) x32) w21 fun x33 w22 =>
    j4 x33 w22) fun x33 u4 w23 =>
  mif x33 (
    R (.returned (.bool false)) w23) (
    m R (o_call (fv 26) [x1]) w23 fun x36 w24 =>
    m R (o_extract x36 0) w24 fun x37 w25 =>
    m R (o_extract x36 1) w25 fun x38 w26 =>
    m R (o_alloc 23) w26 fun x8 w27 =>
    m R (o_store 23 x8 x37) w27 fun _ w28 =>
    m R (o_un .not x38) w28 fun x40 w29 =>
    mif x40 (
      m R (o_load 23 x8) w29 fun x41 w30 =>
      m R (o_build 23 []) w30 fun x42 w31 =>
      m R (o_bin .eql 23 false x41 x42) w31 fun x43 w32 =>
      mguard x43 true (fun k => m R (o_move x1) w32 k) w32 fun x45 w33 =>
      mguard x43 true (fun k => m R (o_builtin .len #[9] 3 [false] [x45]) w33 k) w33 fun x46 w34 =>
      mguard x43 true (fun k => m R (o_bin .neq 3 true x46 (.int .i64 64)) w34 k) w34 fun x47 w35 =>
      mguard x43 true (fun k => m R (o_move x47) w35 k) w35 fun x48 w36 =>
      mguard x48 false (fun k => m R (o_move x1) w36 k) w36 fun x49 w37 =>
      mguard x48 false (fun k => m R (o_call (fv 27) [x49]) w37 k) w37 fun x50 w38 =>
      mguard x43 true (fun k => m R (o_pick x48 (.bool true) x50) w38 k) w38 fun x51 w39 =>
      m R (o_pick x43 x51 (.bool false)) w39 fun x52 w40 =>
      R (.returned x52) w40) (
      m R (o_load 23 x8) w29 fun x53 w41 =>
      m R (o_call (fv 18) [x53]) w41 fun x54 w42 =>
      m R (o_bin .eql 9 false x54 x1) w42 fun x56 w43 =>
      R (.returned x56) w43))
def A_bevylaw02_ShaDigits : Ann := ⟨[], [(4, [33], 17179738112)], [], [], []⟩
theorem E_bevylaw02_ShaDigits (x0 x1 : Value) (w : World) (R : Ending → World → Prop) : cwp Try.prog A_bevylaw02_ShaDigits (Try.f9.body.getD .skip) (retPost Try.prog Try.f9.results.toList R) (argE [x0, x1]) w = F_bevylaw02_ShaDigits x0 x1 w R := by kernel_rfl
theorem C_bevylaw02_ShaDigits {x0 x1 : Value} {w : World} {R : Ending → World → Prop} (h : F_bevylaw02_ShaDigits x0 x1 w R) : Calls Try.prog 9 #[x0, x1] w R :=
  calls_cwp (A := A_bevylaw02_ShaDigits) (args := [x0, x1]) mixed Try.func9 (c := Try.f9.body.getD .skip) (by kernel_rfl) (by kernel_rfl) (by kernel_rfl) ((E_bevylaw02_ShaDigits x0 x1 w R).mpr h)

/-- bevy/bevylaw03.MacDerives -/
def F_bevylaw03_MacDerives (x0 x1 x2 : Value) (w : World) (R : Ending → World → Prop) : Prop :=
  m R (o_box 23 x0) w fun x3 w1 =>
  mj1 (fun j2 =>
    m R (o_builtin .len #[9] 3 [false] [x1]) w1 fun x8 w2 =>
    m R (o_bin .gtr 3 true x8 (.int .i64 5000)) w2 fun x9 w3 =>
    mguard x9 false (fun k => m R (o_move x2) w3 k) w3 fun x11 w4 =>
    mguard x9 false (fun k => m R (o_builtin .len #[9] 3 [false] [x11]) w4 k) w4 fun x12 w5 =>
    mguard x9 false (fun k => m R (o_bin .gtr 3 true x12 (.int .i64 5000)) w5 k) w5 fun x13 w6 =>
    m R (o_pick x9 (.bool true) x13) w6 fun x14 w7 =>
    j2 x14 w7) fun x14 u2 w8 =>
  mif x14 (
    m R (o_call (fv 21) []) w8 fun x15 w9 =>
    R (.returned x15) w9) (
    df Try.prog w8 (o_call (fv 21) []) false fun x16 w10 =>
    qguard x16 true (fun k => dq Try.prog w10 (o_load 23 x3) k) fun x18 =>
    qguard x16 true (fun k => dp Try.prog (o_move x1) k) fun x19 =>
    qguard x16 true (fun k => dp Try.prog (o_move x2) k) fun x20 =>
    mguard x16 true (fun k => df Try.prog w10 (o_call (fv 28) [x18, x19, x20]) true k) w10 fun x21 w11 =>
    qguard x16 true (fun k => dq Try.prog w10 (o_load 23 x3) k) fun x22 =>
    qguard x16 true (fun k => dp Try.prog (o_move x1) k) fun x23 =>
    qguard x16 true (fun k => dp Try.prog (o_move x2) k) fun x24 =>
    mguard x16 true (fun k => df Try.prog w11 (o_call (fv 29) [x22, x23, x24]) false k) w11 fun x25 w12 =>
    qguard x16 true (fun k => dp Try.prog (o_bin .eql 23 false x21 x25) k) fun x26 =>
    dp Try.prog (o_pick x16 x26 (.bool false)) fun x27 =>
    dend w12 fun w13 =>
    R (.returned x27) w13)
def A_bevylaw03_MacDerives : Ann := ⟨[], [(2, [14], 32640)], [(3, [⟨0, .f 0 false, 0, 0, 65536⟩, ⟨1, .q none, 65536, 1, 131072⟩, ⟨2, .q (some 1), 131080, 3, 262144⟩, ⟨3, .q none, 131074, 3, 524288⟩, ⟨4, .q none, 131076, 3, 1048576⟩, ⟨5, .f 1 true, 1966080, 31, 2097152⟩, ⟨6, .q (some 1), 131080, 3, 4194304⟩, ⟨7, .q none, 131074, 3, 8388608⟩, ⟨8, .q none, 131076, 3, 16777216⟩, ⟨9, .f 2 false, 29491200, 511, 33554432⟩, ⟨10, .q none, 35782656, 1023, 67108864⟩, ⟨11, .q none, 67239936, 2047, 134217728⟩, ⟨12, .q none, 134217728, 4095, 64⟩])], [], []⟩
theorem E_bevylaw03_MacDerives (x0 x1 x2 : Value) (w : World) (R : Ending → World → Prop) : cwp Try.prog A_bevylaw03_MacDerives (Try.f10.body.getD .skip) (retPost Try.prog Try.f10.results.toList R) (argE [x0, x1, x2]) w = F_bevylaw03_MacDerives x0 x1 x2 w R := by kernel_rfl
theorem C_bevylaw03_MacDerives {x0 x1 x2 : Value} {w : World} {R : Ending → World → Prop} (h : F_bevylaw03_MacDerives x0 x1 x2 w R) : Calls Try.prog 10 #[x0, x1, x2] w R :=
  calls_cwp (A := A_bevylaw03_MacDerives) (args := [x0, x1, x2]) mixed Try.func10 (c := Try.f10.body.getD .skip) (by kernel_rfl) (by kernel_rfl) (by kernel_rfl) ((E_bevylaw03_MacDerives x0 x1 x2 w R).mpr h)

/-- bevy/bevylaw03.MacMakes -/
def F_bevylaw03_MacMakes (x0 x1 x2 x3 : Value) (w : World) (R : Ending → World → Prop) : Prop :=
  m R (o_box 23 x0) w fun x4 w1 =>
  m R (o_box 23 x1) w1 fun x5 w2 =>
  mj1 (fun j2 =>
    m R (o_builtin .len #[9] 3 [false] [x2]) w2 fun x10 w3 =>
    m R (o_bin .gtr 3 true x10 (.int .i64 5000)) w3 fun x11 w4 =>
    mguard x11 false (fun k => m R (o_move x3) w4 k) w4 fun x13 w5 =>
    mguard x11 false (fun k => m R (o_builtin .len #[9] 3 [false] [x13]) w5 k) w5 fun x14 w6 =>
    mguard x11 false (fun k => m R (o_bin .gtr 3 true x14 (.int .i64 5000)) w6 k) w6 fun x15 w7 =>
    m R (o_pick x11 (.bool true) x15) w7 fun x16 w8 =>
    j2 x16 w8) fun x16 u2 w9 =>
  mif x16 (
    m R (o_call (fv 21) []) w9 fun x17 w10 =>
    R (.returned x17) w10) (
    df Try.prog w9 (o_call (fv 21) []) false fun x18 w11 =>
    qguard x18 true (fun k => dq Try.prog w11 (o_load 23 x4) k) fun x20 =>
    qguard x18 true (fun k => dp Try.prog (o_move x2) k) fun x21 =>
    qguard x18 true (fun k => dp Try.prog (o_move x3) k) fun x22 =>
    mguard x18 true (fun k => df Try.prog w11 (o_call (fv 28) [x20, x21, x22]) true k) w11 fun x23 w12 =>
    qguard x18 true (fun k => dq Try.prog w11 (o_load 23 x4) k) fun x24 =>
    qguard x18 true (fun k => dp Try.prog (o_move x2) k) fun x25 =>
    qguard x18 true (fun k => dp Try.prog (o_move x3) k) fun x26 =>
    mguard x18 true (fun k => df Try.prog w12 (o_call (fv 29) [x24, x25, x26]) false k) w12 fun x27 w13 =>
    qguard x18 true (fun k => dp Try.prog (o_bin .eql 23 false x23 x27) k) fun x28 =>
    dp Try.prog (o_pick x18 x28 (.bool false)) fun x29 =>
    qguard x29 true (fun k => dq Try.prog w13 (o_load 23 x5) k) fun x31 =>
    qguard x29 true (fun k => dq Try.prog w13 (o_load 23 x4) k) fun x32 =>
    mguard x29 true (fun k => df Try.prog w13 (o_call (fv 24) [x31, x32]) true k) w13 fun x33 w14 =>
    qguard x29 true (fun k => dq Try.prog w13 (o_load 23 x5) k) fun x34 =>
    qguard x29 true (fun k => dq Try.prog w13 (o_load 23 x4) k) fun x35 =>
    mguard x29 true (fun k => df Try.prog w14 (o_call (fv 25) [x34, x35]) false k) w14 fun x36 w15 =>
    qguard x29 true (fun k => dp Try.prog (o_bin .eql 23 false x33 x36) k) fun x37 =>
    dp Try.prog (o_pick x29 x37 (.bool false)) fun x38 =>
    dend w15 fun w16 =>
    R (.returned x38) w16)
def A_bevylaw03_MacMakes : Ann := ⟨[], [(2, [16], 130560)], [(3, [⟨0, .f 0 false, 0, 0, 262144⟩, ⟨1, .q none, 262144, 1, 524288⟩, ⟨2, .q (some 1), 524304, 3, 1048576⟩, ⟨3, .q none, 524292, 3, 2097152⟩, ⟨4, .q none, 524296, 3, 4194304⟩, ⟨5, .f 1 true, 7864320, 31, 8388608⟩, ⟨6, .q (some 1), 524304, 3, 16777216⟩, ⟨7, .q none, 524292, 3, 33554432⟩, ⟨8, .q none, 524296, 3, 67108864⟩, ⟨9, .f 2 false, 117964800, 511, 134217728⟩, ⟨10, .q none, 143130624, 1023, 268435456⟩, ⟨11, .q none, 268959744, 2047, 536870912⟩, ⟨12, .q none, 536870912, 4095, 1073741824⟩, ⟨13, .q (some 3), 1073741856, 8191, 2147483648⟩, ⟨14, .q (some 3), 1073741840, 8191, 4294967296⟩, ⟨15, .f 3 true, 7516192768, 32767, 8589934592⟩, ⟨16, .q (some 3), 1073741856, 8191, 17179869184⟩, ⟨17, .q (some 3), 1073741840, 8191, 34359738368⟩, ⟨18, .f 4 false, 52613349376, 262143, 68719476736⟩, ⟨19, .q none, 78383153152, 524287, 137438953472⟩, ⟨20, .q none, 138512695296, 1048575, 274877906944⟩, ⟨21, .q none, 274877906944, 2097151, 256⟩])], [], []⟩
theorem E_bevylaw03_MacMakes (x0 x1 x2 x3 : Value) (w : World) (R : Ending → World → Prop) : cwp Try.prog A_bevylaw03_MacMakes (Try.f11.body.getD .skip) (retPost Try.prog Try.f11.results.toList R) (argE [x0, x1, x2, x3]) w = F_bevylaw03_MacMakes x0 x1 x2 x3 w R := by kernel_rfl
theorem C_bevylaw03_MacMakes {x0 x1 x2 x3 : Value} {w : World} {R : Ending → World → Prop} (h : F_bevylaw03_MacMakes x0 x1 x2 x3 w R) : Calls Try.prog 11 #[x0, x1, x2, x3] w R :=
  calls_cwp (A := A_bevylaw03_MacMakes) (args := [x0, x1, x2, x3]) mixed Try.func11 (c := Try.f11.body.getD .skip) (by kernel_rfl) (by kernel_rfl) (by kernel_rfl) ((E_bevylaw03_MacMakes x0 x1 x2 x3 w R).mpr h)

/-- bevy/bevylaw03.MacParts -/
def F_bevylaw03_MacParts (x0 x1 x2 : Value) (w : World) (R : Ending → World → Prop) : Prop :=
  m R (o_box 23 x0) w fun x3 w1 =>
  mj1 (fun j2 =>
    m R (o_call (fv 21) []) w1 fun x9 w2 =>
    m R (o_un .not x9) w2 fun x10 w3 =>
    mguard x10 false (fun k => m R (o_move x1) w3 k) w3 fun x12 w4 =>
    mguard x10 false (fun k => m R (o_builtin .len #[9] 3 [false] [x12]) w4 k) w4 fun x13 w5 =>
    mguard x10 false (fun k => m R (o_bin .gtr 3 true x13 (.int .i64 5000)) w5 k) w5 fun x14 w6 =>
    m R (o_pick x10 (.bool true) x14) w6 fun x15 w7 =>
    j2 x15 w7) fun x15 u2 w8 =>
  mif x15 (
    m R (o_call (fv 21) []) w8 fun x16 w9 =>
    R (.returned x16) w9) (
    m R (o_conv 3 49 x2) w8 fun x18 w10 =>
    m R (o_builtin .len #[9] 3 [false] [x1]) w10 fun x20 w11 =>
    m R (o_bin .add 3 true x20 (.int .i64 1)) w11 fun x21 w12 =>
    m R (o_conv 3 49 x21) w12 fun x22 w13 =>
    m R (o_bin .rem 49 false x18 x22) w13 fun x23 w14 =>
    m R (o_conv 49 3 x23) w14 fun x24 w15 =>
    m R (o_bin .quo 3 true x24 (.int .i64 256)) w15 fun x26 w16 =>
    m R (o_conv 3 5 x26) w16 fun x27 w17 =>
    m R (o_bin .rem 3 true x24 (.int .i64 256)) w17 fun x29 w18 =>
    m R (o_conv 3 5 x29) w18 fun x30 w19 =>
    m R (o_buildSlice 50 4 [(0, (.int .u8 0)), (1, (.int .u8 0)), (2, x27), (3, x30)]) w19 fun x31 w20 =>
    m R (o_conv 50 9 x31) w20 fun x32 w21 =>
    ((
      dq Try.prog w21 (o_load 23 x3) fun x33 =>
      dp Try.prog (o_slice 9 x1 none (some x24) none) fun x36 =>
      dp Try.prog (o_slice 9 x1 (some x24) none none) fun x39 =>
      dp Try.prog (o_slice 23 x3 none none none) fun x41 =>
      dq Try.prog w21 (o_conv 50 9 x41) fun x42 =>
      df Try.prog w21 (o_call (fv 28) [x33, x36, x39]) true fun x40 w22 =>
      df Try.prog w22 (o_buildSlice 27 2 [(0, x32), (1, x1)]) true fun x45 w23 =>
      df Try.prog w23 (o_call (fv 22) [x42, x45]) false fun x46 w24 =>
      dp Try.prog (o_bin .eql 23 false x40 x46) fun x47 =>
      qguard x47 true (fun k => dq Try.prog w24 (o_load 23 x3) k) fun x49 =>
      qguard x47 true (fun k => dq Try.prog w24 (o_load 23 x3) k) fun x50 =>
      qguard x47 true (fun k => dp Try.prog (o_slice 23 x3 none none none) k) fun x52 =>
      qguard x47 true (fun k => dq Try.prog w24 (o_conv 50 9 x52) k) fun x53 =>
      qguard x47 true (fun k => dp Try.prog (o_slice 23 x3 none none none) k) fun x54 =>
      qguard x47 true (fun k => dq Try.prog w24 (o_conv 50 9 x54) k) fun x55 =>
      mguard x47 true (fun k => df Try.prog w24 (o_call (fv 24) [x49, x50]) true k) w24 fun x51 w25 =>
      mguard x47 true (fun k => df Try.prog w25 (o_buildSlice 27 1 [(0, x55)]) true k) w25 fun x56 w26 =>
      mguard x47 true (fun k => df Try.prog w26 (o_call (fv 22) [x53, x56]) false k) w26 fun x57 w27 =>
      qguard x47 true (fun k => dp Try.prog (o_bin .eql 23 false x51 x57) k) fun x58 =>
      dp Try.prog (o_pick x47 x58 (.bool false)) fun x59 =>
      dend w27 fun w28 =>
      R (.returned x59) w28) ∧ (
      dq Try.prog w21 (o_load 23 x3) fun x33 =>
      dp Try.prog (o_slice 9 x1 none (some x24) none) fun x36 =>
      dp Try.prog (o_slice 9 x1 (some x24) none none) fun x39 =>
      dp Try.prog (o_slice 23 x3 none none none) fun x41 =>
      dq Try.prog w21 (o_conv 50 9 x41) fun x42 =>
      df Try.prog w21 (o_call (fv 28) [x33, x36, x39]) true fun x40 w29 =>
      df Try.prog w29 (o_buildSlice 27 2 [(0, x32), (1, x1)]) true fun x45 w30 =>
      df Try.prog w30 (o_call (fv 22) [x42, x45]) false fun x46 w31 =>
      dp Try.prog (o_bin .eql 23 false x40 x46) fun x47 =>
      qguard x47 true (fun k => dq Try.prog w31 (o_load 23 x3) k) fun x49 =>
      qguard x47 true (fun k => dq Try.prog w31 (o_load 23 x3) k) fun x50 =>
      qguard x47 true (fun k => dp Try.prog (o_slice 23 x3 none none none) k) fun x52 =>
      qguard x47 true (fun k => dq Try.prog w31 (o_conv 50 9 x52) k) fun x53 =>
      qguard x47 true (fun k => dp Try.prog (o_slice 23 x3 none none none) k) fun x54 =>
      qguard x47 true (fun k => dq Try.prog w31 (o_conv 50 9 x54) k) fun x55 =>
      mguard x47 true (fun k => df Try.prog w31 (o_buildSlice 27 1 [(0, x55)]) true k) w31 fun x56 w32 =>
      mguard x47 true (fun k => df Try.prog w32 (o_call (fv 24) [x49, x50]) true k) w32 fun x51 w33 =>
      mguard x47 true (fun k => df Try.prog w33 (o_call (fv 22) [x53, x56]) false k) w33 fun x57 w34 =>
      qguard x47 true (fun k => dp Try.prog (o_bin .eql 23 false x51 x57) k) fun x58 =>
      dp Try.prog (o_pick x47 x58 (.bool false)) fun x59 =>
      dend w34 fun w35 =>
      R (.returned x59) w35) ∧ (
      dq Try.prog w21 (o_load 23 x3) fun x33 =>
      dp Try.prog (o_slice 9 x1 none (some x24) none) fun x36 =>
      dp Try.prog (o_slice 9 x1 (some x24) none none) fun x39 =>
      dp Try.prog (o_slice 23 x3 none none none) fun x41 =>
      dq Try.prog w21 (o_conv 50 9 x41) fun x42 =>
      df Try.prog w21 (o_buildSlice 27 2 [(0, x32), (1, x1)]) true fun x45 w36 =>
      df Try.prog w36 (o_call (fv 28) [x33, x36, x39]) true fun x40 w37 =>
      df Try.prog w37 (o_call (fv 22) [x42, x45]) false fun x46 w38 =>
      dp Try.prog (o_bin .eql 23 false x40 x46) fun x47 =>
      qguard x47 true (fun k => dq Try.prog w38 (o_load 23 x3) k) fun x49 =>
      qguard x47 true (fun k => dq Try.prog w38 (o_load 23 x3) k) fun x50 =>
      qguard x47 true (fun k => dp Try.prog (o_slice 23 x3 none none none) k) fun x52 =>
      qguard x47 true (fun k => dq Try.prog w38 (o_conv 50 9 x52) k) fun x53 =>
      qguard x47 true (fun k => dp Try.prog (o_slice 23 x3 none none none) k) fun x54 =>
      qguard x47 true (fun k => dq Try.prog w38 (o_conv 50 9 x54) k) fun x55 =>
      mguard x47 true (fun k => df Try.prog w38 (o_call (fv 24) [x49, x50]) true k) w38 fun x51 w39 =>
      mguard x47 true (fun k => df Try.prog w39 (o_buildSlice 27 1 [(0, x55)]) true k) w39 fun x56 w40 =>
      mguard x47 true (fun k => df Try.prog w40 (o_call (fv 22) [x53, x56]) false k) w40 fun x57 w41 =>
      qguard x47 true (fun k => dp Try.prog (o_bin .eql 23 false x51 x57) k) fun x58 =>
      dp Try.prog (o_pick x47 x58 (.bool false)) fun x59 =>
      dend w41 fun w42 =>
      R (.returned x59) w42) ∧ (
      dq Try.prog w21 (o_load 23 x3) fun x33 =>
      dp Try.prog (o_slice 9 x1 none (some x24) none) fun x36 =>
      dp Try.prog (o_slice 9 x1 (some x24) none none) fun x39 =>
      dp Try.prog (o_slice 23 x3 none none none) fun x41 =>
      dq Try.prog w21 (o_conv 50 9 x41) fun x42 =>
      df Try.prog w21 (o_buildSlice 27 2 [(0, x32), (1, x1)]) true fun x45 w43 =>
      df Try.prog w43 (o_call (fv 28) [x33, x36, x39]) true fun x40 w44 =>
      df Try.prog w44 (o_call (fv 22) [x42, x45]) false fun x46 w45 =>
      dp Try.prog (o_bin .eql 23 false x40 x46) fun x47 =>
      qguard x47 true (fun k => dq Try.prog w45 (o_load 23 x3) k) fun x49 =>
      qguard x47 true (fun k => dq Try.prog w45 (o_load 23 x3) k) fun x50 =>
      qguard x47 true (fun k => dp Try.prog (o_slice 23 x3 none none none) k) fun x52 =>
      qguard x47 true (fun k => dq Try.prog w45 (o_conv 50 9 x52) k) fun x53 =>
      qguard x47 true (fun k => dp Try.prog (o_slice 23 x3 none none none) k) fun x54 =>
      qguard x47 true (fun k => dq Try.prog w45 (o_conv 50 9 x54) k) fun x55 =>
      mguard x47 true (fun k => df Try.prog w45 (o_buildSlice 27 1 [(0, x55)]) true k) w45 fun x56 w46 =>
      mguard x47 true (fun k => df Try.prog w46 (o_call (fv 24) [x49, x50]) true k) w46 fun x51 w47 =>
      mguard x47 true (fun k => df Try.prog w47 (o_call (fv 22) [x53, x56]) false k) w47 fun x57 w48 =>
      qguard x47 true (fun k => dp Try.prog (o_bin .eql 23 false x51 x57) k) fun x58 =>
      dp Try.prog (o_pick x47 x58 (.bool false)) fun x59 =>
      dend w48 fun w49 =>
      R (.returned x59) w49)))
def A_bevylaw03_MacParts : Ann := ⟨[], [(2, [15], 65024)], [], [(5, [⟨[0, 1, 2, 3, 4, 5, 6, 8, 9, 10, 11, 7, 12, 13, 14, 15, 16, 17, 19, 20, 21, 22, 18, 23, 24, 25, 26, 27], [⟨0, .q (some 0), 8, 0, 8589934592⟩, ⟨1, .q none, 2, 0, 17179869184⟩, ⟨2, .q none, 128, 0, 34359738368⟩, ⟨3, .q none, 51539607552, 6, 68719476736⟩, ⟨4, .q none, 2, 0, 137438953472⟩, ⟨5, .q none, 128, 0, 274877906944⟩, ⟨6, .q none, 412316860416, 48, 549755813888⟩, ⟨7, .f 0 true, 627065225216, 127, 1099511627776⟩, ⟨8, .q none, 8, 0, 2199023255552⟩, ⟨9, .q (some 0), 2199023255552, 256, 4398046511104⟩, ⟨10, .q none, 256, 0, 8796093022208⟩, ⟨11, .q none, 2, 0, 17592186044416⟩, ⟨12, .f 1 true, 26388279066624, 3072, 35184372088832⟩, ⟨13, .f 2 false, 39582418599936, 8191, 70368744177664⟩, ⟨14, .q none, 71468255805440, 16383, 140737488355328⟩, ⟨15, .q none, 140737488355328, 32767, 281474976710656⟩, ⟨16, .q (some 3), 281474976710664, 65535, 562949953421312⟩, ⟨17, .q (some 3), 281474976710664, 65535, 1125899906842624⟩, ⟨18, .f 3 true, 1970324836974592, 262143, 2251799813685248⟩, ⟨19, .q none, 281474976710664, 65535, 4503599627370496⟩, ⟨20, .q (some 3), 4785074604081152, 589823, 9007199254740992⟩, ⟨21, .q none, 281474976710664, 65535, 18014398509481984⟩, ⟨22, .q (some 3), 18295873486192640, 2162687, 36028797018963968⟩, ⟨23, .f 4 true, 36310271995674624, 6356991, 72057594037927936⟩, ⟨24, .f 5 false, 81346268269379584, 16777215, 144115188075855872⟩, ⟨25, .q none, 146648462866251776, 33554431, 288230376151711744⟩, ⟨26, .q none, 288511851128422400, 67108863, 576460752303423488⟩, ⟨27, .q none, 576460752303423488, 134217727, 64⟩]⟩, ⟨[0, 1, 2, 3, 4, 5, 6, 8, 9, 10, 11, 7, 12, 13, 14, 15, 16, 17, 19, 20, 21, 22, 23, 18, 24, 25, 26, 27], [⟨0, .q (some 0), 8, 0, 8589934592⟩, ⟨1, .q none, 2, 0, 17179869184⟩, ⟨2, .q none, 128, 0, 34359738368⟩, ⟨3, .q none, 51539607552, 6, 68719476736⟩, ⟨4, .q none, 2, 0, 137438953472⟩, ⟨5, .q none, 128, 0, 274877906944⟩, ⟨6, .q none, 412316860416, 48, 549755813888⟩, ⟨7, .f 0 true, 627065225216, 127, 1099511627776⟩, ⟨8, .q none, 8, 0, 2199023255552⟩, ⟨9, .q (some 0), 2199023255552, 256, 4398046511104⟩, ⟨10, .q none, 256, 0, 8796093022208⟩, ⟨11, .q none, 2, 0, 17592186044416⟩, ⟨12, .f 1 true, 26388279066624, 3072, 35184372088832⟩, ⟨13, .f 2 false, 39582418599936, 8191, 70368744177664⟩, ⟨14, .q none, 71468255805440, 16383, 140737488355328⟩, ⟨15, .q none, 140737488355328, 32767, 281474976710656⟩, ⟨16, .q (some 3), 281474976710664, 65535, 562949953421312⟩, ⟨17, .q (some 3), 281474976710664, 65535, 1125899906842624⟩, ⟨18, .f 4 true, 1970324836974592, 262143, 2251799813685248⟩, ⟨19, .q none, 281474976710664, 65535, 4503599627370496⟩, ⟨20, .q (some 3), 4785074604081152, 589823, 9007199254740992⟩, ⟨21, .q none, 281474976710664, 65535, 18014398509481984⟩, ⟨22, .q (some 3), 18295873486192640, 2162687, 36028797018963968⟩, ⟨23, .f 3 true, 36310271995674624, 6356991, 72057594037927936⟩, ⟨24, .f 5 false, 81346268269379584, 16777215, 144115188075855872⟩, ⟨25, .q none, 146648462866251776, 33554431, 288230376151711744⟩, ⟨26, .q none, 288511851128422400, 67108863, 576460752303423488⟩, ⟨27, .q none, 576460752303423488, 134217727, 64⟩]⟩, ⟨[0, 1, 2, 3, 4, 5, 6, 8, 9, 10, 11, 12, 7, 13, 14, 15, 16, 17, 19, 20, 21, 22, 18, 23, 24, 25, 26, 27], [⟨0, .q (some 0), 8, 0, 8589934592⟩, ⟨1, .q none, 2, 0, 17179869184⟩, ⟨2, .q none, 128, 0, 34359738368⟩, ⟨3, .q none, 51539607552, 6, 68719476736⟩, ⟨4, .q none, 2, 0, 137438953472⟩, ⟨5, .q none, 128, 0, 274877906944⟩, ⟨6, .q none, 412316860416, 48, 549755813888⟩, ⟨7, .f 1 true, 627065225216, 127, 1099511627776⟩, ⟨8, .q none, 8, 0, 2199023255552⟩, ⟨9, .q (some 0), 2199023255552, 256, 4398046511104⟩, ⟨10, .q none, 256, 0, 8796093022208⟩, ⟨11, .q none, 2, 0, 17592186044416⟩, ⟨12, .f 0 true, 26388279066624, 3072, 35184372088832⟩, ⟨13, .f 2 false, 39582418599936, 8191, 70368744177664⟩, ⟨14, .q none, 71468255805440, 16383, 140737488355328⟩, ⟨15, .q none, 140737488355328, 32767, 281474976710656⟩, ⟨16, .q (some 3), 281474976710664, 65535, 562949953421312⟩, ⟨17, .q (some 3), 281474976710664, 65535, 1125899906842624⟩, ⟨18, .f 3 true, 1970324836974592, 262143, 2251799813685248⟩, ⟨19, .q none, 281474976710664, 65535, 4503599627370496⟩, ⟨20, .q (some 3), 4785074604081152, 589823, 9007199254740992⟩, ⟨21, .q none, 281474976710664, 65535, 18014398509481984⟩, ⟨22, .q (some 3), 18295873486192640, 2162687, 36028797018963968⟩, ⟨23, .f 4 true, 36310271995674624, 6356991, 72057594037927936⟩, ⟨24, .f 5 false, 81346268269379584, 16777215, 144115188075855872⟩, ⟨25, .q none, 146648462866251776, 33554431, 288230376151711744⟩, ⟨26, .q none, 288511851128422400, 67108863, 576460752303423488⟩, ⟨27, .q none, 576460752303423488, 134217727, 64⟩]⟩, ⟨[0, 1, 2, 3, 4, 5, 6, 8, 9, 10, 11, 12, 7, 13, 14, 15, 16, 17, 19, 20, 21, 22, 23, 18, 24, 25, 26, 27], [⟨0, .q (some 0), 8, 0, 8589934592⟩, ⟨1, .q none, 2, 0, 17179869184⟩, ⟨2, .q none, 128, 0, 34359738368⟩, ⟨3, .q none, 51539607552, 6, 68719476736⟩, ⟨4, .q none, 2, 0, 137438953472⟩, ⟨5, .q none, 128, 0, 274877906944⟩, ⟨6, .q none, 412316860416, 48, 549755813888⟩, ⟨7, .f 1 true, 627065225216, 127, 1099511627776⟩, ⟨8, .q none, 8, 0, 2199023255552⟩, ⟨9, .q (some 0), 2199023255552, 256, 4398046511104⟩, ⟨10, .q none, 256, 0, 8796093022208⟩, ⟨11, .q none, 2, 0, 17592186044416⟩, ⟨12, .f 0 true, 26388279066624, 3072, 35184372088832⟩, ⟨13, .f 2 false, 39582418599936, 8191, 70368744177664⟩, ⟨14, .q none, 71468255805440, 16383, 140737488355328⟩, ⟨15, .q none, 140737488355328, 32767, 281474976710656⟩, ⟨16, .q (some 3), 281474976710664, 65535, 562949953421312⟩, ⟨17, .q (some 3), 281474976710664, 65535, 1125899906842624⟩, ⟨18, .f 4 true, 1970324836974592, 262143, 2251799813685248⟩, ⟨19, .q none, 281474976710664, 65535, 4503599627370496⟩, ⟨20, .q (some 3), 4785074604081152, 589823, 9007199254740992⟩, ⟨21, .q none, 281474976710664, 65535, 18014398509481984⟩, ⟨22, .q (some 3), 18295873486192640, 2162687, 36028797018963968⟩, ⟨23, .f 3 true, 36310271995674624, 6356991, 72057594037927936⟩, ⟨24, .f 5 false, 81346268269379584, 16777215, 144115188075855872⟩, ⟨25, .q none, 146648462866251776, 33554431, 288230376151711744⟩, ⟨26, .q none, 288511851128422400, 67108863, 576460752303423488⟩, ⟨27, .q none, 576460752303423488, 134217727, 64⟩]⟩])], []⟩
theorem E_bevylaw03_MacParts (x0 x1 x2 : Value) (w : World) (R : Ending → World → Prop) : cwp Try.prog A_bevylaw03_MacParts (Try.f12.body.getD .skip) (retPost Try.prog Try.f12.results.toList R) (argE [x0, x1, x2]) w = F_bevylaw03_MacParts x0 x1 x2 w R := by kernel_rfl
theorem C_bevylaw03_MacParts {x0 x1 x2 : Value} {w : World} {R : Ending → World → Prop} (h : F_bevylaw03_MacParts x0 x1 x2 w R) : Calls Try.prog 12 #[x0, x1, x2] w R :=
  calls_cwp (A := A_bevylaw03_MacParts) (args := [x0, x1, x2]) mixed Try.func12 (c := Try.f12.body.getD .skip) (by kernel_rfl) (by kernel_rfl) (by kernel_rfl) ((E_bevylaw03_MacParts x0 x1 x2 w R).mpr h)

/-- bevy/bevylaw03.MacRows -/
def F_bevylaw03_MacRows (x0 x1 x2 : Value) (w : World) (R : Ending → World → Prop) : Prop :=
  m R (o_box 23 x0) w fun x3 w1 =>
  m R (o_call (fv 21) []) w1 fun x9 w2 =>
  m R (o_un .not x9) w2 fun x10 w3 =>
  mif x10 (
    R (.returned (.bool false)) w3) (
    mj1 (fun j4 =>
      m R (o_bin .lss 3 true x1 (.int .i64 1)) w3 fun x12 w4 =>
      mguard x12 false (fun k => m R (o_move x1) w4 k) w4 fun x14 w5 =>
      mguard x12 false (fun k => m R (o_bin .gtr 3 true x14 (.int .i64 65536)) w5 k) w5 fun x15 w6 =>
      m R (o_pick x12 (.bool true) x15) w6 fun x16 w7 =>
      j4 x16 w7) fun x16 u4 w8 =>
    mif x16 (
      m R (o_load 23 x3) w8 fun x17 w9 =>
      m R (o_call (fv 30) [x17, x1]) w9 fun x19 w10 =>
      m R (o_bin .eql 9 true x19 (.string (ByteArray.mk #[]))) w10 fun x20 w11 =>
      R (.returned x20) w11) (
      m R (o_bin .gtr 3 true x1 (.int .i64 3000)) w8 fun x22 w12 =>
      mif x22 (
        R (.returned (.bool true)) w12) (
        m R (o_load 23 x3) w12 fun x23 w13 =>
        m R (o_call (fv 30) [x23, x1]) w13 fun x25 w14 =>
        m R (o_conv 3 49 x2) w14 fun x27 w15 =>
        m R (o_bin .add 3 true x1 (.int .i64 1)) w15 fun x29 w16 =>
        m R (o_conv 3 49 x29) w16 fun x30 w17 =>
        m R (o_bin .rem 49 false x27 x30) w17 fun x31 w18 =>
        m R (o_conv 49 3 x31) w18 fun x32 w19 =>
        dq Try.prog w19 (o_load 23 x3) fun x34 =>
        df Try.prog w19 (o_call (fv 31) [x34, x1]) false fun x36 w20 =>
        dp Try.prog (o_bin .eql 9 false x25 x36) fun x37 =>
        qguard x37 true (fun k => dp Try.prog (o_move x25) k) fun x39 =>
        qguard x37 true (fun k => dp Try.prog (o_builtin .len #[9] 3 [false] [x39]) k) fun x40 =>
        qguard x37 true (fun k => dp Try.prog (o_move x1) k) fun x41 =>
        qguard x37 true (fun k => dp Try.prog (o_bin .eql 3 false x40 x41) k) fun x42 =>
        dp Try.prog (o_pick x37 x42 (.bool false)) fun x43 =>
        qguard x43 true (fun k => dq Try.prog w20 (o_load 23 x3) k) fun x45 =>
        qguard x43 true (fun k => dp Try.prog (o_move x32) k) fun x46 =>
        mguard x43 true (fun k => df Try.prog w20 (o_call (fv 30) [x45, x46]) false k) w20 fun x47 w21 =>
        qguard x43 true (fun k => dp Try.prog (o_move x25) k) fun x48 =>
        qguard x43 true (fun k => dp Try.prog (o_move x32) k) fun x49 =>
        qguard x43 true (fun k => dp Try.prog (o_slice 9 x48 none (some x49) none) k) fun x50 =>
        qguard x43 true (fun k => dp Try.prog (o_bin .eql 9 false x47 x50) k) fun x51 =>
        dp Try.prog (o_pick x43 x51 (.bool false)) fun x52 =>
        dend w21 fun w22 =>
        R (.returned x52) w22)))
def A_bevylaw03_MacRows : Ann := ⟨[], [(4, [16], 129024)], [(9, [⟨0, .q none, 128, 0, 8589934592⟩, ⟨1, .q (some 0), 8, 0, 17179869184⟩, ⟨2, .q none, 2, 0, 34359738368⟩, ⟨3, .f 0 false, 51539607552, 6, 68719476736⟩, ⟨4, .q none, 77309411328, 15, 137438953472⟩, ⟨5, .q none, 137438953472, 31, 274877906944⟩, ⟨6, .q none, 274877907072, 63, 549755813888⟩, ⟨7, .q none, 824633720832, 127, 1099511627776⟩, ⟨8, .q none, 274877906946, 63, 2199023255552⟩, ⟨9, .q none, 3573412790272, 511, 4398046511104⟩, ⟨10, .q none, 4672924418048, 1023, 8796093022208⟩, ⟨11, .q none, 8796093022208, 2047, 17592186044416⟩, ⟨12, .q (some 1), 17592186044424, 4095, 35184372088832⟩, ⟨13, .q none, 17592186044672, 4095, 70368744177664⟩, ⟨14, .f 1 false, 123145302310912, 16383, 140737488355328⟩, ⟨15, .q none, 17592186044544, 4095, 281474976710656⟩, ⟨16, .q none, 17592186044672, 4095, 562949953421312⟩, ⟨17, .q none, 862017116176384, 102399, 1125899906842624⟩, ⟨18, .q none, 1284229581242368, 262143, 2251799813685248⟩, ⟨19, .q none, 2269391999729664, 524287, 4503599627370496⟩, ⟨20, .q none, 4503599627370496, 1048575, 64⟩])], [], []⟩
theorem E_bevylaw03_MacRows (x0 x1 x2 : Value) (w : World) (R : Ending → World → Prop) : cwp Try.prog A_bevylaw03_MacRows (Try.f13.body.getD .skip) (retPost Try.prog Try.f13.results.toList R) (argE [x0, x1, x2]) w = F_bevylaw03_MacRows x0 x1 x2 w R := by kernel_rfl
theorem C_bevylaw03_MacRows {x0 x1 x2 : Value} {w : World} {R : Ending → World → Prop} (h : F_bevylaw03_MacRows x0 x1 x2 w R) : Calls Try.prog 13 #[x0, x1, x2] w R :=
  calls_cwp (A := A_bevylaw03_MacRows) (args := [x0, x1, x2]) mixed Try.func13 (c := Try.f13.body.getD .skip) (by kernel_rfl) (by kernel_rfl) (by kernel_rfl) ((E_bevylaw03_MacRows x0 x1 x2 w R).mpr h)

/-- bevy/sha.Sum -/
def F_sha_Sum (x0 : Value) (w : World) (R : Ending → World → Prop) : Prop :=
  m R (o_alloc 23) w fun x2 w1 =>
  m R (o_build 57 [(0, (.int .u32 1779033703)), (1, (.int .u32 3144134277)), (2, (.int .u32 1013904242)), (3, (.int .u32 2773480762)), (4, (.int .u32 1359893119)), (5, (.int .u32 2600822924)), (6, (.int .u32 528734635)), (7, (.int .u32 1541459225))]) w1 fun x11 w2 =>
  m R (o_call (fv 32) []) w2 fun x12 w3 =>
  m R (o_build 62 [(0, x11), (3, x12)]) w3 fun x13 w4 =>
  m R (o_box 62 x13) w4 fun x14 w5 =>
  m R (o_builtin .len #[27] 3 [false] [x0]) w5 fun x16 w6 =>
  ml1 (.int .i64 0) w6 fun x17 u3 w7 next3 =>
    m R (o_bin .lss 3 false x17 x16) w7 fun x18 w8 =>
    mif x18 (
      m R (o_indexAddr 27 x0 x17) w8 fun x19 w9 =>
      m R (o_load 9 x19) w9 fun x20 w10 =>
      m R (o_call (fv 33) [x14, x20]) w10 fun x23 w11 =>
      m R (o_bin .add 3 true x17 (.int .i64 1)) w11 fun x24 w12 =>
      next3 x24 w12) (
      m R (o_alloc 64) w8 fun x6 w13 =>
      m R (o_indexAddr 64 x6 (.int .i64 0)) w13 fun x25 w14 =>
      m R (o_store 5 x25 (.int .u8 128)) w14 fun _ w15 =>
      m R (o_nilCheck x14) w15 fun x27 w16 =>
      m R (o_fieldAddr 62 x27 2) w16 fun x28 w17 =>
      m R (o_load 3 x28) w17 fun x29 w18 =>
      m R (o_bin .add 3 true x29 (.int .i64 8)) w18 fun x30 w19 =>
      m R (o_bin .rem 3 true x30 (.int .i64 64)) w19 fun x31 w20 =>
      m R (o_bin .sub 3 true (.int .i64 64) x31) w20 fun x32 w21 =>
      ml1 (.int .i64 0) w21 fun x33 u11 w22 next11 =>
        m R (o_bin .lss 3 true x33 (.int .i64 8)) w22 fun x34 w23 =>
        mif x34 (
          m R (o_bin .add 3 false x32 x33) w23 fun x38 w24 =>
          m R (o_nilCheck x14) w24 fun x40 w25 =>
          m R (o_fieldAddr 62 x40 2) w25 fun x41 w26 =>
          m R (o_load 3 x41) w26 fun x42 w27 =>
          m R (o_conv 3 65 x42) w27 fun x43 w28 =>
          m R (o_bin .mul 65 true x43 (.int .u64 8)) w28 fun x44 w29 =>
          m R (o_bin .mul 3 true (.int .i64 8) x33) w29 fun x46 w30 =>
          m R (o_bin .sub 3 true (.int .i64 56) x46) w30 fun x47 w31 =>
          m R (o_bin .shr 65 false x44 x47) w31 fun x48 w32 =>
          m R (o_conv 65 5 x48) w32 fun x49 w33 =>
          m R (o_indexAddr 64 x6 x38) w33 fun x50 w34 =>
          m R (o_store 5 x50 x49) w34 fun _ w35 =>
          m R (o_bin .add 3 true x33 (.int .i64 1)) w35 fun x51 w36 =>
          next11 x51 w36) (
          m R (o_bin .add 3 true x32 (.int .i64 8)) w23 fun x54 w37 =>
          m R (o_slice 64 x6 none (some x54) none) w37 fun x55 w38 =>
          m R (o_conv 50 9 x55) w38 fun x56 w39 =>
          m R (o_call (fv 33) [x14, x56]) w39 fun x57 w40 =>
          m R (o_alloc 23) w40 fun x9 w41 =>
          ml1 (.int .i64 0) w41 fun x58 u18 w42 next18 =>
            m R (o_bin .lss 3 true x58 (.int .i64 32)) w42 fun x59 w43 =>
            mif x59 (
              m R (o_bin .quo 3 true x58 (.int .i64 4)) w43 fun x64 w44 =>
              m R (o_nilCheck x14) w44 fun x65 w45 =>
              m R (o_fieldAddr 62 x65 0) w45 fun x66 w46 =>
              m R (o_indexAddr 57 x66 x64) w46 fun x67 w47 =>
              m R (o_load 56 x67) w47 fun x68 w48 =>
              m R (o_bin .rem 3 true x58 (.int .i64 4)) w48 fun x70 w49 =>
              m R (o_bin .mul 3 true (.int .i64 8) x70) w49 fun x71 w50 =>
              m R (o_bin .sub 3 true (.int .i64 24) x71) w50 fun x72 w51 =>
              m R (o_bin .shr 56 false x68 x72) w51 fun x73 w52 =>
              m R (o_conv 56 5 x73) w52 fun x74 w53 =>
              m R (o_indexAddr 23 x9 x58) w53 fun x75 w54 =>
              m R (o_store 5 x75 x74) w54 fun _ w55 =>
              m R (o_bin .add 3 true x58 (.int .i64 1)) w55 fun x76 w56 =>
              next18 x76 w56) (
              m R (o_load 23 x9) w43 fun x77 w57 =>
              m R (o_store 23 x2 x77) w57 fun _ w58 =>
              rcell Try.prog 23 x2 w58 fun r2 =>
              R (.returned r2) w58)))
def A_sha_Sum : Ann := ⟨[(3, [17], 33423392), (11, [33], 4503591037436160), (18, [58], 151115439221452495127552)], [], [], [], []⟩
theorem E_sha_Sum (x0 : Value) (w : World) (R : Ending → World → Prop) : cwp Try.prog A_sha_Sum (Try.f14.body.getD .skip) (retPost Try.prog Try.f14.results.toList R) (argE [x0]) w = F_sha_Sum x0 w R := by kernel_rfl
theorem C_sha_Sum {x0 : Value} {w : World} {R : Ending → World → Prop} (h : F_sha_Sum x0 w R) : Calls Try.prog 14 #[x0] w R :=
  calls_cwp (A := A_sha_Sum) (args := [x0]) mixed Try.func14 (c := Try.f14.body.getD .skip) (by kernel_rfl) (by kernel_rfl) (by kernel_rfl) ((E_sha_Sum x0 w R).mpr h)

/-- bevy/bevyref02.Sum -/
def F_bevyref02_Sum (x0 : Value) (w : World) (R : Ending → World → Prop) : Prop :=
  m R (o_alloc 22) w fun x2 w1 =>
  m R (o_build 58 [(0, (.int .u32 1116352408)), (1, (.int .u32 1899447441)), (2, (.int .u32 3049323471)), (3, (.int .u32 3921009573)), (4, (.int .u32 961987163)), (5, (.int .u32 1508970993)), (6, (.int .u32 2453635748)), (7, (.int .u32 2870763221)), (8, (.int .u32 3624381080)), (9, (.int .u32 310598401)), (10, (.int .u32 607225278)), (11, (.int .u32 1426881987)), (12, (.int .u32 1925078388)), (13, (.int .u32 2162078206)), (14, (.int .u32 2614888103)), (15, (.int .u32 3248222580)), (16, (.int .u32 3835390401)), (17, (.int .u32 4022224774)), (18, (.int .u32 264347078)), (19, (.int .u32 604807628)), (20, (.int .u32 770255983)), (21, (.int .u32 1249150122)), (22, (.int .u32 1555081692)), (23, (.int .u32 1996064986)), (24, (.int .u32 2554220882)), (25, (.int .u32 2821834349)), (26, (.int .u32 2952996808)), (27, (.int .u32 3210313671)), (28, (.int .u32 3336571891)), (29, (.int .u32 3584528711)), (30, (.int .u32 113926993)), (31, (.int .u32 338241895)), (32, (.int .u32 666307205)), (33, (.int .u32 773529912)), (34, (.int .u32 1294757372)), (35, (.int .u32 1396182291)), (36, (.int .u32 1695183700)), (37, (.int .u32 1986661051)), (38, (.int .u32 2177026350)), (39, (.int .u32 2456956037)), (40, (.int .u32 2730485921)), (41, (.int .u32 2820302411)), (42, (.int .u32 3259730800)), (43, (.int .u32 3345764771)), (44, (.int .u32 3516065817)), (45, (.int .u32 3600352804)), (46, (.int .u32 4094571909)), (47, (.int .u32 275423344)), (48, (.int .u32 430227734)), (49, (.int .u32 506948616)), (50, (.int .u32 659060556)), (51, (.int .u32 883997877)), (52, (.int .u32 958139571)), (53, (.int .u32 1322822218)), (54, (.int .u32 1537002063)), (55, (.int .u32 1747873779)), (56, (.int .u32 1955562222)), (57, (.int .u32 2024104815)), (58, (.int .u32 2227730452)), (59, (.int .u32 2361852424)), (60, (.int .u32 2428436474)), (61, (.int .u32 2756734187)), (62, (.int .u32 3204031479)), (63, (.int .u32 3329325298))]) w1 fun x23 w2 =>
  m R (o_alloc 58) w2 fun x3 w3 =>
  m R (o_store 58 x3 x23) w3 fun _ w4 =>
  m R (o_conv 9 50 x0) w4 fun x25 w5 =>
  m R (o_buildSlice 50 1 [(0, (.int .u8 128))]) w5 fun x27 w6 =>
  m R (o_builtin .append #[50, 50] 50 [false, false] [x25, x27]) w6 fun x28 w7 =>
  ml1 x28 w7 fun x4 u4 w8 next4 =>
    m R (o_builtin .len #[50] 3 [false] [x4]) w8 fun x30 w9 =>
    m R (o_bin .rem 3 true x30 (.int .i64 64)) w9 fun x31 w10 =>
    m R (o_bin .neq 3 true x31 (.int .i64 56)) w10 fun x32 w11 =>
    mif x32 (
      m R (o_buildSlice 50 1 [(0, (.int .u8 0))]) w11 fun x34 w12 =>
      m R (o_builtin .append #[50, 50] 50 [false, false] [x4, x34]) w12 fun x35 w13 =>
      next4 x35 w13) (
      m R (o_builtin .len #[9] 3 [false] [x0]) w11 fun x37 w14 =>
      m R (o_conv 3 65 x37) w14 fun x38 w15 =>
      m R (o_bin .mul 65 true x38 (.int .u64 8)) w15 fun x39 w16 =>
      ml2 x4 (.int .i64 0) w16 fun x4 x6 u8 w17 next8 =>
        m R (o_bin .lss 3 true x6 (.int .i64 8)) w17 fun x41 w18 =>
        mif x41 (
          m R (o_bin .mul 3 true (.int .i64 8) x6) w18 fun x47 w19 =>
          m R (o_bin .sub 3 true (.int .i64 56) x47) w19 fun x48 w20 =>
          m R (o_conv 3 49 x48) w20 fun x49 w21 =>
          m R (o_bin .shr 65 false x39 x49) w21 fun x50 w22 =>
          m R (o_conv 65 5 x50) w22 fun x51 w23 =>
          m R (o_buildSlice 50 1 [(0, x51)]) w23 fun x52 w24 =>
          m R (o_builtin .append #[50, 50] 50 [false, false] [x4, x52]) w24 fun x53 w25 =>
          m R (o_bin .add 3 true x6 (.int .i64 1)) w25 fun x43 w26 =>
          next8 x53 x43 w26) (
          m R (o_build 57 [(0, (.int .u32 1779033703)), (1, (.int .u32 3144134277)), (2, (.int .u32 1013904242)), (3, (.int .u32 2773480762)), (4, (.int .u32 1359893119)), (5, (.int .u32 2600822924)), (6, (.int .u32 528734635)), (7, (.int .u32 1541459225))]) w18 fun x54 w27 =>
          m R (o_alloc 57) w27 fun x7 w28 =>
          m R (o_store 57 x7 x54) w28 fun _ w29 =>
          ml1 (.int .i64 0) w29 fun x8 u13 w30 next13 =>
            m R (o_builtin .len #[50] 3 [false] [x4]) w30 fun x57 w31 =>
            m R (o_bin .lss 3 false x8 x57) w31 fun x58 w32 =>
            mif x58 (
              m R (o_alloc 58) w32 fun x9 w33 =>
              ml1 (.int .i64 0) w33 fun x10 u17 w34 next17 =>
                m R (o_bin .lss 3 true x10 (.int .i64 16)) w34 fun x62 w35 =>
                mif x62 (
                  m R (o_bin .mul 3 true (.int .i64 4) x10) w35 fun x69 w36 =>
                  m R (o_bin .add 3 false x8 x69) w36 fun x70 w37 =>
                  m R (o_call (fv 34) [x4, x70]) w37 fun x71 w38 =>
                  m R (o_indexAddr 58 x9 x10) w38 fun x72 w39 =>
                  m R (o_store 56 x72 x71) w39 fun _ w40 =>
                  m R (o_bin .add 3 true x10 (.int .i64 1)) w40 fun x64 w41 =>
                  next17 x64 w41) (
                  ml1 (.int .i64 16) w35 fun x11 u21 w42 next21 =>
                    m R (o_bin .lss 3 true x11 (.int .i64 64)) w42 fun x74 w43 =>
                    mif x74 (
                      m R (o_bin .sub 3 true x11 (.int .i64 15)) w43 fun x78 w44 =>
                      m R (o_indexAddr 58 x9 x78) w44 fun x79 w45 =>
                      m R (o_load 56 x79) w45 fun x80 w46 =>
                      m R (o_bin .sub 3 true x11 (.int .i64 2)) w46 fun x82 w47 =>
                      m R (o_indexAddr 58 x9 x82) w47 fun x83 w48 =>
                      m R (o_load 56 x83) w48 fun x84 w49 =>
                      dp Try.prog (o_bin .sub 3 true x11 (.int .i64 16)) fun x87 =>
                      dp Try.prog (o_indexAddr 58 x9 x87) fun x88 =>
                      dq Try.prog w49 (o_load 56 x88) fun x89 =>
                      dp Try.prog (o_bin .sub 3 true x11 (.int .i64 7)) fun x91 =>
                      dp Try.prog (o_indexAddr 58 x9 x91) fun x92 =>
                      dq Try.prog w49 (o_load 56 x92) fun x93 =>
                      dp Try.prog (o_bin .add 56 false x89 x93) fun x94 =>
                      df Try.prog w49 (o_call (fv 35) [x80, (.int .u64 7)]) true fun x96 w50 =>
                      df Try.prog w50 (o_call (fv 35) [x80, (.int .u64 18)]) true fun x98 w51 =>
                      dp Try.prog (o_bin .xor 56 false x96 x98) fun x99 =>
                      dp Try.prog (o_bin .shr 56 true x80 (.int .u64 3)) fun x101 =>
                      dp Try.prog (o_bin .xor 56 false x99 x101) fun x102 =>
                      dp Try.prog (o_bin .add 56 false x94 x102) fun x103 =>
                      df Try.prog w51 (o_call (fv 35) [x84, (.int .u64 17)]) true fun x105 w52 =>
                      df Try.prog w52 (o_call (fv 35) [x84, (.int .u64 19)]) true fun x107 w53 =>
                      dp Try.prog (o_bin .xor 56 false x105 x107) fun x108 =>
                      dp Try.prog (o_bin .shr 56 true x84 (.int .u64 10)) fun x110 =>
                      dp Try.prog (o_bin .xor 56 false x108 x110) fun x111 =>
                      dp Try.prog (o_bin .add 56 false x103 x111) fun x112 =>
                      dp Try.prog (o_indexAddr 58 x9 x11) fun x113 =>
                      df Try.prog w53 (o_store 56 x113 x112) false fun _ w54 =>
                      dend w54 fun w55 =>
                      m R (o_bin .add 3 true x11 (.int .i64 1)) w55 fun x76 w56 =>
                      next21 x76 w56) (
                      m R (o_load 57 x7) w43 fun x114 w57 =>
                      m R (o_alloc 57) w57 fun x14 w58 =>
                      m R (o_store 57 x14 x114) w58 fun _ w59 =>
                      ml1 (.int .i64 0) w59 fun x15 u28 w60 next28 =>
                        m R (o_bin .lss 3 true x15 (.int .i64 64)) w60 fun x116 w61 =>
                        mif x116 (
                          m R (o_indexAddr 57 x14 (.int .i64 4)) w61 fun x119 w62 =>
                          m R (o_load 56 x119) w62 fun x120 w63 =>
                          m R (o_indexAddr 57 x14 (.int .i64 0)) w63 fun x121 w64 =>
                          m R (o_load 56 x121) w64 fun x122 w65 =>
                          dp Try.prog (o_indexAddr 57 x14 (.int .i64 7)) fun x123 =>
                          dq Try.prog w65 (o_load 56 x123) fun x124 =>
                          df Try.prog w65 (o_call (fv 35) [x120, (.int .u64 6)]) true fun x126 w66 =>
                          df Try.prog w66 (o_call (fv 35) [x120, (.int .u64 11)]) true fun x128 w67 =>
                          dp Try.prog (o_bin .xor 56 false x126 x128) fun x129 =>
                          df Try.prog w67 (o_call (fv 35) [x120, (.int .u64 25)]) true fun x131 w68 =>
                          dp Try.prog (o_bin .xor 56 false x129 x131) fun x132 =>
                          dp Try.prog (o_bin .add 56 false x124 x132) fun x133 =>
                          dp Try.prog (o_indexAddr 57 x14 (.int .i64 5)) fun x135 =>
                          dq Try.prog w65 (o_load 56 x135) fun x136 =>
                          dp Try.prog (o_bin .and 56 false x120 x136) fun x137 =>
                          dp Try.prog (o_un .xor x120) fun x139 =>
                          dp Try.prog (o_indexAddr 57 x14 (.int .i64 6)) fun x140 =>
                          dq Try.prog w65 (o_load 56 x140) fun x141 =>
                          dp Try.prog (o_bin .and 56 false x139 x141) fun x142 =>
                          dp Try.prog (o_bin .xor 56 false x137 x142) fun x143 =>
                          dp Try.prog (o_bin .add 56 false x133 x143) fun x144 =>
                          dp Try.prog (o_indexAddr 58 x3 x15) fun x146 =>
                          dq Try.prog w65 (o_load 56 x146) fun x147 =>
                          dp Try.prog (o_bin .add 56 false x144 x147) fun x148 =>
                          dp Try.prog (o_indexAddr 58 x9 x15) fun x150 =>
                          dq Try.prog w65 (o_load 56 x150) fun x151 =>
                          dp Try.prog (o_bin .add 56 false x148 x151) fun x152 =>
                          dend w68 fun w69 =>
                          df Try.prog w69 (o_call (fv 35) [x122, (.int .u64 2)]) true fun x154 w70 =>
                          df Try.prog w70 (o_call (fv 35) [x122, (.int .u64 13)]) true fun x156 w71 =>
                          dp Try.prog (o_bin .xor 56 false x154 x156) fun x157 =>
                          df Try.prog w71 (o_call (fv 35) [x122, (.int .u64 22)]) true fun x159 w72 =>
                          dp Try.prog (o_bin .xor 56 false x157 x159) fun x160 =>
                          dp Try.prog (o_indexAddr 57 x14 (.int .i64 1)) fun x162 =>
                          dq Try.prog w69 (o_load 56 x162) fun x163 =>
                          dp Try.prog (o_bin .and 56 false x122 x163) fun x164 =>
                          dp Try.prog (o_indexAddr 57 x14 (.int .i64 2)) fun x166 =>
                          dq Try.prog w69 (o_load 56 x166) fun x167 =>
                          dp Try.prog (o_bin .and 56 false x122 x167) fun x168 =>
                          dp Try.prog (o_bin .xor 56 false x164 x168) fun x169 =>
                          dp Try.prog (o_indexAddr 57 x14 (.int .i64 1)) fun x170 =>
                          dq Try.prog w69 (o_load 56 x170) fun x171 =>
                          dp Try.prog (o_indexAddr 57 x14 (.int .i64 2)) fun x172 =>
                          dq Try.prog w69 (o_load 56 x172) fun x173 =>
                          dp Try.prog (o_bin .and 56 false x171 x173) fun x174 =>
                          dp Try.prog (o_bin .xor 56 false x169 x174) fun x175 =>
                          dp Try.prog (o_bin .add 56 false x160 x175) fun x176 =>
                          dend w72 fun w73 =>
                          m R (o_bin .add 56 false x152 x176) w73 fun x179 w74 =>
                          m R (o_indexAddr 57 x14 (.int .i64 0)) w74 fun x180 w75 =>
                          m R (o_load 56 x180) w75 fun x181 w76 =>
                          m R (o_indexAddr 57 x14 (.int .i64 1)) w76 fun x182 w77 =>
                          m R (o_load 56 x182) w77 fun x183 w78 =>
                          m R (o_indexAddr 57 x14 (.int .i64 2)) w78 fun x184 w79 =>
                          m R (o_load 56 x184) w79 fun x185 w80 =>
                          m R (o_indexAddr 57 x14 (.int .i64 3)) w80 fun x186 w81 =>
                          m R (o_load 56 x186) w81 fun x187 w82 =>
                          m R (o_bin .add 56 false x187 x152) w82 fun x189 w83 =>
                          m R (o_indexAddr 57 x14 (.int .i64 4)) w83 fun x190 w84 =>
                          m R (o_load 56 x190) w84 fun x191 w85 =>
                          m R (o_indexAddr 57 x14 (.int .i64 5)) w85 fun x192 w86 =>
                          m R (o_load 56 x192) w86 fun x193 w87 =>
                          m R (o_indexAddr 57 x14 (.int .i64 6)) w87 fun x194 w88 =>
                          m R (o_load 56 x194) w88 fun x195 w89 =>
                          m R (o_build 57 [(0, x179), (1, x181), (2, x183), (3, x185), (4, x189), (5, x191), (6, x193), (7, x195)]) w89 fun x196 w90 =>
                          m R (o_store 57 x14 x196) w90 fun _ w91 =>
                          m R (o_bin .add 3 true x15 (.int .i64 1)) w91 fun x118 w92 =>
                          next28 x118 w92) (
                          ml1 (.int .i64 0) w61 fun x20 u36 w93 next36 =>
                            m R (o_bin .lss 3 true x20 (.int .i64 8)) w93 fun x198 w94 =>
                            mif x198 (
                              dp Try.prog (o_indexAddr 57 x7 x20) fun x203 =>
                              dq Try.prog w94 (o_load 56 x203) fun x204 =>
                              dp Try.prog (o_indexAddr 57 x14 x20) fun x206 =>
                              dq Try.prog w94 (o_load 56 x206) fun x207 =>
                              dp Try.prog (o_bin .add 56 false x204 x207) fun x208 =>
                              dp Try.prog (o_indexAddr 57 x7 x20) fun x209 =>
                              df Try.prog w94 (o_store 56 x209 x208) false fun _ w95 =>
                              dend w95 fun w96 =>
                              m R (o_bin .add 3 true x20 (.int .i64 1)) w96 fun x200 w97 =>
                              next36 x200 w97) (
                              m R (o_bin .add 3 true x8 (.int .i64 64)) w94 fun x60 w98 =>
                              next13 x60 w98))))) (
              m R (o_alloc 22) w32 fun x21 w99 =>
              ml1 (.int .i64 0) w99 fun x22 u41 w100 next41 =>
                m R (o_bin .lss 3 true x22 (.int .i64 32)) w100 fun x211 w101 =>
                mif x211 (
                  m R (o_bin .quo 3 true x22 (.int .i64 4)) w101 fun x216 w102 =>
                  m R (o_indexAddr 57 x7 x216) w102 fun x217 w103 =>
                  m R (o_load 56 x217) w103 fun x218 w104 =>
                  m R (o_bin .rem 3 true x22 (.int .i64 4)) w104 fun x220 w105 =>
                  m R (o_bin .mul 3 true (.int .i64 8) x220) w105 fun x221 w106 =>
                  m R (o_bin .sub 3 true (.int .i64 24) x221) w106 fun x222 w107 =>
                  m R (o_conv 3 49 x222) w107 fun x223 w108 =>
                  m R (o_bin .shr 56 false x218 x223) w108 fun x224 w109 =>
                  m R (o_conv 56 5 x224) w109 fun x225 w110 =>
                  m R (o_indexAddr 22 x21 x22) w110 fun x226 w111 =>
                  m R (o_store 5 x226 x225) w111 fun _ w112 =>
                  m R (o_bin .add 3 true x22 (.int .i64 1)) w112 fun x213 w113 =>
                  next41 x213 w113) (
                  m R (o_load 22 x21) w101 fun x227 w114 =>
                  m R (o_store 22 x2 x227) w114 fun _ w115 =>
                  rcell Try.prog 22 x2 w115 fun r2 =>
                  R (.returned r2) w115))))
def A_bevyref02_Sum : Ann := ⟨[(4, [4], 68182605840), (8, [4, 6], 18013298997854288), (13, [8], 1645504557321206042154969182557350504982735865597551066331741952), (17, [10], 9442427122730076734464), (21, [11], 20769187434129865781156246026467328), (28, [15], 200867255532373784442745220004270457036654345978878471667712), (36, [20], 1645303690065673668370526437295807859657420590259357014245244928), (41, [22], 215677927832647797151293965726974488038592172644458946268965537579008)], [], [(25, [⟨0, .q none, 2048, 0, 38685626227668133590597632⟩, ⟨1, .q none, 2048, 0, 77371252455336267181195264⟩, ⟨2, .q none, 77371252455336267181195264, 2, 154742504910672534362390528⟩, ⟨3, .q none, 154742504910672534362391040, 6, 309485009821345068724781056⟩, ⟨4, .q (some 0), 309485009821345068724781056, 14, 618970019642690137449562112⟩, ⟨5, .q none, 2048, 0, 1237940039285380274899124224⟩, ⟨6, .q none, 1237940039285380274899124224, 32, 2475880078570760549798248448⟩, ⟨7, .q none, 2475880078570760549798248960, 96, 4951760157141521099596496896⟩, ⟨8, .q (some 0), 4951760157141521099596496896, 224, 9903520314283042199192993792⟩, ⟨9, .q none, 10522490333925732336642555904, 510, 19807040628566084398385987584⟩, ⟨10, .q none, 4096, 0, 39614081257132168796771975168⟩, ⟨11, .f 0 true, 39614081257132168796771975168, 1024, 79228162514264337593543950336⟩, ⟨12, .q none, 4096, 0, 158456325028528675187087900672⟩, ⟨13, .f 1 true, 158456325028528675187087900672, 7168, 316912650057057350374175801344⟩, ⟨14, .q none, 396140812571321687967719751680, 15360, 633825300114114700748351602688⟩, ⟨15, .q none, 4096, 0, 1267650600228229401496703205376⟩, ⟨16, .q none, 1267650600228229401496703205376, 32768, 2535301200456458802993406410752⟩, ⟨17, .q none, 3169126500570573503741758013440, 130048, 5070602400912917605986812821504⟩, ⟨18, .q none, 5090409441541483690385198809088, 262142, 10141204801825835211973625643008⟩, ⟨19, .q none, 8192, 0, 20282409603651670423947251286016⟩, ⟨20, .f 2 true, 20282409603651670423947251286016, 539648, 40564819207303340847894502572032⟩, ⟨21, .q none, 8192, 0, 81129638414606681695789005144064⟩, ⟨22, .f 3 true, 81129638414606681695789005144064, 3685376, 162259276829213363391578010288128⟩, ⟨23, .q none, 202824096036516704239472512860160, 7879680, 324518553658426726783156020576256⟩, ⟨24, .q none, 8192, 0, 649037107316853453566312041152512⟩, ⟨25, .q none, 649037107316853453566312041152512, 16777216, 1298074214633706907132624082305024⟩, ⟨26, .q none, 1622592768292133633915780102881280, 66599936, 2596148429267413814265248164610048⟩, ⟨27, .q none, 2606289634069239649477221790253056, 134217726, 5192296858534827628530496329220096⟩, ⟨28, .q none, 38685626227668133590598144, 268435455, 10384593717069655257060992658440192⟩, ⟨29, .f 4 false, 15576890575604482885591488987660288, 536870911, 0⟩]), (32, [⟨0, .q none, 16384, 0, 10633823966279326983230456482242756608⟩, ⟨1, .q (some 0), 10633823966279326983230456482242756608, 1, 21267647932558653966460912964485513216⟩, ⟨2, .q none, 65536, 0, 42535295865117307932921825928971026432⟩, ⟨3, .f 0 true, 42535295865117307932921825928971026432, 4, 85070591730234615865843651857942052864⟩, ⟨4, .q none, 65536, 0, 170141183460469231731687303715884105728⟩, ⟨5, .f 1 true, 170141183460469231731687303715884105728, 28, 340282366920938463463374607431768211456⟩, ⟨6, .q none, 425352958651173079329218259289710264320, 60, 680564733841876926926749214863536422912⟩, ⟨7, .q none, 65536, 0, 1361129467683753853853498429727072845824⟩, ⟨8, .f 2 true, 1361129467683753853853498429727072845824, 188, 2722258935367507707706996859454145691648⟩, ⟨9, .q none, 3402823669209384634633746074317682114560, 508, 5444517870735015415413993718908291383296⟩, ⟨10, .q none, 5465785518667574069380454631872776896512, 1023, 10889035741470030830827987437816582766592⟩, ⟨11, .q none, 65536, 0, 21778071482940061661655974875633165533184⟩, ⟨12, .q none, 16384, 0, 43556142965880123323311949751266331066368⟩, ⟨13, .q (some 0), 43556142965880123323311949751266331066368, 4096, 87112285931760246646623899502532662132736⟩, ⟨14, .q none, 108890357414700308308279874378165827665920, 14336, 174224571863520493293247799005065324265472⟩, ⟨15, .q none, 65536, 0, 348449143727040986586495598010130648530944⟩, ⟨16, .q none, 348449143727040986586495598010130648530944, 32768, 696898287454081973172991196020261297061888⟩, ⟨17, .q none, 16384, 0, 1393796574908163946345982392040522594123776⟩, ⟨18, .q (some 0), 1393796574908163946345982392040522594123776, 131072, 2787593149816327892691964784081045188247552⟩, ⟨19, .q none, 3484491437270409865864955980101306485309440, 491520, 5575186299632655785383929568162090376495104⟩, ⟨20, .q none, 5749410871496176278677177367167155700760576, 1046528, 11150372599265311570767859136324180752990208⟩, ⟨21, .q none, 11161261635006781601598687123761997335756800, 2097151, 22300745198530623141535718272648361505980416⟩, ⟨22, .q none, 32768, 0, 44601490397061246283071436545296723011960832⟩, ⟨23, .q none, 44601490397061246283071436545296723011960840, 4194304, 89202980794122492566142873090593446023921664⟩, ⟨24, .q (some 0), 89202980794122492566142873090593446023921664, 12582912, 178405961588244985132285746181186892047843328⟩, ⟨25, .q none, 200706706786775608273821464453835253553823744, 33554431, 356811923176489970264571492362373784095686656⟩, ⟨26, .q none, 32768, 0, 713623846352979940529142984724747568191373312⟩, ⟨27, .q none, 713623846352979940529142984724747568191373824, 67108864, 1427247692705959881058285969449495136382746624⟩, ⟨28, .q (some 0), 1427247692705959881058285969449495136382746624, 201326592, 2854495385411919762116571938898990272765493248⟩, ⟨29, .q none, 3211307308588409732381143431261364056861179904, 536870911, 5708990770823839524233143877797980545530986496⟩, ⟨30, .q none, 5708990770823839524233143877797980545530986496, 1073741823, 262144⟩]), (33, [⟨0, .q none, 131072, 0, 11417981541647679048466287755595961091061972992⟩, ⟨1, .f 0 true, 11417981541647679048466287755595961091061972992, 1, 22835963083295358096932575511191922182123945984⟩, ⟨2, .q none, 131072, 0, 45671926166590716193865151022383844364247891968⟩, ⟨3, .f 1 true, 45671926166590716193865151022383844364247891968, 7, 91343852333181432387730302044767688728495783936⟩, ⟨4, .q none, 114179815416476790484662877555959610910619729920, 15, 182687704666362864775460604089535377456991567872⟩, ⟨5, .q none, 131072, 0, 365375409332725729550921208179070754913983135744⟩, ⟨6, .f 2 true, 365375409332725729550921208179070754913983135744, 47, 730750818665451459101842416358141509827966271488⟩, ⟨7, .q none, 913438523331814323877303020447676887284957839360, 127, 1461501637330902918203684832716283019655932542976⟩, ⟨8, .q none, 131072, 0, 2923003274661805836407369665432566039311865085952⟩, ⟨9, .q none, 16384, 0, 5846006549323611672814739330865132078623730171904⟩, ⟨10, .q (some 0), 5846006549323611672814739330865132078623730171904, 512, 11692013098647223345629478661730264157247460343808⟩, ⟨11, .q none, 14615016373309029182036848327162830196559325429760, 1792, 23384026197294446691258957323460528314494920687616⟩, ⟨12, .q none, 131072, 0, 46768052394588893382517914646921056628989841375232⟩, ⟨13, .q none, 16384, 0, 93536104789177786765035829293842113257979682750464⟩, ⟨14, .q (some 0), 93536104789177786765035829293842113257979682750464, 8192, 187072209578355573530071658587684226515959365500928⟩, ⟨15, .q none, 233840261972944466912589573234605283144949206876160, 28672, 374144419156711147060143317175368453031918731001856⟩, ⟨16, .q none, 397528445354005593751402274498828981346413651689472, 65280, 748288838313422294120286634350736906063837462003712⟩, ⟨17, .q none, 16384, 0, 1496577676626844588240573268701473812127674924007424⟩, ⟨18, .q (some 0), 1496577676626844588240573268701473812127674924007424, 131072, 2993155353253689176481146537402947624255349848014848⟩, ⟨19, .q none, 16384, 0, 5986310706507378352962293074805895248510699696029696⟩, ⟨20, .q (some 0), 5986310706507378352962293074805895248510699696029696, 524288, 11972621413014756705924586149611790497021399392059392⟩, ⟨21, .q none, 14965776766268445882405732687014738121276749240074240, 1966080, 23945242826029513411849172299223580994042798784118784⟩, ⟨22, .q none, 24693531664342935705969458933574317900106636246122496, 4194048, 47890485652059026823698344598447161988085597568237568⟩, ⟨23, .q none, 47891947153696357726616548283279878271105253500780544, 8388607, 95780971304118053647396689196894323976171195136475136⟩, ⟨24, .q none, 95780971304118053647396689196894323976171195136475136, 16777215, 524288⟩]), (38, [⟨0, .q none, 1048576, 0, 3213876088517980551083924184682325205044405987565585670602752⟩, ⟨1, .q none, 1048576, 0, 6427752177035961102167848369364650410088811975131171341205504⟩, ⟨2, .q none, 6427752177035961102167848369364650410088811975131171341205632, 2, 12855504354071922204335696738729300820177623950262342682411008⟩, ⟨3, .q (some 0), 12855504354071922204335696738729300820177623950262342682411008, 6, 25711008708143844408671393477458601640355247900524685364822016⟩, ⟨4, .q none, 1048576, 0, 51422017416287688817342786954917203280710495801049370729644032⟩, ⟨5, .q none, 51422017416287688817342786954917203280710495801049370729660416, 16, 102844034832575377634685573909834406561420991602098741459288064⟩, ⟨6, .q (some 0), 102844034832575377634685573909834406561420991602098741459288064, 48, 205688069665150755269371147819668813122841983204197482918576128⟩, ⟨7, .q none, 231399078373294599678042541297127414763197231104722168283398144, 126, 411376139330301510538742295639337626245683966408394965837152256⟩, ⟨8, .q none, 3213876088517980551083924184682325205044405987565585670602880, 255, 822752278660603021077484591278675252491367932816789931674304512⟩, ⟨9, .f 0 false, 1234128417990904531616226886918012878737051899225184897511456768, 511, 0⟩])], [], []⟩
theorem E_bevyref02_Sum (x0 : Value) (w : World) (R : Ending → World → Prop) : cwp Try.prog A_bevyref02_Sum (Try.f15.body.getD .skip) (retPost Try.prog Try.f15.results.toList R) (argE [x0]) w = F_bevyref02_Sum x0 w R := by kernel_rfl
theorem C_bevyref02_Sum {x0 : Value} {w : World} {R : Ending → World → Prop} (h : F_bevyref02_Sum x0 w R) : Calls Try.prog 15 #[x0] w R :=
  calls_cwp (A := A_bevyref02_Sum) (args := [x0]) mixed Try.func15 (c := Try.f15.body.getD .skip) (by kernel_rfl) (by kernel_rfl) (by kernel_rfl) ((E_bevyref02_Sum x0 w R).mpr h)

/-- bevy/bevylaw02.awake -/
def F_bevylaw02_awake (w : World) (R : Ending → World → Prop) : Prop :=
  m R (o_buildSlice 27 1 [(0, (.string (ByteArray.mk #[97, 98, 99])))]) w fun x1 w1 =>
  m R (o_call (fv 14) [x1]) w1 fun x2 w2 =>
  m R (o_call (fv 17) [x2]) w2 fun x3 w3 =>
  m R (o_bin .eql 9 true x3 (.string (ByteArray.mk #[98, 97, 55, 56, 49, 54, 98, 102, 56, 102, 48, 49, 99, 102, 101, 97, 52, 49, 52, 49, 52, 48, 100, 101, 53, 100, 97, 101, 50, 50, 50, 51, 98, 48, 48, 51, 54, 49, 97, 51, 57, 54, 49, 55, 55, 97, 57, 99, 98, 52, 49, 48, 102, 102, 54, 49, 102, 50, 48, 48, 49, 53, 97, 100]))) w3 fun x4 w4 =>
  R (.returned x4) w4
def A_bevylaw02_awake : Ann := ⟨[], [], [], [], []⟩
theorem E_bevylaw02_awake (w : World) (R : Ending → World → Prop) : cwp Try.prog A_bevylaw02_awake (Try.f16.body.getD .skip) (retPost Try.prog Try.f16.results.toList R) (argE []) w = F_bevylaw02_awake w R := by kernel_rfl
theorem C_bevylaw02_awake {w : World} {R : Ending → World → Prop} (h : F_bevylaw02_awake w R) : Calls Try.prog 16 #[] w R :=
  calls_cwp (A := A_bevylaw02_awake) (args := []) mixed Try.func16 (c := Try.f16.body.getD .skip) (by kernel_rfl) (by kernel_rfl) (by kernel_rfl) ((E_bevylaw02_awake w R).mpr h)

/-- bevy/sha.Hex -/
def F_sha_Hex (x0 : Value) (w : World) (R : Ending → World → Prop) : Prop :=
  m R (o_box 23 x0) w fun x1 w1 =>
  m R (o_load 23 x1) w1 fun x6 w2 =>
  ml2 (.slice none 0 0) (.int .i64 0) w2 fun x3 x7 u3 w3 next3 =>
    m R (o_bin .lss 3 true x7 (.int .i64 32)) w3 fun x8 w4 =>
    mif x8 (
      m R (o_index 23 x6 x7) w4 fun x9 w5 =>
      dp Try.prog (o_bin .shr 5 true x9 (.int .u64 4)) fun x12 =>
      dp Try.prog (o_index 9 (.string (ByteArray.mk #[48, 49, 50, 51, 52, 53, 54, 55, 56, 57, 97, 98, 99, 100, 101, 102])) x12) fun x13 =>
      dp Try.prog (o_bin .and 5 true x9 (.int .u8 15)) fun x15 =>
      dp Try.prog (o_index 9 (.string (ByteArray.mk #[48, 49, 50, 51, 52, 53, 54, 55, 56, 57, 97, 98, 99, 100, 101, 102])) x15) fun x16 =>
      df Try.prog w5 (o_buildSlice 50 2 [(0, x13), (1, x16)]) false fun x17 w6 =>
      df Try.prog w6 (o_builtin .append #[50, 50] 50 [false, false] [x3, x17]) false fun x18 w7 =>
      dend w7 fun w8 =>
      m R (o_bin .add 3 true x7 (.int .i64 1)) w8 fun x19 w9 =>
      next3 x18 x19 w9) (
      m R (o_conv 50 9 x3) w4 fun x21 w10 =>
      R (.returned x21) w10)
def A_sha_Hex : Ann := ⟨[(3, [3, 7], 1048488)], [], [(5, [⟨0, .q none, 8, 0, 1024⟩, ⟨1, .q none, 32, 0, 2048⟩, ⟨2, .q none, 2048, 2, 4096⟩, ⟨3, .q none, 4096, 6, 8192⟩, ⟨4, .q none, 32, 0, 16384⟩, ⟨5, .q none, 16384, 16, 32768⟩, ⟨6, .q none, 32768, 48, 65536⟩, ⟨7, .f 0 false, 73728, 126, 131072⟩, ⟨8, .f 1 false, 132096, 255, 262144⟩, ⟨9, .q none, 262144, 511, 8⟩])], [], []⟩
theorem E_sha_Hex (x0 : Value) (w : World) (R : Ending → World → Prop) : cwp Try.prog A_sha_Hex (Try.f17.body.getD .skip) (retPost Try.prog Try.f17.results.toList R) (argE [x0]) w = F_sha_Hex x0 w R := by kernel_rfl
theorem C_sha_Hex {x0 : Value} {w : World} {R : Ending → World → Prop} (h : F_sha_Hex x0 w R) : Calls Try.prog 17 #[x0] w R :=
  calls_cwp (A := A_sha_Hex) (args := [x0]) mixed Try.func17 (c := Try.f17.body.getD .skip) (by kernel_rfl) (by kernel_rfl) (by kernel_rfl) ((E_sha_Hex x0 w R).mpr h)

/-- bevy/bevyref02.Hex -/
def F_bevyref02_Hex (x0 : Value) (w : World) (R : Ending → World → Prop) : Prop :=
  m R (o_box 22 x0) w fun x1 w1 =>
  ml2 (.string (ByteArray.mk #[])) (.int .i64 0) w1 fun x3 x4 u3 w2 next3 =>
    m R (o_bin .lss 3 true x4 (.int .i64 32)) w2 fun x8 w3 =>
    mif x8 (
      ml2 x3 (.int .i64 0) w3 fun x3 x5 u6 w4 next6 =>
        m R (o_bin .lss 3 true x5 (.int .i64 2)) w4 fun x12 w5 =>
        mif x12 (
          mj1 (fun j7 =>
            m R (o_indexAddr 22 x1 x4) w5 fun x16 w6 =>
            m R (o_load 5 x16) w6 fun x17 w7 =>
            m R (o_bin .quo 5 true x17 (.int .u8 16)) w7 fun x18 w8 =>
            mj1 (fun j11 =>
              m R (o_bin .eql 3 true x5 (.int .i64 1)) w8 fun x20 w9 =>
              mif x20 (
                m R (o_indexAddr 22 x1 x4) w9 fun x22 w10 =>
                m R (o_load 5 x22) w10 fun x23 w11 =>
                m R (o_bin .rem 5 true x23 (.int .u8 16)) w11 fun x24 w12 =>
                j11 x24 w12) (
                j11 x18 w9)) fun x6 u11 w13 =>
            m R (o_bin .lss 5 true x6 (.int .u8 10)) w13 fun x26 w14 =>
            mif x26 (
              m R (o_bin .add 5 true (.int .u8 48) x6) w14 fun x29 w15 =>
              m R (o_buildSlice 50 1 [(0, x29)]) w15 fun x30 w16 =>
              m R (o_conv 50 9 x30) w16 fun x31 w17 =>
              m R (o_bin .add 9 false x3 x31) w17 fun x32 w18 =>
              j7 x32 w18) (
              m R (o_bin .add 5 true (.int .u8 97) x6) w14 fun x35 w19 =>
              m R (o_bin .sub 5 true x35 (.int .u8 10)) w19 fun x36 w20 =>
              m R (o_buildSlice 50 1 [(0, x36)]) w20 fun x37 w21 =>
              m R (o_conv 50 9 x37) w21 fun x38 w22 =>
              m R (o_bin .add 9 false x3 x38) w22 fun x39 w23 =>
              j7 x39 w23)) fun x3 u7 w24 =>
          m R (o_bin .add 3 true x5 (.int .i64 1)) w24 fun x14 w25 =>
          next6 x3 x14 w25) (
          m R (o_bin .add 3 true x4 (.int .i64 1)) w5 fun x10 w26 =>
          next3 x3 x10 w26)) (
      R (.returned x3) w3)
def A_bevyref02_Hex : Ann := ⟨[(3, [3, 4], 1099511627768), (6, [3, 5], 1099511625832)], [(7, [3], 1099511595080), (11, [6], 33030208)], [], [], []⟩
theorem E_bevyref02_Hex (x0 : Value) (w : World) (R : Ending → World → Prop) : cwp Try.prog A_bevyref02_Hex (Try.f18.body.getD .skip) (retPost Try.prog Try.f18.results.toList R) (argE [x0]) w = F_bevyref02_Hex x0 w R := by kernel_rfl
theorem C_bevyref02_Hex {x0 : Value} {w : World} {R : Ending → World → Prop} (h : F_bevyref02_Hex x0 w R) : Calls Try.prog 18 #[x0] w R :=
  calls_cwp (A := A_bevyref02_Hex) (args := [x0]) mixed Try.func18 (c := Try.f18.body.getD .skip) (by kernel_rfl) (by kernel_rfl) (by kernel_rfl) ((E_bevyref02_Hex x0 w R).mpr h)

/-- bevy/sha.Cmp -/
def F_sha_Cmp (x0 x1 : Value) (w : World) (R : Ending → World → Prop) : Prop :=
  m R (o_box 23 x0) w fun x2 w1 =>
  m R (o_box 23 x1) w1 fun x3 w2 =>
  ml1 (.int .i64 0) w2 fun x6 u2 w3 next2 =>
    m R (o_bin .lss 3 true x6 (.int .i64 32)) w3 fun x7 w4 =>
    mif x7 (
      dp Try.prog (o_indexAddr 23 x2 x6) fun x11 =>
      dq Try.prog w4 (o_load 5 x11) fun x12 =>
      dp Try.prog (o_indexAddr 23 x3 x6) fun x14 =>
      dq Try.prog w4 (o_load 5 x14) fun x15 =>
      dp Try.prog (o_bin .lss 5 false x12 x15) fun x16 =>
      dend w4 fun w5 =>
      mif x16 (
        R (.returned (.int .i64 (-1))) w5) (
        dp Try.prog (o_indexAddr 23 x2 x6) fun x19 =>
        dq Try.prog w5 (o_load 5 x19) fun x20 =>
        dp Try.prog (o_indexAddr 23 x3 x6) fun x22 =>
        dq Try.prog w5 (o_load 5 x22) fun x23 =>
        dp Try.prog (o_bin .gtr 5 false x20 x23) fun x24 =>
        dend w5 fun w6 =>
        mif x24 (
          R (.returned (.int .i64 1)) w6) (
          m R (o_bin .add 3 true x6 (.int .i64 1)) w6 fun x25 w7 =>
          next2 x25 w7))) (
      R (.returned (.int .i64 0)) w4)
def A_sha_Cmp : Ann := ⟨[(2, [6], 67108848)], [], [(4, [⟨0, .q none, 32, 0, 1024⟩, ⟨1, .q none, 1028, 1, 2048⟩, ⟨2, .q (some 0), 2048, 3, 4096⟩, ⟨3, .q none, 32, 0, 8192⟩, ⟨4, .q none, 8200, 8, 16384⟩, ⟨5, .q (some 0), 16384, 24, 32768⟩, ⟨6, .q none, 36864, 63, 65536⟩, ⟨7, .q none, 65536, 127, 512⟩]), (6, [⟨0, .q none, 32, 0, 262144⟩, ⟨1, .q none, 262148, 1, 524288⟩, ⟨2, .q (some 0), 524288, 3, 1048576⟩, ⟨3, .q none, 32, 0, 2097152⟩, ⟨4, .q none, 2097160, 8, 4194304⟩, ⟨5, .q (some 0), 4194304, 24, 8388608⟩, ⟨6, .q none, 9437184, 63, 16777216⟩, ⟨7, .q none, 16777216, 127, 131072⟩])], [], []⟩
theorem E_sha_Cmp (x0 x1 : Value) (w : World) (R : Ending → World → Prop) : cwp Try.prog A_sha_Cmp (Try.f19.body.getD .skip) (retPost Try.prog Try.f19.results.toList R) (argE [x0, x1]) w = F_sha_Cmp x0 x1 w R := by kernel_rfl
theorem C_sha_Cmp {x0 x1 : Value} {w : World} {R : Ending → World → Prop} (h : F_sha_Cmp x0 x1 w R) : Calls Try.prog 19 #[x0, x1] w R :=
  calls_cwp (A := A_sha_Cmp) (args := [x0, x1]) mixed Try.func19 (c := Try.f19.body.getD .skip) (by kernel_rfl) (by kernel_rfl) (by kernel_rfl) ((E_sha_Cmp x0 x1 w R).mpr h)

/-- bevy/bevyref02.Less -/
def F_bevyref02_Less (x0 x1 : Value) (w : World) (R : Ending → World → Prop) : Prop :=
  m R (o_box 22 x0) w fun x2 w1 =>
  m R (o_box 22 x1) w1 fun x3 w2 =>
  dp Try.prog (o_slice 22 x2 none none none) fun x5 =>
  dq Try.prog w2 (o_conv 50 9 x5) fun x6 =>
  dp Try.prog (o_slice 22 x3 none none none) fun x7 =>
  dq Try.prog w2 (o_conv 50 9 x7) fun x8 =>
  dp Try.prog (o_bin .lss 9 false x6 x8) fun x9 =>
  dend w2 fun w3 =>
  R (.returned x9) w3
def A_bevyref02_Less : Ann := ⟨[], [], [(1, [⟨0, .q none, 4, 0, 32⟩, ⟨1, .q (some 0), 32, 1, 64⟩, ⟨2, .q none, 8, 0, 128⟩, ⟨3, .q (some 0), 128, 4, 256⟩, ⟨4, .q none, 320, 15, 512⟩, ⟨5, .q none, 512, 31, 16⟩])], [], []⟩
theorem E_bevyref02_Less (x0 x1 : Value) (w : World) (R : Ending → World → Prop) : cwp Try.prog A_bevyref02_Less (Try.f20.body.getD .skip) (retPost Try.prog Try.f20.results.toList R) (argE [x0, x1]) w = F_bevyref02_Less x0 x1 w R := by kernel_rfl
theorem C_bevyref02_Less {x0 x1 : Value} {w : World} {R : Ending → World → Prop} (h : F_bevyref02_Less x0 x1 w R) : Calls Try.prog 20 #[x0, x1] w R :=
  calls_cwp (A := A_bevyref02_Less) (args := [x0, x1]) mixed Try.func20 (c := Try.f20.body.getD .skip) (by kernel_rfl) (by kernel_rfl) (by kernel_rfl) ((E_bevyref02_Less x0 x1 w R).mpr h)

/-- bevy/bevylaw03.awake -/
def F_bevylaw03_awake (w : World) (R : Ending → World → Prop) : Prop :=
  m R (o_buildSlice 27 2 [(0, (.string (ByteArray.mk #[119, 104, 97, 116, 32, 100, 111, 32, 121, 97, 32, 119, 97, 110, 116, 32]))), (1, (.string (ByteArray.mk #[102, 111, 114, 32, 110, 111, 116, 104, 105, 110, 103, 63])))]) w fun x1 w1 =>
  m R (o_call (fv 22) [(.string (ByteArray.mk #[74, 101, 102, 101])), x1]) w1 fun x2 w2 =>
  m R (o_call (fv 17) [x2]) w2 fun x3 w3 =>
  m R (o_bin .eql 9 true x3 (.string (ByteArray.mk #[53, 98, 100, 99, 99, 49, 52, 54, 98, 102, 54, 48, 55, 53, 52, 101, 54, 97, 48, 52, 50, 52, 50, 54, 48, 56, 57, 53, 55, 53, 99, 55, 53, 97, 48, 48, 51, 102, 48, 56, 57, 100, 50, 55, 51, 57, 56, 51, 57, 100, 101, 99, 53, 56, 98, 57, 54, 52, 101, 99, 51, 56, 52, 51]))) w3 fun x4 w4 =>
  R (.returned x4) w4
def A_bevylaw03_awake : Ann := ⟨[], [], [], [], []⟩
theorem E_bevylaw03_awake (w : World) (R : Ending → World → Prop) : cwp Try.prog A_bevylaw03_awake (Try.f21.body.getD .skip) (retPost Try.prog Try.f21.results.toList R) (argE []) w = F_bevylaw03_awake w R := by kernel_rfl
theorem C_bevylaw03_awake {w : World} {R : Ending → World → Prop} (h : F_bevylaw03_awake w R) : Calls Try.prog 21 #[] w R :=
  calls_cwp (A := A_bevylaw03_awake) (args := []) mixed Try.func21 (c := Try.f21.body.getD .skip) (by kernel_rfl) (by kernel_rfl) (by kernel_rfl) ((E_bevylaw03_awake w R).mpr h)

/-- bevy/mac.Code -/
def F_mac_Code (x0 x1 : Value) (w : World) (R : Ending → World → Prop) : Prop :=
  m R (o_alloc 23) w fun x4 w1 =>
  mj1 (fun j4 =>
    m R (o_builtin .len #[9] 3 [false] [x0]) w1 fun x11 w2 =>
    m R (o_bin .gtr 3 true x11 (.int .i64 64)) w2 fun x12 w3 =>
    mif x12 (
      m R (o_buildSlice 27 1 [(0, x0)]) w3 fun x14 w4 =>
      m R (o_call (fv 14) [x14]) w4 fun x15 w5 =>
      m R (o_alloc 23) w5 fun x5 w6 =>
      m R (o_store 23 x5 x15) w6 fun _ w7 =>
      m R (o_slice 23 x5 none none none) w7 fun x16 w8 =>
      m R (o_conv 50 9 x16) w8 fun x17 w9 =>
      j4 x17 w9) (
      j4 x0 w3)) fun x0 u4 w10 =>
  m R (o_alloc 60) w10 fun x6 w11 =>
  m R (o_alloc 60) w11 fun x7 w12 =>
  m R (o_slice 60 x6 none none none) w12 fun x18 w13 =>
  m R (o_builtin .copy #[50, 9] 3 [false, false] [x18, x0]) w13 fun x20 w14 =>
  m R (o_slice 60 x7 none none none) w14 fun x21 w15 =>
  m R (o_builtin .copy #[50, 9] 3 [false, false] [x21, x0]) w15 fun x23 w16 =>
  ml1 (.int .i64 0) w16 fun x24 u8 w17 next8 =>
    m R (o_bin .lss 3 true x24 (.int .i64 64)) w17 fun x25 w18 =>
    mif x25 (
      m R (o_indexAddr 60 x6 x24) w18 fun x28 w19 =>
      m R (o_load 5 x28) w19 fun x29 w20 =>
      m R (o_bin .xor 5 true x29 (.int .u8 54)) w20 fun x30 w21 =>
      m R (o_indexAddr 60 x6 x24) w21 fun x31 w22 =>
      m R (o_store 5 x31 x30) w22 fun _ w23 =>
      m R (o_indexAddr 60 x7 x24) w23 fun x33 w24 =>
      m R (o_load 5 x33) w24 fun x34 w25 =>
      m R (o_bin .xor 5 true x34 (.int .u8 92)) w25 fun x35 w26 =>
      m R (o_indexAddr 60 x7 x24) w26 fun x36 w27 =>
      m R (o_store 5 x36 x35) w27 fun _ w28 =>
      m R (o_bin .add 3 true x24 (.int .i64 1)) w28 fun x37 w29 =>
      next8 x37 w29) (
      m R (o_slice 60 x6 none none none) w18 fun x38 w30 =>
      m R (o_conv 50 9 x38) w30 fun x39 w31 =>
      m R (o_buildSlice 27 1 [(0, x39)]) w31 fun x40 w32 =>
      m R (o_builtin .append #[27, 27] 27 [false, false] [x40, x1]) w32 fun x42 w33 =>
      m R (o_call (fv 14) [x42]) w33 fun x43 w34 =>
      m R (o_alloc 23) w34 fun x9 w35 =>
      m R (o_store 23 x9 x43) w35 fun _ w36 =>
      dp Try.prog (o_slice 60 x7 none none none) fun x44 =>
      dq Try.prog w36 (o_conv 50 9 x44) fun x45 =>
      dp Try.prog (o_slice 23 x9 none none none) fun x46 =>
      dq Try.prog w36 (o_conv 50 9 x46) fun x47 =>
      df Try.prog w36 (o_buildSlice 27 2 [(0, x45), (1, x47)]) false fun x48 w37 =>
      df Try.prog w37 (o_call (fv 14) [x48]) false fun x49 w38 =>
      df Try.prog w38 (o_store 23 x4 x49) false fun _ w39 =>
      dend w39 fun w40 =>
      rcell Try.prog 23 x4 w40 fun r4 =>
      R (.returned r4) w40)
def A_mac_Code : Ann := ⟨[(8, [24], 274861129984)], [(4, [0], 261153)], [(14, [⟨0, .q none, 128, 0, 17592186044416⟩, ⟨1, .q (some 0), 17592186044416, 1, 35184372088832⟩, ⟨2, .q none, 512, 0, 70368744177664⟩, ⟨3, .q (some 0), 70368744177664, 4, 140737488355328⟩, ⟨4, .f 0 false, 175921860444160, 15, 281474976710656⟩, ⟨5, .f 1 false, 281474976710656, 31, 562949953421312⟩, ⟨6, .f 2 false, 562949953421328, 63, 0⟩])], [], []⟩
theorem E_mac_Code (x0 x1 : Value) (w : World) (R : Ending → World → Prop) : cwp Try.prog A_mac_Code (Try.f22.body.getD .skip) (retPost Try.prog Try.f22.results.toList R) (argE [x0, x1]) w = F_mac_Code x0 x1 w R := by kernel_rfl
theorem C_mac_Code {x0 x1 : Value} {w : World} {R : Ending → World → Prop} (h : F_mac_Code x0 x1 w R) : Calls Try.prog 22 #[x0, x1] w R :=
  calls_cwp (A := A_mac_Code) (args := [x0, x1]) mixed Try.func22 (c := Try.f22.body.getD .skip) (by kernel_rfl) (by kernel_rfl) (by kernel_rfl) ((E_mac_Code x0 x1 w R).mpr h)

/-- bevy/bevyref03.Code -/
def F_bevyref03_Code (x0 x1 : Value) (w : World) (R : Ending → World → Prop) : Prop :=
  m R (o_alloc 22) w fun x4 w1 =>
  mj1 (fun j4 =>
    m R (o_builtin .len #[9] 3 [false] [x0]) w1 fun x12 w2 =>
    m R (o_bin .gtr 3 true x12 (.int .i64 64)) w2 fun x13 w3 =>
    mif x13 (
      m R (o_call (fv 15) [x0]) w3 fun x15 w4 =>
      m R (o_alloc 22) w4 fun x5 w5 =>
      m R (o_store 22 x5 x15) w5 fun _ w6 =>
      m R (o_slice 22 x5 none none none) w6 fun x16 w7 =>
      m R (o_conv 50 9 x16) w7 fun x17 w8 =>
      j4 x17 w8) (
      j4 x0 w3)) fun x0 u4 w9 =>
  ml3 (.string (ByteArray.mk #[])) (.string (ByteArray.mk #[])) (.int .i64 0) w9 fun x6 x7 x8 u7 w10 next7 =>
    m R (o_bin .lss 3 true x8 (.int .i64 64)) w10 fun x19 w11 =>
    mif x19 (
      mj1 (fun j12 =>
        m R (o_builtin .len #[9] 3 [false] [x0]) w11 fun x24 w12 =>
        m R (o_bin .lss 3 false x8 x24) w12 fun x25 w13 =>
        mif x25 (
          m R (o_index 9 x0 x8) w13 fun x28 w14 =>
          j12 x28 w14) (
          j12 (.int .u8 0) w13)) fun x9 u12 w15 =>
      m R (o_bin .xor 5 true x9 (.int .u8 54)) w15 fun x31 w16 =>
      m R (o_buildSlice 50 1 [(0, x31)]) w16 fun x32 w17 =>
      m R (o_conv 50 9 x32) w17 fun x33 w18 =>
      m R (o_bin .add 9 false x6 x33) w18 fun x34 w19 =>
      m R (o_bin .xor 5 true x9 (.int .u8 92)) w19 fun x37 w20 =>
      m R (o_buildSlice 50 1 [(0, x37)]) w20 fun x38 w21 =>
      m R (o_conv 50 9 x38) w21 fun x39 w22 =>
      m R (o_bin .add 9 false x7 x39) w22 fun x40 w23 =>
      m R (o_bin .add 3 true x8 (.int .i64 1)) w23 fun x21 w24 =>
      next7 x34 x40 x21 w24) (
      m R (o_bin .add 9 false x6 x1) w11 fun x43 w25 =>
      m R (o_call (fv 15) [x43]) w25 fun x44 w26 =>
      m R (o_alloc 22) w26 fun x10 w27 =>
      m R (o_store 22 x10 x44) w27 fun _ w28 =>
      m R (o_slice 22 x10 none none none) w28 fun x46 w29 =>
      m R (o_conv 50 9 x46) w29 fun x47 w30 =>
      m R (o_bin .add 9 false x7 x47) w30 fun x48 w31 =>
      m R (o_call (fv 15) [x48]) w31 fun x49 w32 =>
      m R (o_store 22 x4 x49) w32 fun _ w33 =>
      rcell Try.prog 22 x4 w33 fun r4 =>
      R (.returned r4) w33)
def A_bevyref03_Code : Ann := ⟨[(7, [6, 7, 8], 2199022994368)], [(4, [0], 260129), (12, [9], 532677120)], [], [], []⟩
theorem E_bevyref03_Code (x0 x1 : Value) (w : World) (R : Ending → World → Prop) : cwp Try.prog A_bevyref03_Code (Try.f23.body.getD .skip) (retPost Try.prog Try.f23.results.toList R) (argE [x0, x1]) w = F_bevyref03_Code x0 x1 w R := by kernel_rfl
theorem C_bevyref03_Code {x0 x1 : Value} {w : World} {R : Ending → World → Prop} (h : F_bevyref03_Code x0 x1 w R) : Calls Try.prog 23 #[x0, x1] w R :=
  calls_cwp (A := A_bevyref03_Code) (args := [x0, x1]) mixed Try.func23 (c := Try.f23.body.getD .skip) (by kernel_rfl) (by kernel_rfl) (by kernel_rfl) ((E_bevyref03_Code x0 x1 w R).mpr h)

/-- bevy/mac.Mix -/
def F_mac_Mix (x0 x1 : Value) (w : World) (R : Ending → World → Prop) : Prop :=
  m R (o_box 23 x0) w fun x2 w1 =>
  m R (o_box 23 x1) w1 fun x3 w2 =>
  m R (o_alloc 23) w2 fun x4 w3 =>
  dp Try.prog (o_slice 23 x2 none none none) fun x5 =>
  dq Try.prog w3 (o_conv 50 9 x5) fun x6 =>
  dp Try.prog (o_slice 23 x3 none none none) fun x7 =>
  dq Try.prog w3 (o_conv 50 9 x7) fun x8 =>
  df Try.prog w3 (o_buildSlice 27 1 [(0, x8)]) true fun x9 w4 =>
  df Try.prog w4 (o_call (fv 22) [x6, x9]) false fun x10 w5 =>
  df Try.prog w5 (o_store 23 x4 x10) false fun _ w6 =>
  dend w6 fun w7 =>
  rcell Try.prog 23 x4 w7 fun r4 =>
  R (.returned r4) w7
def A_mac_Mix : Ann := ⟨[], [], [(1, [⟨0, .q none, 4, 0, 32⟩, ⟨1, .q (some 0), 32, 1, 64⟩, ⟨2, .q none, 8, 0, 128⟩, ⟨3, .q (some 0), 128, 4, 256⟩, ⟨4, .f 0 true, 256, 12, 512⟩, ⟨5, .f 1 false, 576, 31, 1024⟩, ⟨6, .f 2 false, 1040, 63, 0⟩])], [], []⟩
theorem E_mac_Mix (x0 x1 : Value) (w : World) (R : Ending → World → Prop) : cwp Try.prog A_mac_Mix (Try.f24.body.getD .skip) (retPost Try.prog Try.f24.results.toList R) (argE [x0, x1]) w = F_mac_Mix x0 x1 w R := by kernel_rfl
theorem C_mac_Mix {x0 x1 : Value} {w : World} {R : Ending → World → Prop} (h : F_mac_Mix x0 x1 w R) : Calls Try.prog 24 #[x0, x1] w R :=
  calls_cwp (A := A_mac_Mix) (args := [x0, x1]) mixed Try.func24 (c := Try.f24.body.getD .skip) (by kernel_rfl) (by kernel_rfl) (by kernel_rfl) ((E_mac_Mix x0 x1 w R).mpr h)

/-- bevy/bevyref03.Mix -/
def F_bevyref03_Mix (x0 x1 : Value) (w : World) (R : Ending → World → Prop) : Prop :=
  m R (o_box 22 x0) w fun x2 w1 =>
  m R (o_box 22 x1) w1 fun x3 w2 =>
  m R (o_alloc 22) w2 fun x4 w3 =>
  dp Try.prog (o_slice 22 x2 none none none) fun x5 =>
  dq Try.prog w3 (o_conv 50 9 x5) fun x6 =>
  dp Try.prog (o_slice 22 x3 none none none) fun x7 =>
  dq Try.prog w3 (o_conv 50 9 x7) fun x8 =>
  df Try.prog w3 (o_call (fv 23) [x6, x8]) false fun x9 w4 =>
  df Try.prog w4 (o_store 22 x4 x9) false fun _ w5 =>
  dend w5 fun w6 =>
  rcell Try.prog 22 x4 w6 fun r4 =>
  R (.returned r4) w6
def A_bevyref03_Mix : Ann := ⟨[], [], [(1, [⟨0, .q none, 4, 0, 32⟩, ⟨1, .q (some 0), 32, 1, 64⟩, ⟨2, .q none, 8, 0, 128⟩, ⟨3, .q (some 0), 128, 4, 256⟩, ⟨4, .f 0 false, 320, 15, 512⟩, ⟨5, .f 1 false, 528, 31, 0⟩])], [], []⟩
theorem E_bevyref03_Mix (x0 x1 : Value) (w : World) (R : Ending → World → Prop) : cwp Try.prog A_bevyref03_Mix (Try.f25.body.getD .skip) (retPost Try.prog Try.f25.results.toList R) (argE [x0, x1]) w = F_bevyref03_Mix x0 x1 w R := by kernel_rfl
theorem C_bevyref03_Mix {x0 x1 : Value} {w : World} {R : Ending → World → Prop} (h : F_bevyref03_Mix x0 x1 w R) : Calls Try.prog 25 #[x0, x1] w R :=
  calls_cwp (A := A_bevyref03_Mix) (args := [x0, x1]) mixed Try.func25 (c := Try.f25.body.getD .skip) (by kernel_rfl) (by kernel_rfl) (by kernel_rfl) ((E_bevyref03_Mix x0 x1 w R).mpr h)

/-- bevy/sha.Unhex -/
def F_sha_Unhex (x0 : Value) (w : World) (R : Ending → World → Prop) : Prop :=
  m R (o_alloc 23) w fun x2 w1 =>
  m R (o_alloc 23) w1 fun x4 w2 =>
  m R (o_builtin .len #[9] 3 [false] [x0]) w2 fun x8 w3 =>
  m R (o_bin .neq 3 true x8 (.int .i64 64)) w3 fun x9 w4 =>
  mif x9 (
    m R (o_load 23 x4) w4 fun x10 w5 =>
    m R (o_store 23 x2 x10) w5 fun _ w6 =>
    rcell Try.prog 23 x2 w6 fun r2 =>
    R (.returned (.tuple #[r2, (.bool false)])) w6) (
    ml1 (.int .i64 0) w4 fun x11 u5 w7 next5 =>
      m R (o_bin .lss 3 true x11 (.int .i64 64)) w7 fun x12 w8 =>
      mif x12 (
        ml1 (.int .i64 0) w8 fun x6 u8 w9 next8 =>
          mj0 (fun j9 =>
            dp Try.prog (o_bin .lss 3 true x6 (.int .i64 16)) fun x15 =>
            qguard x15 true (fun k => dp Try.prog (o_move x6) k) fun x17 =>
            qguard x15 true (fun k => dp Try.prog (o_index 9 (.string (ByteArray.mk #[48, 49, 50, 51, 52, 53, 54, 55, 56, 57, 97, 98, 99, 100, 101, 102])) x17) k) fun x18 =>
            qguard x15 true (fun k => dp Try.prog (o_move x0) k) fun x19 =>
            qguard x15 true (fun k => dp Try.prog (o_move x11) k) fun x20 =>
            qguard x15 true (fun k => dp Try.prog (o_index 9 x19 x20) k) fun x21 =>
            qguard x15 true (fun k => dp Try.prog (o_bin .neq 5 false x18 x21) k) fun x22 =>
            dp Try.prog (o_pick x15 x22 (.bool false)) fun x23 =>
            dend w9 fun w10 =>
            mif x23 (
              j9 w10) (
              m R (o_bin .eql 3 true x6 (.int .i64 16)) w10 fun x27 w11 =>
              mif x27 (
                m R (o_build 23 []) w11 fun x28 w12 =>
                m R (o_store 23 x2 x28) w12 fun _ w13 =>
                rcell Try.prog 23 x2 w13 fun r2 =>
                R (.returned (.tuple #[r2, (.bool false)])) w13) (
                m R (o_bin .quo 3 true x11 (.int .i64 2)) w11 fun x30 w14 =>
                m R (o_bin .quo 3 true x11 (.int .i64 2)) w14 fun x32 w15 =>
                m R (o_indexAddr 23 x4 x32) w15 fun x33 w16 =>
                m R (o_load 5 x33) w16 fun x34 w17 =>
                m R (o_bin .shl 5 true x34 (.int .u64 4)) w17 fun x35 w18 =>
                m R (o_conv 3 5 x6) w18 fun x37 w19 =>
                m R (o_bin .or 5 false x35 x37) w19 fun x38 w20 =>
                m R (o_indexAddr 23 x4 x30) w20 fun x39 w21 =>
                m R (o_store 5 x39 x38) w21 fun _ w22 =>
                m R (o_bin .add 3 true x11 (.int .i64 1)) w22 fun x40 w23 =>
                next5 x40 w23))) fun u9 w24 =>
          m R (o_bin .add 3 true x6 (.int .i64 1)) w24 fun x25 w25 =>
          next8 x25 w25) (
        m R (o_load 23 x4) w8 fun x41 w26 =>
        m R (o_store 23 x2 x41) w26 fun _ w27 =>
        rcell Try.prog 23 x2 w27 fun r2 =>
        R (.returned (.tuple #[r2, (.bool true)])) w27))
def A_sha_Unhex : Ann := ⟨[(5, [11], 2199023253608), (8, [6], 67092544)], [(9, [], 16760832)], [(8, [⟨0, .q none, 64, 0, 16384⟩, ⟨1, .q none, 16384, 1, 32768⟩, ⟨2, .q none, 32768, 3, 65536⟩, ⟨3, .q none, 65600, 7, 131072⟩, ⟨4, .q none, 196608, 15, 262144⟩, ⟨5, .q none, 65537, 7, 524288⟩, ⟨6, .q none, 65568, 7, 1048576⟩, ⟨7, .q none, 1638400, 103, 2097152⟩, ⟨8, .q none, 2424832, 255, 4194304⟩, ⟨9, .q none, 4259840, 511, 8388608⟩])], [], []⟩
theorem E_sha_Unhex (x0 : Value) (w : World) (R : Ending → World → Prop) : cwp Try.prog A_sha_Unhex (Try.f26.body.getD .skip) (retPost Try.prog Try.f26.results.toList R) (argE [x0]) w = F_sha_Unhex x0 w R := by kernel_rfl
theorem C_sha_Unhex {x0 : Value} {w : World} {R : Ending → World → Prop} (h : F_sha_Unhex x0 w R) : Calls Try.prog 26 #[x0] w R :=
  calls_cwp (A := A_sha_Unhex) (args := [x0]) mixed Try.func26 (c := Try.f26.body.getD .skip) (by kernel_rfl) (by kernel_rfl) (by kernel_rfl) ((E_sha_Unhex x0 w R).mpr h)

/-- bevy/bevylaw02.odd -/
def F_bevylaw02_odd (x0 : Value) (w : World) (R : Ending → World → Prop) : Prop :=
  ml1 (.int .i64 0) w fun x3 u2 w1 next2 =>
    m R (o_builtin .len #[9] 3 [false] [x0]) w1 fun x6 w2 =>
    m R (o_bin .lss 3 false x3 x6) w2 fun x7 w3 =>
    mif x7 (
      mj1 (fun j5 =>
        m R (o_index 9 x0 x3) w3 fun x12 w4 =>
        m R (o_bin .lss 5 true x12 (.int .u8 48)) w4 fun x13 w5 =>
        mguard x13 false (fun k => m R (o_move x0) w5 k) w5 fun x15 w6 =>
        mguard x13 false (fun k => m R (o_move x3) w6 k) w6 fun x16 w7 =>
        mguard x13 false (fun k => m R (o_index 9 x15 x16) w7 k) w7 fun x17 w8 =>
        mguard x13 false (fun k => m R (o_bin .gtr 5 true x17 (.int .u8 57)) w8 k) w8 fun x18 w9 =>
        m R (o_pick x13 (.bool true) x18) w9 fun x19 w10 =>
        mguard x19 true (fun k => m R (o_move x0) w10 k) w10 fun x21 w11 =>
        mguard x19 true (fun k => m R (o_move x3) w11 k) w11 fun x22 w12 =>
        mguard x19 true (fun k => m R (o_index 9 x21 x22) w12 k) w12 fun x23 w13 =>
        mguard x19 true (fun k => m R (o_bin .lss 5 true x23 (.int .u8 97)) w13 k) w13 fun x24 w14 =>
        mguard x19 true (fun k => m R (o_move x24) w14 k) w14 fun x25 w15 =>
        mguard x25 false (fun k => m R (o_move x0) w15 k) w15 fun x26 w16 =>
        mguard x25 false (fun k => m R (o_move x3) w16 k) w16 fun x27 w17 =>
        mguard x25 false (fun k => m R (o_index 9 x26 x27) w17 k) w17 fun x28 w18 =>
        mguard x25 false (fun k => m R (o_bin .gtr 5 true x28 (.int .u8 102)) w18 k) w18 fun x29 w19 =>
        mguard x19 true (fun k => m R (o_pick x25 (.bool true) x29) w19 k) w19 fun x30 w20 =>
        m R (o_pick x19 x30 (.bool false)) w20 fun x31 w21 =>
        j5 x31 w21) fun x31 u5 w22 =>
      mif x31 (
        R (.returned (.bool true)) w22) (
        m R (o_bin .add 3 true x3 (.int .i64 1)) w22 fun x9 w23 =>
        next2 x9 w23)) (
      R (.returned (.bool false)) w3)
def A_bevylaw02_odd : Ann := ⟨[(2, [3], 4294967292)], [(5, [31], 4294966272)], [], [], []⟩
theorem E_bevylaw02_odd (x0 : Value) (w : World) (R : Ending → World → Prop) : cwp Try.prog A_bevylaw02_odd (Try.f27.body.getD .skip) (retPost Try.prog Try.f27.results.toList R) (argE [x0]) w = F_bevylaw02_odd x0 w R := by kernel_rfl
theorem C_bevylaw02_odd {x0 : Value} {w : World} {R : Ending → World → Prop} (h : F_bevylaw02_odd x0 w R) : Calls Try.prog 27 #[x0] w R :=
  calls_cwp (A := A_bevylaw02_odd) (args := [x0]) mixed Try.func27 (c := Try.f27.body.getD .skip) (by kernel_rfl) (by kernel_rfl) (by kernel_rfl) ((E_bevylaw02_odd x0 w R).mpr h)

/-- bevy/mac.Derive -/
def F_mac_Derive (x0 x1 x2 : Value) (w : World) (R : Ending → World → Prop) : Prop :=
  m R (o_box 23 x0) w fun x3 w1 =>
  m R (o_alloc 23) w1 fun x6 w2 =>
  dp Try.prog (o_slice 23 x3 none none none) fun x7 =>
  dq Try.prog w2 (o_conv 50 9 x7) fun x8 =>
  dp Try.prog (o_builtin .len #[9] 3 [false] [x1]) fun x10 =>
  df Try.prog w2 (o_call (fv 36) [x10]) true fun x11 w3 =>
  df Try.prog w3 (o_buildSlice 27 3 [(0, x11), (1, x1), (2, x2)]) true fun x14 w4 =>
  df Try.prog w4 (o_call (fv 22) [x8, x14]) false fun x15 w5 =>
  df Try.prog w5 (o_store 23 x6 x15) false fun _ w6 =>
  dend w6 fun w7 =>
  rcell Try.prog 23 x6 w7 fun r6 =>
  R (.returned r6) w7
def A_mac_Derive : Ann := ⟨[], [], [(1, [⟨0, .q none, 8, 0, 128⟩, ⟨1, .q (some 0), 128, 1, 256⟩, ⟨2, .q none, 2, 0, 512⟩, ⟨3, .q none, 512, 4, 1024⟩, ⟨4, .f 0 true, 1024, 12, 2048⟩, ⟨5, .q none, 2, 0, 4096⟩, ⟨6, .q none, 4, 0, 8192⟩, ⟨7, .f 1 true, 14336, 124, 16384⟩, ⟨8, .f 2 false, 16640, 255, 32768⟩, ⟨9, .f 3 false, 32832, 511, 0⟩])], [], []⟩
theorem E_mac_Derive (x0 x1 x2 : Value) (w : World) (R : Ending → World → Prop) : cwp Try.prog A_mac_Derive (Try.f28.body.getD .skip) (retPost Try.prog Try.f28.results.toList R) (argE [x0, x1, x2]) w = F_mac_Derive x0 x1 x2 w R := by kernel_rfl
theorem C_mac_Derive {x0 x1 x2 : Value} {w : World} {R : Ending → World → Prop} (h : F_mac_Derive x0 x1 x2 w R) : Calls Try.prog 28 #[x0, x1, x2] w R :=
  calls_cwp (A := A_mac_Derive) (args := [x0, x1, x2]) mixed Try.func28 (c := Try.f28.body.getD .skip) (by kernel_rfl) (by kernel_rfl) (by kernel_rfl) ((E_mac_Derive x0 x1 x2 w R).mpr h)

/-- bevy/bevyref03.Derive -/
def F_bevyref03_Derive (x0 x1 x2 : Value) (w : World) (R : Ending → World → Prop) : Prop :=
  m R (o_box 22 x0) w fun x3 w1 =>
  m R (o_alloc 22) w1 fun x6 w2 =>
  dp Try.prog (o_slice 22 x3 none none none) fun x7 =>
  dq Try.prog w2 (o_conv 50 9 x7) fun x8 =>
  dp Try.prog (o_builtin .len #[9] 3 [false] [x1]) fun x10 =>
  df Try.prog w2 (o_call (fv 37) [x10]) true fun x11 w3 =>
  dp Try.prog (o_bin .add 9 false x11 x1) fun x13 =>
  dp Try.prog (o_bin .add 9 false x13 x2) fun x15 =>
  df Try.prog w3 (o_call (fv 23) [x8, x15]) false fun x16 w4 =>
  df Try.prog w4 (o_store 22 x6 x16) false fun _ w5 =>
  dend w5 fun w6 =>
  rcell Try.prog 22 x6 w6 fun r6 =>
  R (.returned r6) w6
def A_bevyref03_Derive : Ann := ⟨[], [], [(1, [⟨0, .q none, 8, 0, 128⟩, ⟨1, .q (some 0), 128, 1, 256⟩, ⟨2, .q none, 2, 0, 512⟩, ⟨3, .q none, 512, 4, 1024⟩, ⟨4, .f 0 true, 1024, 12, 2048⟩, ⟨5, .q none, 2, 0, 4096⟩, ⟨6, .q none, 6144, 60, 8192⟩, ⟨7, .q none, 4, 0, 16384⟩, ⟨8, .q none, 24576, 252, 32768⟩, ⟨9, .f 1 false, 33024, 511, 65536⟩, ⟨10, .f 2 false, 65600, 1023, 0⟩])], [], []⟩
theorem E_bevyref03_Derive (x0 x1 x2 : Value) (w : World) (R : Ending → World → Prop) : cwp Try.prog A_bevyref03_Derive (Try.f29.body.getD .skip) (retPost Try.prog Try.f29.results.toList R) (argE [x0, x1, x2]) w = F_bevyref03_Derive x0 x1 x2 w R := by kernel_rfl
theorem C_bevyref03_Derive {x0 x1 x2 : Value} {w : World} {R : Ending → World → Prop} (h : F_bevyref03_Derive x0 x1 x2 w R) : Calls Try.prog 29 #[x0, x1, x2] w R :=
  calls_cwp (A := A_bevyref03_Derive) (args := [x0, x1, x2]) mixed Try.func29 (c := Try.f29.body.getD .skip) (by kernel_rfl) (by kernel_rfl) (by kernel_rfl) ((E_bevyref03_Derive x0 x1 x2 w R).mpr h)

/-- bevy/mac.Stream -/
def F_mac_Stream (x0 x1 : Value) (w : World) (R : Ending → World → Prop) : Prop :=
  m R (o_box 23 x0) w fun x2 w1 =>
  mj1 (fun j2 =>
    m R (o_bin .lss 3 true x1 (.int .i64 1)) w1 fun x9 w2 =>
    mguard x9 false (fun k => m R (o_move x1) w2 k) w2 fun x11 w3 =>
    mguard x9 false (fun k => m R (o_bin .gtr 3 true x11 (.int .i64 65536)) w3 k) w3 fun x12 w4 =>
    m R (o_pick x9 (.bool true) x12) w4 fun x13 w5 =>
    j2 x13 w5) fun x13 u2 w6 =>
  mif x13 (
    R (.returned (.string (ByteArray.mk #[]))) w6) (
    ml2 (.slice none 0 0) (.int .i64 0) w6 fun x5 x6 u5 w7 next5 =>
      m R (o_builtin .len #[50] 3 [false] [x5]) w7 fun x15 w8 =>
      m R (o_bin .lss 3 false x15 x1) w8 fun x17 w9 =>
      mif x17 (
        mj1 (fun j8 =>
          ((
            dp Try.prog (o_slice 23 x2 none none none) fun x20 =>
            dq Try.prog w9 (o_conv 50 9 x20) fun x21 =>
            df Try.prog w9 (o_call (fv 36) [x6]) true fun x23 w10 =>
            df Try.prog w10 (o_buildSlice 27 1 [(0, x23)]) true fun x24 w11 =>
            df Try.prog w11 (o_call (fv 22) [x21, x24]) false fun x25 w12 =>
            df Try.prog w12 (o_alloc 23) true fun x7 w13 =>
            df Try.prog w13 (o_store 23 x7 x25) false fun _ w14 =>
            dend w14 fun w15 =>
            j8 x7 w15) ∧ (
            dp Try.prog (o_slice 23 x2 none none none) fun x20 =>
            dq Try.prog w9 (o_conv 50 9 x20) fun x21 =>
            df Try.prog w9 (o_call (fv 36) [x6]) true fun x23 w16 =>
            df Try.prog w16 (o_buildSlice 27 1 [(0, x23)]) true fun x24 w17 =>
            df Try.prog w17 (o_alloc 23) true fun x7 w18 =>
            df Try.prog w18 (o_call (fv 22) [x21, x24]) false fun x25 w19 =>
            df Try.prog w19 (o_store 23 x7 x25) false fun _ w20 =>
            dend w20 fun w21 =>
            j8 x7 w21) ∧ (
            dp Try.prog (o_slice 23 x2 none none none) fun x20 =>
            dq Try.prog w9 (o_conv 50 9 x20) fun x21 =>
            df Try.prog w9 (o_call (fv 36) [x6]) true fun x23 w22 =>
            df Try.prog w22 (o_alloc 23) true fun x7 w23 =>
            df Try.prog w23 (o_buildSlice 27 1 [(0, x23)]) true fun x24 w24 =>
            df Try.prog w24 (o_call (fv 22) [x21, x24]) false fun x25 w25 =>
            df Try.prog w25 (o_store 23 x7 x25) false fun _ w26 =>
            dend w26 fun w27 =>
            j8 x7 w27) ∧ (
            dp Try.prog (o_slice 23 x2 none none none) fun x20 =>
            dq Try.prog w9 (o_conv 50 9 x20) fun x21 =>
            df Try.prog w9 (o_alloc 23) true fun x7 w28 =>
            df Try.prog w28 (o_call (fv 36) [x6]) true fun x23 w29 =>
            df Try.prog w29 (o_buildSlice 27 1 [(0, x23)]) true fun x24 w30 =>
            df Try.prog w30 (o_call (fv 22) [x21, x24]) false fun x25 w31 =>
            df Try.prog w31 (o_store 23 x7 x25) false fun _ w32 =>
            dend w32 fun w33 =>
            j8 x7 w33))) fun x7 u8 w34 =>
        m R (o_slice 23 x7 none none none) w34 fun x27 w35 =>
        m R (o_builtin .append #[50, 50] 50 [false, false] [x5, x27]) w35 fun x28 w36 =>
        m R (o_bin .add 3 true x6 (.int .i64 1)) w36 fun x19 w37 =>
        next5 x28 x19 w37) (
        m R (o_slice 50 x5 none (some x1) none) w9 fun x31 w38 =>
        m R (o_conv 50 9 x31) w38 fun x32 w39 =>
        R (.returned x32) w39))
def A_mac_Stream : Ann := ⟨[(5, [5, 6], 536854752)], [(2, [13], 16128), (8, [7], 66060416)], [], [(7, [⟨[0, 1, 2, 3, 4, 5, 6, 7], [⟨0, .q none, 4, 0, 1048576⟩, ⟨1, .q (some 0), 1048576, 1, 2097152⟩, ⟨2, .q none, 64, 0, 4194304⟩, ⟨3, .f 0 true, 4194304, 4, 8388608⟩, ⟨4, .f 1 true, 8388608, 12, 16777216⟩, ⟨5, .f 2 false, 18874368, 31, 33554432⟩, ⟨6, .f 3 true, 0, 0, 128⟩, ⟨7, .f 4 false, 33554560, 127, 0⟩]⟩, ⟨[0, 1, 2, 3, 4, 6, 5, 7], [⟨0, .q none, 4, 0, 1048576⟩, ⟨1, .q (some 0), 1048576, 1, 2097152⟩, ⟨2, .q none, 64, 0, 4194304⟩, ⟨3, .f 0 true, 4194304, 4, 8388608⟩, ⟨4, .f 1 true, 8388608, 12, 16777216⟩, ⟨5, .f 3 false, 18874368, 31, 33554432⟩, ⟨6, .f 2 true, 0, 0, 128⟩, ⟨7, .f 4 false, 33554560, 127, 0⟩]⟩, ⟨[0, 1, 2, 3, 6, 4, 5, 7], [⟨0, .q none, 4, 0, 1048576⟩, ⟨1, .q (some 0), 1048576, 1, 2097152⟩, ⟨2, .q none, 64, 0, 4194304⟩, ⟨3, .f 0 true, 4194304, 4, 8388608⟩, ⟨4, .f 2 true, 8388608, 12, 16777216⟩, ⟨5, .f 3 false, 18874368, 31, 33554432⟩, ⟨6, .f 1 true, 0, 0, 128⟩, ⟨7, .f 4 false, 33554560, 127, 0⟩]⟩, ⟨[0, 1, 2, 6, 3, 4, 5, 7], [⟨0, .q none, 4, 0, 1048576⟩, ⟨1, .q (some 0), 1048576, 1, 2097152⟩, ⟨2, .q none, 64, 0, 4194304⟩, ⟨3, .f 1 true, 4194304, 4, 8388608⟩, ⟨4, .f 2 true, 8388608, 12, 16777216⟩, ⟨5, .f 3 false, 18874368, 31, 33554432⟩, ⟨6, .f 0 true, 0, 0, 128⟩, ⟨7, .f 4 false, 33554560, 127, 0⟩]⟩])], []⟩
theorem E_mac_Stream (x0 x1 : Value) (w : World) (R : Ending → World → Prop) : cwp Try.prog A_mac_Stream (Try.f30.body.getD .skip) (retPost Try.prog Try.f30.results.toList R) (argE [x0, x1]) w = F_mac_Stream x0 x1 w R := by kernel_rfl
theorem C_mac_Stream {x0 x1 : Value} {w : World} {R : Ending → World → Prop} (h : F_mac_Stream x0 x1 w R) : Calls Try.prog 30 #[x0, x1] w R :=
  calls_cwp (A := A_mac_Stream) (args := [x0, x1]) mixed Try.func30 (c := Try.f30.body.getD .skip) (by kernel_rfl) (by kernel_rfl) (by kernel_rfl) ((E_mac_Stream x0 x1 w R).mpr h)

/-- bevy/bevyref03.Stream -/
def F_bevyref03_Stream (x0 x1 : Value) (w : World) (R : Ending → World → Prop) : Prop :=
  m R (o_box 22 x0) w fun x2 w1 =>
  m R (o_bin .gtr 3 true x1 (.int .i64 65536)) w1 fun x10 w2 =>
  mif x10 (
    R (.returned (.string (ByteArray.mk #[]))) w2) (
    ml2 (.string (ByteArray.mk #[])) (.int .i64 0) w2 fun x5 x6 u5 w3 next5 =>
      m R (o_builtin .len #[9] 3 [false] [x5]) w3 fun x13 w4 =>
      m R (o_bin .lss 3 false x13 x1) w4 fun x15 w5 =>
      mif x15 (
        mj1 (fun j8 =>
          ((
            dp Try.prog (o_slice 22 x2 none none none) fun x18 =>
            dq Try.prog w5 (o_conv 50 9 x18) fun x19 =>
            df Try.prog w5 (o_call (fv 37) [x6]) true fun x21 w6 =>
            df Try.prog w6 (o_call (fv 23) [x19, x21]) false fun x22 w7 =>
            df Try.prog w7 (o_alloc 22) true fun x7 w8 =>
            df Try.prog w8 (o_store 22 x7 x22) false fun _ w9 =>
            dend w9 fun w10 =>
            j8 x7 w10) ∧ (
            dp Try.prog (o_slice 22 x2 none none none) fun x18 =>
            dq Try.prog w5 (o_conv 50 9 x18) fun x19 =>
            df Try.prog w5 (o_call (fv 37) [x6]) true fun x21 w11 =>
            df Try.prog w11 (o_alloc 22) true fun x7 w12 =>
            df Try.prog w12 (o_call (fv 23) [x19, x21]) false fun x22 w13 =>
            df Try.prog w13 (o_store 22 x7 x22) false fun _ w14 =>
            dend w14 fun w15 =>
            j8 x7 w15) ∧ (
            dp Try.prog (o_slice 22 x2 none none none) fun x18 =>
            dq Try.prog w5 (o_conv 50 9 x18) fun x19 =>
            df Try.prog w5 (o_alloc 22) true fun x7 w16 =>
            df Try.prog w16 (o_call (fv 37) [x6]) true fun x21 w17 =>
            df Try.prog w17 (o_call (fv 23) [x19, x21]) false fun x22 w18 =>
            df Try.prog w18 (o_store 22 x7 x22) false fun _ w19 =>
            dend w19 fun w20 =>
            j8 x7 w20))) fun x7 u8 w21 =>
        ml2 x5 (.int .i64 0) w21 fun x5 x8 u9 w22 next9 =>
          mj0 (fun j11 =>
            m R (o_bin .lss 3 true x8 (.int .i64 32)) w22 fun x24 w23 =>
            mguard x24 true (fun k => m R (o_move x5) w23 k) w23 fun x26 w24 =>
            mguard x24 true (fun k => m R (o_builtin .len #[9] 3 [false] [x26]) w24 k) w24 fun x27 w25 =>
            mguard x24 true (fun k => m R (o_move x1) w25 k) w25 fun x28 w26 =>
            mguard x24 true (fun k => m R (o_bin .lss 3 false x27 x28) w26 k) w26 fun x29 w27 =>
            m R (o_pick x24 x29 (.bool false)) w27 fun x30 w28 =>
            mif x30 (
              j11 w28) (
              m R (o_bin .add 3 true x6 (.int .i64 1)) w28 fun x17 w29 =>
              next5 x5 x17 w29)) fun u11 w30 =>
          m R (o_indexAddr 22 x7 x8) w30 fun x35 w31 =>
          m R (o_load 5 x35) w31 fun x36 w32 =>
          m R (o_buildSlice 50 1 [(0, x36)]) w32 fun x37 w33 =>
          m R (o_conv 50 9 x37) w33 fun x38 w34 =>
          m R (o_bin .add 9 false x5 x38) w34 fun x39 w35 =>
          m R (o_bin .add 3 true x8 (.int .i64 1)) w35 fun x32 w36 =>
          next9 x39 x32 w36) (
        R (.returned x5) w5))
def A_bevyref03_Stream : Ann := ⟨[(5, [5, 6], 1099511624160), (9, [5, 8], 1099503239456)], [(8, [7], 8126592), (11, [], 2139095040)], [], [(7, [⟨[0, 1, 2, 3, 4, 5, 6], [⟨0, .q none, 4, 0, 262144⟩, ⟨1, .q (some 0), 262144, 1, 524288⟩, ⟨2, .q none, 64, 0, 1048576⟩, ⟨3, .f 0 true, 1048576, 4, 2097152⟩, ⟨4, .f 1 false, 2621440, 15, 4194304⟩, ⟨5, .f 2 true, 0, 0, 128⟩, ⟨6, .f 3 false, 4194432, 63, 0⟩]⟩, ⟨[0, 1, 2, 3, 5, 4, 6], [⟨0, .q none, 4, 0, 262144⟩, ⟨1, .q (some 0), 262144, 1, 524288⟩, ⟨2, .q none, 64, 0, 1048576⟩, ⟨3, .f 0 true, 1048576, 4, 2097152⟩, ⟨4, .f 2 false, 2621440, 15, 4194304⟩, ⟨5, .f 1 true, 0, 0, 128⟩, ⟨6, .f 3 false, 4194432, 63, 0⟩]⟩, ⟨[0, 1, 2, 5, 3, 4, 6], [⟨0, .q none, 4, 0, 262144⟩, ⟨1, .q (some 0), 262144, 1, 524288⟩, ⟨2, .q none, 64, 0, 1048576⟩, ⟨3, .f 1 true, 1048576, 4, 2097152⟩, ⟨4, .f 2 false, 2621440, 15, 4194304⟩, ⟨5, .f 0 true, 0, 0, 128⟩, ⟨6, .f 3 false, 4194432, 63, 0⟩]⟩])], []⟩
theorem E_bevyref03_Stream (x0 x1 : Value) (w : World) (R : Ending → World → Prop) : cwp Try.prog A_bevyref03_Stream (Try.f31.body.getD .skip) (retPost Try.prog Try.f31.results.toList R) (argE [x0, x1]) w = F_bevyref03_Stream x0 x1 w R := by kernel_rfl
theorem C_bevyref03_Stream {x0 x1 : Value} {w : World} {R : Ending → World → Prop} (h : F_bevyref03_Stream x0 x1 w R) : Calls Try.prog 31 #[x0, x1] w R :=
  calls_cwp (A := A_bevyref03_Stream) (args := [x0, x1]) mixed Try.func31 (c := Try.f31.body.getD .skip) (by kernel_rfl) (by kernel_rfl) (by kernel_rfl) ((E_bevyref03_Stream x0 x1 w R).mpr h)

/-- bevy/sha.rounds -/
def F_sha_rounds (w : World) (R : Ending → World → Prop) : Prop :=
  m R (o_alloc 58) w fun x0 w1 =>
  m R (o_build 58 [(0, (.int .u32 1116352408)), (1, (.int .u32 1899447441)), (2, (.int .u32 3049323471)), (3, (.int .u32 3921009573)), (4, (.int .u32 961987163)), (5, (.int .u32 1508970993)), (6, (.int .u32 2453635748)), (7, (.int .u32 2870763221)), (8, (.int .u32 3624381080)), (9, (.int .u32 310598401)), (10, (.int .u32 607225278)), (11, (.int .u32 1426881987)), (12, (.int .u32 1925078388)), (13, (.int .u32 2162078206)), (14, (.int .u32 2614888103)), (15, (.int .u32 3248222580)), (16, (.int .u32 3835390401)), (17, (.int .u32 4022224774)), (18, (.int .u32 264347078)), (19, (.int .u32 604807628)), (20, (.int .u32 770255983)), (21, (.int .u32 1249150122)), (22, (.int .u32 1555081692)), (23, (.int .u32 1996064986)), (24, (.int .u32 2554220882)), (25, (.int .u32 2821834349)), (26, (.int .u32 2952996808)), (27, (.int .u32 3210313671)), (28, (.int .u32 3336571891)), (29, (.int .u32 3584528711)), (30, (.int .u32 113926993)), (31, (.int .u32 338241895)), (32, (.int .u32 666307205)), (33, (.int .u32 773529912)), (34, (.int .u32 1294757372)), (35, (.int .u32 1396182291)), (36, (.int .u32 1695183700)), (37, (.int .u32 1986661051)), (38, (.int .u32 2177026350)), (39, (.int .u32 2456956037)), (40, (.int .u32 2730485921)), (41, (.int .u32 2820302411)), (42, (.int .u32 3259730800)), (43, (.int .u32 3345764771)), (44, (.int .u32 3516065817)), (45, (.int .u32 3600352804)), (46, (.int .u32 4094571909)), (47, (.int .u32 275423344)), (48, (.int .u32 430227734)), (49, (.int .u32 506948616)), (50, (.int .u32 659060556)), (51, (.int .u32 883997877)), (52, (.int .u32 958139571)), (53, (.int .u32 1322822218)), (54, (.int .u32 1537002063)), (55, (.int .u32 1747873779)), (56, (.int .u32 1955562222)), (57, (.int .u32 2024104815)), (58, (.int .u32 2227730452)), (59, (.int .u32 2361852424)), (60, (.int .u32 2428436474)), (61, (.int .u32 2756734187)), (62, (.int .u32 3204031479)), (63, (.int .u32 3329325298))]) w1 fun x1 w2 =>
  m R (o_store 58 x0 x1) w2 fun _ w3 =>
  rcell Try.prog 58 x0 w3 fun r0 =>
  R (.returned r0) w3
def A_sha_rounds : Ann := ⟨[], [], [], [], []⟩
theorem E_sha_rounds (w : World) (R : Ending → World → Prop) : cwp Try.prog A_sha_rounds (Try.f32.body.getD .skip) (retPost Try.prog Try.f32.results.toList R) (argE []) w = F_sha_rounds w R := by kernel_rfl
theorem C_sha_rounds {w : World} {R : Ending → World → Prop} (h : F_sha_rounds w R) : Calls Try.prog 32 #[] w R :=
  calls_cwp (A := A_sha_rounds) (args := []) mixed Try.func32 (c := Try.f32.body.getD .skip) (by kernel_rfl) (by kernel_rfl) (by kernel_rfl) ((E_sha_rounds w R).mpr h)

/-- (*bevy/sha.state).put -/
def F_sha_state_put (x0 x1 : Value) (w : World) (R : Ending → World → Prop) : Prop :=
  ml1 x1 w fun x1 u0 w1 next0 =>
    m R (o_builtin .len #[9] 3 [false] [x1]) w1 fun x6 w2 =>
    m R (o_bin .gtr 3 true x6 (.int .i64 0)) w2 fun x7 w3 =>
    mif x7 (
      dp Try.prog (o_nilCheck x0) fun x9 =>
      dp Try.prog (o_fieldAddr 62 x9 1) fun x10 =>
      dp Try.prog (o_nilCheck x0) fun x12 =>
      dp Try.prog (o_fieldAddr 62 x12 2) fun x13 =>
      dq Try.prog w3 (o_load 3 x13) fun x14 =>
      dp Try.prog (o_bin .rem 3 true x14 (.int .i64 64)) fun x15 =>
      dp Try.prog (o_slice 60 x10 (some x15) none none) fun x16 =>
      df Try.prog w3 (o_builtin .copy #[50, 9] 3 [false, false] [x16, x1]) false fun x18 w4 =>
      dend w4 fun w5 =>
      m R (o_slice 9 x1 (some x18) none none) w5 fun x21 w6 =>
      m R (o_nilCheck x0) w6 fun x23 w7 =>
      m R (o_fieldAddr 62 x23 2) w7 fun x24 w8 =>
      m R (o_load 3 x24) w8 fun x25 w9 =>
      m R (o_bin .add 3 false x25 x18) w9 fun x27 w10 =>
      m R (o_nilCheck x0) w10 fun x28 w11 =>
      m R (o_fieldAddr 62 x28 2) w11 fun x29 w12 =>
      m R (o_store 3 x29 x27) w12 fun _ w13 =>
      m R (o_nilCheck x0) w13 fun x31 w14 =>
      m R (o_fieldAddr 62 x31 2) w14 fun x32 w15 =>
      m R (o_load 3 x32) w15 fun x33 w16 =>
      m R (o_bin .rem 3 true x33 (.int .i64 64)) w16 fun x34 w17 =>
      m R (o_bin .eql 3 true x34 (.int .i64 0)) w17 fun x35 w18 =>
      mif x35 (
        m R (o_call (fv 38) [x0]) w18 fun x37 w19 =>
        next0 x21 w19) (
        next0 x21 w18)) (
      R (.returned (.tuple #[])) w3)
def A_sha_state_put : Ann := ⟨[(0, [1], 274877906930)], [], [(1, [⟨0, .q none, 1, 0, 256⟩, ⟨1, .q none, 256, 1, 512⟩, ⟨2, .q none, 512, 3, 1024⟩, ⟨3, .q none, 1, 0, 2048⟩, ⟨4, .q none, 2048, 8, 4096⟩, ⟨5, .q none, 4096, 24, 8192⟩, ⟨6, .q (some 0), 8192, 56, 16384⟩, ⟨7, .q none, 16384, 120, 32768⟩, ⟨8, .q none, 33792, 255, 65536⟩, ⟨9, .q none, 2, 0, 131072⟩, ⟨10, .f 0 false, 196608, 1023, 262144⟩, ⟨11, .q none, 262144, 2047, 16⟩])], [], []⟩
theorem E_sha_state_put (x0 x1 : Value) (w : World) (R : Ending → World → Prop) : cwp Try.prog A_sha_state_put (Try.f33.body.getD .skip) (retPost Try.prog Try.f33.results.toList R) (argE [x0, x1]) w = F_sha_state_put x0 x1 w R := by kernel_rfl
theorem C_sha_state_put {x0 x1 : Value} {w : World} {R : Ending → World → Prop} (h : F_sha_state_put x0 x1 w R) : Calls Try.prog 33 #[x0, x1] w R :=
  calls_cwp (A := A_sha_state_put) (args := [x0, x1]) mixed Try.func33 (c := Try.f33.body.getD .skip) (by kernel_rfl) (by kernel_rfl) (by kernel_rfl) ((E_sha_state_put x0 x1 w R).mpr h)

/-- bevy/bevyref02.word -/
def F_bevyref02_word (x0 x1 : Value) (w : World) (R : Ending → World → Prop) : Prop :=
  dp Try.prog (o_indexAddr 50 x0 x1) fun x7 =>
  dq Try.prog w (o_load 5 x7) fun x8 =>
  dp Try.prog (o_conv 5 56 x8) fun x9 =>
  dp Try.prog (o_bin .shl 56 true x9 (.int .u64 24)) fun x10 =>
  dp Try.prog (o_bin .add 3 true x1 (.int .i64 1)) fun x13 =>
  dp Try.prog (o_indexAddr 50 x0 x13) fun x14 =>
  dq Try.prog w (o_load 5 x14) fun x15 =>
  dp Try.prog (o_conv 5 56 x15) fun x16 =>
  dp Try.prog (o_bin .shl 56 true x16 (.int .u64 16)) fun x17 =>
  dp Try.prog (o_bin .or 56 false x10 x17) fun x18 =>
  dp Try.prog (o_bin .add 3 true x1 (.int .i64 2)) fun x21 =>
  dp Try.prog (o_indexAddr 50 x0 x21) fun x22 =>
  dq Try.prog w (o_load 5 x22) fun x23 =>
  dp Try.prog (o_conv 5 56 x23) fun x24 =>
  dp Try.prog (o_bin .shl 56 true x24 (.int .u64 8)) fun x25 =>
  dp Try.prog (o_bin .or 56 false x18 x25) fun x26 =>
  dp Try.prog (o_bin .add 3 true x1 (.int .i64 3)) fun x29 =>
  dp Try.prog (o_indexAddr 50 x0 x29) fun x30 =>
  dq Try.prog w (o_load 5 x30) fun x31 =>
  dp Try.prog (o_conv 5 56 x31) fun x32 =>
  dp Try.prog (o_bin .or 56 false x26 x32) fun x33 =>
  dend w fun w1 =>
  R (.returned x33) w1
def A_bevyref02_word : Ann := ⟨[], [], [(1, [⟨0, .q none, 1, 0, 32⟩, ⟨1, .q none, 2, 0, 64⟩, ⟨2, .q none, 96, 3, 128⟩, ⟨3, .q (some 0), 128, 7, 256⟩, ⟨4, .q none, 256, 15, 512⟩, ⟨5, .q none, 512, 31, 1024⟩, ⟨6, .q none, 1, 0, 2048⟩, ⟨7, .q none, 2, 0, 4096⟩, ⟨8, .q none, 4096, 128, 8192⟩, ⟨9, .q none, 10240, 448, 16384⟩, ⟨10, .q (some 0), 16384, 960, 32768⟩, ⟨11, .q none, 32768, 1984, 65536⟩, ⟨12, .q none, 65536, 4032, 131072⟩, ⟨13, .q none, 132096, 8191, 262144⟩, ⟨14, .q none, 1, 0, 524288⟩, ⟨15, .q none, 2, 0, 1048576⟩, ⟨16, .q none, 1048576, 32768, 2097152⟩, ⟨17, .q none, 2621440, 114688, 4194304⟩, ⟨18, .q (some 0), 4194304, 245760, 8388608⟩, ⟨19, .q none, 8388608, 507904, 16777216⟩, ⟨20, .q none, 16777216, 1032192, 33554432⟩, ⟨21, .q none, 33816576, 2097151, 67108864⟩, ⟨22, .q none, 1, 0, 134217728⟩, ⟨23, .q none, 2, 0, 268435456⟩, ⟨24, .q none, 268435456, 8388608, 536870912⟩, ⟨25, .q none, 671088640, 29360128, 1073741824⟩, ⟨26, .q (some 0), 1073741824, 62914560, 2147483648⟩, ⟨27, .q none, 2147483648, 130023424, 4294967296⟩, ⟨28, .q none, 4362076160, 268435455, 8589934592⟩, ⟨29, .q none, 8589934592, 536870911, 16⟩])], [], []⟩
theorem E_bevyref02_word (x0 x1 : Value) (w : World) (R : Ending → World → Prop) : cwp Try.prog A_bevyref02_word (Try.f34.body.getD .skip) (retPost Try.prog Try.f34.results.toList R) (argE [x0, x1]) w = F_bevyref02_word x0 x1 w R := by kernel_rfl
theorem C_bevyref02_word {x0 x1 : Value} {w : World} {R : Ending → World → Prop} (h : F_bevyref02_word x0 x1 w R) : Calls Try.prog 34 #[x0, x1] w R :=
  calls_cwp (A := A_bevyref02_word) (args := [x0, x1]) mixed Try.func34 (c := Try.f34.body.getD .skip) (by kernel_rfl) (by kernel_rfl) (by kernel_rfl) ((E_bevyref02_word x0 x1 w R).mpr h)

/-- bevy/bevyref02.turned -/
def F_bevyref02_turned (x0 x1 : Value) (w : World) (R : Ending → World → Prop) : Prop :=
  m R (o_bin .shr 56 false x0 x1) w fun x7 w1 =>
  m R (o_bin .sub 49 true (.int .u64 32) x1) w1 fun x10 w2 =>
  m R (o_bin .shl 56 false x0 x10) w2 fun x11 w3 =>
  m R (o_bin .or 56 false x7 x11) w3 fun x12 w4 =>
  R (.returned x12) w4
def A_bevyref02_turned : Ann := ⟨[], [], [], [], []⟩
theorem E_bevyref02_turned (x0 x1 : Value) (w : World) (R : Ending → World → Prop) : cwp Try.prog A_bevyref02_turned (Try.f35.body.getD .skip) (retPost Try.prog Try.f35.results.toList R) (argE [x0, x1]) w = F_bevyref02_turned x0 x1 w R := by kernel_rfl
theorem C_bevyref02_turned {x0 x1 : Value} {w : World} {R : Ending → World → Prop} (h : F_bevyref02_turned x0 x1 w R) : Calls Try.prog 35 #[x0, x1] w R :=
  calls_cwp (A := A_bevyref02_turned) (args := [x0, x1]) mixed Try.func35 (c := Try.f35.body.getD .skip) (by kernel_rfl) (by kernel_rfl) (by kernel_rfl) ((E_bevyref02_turned x0 x1 w R).mpr h)

/-- bevy/mac.four -/
def F_mac_four (x0 : Value) (w : World) (R : Ending → World → Prop) : Prop :=
  m R (o_bin .shr 3 true x0 (.int .u64 24)) w fun x4 w1 =>
  m R (o_conv 3 5 x4) w1 fun x5 w2 =>
  m R (o_bin .shr 3 true x0 (.int .u64 16)) w2 fun x7 w3 =>
  m R (o_conv 3 5 x7) w3 fun x8 w4 =>
  m R (o_bin .shr 3 true x0 (.int .u64 8)) w4 fun x10 w5 =>
  m R (o_conv 3 5 x10) w5 fun x11 w6 =>
  m R (o_conv 3 5 x0) w6 fun x13 w7 =>
  m R (o_buildSlice 50 4 [(0, x5), (1, x8), (2, x11), (3, x13)]) w7 fun x14 w8 =>
  m R (o_conv 50 9 x14) w8 fun x15 w9 =>
  R (.returned x15) w9
def A_mac_four : Ann := ⟨[], [], [], [], []⟩
theorem E_mac_four (x0 : Value) (w : World) (R : Ending → World → Prop) : cwp Try.prog A_mac_four (Try.f36.body.getD .skip) (retPost Try.prog Try.f36.results.toList R) (argE [x0]) w = F_mac_four x0 w R := by kernel_rfl
theorem C_mac_four {x0 : Value} {w : World} {R : Ending → World → Prop} (h : F_mac_four x0 w R) : Calls Try.prog 36 #[x0] w R :=
  calls_cwp (A := A_mac_four) (args := [x0]) mixed Try.func36 (c := Try.f36.body.getD .skip) (by kernel_rfl) (by kernel_rfl) (by kernel_rfl) ((E_mac_four x0 w R).mpr h)

/-- bevy/bevyref03.Four -/
def F_bevyref03_Four (x0 : Value) (w : World) (R : Ending → World → Prop) : Prop :=
  m R (o_bin .quo 3 true x0 (.int .i64 16777216)) w fun x4 w1 =>
  m R (o_conv 3 5 x4) w1 fun x5 w2 =>
  m R (o_bin .quo 3 true x0 (.int .i64 65536)) w2 fun x7 w3 =>
  m R (o_bin .rem 3 true x7 (.int .i64 256)) w3 fun x8 w4 =>
  m R (o_conv 3 5 x8) w4 fun x9 w5 =>
  m R (o_bin .quo 3 true x0 (.int .i64 256)) w5 fun x11 w6 =>
  m R (o_bin .rem 3 true x11 (.int .i64 256)) w6 fun x12 w7 =>
  m R (o_conv 3 5 x12) w7 fun x13 w8 =>
  m R (o_bin .rem 3 true x0 (.int .i64 256)) w8 fun x15 w9 =>
  m R (o_conv 3 5 x15) w9 fun x16 w10 =>
  m R (o_buildSlice 50 4 [(0, x5), (1, x9), (2, x13), (3, x16)]) w10 fun x17 w11 =>
  m R (o_conv 50 9 x17) w11 fun x18 w12 =>
  R (.returned x18) w12
def A_bevyref03_Four : Ann := ⟨[], [], [], [], []⟩
theorem E_bevyref03_Four (x0 : Value) (w : World) (R : Ending → World → Prop) : cwp Try.prog A_bevyref03_Four (Try.f37.body.getD .skip) (retPost Try.prog Try.f37.results.toList R) (argE [x0]) w = F_bevyref03_Four x0 w R := by kernel_rfl
theorem C_bevyref03_Four {x0 : Value} {w : World} {R : Ending → World → Prop} (h : F_bevyref03_Four x0 w R) : Calls Try.prog 37 #[x0] w R :=
  calls_cwp (A := A_bevyref03_Four) (args := [x0]) mixed Try.func37 (c := Try.f37.body.getD .skip) (by kernel_rfl) (by kernel_rfl) (by kernel_rfl) ((E_bevyref03_Four x0 w R).mpr h)

/-- (*bevy/sha.state).turn -/
def F_sha_state_turn (x0 : Value) (w : World) (R : Ending → World → Prop) : Prop :=
  m R (o_alloc 58) w fun x2 w1 =>
  ml1 (.int .i64 0) w1 fun x21 u2 w2 next2 =>
    m R (o_bin .lss 3 true x21 (.int .i64 16)) w2 fun x22 w3 =>
    mif x22 (
      m R (o_nilCheck x0) w3 fun x25 w4 =>
      m R (o_fieldAddr 62 x25 1) w4 fun x26 w5 =>
      m R (o_bin .mul 3 true (.int .i64 4) x21) w5 fun x28 w6 =>
      m R (o_slice 60 x26 (some x28) none none) w6 fun x29 w7 =>
      dp Try.prog (o_indexAddr 50 x29 (.int .i64 0)) fun x32 =>
      dq Try.prog w7 (o_load 5 x32) fun x33 =>
      dp Try.prog (o_conv 5 56 x33) fun x34 =>
      dp Try.prog (o_bin .shl 56 true x34 (.int .u64 24)) fun x35 =>
      dp Try.prog (o_indexAddr 50 x29 (.int .i64 1)) fun x37 =>
      dq Try.prog w7 (o_load 5 x37) fun x38 =>
      dp Try.prog (o_conv 5 56 x38) fun x39 =>
      dp Try.prog (o_bin .shl 56 true x39 (.int .u64 16)) fun x40 =>
      dp Try.prog (o_bin .or 56 false x35 x40) fun x41 =>
      dp Try.prog (o_indexAddr 50 x29 (.int .i64 2)) fun x43 =>
      dq Try.prog w7 (o_load 5 x43) fun x44 =>
      dp Try.prog (o_conv 5 56 x44) fun x45 =>
      dp Try.prog (o_bin .shl 56 true x45 (.int .u64 8)) fun x46 =>
      dp Try.prog (o_bin .or 56 false x41 x46) fun x47 =>
      dp Try.prog (o_indexAddr 50 x29 (.int .i64 3)) fun x49 =>
      dq Try.prog w7 (o_load 5 x49) fun x50 =>
      dp Try.prog (o_conv 5 56 x50) fun x51 =>
      dp Try.prog (o_bin .or 56 false x47 x51) fun x52 =>
      dp Try.prog (o_indexAddr 58 x2 x21) fun x53 =>
      df Try.prog w7 (o_store 56 x53 x52) false fun _ w8 =>
      dend w8 fun w9 =>
      m R (o_bin .add 3 true x21 (.int .i64 1)) w9 fun x54 w10 =>
      next2 x54 w10) (
      ml1 (.int .i64 16) w3 fun x5 u8 w11 next8 =>
        m R (o_bin .lss 3 true x5 (.int .i64 64)) w11 fun x56 w12 =>
        mif x56 (
          dp Try.prog (o_bin .sub 3 true x5 (.int .i64 15)) fun x60 =>
          dp Try.prog (o_indexAddr 58 x2 x60) fun x61 =>
          dq Try.prog w12 (o_load 56 x61) fun x62 =>
          dp Try.prog (o_bin .sub 3 true x5 (.int .i64 2)) fun x64 =>
          dp Try.prog (o_indexAddr 58 x2 x64) fun x65 =>
          dq Try.prog w12 (o_load 56 x65) fun x66 =>
          dend w12 fun w13 =>
          dp Try.prog (o_bin .sub 3 true x5 (.int .i64 16)) fun x69 =>
          dp Try.prog (o_indexAddr 58 x2 x69) fun x70 =>
          dq Try.prog w13 (o_load 56 x70) fun x71 =>
          dp Try.prog (o_bin .sub 3 true x5 (.int .i64 7)) fun x73 =>
          dp Try.prog (o_indexAddr 58 x2 x73) fun x74 =>
          dq Try.prog w13 (o_load 56 x74) fun x75 =>
          dp Try.prog (o_bin .add 56 false x71 x75) fun x76 =>
          df Try.prog w13 (o_call (fv 39) [x62, (.int .i64 (-7))]) true fun x78 w14 =>
          df Try.prog w14 (o_call (fv 39) [x62, (.int .i64 (-18))]) true fun x80 w15 =>
          dp Try.prog (o_bin .xor 56 false x78 x80) fun x81 =>
          dp Try.prog (o_bin .shr 56 true x62 (.int .u64 3)) fun x83 =>
          dp Try.prog (o_bin .xor 56 false x81 x83) fun x84 =>
          dp Try.prog (o_bin .add 56 false x76 x84) fun x85 =>
          df Try.prog w15 (o_call (fv 39) [x66, (.int .i64 (-17))]) true fun x87 w16 =>
          df Try.prog w16 (o_call (fv 39) [x66, (.int .i64 (-19))]) true fun x89 w17 =>
          dp Try.prog (o_bin .xor 56 false x87 x89) fun x90 =>
          dp Try.prog (o_bin .shr 56 true x66 (.int .u64 10)) fun x92 =>
          dp Try.prog (o_bin .xor 56 false x90 x92) fun x93 =>
          dp Try.prog (o_bin .add 56 false x85 x93) fun x94 =>
          dp Try.prog (o_indexAddr 58 x2 x5) fun x95 =>
          df Try.prog w17 (o_store 56 x95 x94) false fun _ w18 =>
          dend w18 fun w19 =>
          m R (o_bin .add 3 true x5 (.int .i64 1)) w19 fun x58 w20 =>
          next8 x58 w20) (
          dp Try.prog (o_nilCheck x0) fun x97 =>
          dp Try.prog (o_fieldAddr 62 x97 0) fun x98 =>
          dp Try.prog (o_indexAddr 57 x98 (.int .i64 0)) fun x99 =>
          dq Try.prog w12 (o_load 56 x99) fun x100 =>
          dp Try.prog (o_nilCheck x0) fun x102 =>
          dp Try.prog (o_fieldAddr 62 x102 0) fun x103 =>
          dp Try.prog (o_indexAddr 57 x103 (.int .i64 1)) fun x104 =>
          dq Try.prog w12 (o_load 56 x104) fun x105 =>
          dp Try.prog (o_nilCheck x0) fun x107 =>
          dp Try.prog (o_fieldAddr 62 x107 0) fun x108 =>
          dp Try.prog (o_indexAddr 57 x108 (.int .i64 2)) fun x109 =>
          dq Try.prog w12 (o_load 56 x109) fun x110 =>
          dp Try.prog (o_nilCheck x0) fun x112 =>
          dp Try.prog (o_fieldAddr 62 x112 0) fun x113 =>
          dp Try.prog (o_indexAddr 57 x113 (.int .i64 3)) fun x114 =>
          dq Try.prog w12 (o_load 56 x114) fun x115 =>
          dp Try.prog (o_nilCheck x0) fun x117 =>
          dp Try.prog (o_fieldAddr 62 x117 0) fun x118 =>
          dp Try.prog (o_indexAddr 57 x118 (.int .i64 4)) fun x119 =>
          dq Try.prog w12 (o_load 56 x119) fun x120 =>
          dp Try.prog (o_nilCheck x0) fun x122 =>
          dp Try.prog (o_fieldAddr 62 x122 0) fun x123 =>
          dp Try.prog (o_indexAddr 57 x123 (.int .i64 5)) fun x124 =>
          dq Try.prog w12 (o_load 56 x124) fun x125 =>
          dp Try.prog (o_nilCheck x0) fun x127 =>
          dp Try.prog (o_fieldAddr 62 x127 0) fun x128 =>
          dp Try.prog (o_indexAddr 57 x128 (.int .i64 6)) fun x129 =>
          dq Try.prog w12 (o_load 56 x129) fun x130 =>
          dp Try.prog (o_nilCheck x0) fun x132 =>
          dp Try.prog (o_fieldAddr 62 x132 0) fun x133 =>
          dp Try.prog (o_indexAddr 57 x133 (.int .i64 7)) fun x134 =>
          dq Try.prog w12 (o_load 56 x134) fun x135 =>
          dend w12 fun w21 =>
          ml9 x100 x105 x110 x115 x120 x125 x130 x135 (.int .i64 0) w21 fun x8 x9 x10 x11 x12 x13 x14 x15 x136 u14 w22 next14 =>
            m R (o_bin .lss 3 true x136 (.int .i64 64)) w22 fun x137 w23 =>
            mif x137 (
              df Try.prog w23 (o_call (fv 39) [x12, (.int .i64 (-6))]) true fun x141 w24 =>
              df Try.prog w24 (o_call (fv 39) [x12, (.int .i64 (-11))]) true fun x143 w25 =>
              dp Try.prog (o_bin .xor 56 false x141 x143) fun x144 =>
              df Try.prog w25 (o_call (fv 39) [x12, (.int .i64 (-25))]) true fun x146 w26 =>
              dp Try.prog (o_bin .xor 56 false x144 x146) fun x147 =>
              dp Try.prog (o_bin .add 56 false x15 x147) fun x148 =>
              dp Try.prog (o_bin .and 56 false x12 x13) fun x151 =>
              dp Try.prog (o_un .xor x12) fun x153 =>
              dp Try.prog (o_bin .and 56 false x153 x14) fun x155 =>
              dp Try.prog (o_bin .xor 56 false x151 x155) fun x156 =>
              dp Try.prog (o_bin .add 56 false x148 x156) fun x157 =>
              dp Try.prog (o_nilCheck x0) fun x160 =>
              dp Try.prog (o_fieldAddr 62 x160 3) fun x161 =>
              dp Try.prog (o_indexAddr 58 x161 x136) fun x162 =>
              dq Try.prog w23 (o_load 56 x162) fun x163 =>
              dp Try.prog (o_bin .add 56 false x157 x163) fun x164 =>
              dp Try.prog (o_indexAddr 58 x2 x136) fun x166 =>
              dq Try.prog w23 (o_load 56 x166) fun x167 =>
              dp Try.prog (o_bin .add 56 false x164 x167) fun x168 =>
              dend w26 fun w27 =>
              m R (o_call (fv 39) [x8, (.int .i64 (-2))]) w27 fun x170 w28 =>
              m R (o_call (fv 39) [x8, (.int .i64 (-13))]) w28 fun x172 w29 =>
              m R (o_bin .xor 56 false x170 x172) w29 fun x173 w30 =>
              m R (o_call (fv 39) [x8, (.int .i64 (-22))]) w30 fun x175 w31 =>
              m R (o_bin .xor 56 false x173 x175) w31 fun x176 w32 =>
              m R (o_bin .and 56 false x8 x9) w32 fun x179 w33 =>
              m R (o_bin .and 56 false x8 x10) w33 fun x182 w34 =>
              m R (o_bin .xor 56 false x179 x182) w34 fun x183 w35 =>
              m R (o_bin .and 56 false x9 x10) w35 fun x186 w36 =>
              m R (o_bin .xor 56 false x183 x186) w36 fun x187 w37 =>
              m R (o_bin .add 56 false x176 x187) w37 fun x188 w38 =>
              m R (o_bin .add 56 false x11 x168) w38 fun x194 w39 =>
              m R (o_bin .add 56 false x168 x188) w39 fun x200 w40 =>
              m R (o_bin .add 3 true x136 (.int .i64 1)) w40 fun x201 w41 =>
              next14 x200 x8 x9 x10 x194 x12 x13 x14 x201 w41) (
              m R (o_build 57 [(0, x8), (1, x9), (2, x10), (3, x11), (4, x12), (5, x13), (6, x14), (7, x15)]) w23 fun x210 w42 =>
              ml1 (.int .i64 0) w42 fun x211 u21 w43 next21 =>
                m R (o_bin .lss 3 true x211 (.int .i64 8)) w43 fun x212 w44 =>
                mif x212 (
                  m R (o_index 57 x210 x211) w44 fun x214 w45 =>
                  dp Try.prog (o_nilCheck x0) fun x217 =>
                  dp Try.prog (o_fieldAddr 62 x217 0) fun x218 =>
                  dp Try.prog (o_indexAddr 57 x218 x211) fun x219 =>
                  dq Try.prog w45 (o_load 56 x219) fun x220 =>
                  dp Try.prog (o_bin .add 56 false x220 x214) fun x222 =>
                  dp Try.prog (o_nilCheck x0) fun x223 =>
                  dp Try.prog (o_fieldAddr 62 x223 0) fun x224 =>
                  dp Try.prog (o_indexAddr 57 x224 x211) fun x225 =>
                  df Try.prog w45 (o_store 56 x225 x222) false fun _ w46 =>
                  dend w46 fun w47 =>
                  m R (o_bin .add 3 true x211 (.int .i64 1)) w47 fun x226 w48 =>
                  next21 x226 w48) (
                  R (.returned (.tuple #[])) w44))))
def A_sha_state_turn : Ann := ⟨[(2, [21], 36028797016866840), (8, [5], 79228162514228308796524986592), (14, [8, 9, 10, 11, 12, 13, 14, 15, 136], 6427752177035961102080736083432890163442188075628638679596800), (21, [211], 215676282328090475945251810757791930688087189908593312689102186348544)], [], [(5, [⟨0, .q none, 8, 0, 1073741824⟩, ⟨1, .q none, 16, 0, 2147483648⟩, ⟨2, .q none, 2147483648, 2, 4294967296⟩, ⟨3, .q (some 0), 4294967296, 6, 8589934592⟩, ⟨4, .q none, 8589934592, 14, 17179869184⟩, ⟨5, .q none, 17179869184, 30, 34359738368⟩, ⟨6, .q none, 16, 0, 68719476736⟩, ⟨7, .q none, 68719476736, 64, 137438953472⟩, ⟨8, .q (some 0), 137438953472, 192, 274877906944⟩, ⟨9, .q none, 274877906944, 448, 549755813888⟩, ⟨10, .q none, 549755813888, 960, 1099511627776⟩, ⟨11, .q none, 1133871366144, 2046, 2199023255552⟩, ⟨12, .q none, 16, 0, 4398046511104⟩, ⟨13, .q none, 4398046511104, 4096, 8796093022208⟩, ⟨14, .q (some 0), 8796093022208, 12288, 17592186044416⟩, ⟨15, .q none, 17592186044416, 28672, 35184372088832⟩, ⟨16, .q none, 35184372088832, 61440, 70368744177664⟩, ⟨17, .q none, 72567767433216, 131070, 140737488355328⟩, ⟨18, .q none, 16, 0, 281474976710656⟩, ⟨19, .q none, 281474976710656, 262144, 562949953421312⟩, ⟨20, .q (some 0), 562949953421312, 786432, 1125899906842624⟩, ⟨21, .q none, 1125899906842624, 1835008, 2251799813685248⟩, ⟨22, .q none, 2392537302040576, 4194302, 4503599627370496⟩, ⟨23, .q none, 1073741828, 8388607, 9007199254740992⟩, ⟨24, .f 0 false, 13510798882111488, 16777215, 0⟩]), (10, [⟨0, .q none, 32, 0, 576460752303423488⟩, ⟨1, .q none, 576460752303423488, 1, 1152921504606846976⟩, ⟨2, .q none, 1152921504606846980, 3, 2305843009213693952⟩, ⟨3, .q (some 0), 2305843009213693952, 7, 4611686018427387904⟩, ⟨4, .q none, 32, 0, 9223372036854775808⟩, ⟨5, .q none, 9223372036854775808, 16, 18446744073709551616⟩, ⟨6, .q none, 18446744073709551620, 48, 36893488147419103232⟩, ⟨7, .q (some 0), 36893488147419103232, 112, 73786976294838206464⟩, ⟨8, .q none, 4611686018427387904, 15, 64⟩, ⟨9, .q none, 73786976294838206464, 511, 128⟩]), (11, [⟨0, .q none, 32, 0, 147573952589676412928⟩, ⟨1, .q none, 32, 0, 295147905179352825856⟩, ⟨2, .q none, 295147905179352825856, 2, 590295810358705651712⟩, ⟨3, .q none, 590295810358705651716, 6, 1180591620717411303424⟩, ⟨4, .q (some 0), 1180591620717411303424, 14, 2361183241434822606848⟩, ⟨5, .q none, 32, 0, 4722366482869645213696⟩, ⟨6, .q none, 4722366482869645213696, 32, 9444732965739290427392⟩, ⟨7, .q none, 9444732965739290427396, 96, 18889465931478580854784⟩, ⟨8, .q (some 0), 18889465931478580854784, 224, 37778931862957161709568⟩, ⟨9, .q none, 40140115104391984316416, 510, 75557863725914323419136⟩, ⟨10, .q none, 64, 0, 151115727451828646838272⟩, ⟨11, .f 0 true, 151115727451828646838272, 1024, 302231454903657293676544⟩, ⟨12, .q none, 64, 0, 604462909807314587353088⟩, ⟨13, .f 1 true, 604462909807314587353088, 7168, 1208925819614629174706176⟩, ⟨14, .q none, 1511157274518286468382720, 15360, 2417851639229258349412352⟩, ⟨15, .q none, 64, 0, 4835703278458516698824704⟩, ⟨16, .q none, 4835703278458516698824704, 32768, 9671406556917033397649408⟩, ⟨17, .q none, 12089258196146291747061760, 130048, 19342813113834066795298816⟩, ⟨18, .q none, 19418370977559981118717952, 262142, 38685626227668133590597632⟩, ⟨19, .q none, 128, 0, 77371252455336267181195264⟩, ⟨20, .f 2 true, 77371252455336267181195264, 539648, 154742504910672534362390528⟩, ⟨21, .q none, 128, 0, 309485009821345068724781056⟩, ⟨22, .f 3 true, 309485009821345068724781056, 3685376, 618970019642690137449562112⟩, ⟨23, .q none, 773712524553362671811952640, 7879680, 1237940039285380274899124224⟩, ⟨24, .q none, 128, 0, 2475880078570760549798248448⟩, ⟨25, .q none, 2475880078570760549798248448, 16777216, 4951760157141521099596496896⟩, ⟨26, .q none, 6189700196426901374495621120, 66599936, 9903520314283042199192993792⟩, ⟨27, .q none, 9942205940510710332783591424, 134217726, 19807040628566084398385987584⟩, ⟨28, .q none, 147573952589676412932, 268435455, 39614081257132168796771975168⟩, ⟨29, .f 4 false, 59421121885698253195157962752, 536870911, 0⟩]), (12, [⟨0, .q none, 1, 0, 79228162514264337593543950336⟩, ⟨1, .q none, 79228162514264337593543950336, 1, 158456325028528675187087900672⟩, ⟨2, .q none, 158456325028528675187087900672, 3, 316912650057057350374175801344⟩, ⟨3, .q none, 316912650057057350374175801344, 7, 633825300114114700748351602688⟩, ⟨4, .q (some 0), 633825300114114700748351602688, 15, 1267650600228229401496703205376⟩, ⟨5, .q none, 1, 0, 2535301200456458802993406410752⟩, ⟨6, .q none, 2535301200456458802993406410752, 32, 5070602400912917605986812821504⟩, ⟨7, .q none, 5070602400912917605986812821504, 96, 10141204801825835211973625643008⟩, ⟨8, .q none, 10141204801825835211973625643008, 224, 20282409603651670423947251286016⟩, ⟨9, .q (some 0), 20282409603651670423947251286016, 480, 40564819207303340847894502572032⟩, ⟨10, .q none, 1, 0, 81129638414606681695789005144064⟩, ⟨11, .q none, 81129638414606681695789005144064, 1024, 162259276829213363391578010288128⟩, ⟨12, .q none, 162259276829213363391578010288128, 3072, 324518553658426726783156020576256⟩, ⟨13, .q none, 324518553658426726783156020576256, 7168, 649037107316853453566312041152512⟩, ⟨14, .q (some 0), 649037107316853453566312041152512, 15360, 1298074214633706907132624082305024⟩, ⟨15, .q none, 1, 0, 2596148429267413814265248164610048⟩, ⟨16, .q none, 2596148429267413814265248164610048, 32768, 5192296858534827628530496329220096⟩, ⟨17, .q none, 5192296858534827628530496329220096, 98304, 10384593717069655257060992658440192⟩, ⟨18, .q none, 10384593717069655257060992658440192, 229376, 20769187434139310514121985316880384⟩, ⟨19, .q (some 0), 20769187434139310514121985316880384, 491520, 41538374868278621028243970633760768⟩, ⟨20, .q none, 1, 0, 83076749736557242056487941267521536⟩, ⟨21, .q none, 83076749736557242056487941267521536, 1048576, 166153499473114484112975882535043072⟩, ⟨22, .q none, 166153499473114484112975882535043072, 3145728, 332306998946228968225951765070086144⟩, ⟨23, .q none, 332306998946228968225951765070086144, 7340032, 664613997892457936451903530140172288⟩, ⟨24, .q (some 0), 664613997892457936451903530140172288, 15728640, 1329227995784915872903807060280344576⟩, ⟨25, .q none, 1, 0, 2658455991569831745807614120560689152⟩, ⟨26, .q none, 2658455991569831745807614120560689152, 33554432, 5316911983139663491615228241121378304⟩, ⟨27, .q none, 5316911983139663491615228241121378304, 100663296, 10633823966279326983230456482242756608⟩, ⟨28, .q none, 10633823966279326983230456482242756608, 234881024, 21267647932558653966460912964485513216⟩, ⟨29, .q (some 0), 21267647932558653966460912964485513216, 503316480, 42535295865117307932921825928971026432⟩, ⟨30, .q none, 1, 0, 85070591730234615865843651857942052864⟩, ⟨31, .q none, 85070591730234615865843651857942052864, 1073741824, 170141183460469231731687303715884105728⟩, ⟨32, .q none, 170141183460469231731687303715884105728, 3221225472, 340282366920938463463374607431768211456⟩, ⟨33, .q none, 340282366920938463463374607431768211456, 7516192768, 680564733841876926926749214863536422912⟩, ⟨34, .q (some 0), 680564733841876926926749214863536422912, 16106127360, 1361129467683753853853498429727072845824⟩, ⟨35, .q none, 1, 0, 2722258935367507707706996859454145691648⟩, ⟨36, .q none, 2722258935367507707706996859454145691648, 34359738368, 5444517870735015415413993718908291383296⟩, ⟨37, .q none, 5444517870735015415413993718908291383296, 103079215104, 10889035741470030830827987437816582766592⟩, ⟨38, .q none, 10889035741470030830827987437816582766592, 240518168576, 21778071482940061661655974875633165533184⟩, ⟨39, .q (some 0), 21778071482940061661655974875633165533184, 515396075520, 43556142965880123323311949751266331066368⟩, ⟨40, .q none, 1267650600228229401496703205376, 31, 256⟩, ⟨41, .q none, 40564819207303340847894502572032, 1099511628799, 512⟩, ⟨42, .q none, 1298074214633706907132624082305024, 3298534916095, 1024⟩, ⟨43, .q none, 41538374868278621028243970633760768, 7696582443007, 2048⟩, ⟨44, .q none, 1329227995784915872903807060280344576, 16492707971071, 4096⟩, ⟨45, .q none, 42535295865117307932921825928971026432, 34085934202879, 8192⟩, ⟨46, .q none, 1361129467683753853853498429727072845824, 69303592288255, 16384⟩, ⟨47, .q none, 43556142965880123323311949751266331066368, 140737488355327, 32768⟩]), (16, [⟨0, .q none, 32768, 0, 696898287454081973172991196020261297061888⟩, ⟨1, .q none, 4096, 0, 1393796574908163946345982392040522594123776⟩, ⟨2, .f 0 true, 1393796574908163946345982392040522594123776, 2, 2787593149816327892691964784081045188247552⟩, ⟨3, .q none, 4096, 0, 5575186299632655785383929568162090376495104⟩, ⟨4, .f 1 true, 5575186299632655785383929568162090376495104, 14, 11150372599265311570767859136324180752990208⟩, ⟨5, .q none, 13937965749081639463459823920405225941237760, 30, 22300745198530623141535718272648361505980416⟩, ⟨6, .q none, 4096, 0, 44601490397061246283071436545296723011960832⟩, ⟨7, .f 2 true, 44601490397061246283071436545296723011960832, 94, 89202980794122492566142873090593446023921664⟩, ⟨8, .q none, 111503725992653115707678591363241807529902080, 254, 178405961588244985132285746181186892047843328⟩, ⟨9, .q none, 179102859875699067105458737377207153344905216, 511, 356811923176489970264571492362373784095686656⟩, ⟨10, .q none, 4096, 0, 713623846352979940529142984724747568191373312⟩, ⟨11, .q none, 8192, 0, 1427247692705959881058285969449495136382746624⟩, ⟨12, .q none, 2140871539058939821587428954174242704574119936, 3072, 2854495385411919762116571938898990272765493248⟩, ⟨13, .q none, 4096, 0, 5708990770823839524233143877797980545530986496⟩, ⟨14, .q none, 5708990770823839524233143877797980545530986496, 8192, 11417981541647679048466287755595961091061972992⟩, ⟨15, .q none, 16384, 0, 22835963083295358096932575511191922182123945984⟩, ⟨16, .q none, 34253944624943037145398863266787883273185918976, 57344, 45671926166590716193865151022383844364247891968⟩, ⟨17, .q none, 48526421552002635955981722961282834637013385216, 130048, 91343852333181432387730302044767688728495783936⟩, ⟨18, .q none, 91700664256357922357994873537130062512591470592, 262143, 182687704666362864775460604089535377456991567872⟩, ⟨19, .q none, 1, 0, 365375409332725729550921208179070754913983135744⟩, ⟨20, .q none, 65536, 0, 730750818665451459101842416358141509827966271488⟩, ⟨21, .q none, 365375409332725729550921208179070754913983135744, 524288, 1461501637330902918203684832716283019655932542976⟩, ⟨22, .q none, 1461501637330902918203684832716283019655932542976, 2621440, 2923003274661805836407369665432566039311865085952⟩, ⟨23, .q none, 3653754093327257295509212081790707549139831357440, 7864320, 5846006549323611672814739330865132078623730171904⟩, ⟨24, .q (some 0), 5846006549323611672814739330865132078623730171904, 16252928, 11692013098647223345629478661730264157247460343808⟩, ⟨25, .q none, 11874700803313586210404939265819799534704451911680, 33554431, 23384026197294446691258957323460528314494920687616⟩, ⟨26, .q none, 65536, 0, 46768052394588893382517914646921056628989841375232⟩, ⟨27, .q none, 46768052394588893382517914646921056628989841375236, 67108864, 93536104789177786765035829293842113257979682750464⟩, ⟨28, .q (some 0), 93536104789177786765035829293842113257979682750464, 201326592, 187072209578355573530071658587684226515959365500928⟩, ⟨29, .q none, 210456235775650020221330615911144754830454286188544, 536870911, 374144419156711147060143317175368453031918731001856⟩, ⟨30, .q none, 374144419156711147060143317175368453031918731001856, 1073741823, 131072⟩]), (23, [⟨0, .q none, 1, 0, 52656145834278593348959013841835216159447547700274555627155488768⟩, ⟨1, .q none, 524288, 0, 105312291668557186697918027683670432318895095400549111254310977536⟩, ⟨2, .q none, 52656145834278593348959013841835216159447547700274555627155488768, 1, 210624583337114373395836055367340864637790190801098222508621955072⟩, ⟨3, .q none, 210624583337114373395836055367340864637790190801098222508621955072, 5, 421249166674228746791672110734681729275580381602196445017243910144⟩, ⟨4, .q none, 526561458342785933489590138418352161594475477002745556271554887680, 15, 842498333348457493583344221469363458551160763204392890034487820288⟩, ⟨5, .q (some 0), 842498333348457493583344221469363458551160763204392890034487820288, 31, 1684996666696914987166688442938726917102321526408785780068975640576⟩, ⟨6, .q none, 1048576, 0, 3369993333393829974333376885877453834204643052817571560137951281152⟩, ⟨7, .q none, 5054990000090744961500065328816180751306964579226357340206926921728, 127, 6739986666787659948666753771754907668409286105635143120275902562304⟩, ⟨8, .q none, 52656145834278593348959013841835216159447547700274555627155488768, 1, 13479973333575319897333507543509815336818572211270286240551805124608⟩, ⟨9, .q none, 13479973333575319897333507543509815336818572211270286240551805124608, 257, 26959946667150639794667015087019630673637144422540572481103610249216⟩, ⟨10, .q none, 27065258958819196981364933114703301105956039517941121592357921226752, 1023, 53919893334301279589334030174039261347274288845081144962207220498432⟩, ⟨11, .f 0 false, 60659880001088939538000783945794169015683574950716288082483123060736, 2047, 0⟩])], [], []⟩
theorem E_sha_state_turn (x0 : Value) (w : World) (R : Ending → World → Prop) : cwp Try.prog A_sha_state_turn (Try.f38.body.getD .skip) (retPost Try.prog Try.f38.results.toList R) (argE [x0]) w = F_sha_state_turn x0 w R := by kernel_rfl
theorem C_sha_state_turn {x0 : Value} {w : World} {R : Ending → World → Prop} (h : F_sha_state_turn x0 w R) : Calls Try.prog 38 #[x0] w R :=
  calls_cwp (A := A_sha_state_turn) (args := [x0]) mixed Try.func38 (c := Try.f38.body.getD .skip) (by kernel_rfl) (by kernel_rfl) (by kernel_rfl) ((E_sha_state_turn x0 w R).mpr h)

/-- math/bits.RotateLeft32 -/
def F_math_bits_RotateLeft32 (x0 x1 : Value) (w : World) (R : Ending → World → Prop) : Prop :=
  m R (o_conv 3 49 x1) w fun x7 w1 =>
  m R (o_bin .and 49 true x7 (.int .u64 31)) w1 fun x8 w2 =>
  m R (o_bin .shl 56 false x0 x8) w2 fun x11 w3 =>
  m R (o_bin .sub 49 true (.int .u64 32) x8) w3 fun x14 w4 =>
  m R (o_bin .shr 56 false x0 x14) w4 fun x15 w5 =>
  m R (o_bin .or 56 false x11 x15) w5 fun x16 w6 =>
  R (.returned x16) w6
def A_math_bits_RotateLeft32 : Ann := ⟨[], [], [], [], []⟩
theorem E_math_bits_RotateLeft32 (x0 x1 : Value) (w : World) (R : Ending → World → Prop) : cwp Try.prog A_math_bits_RotateLeft32 (Try.f39.body.getD .skip) (retPost Try.prog Try.f39.results.toList R) (argE [x0, x1]) w = F_math_bits_RotateLeft32 x0 x1 w R := by kernel_rfl
theorem C_math_bits_RotateLeft32 {x0 x1 : Value} {w : World} {R : Ending → World → Prop} (h : F_math_bits_RotateLeft32 x0 x1 w R) : Calls Try.prog 39 #[x0, x1] w R :=
  calls_cwp (A := A_math_bits_RotateLeft32) (args := [x0, x1]) mixed Try.func39 (c := Try.f39.body.getD .skip) (by kernel_rfl) (by kernel_rfl) (by kernel_rfl) ((E_math_bits_RotateLeft32 x0 x1 w R).mpr h)
end Go.Proofs.Ytdefecbaineneaa
