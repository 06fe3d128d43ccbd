/- The formulas of the bodies, printed by wip/hoas.py out of the loaded program; each is held against the body by the kernel. -/
import Derived.Test.YtmjpbomonhjebaaFBase
set_option linter.unusedVariables false
namespace Go.Proofs.Ytmjpbomonhjebaa

/-- bevy/bevylaw10.ChangeOrders -/
def F_bevylaw10_ChangeOrders (x0 x1 x2 : Value) (w : World) (R : Ending → World → Prop) : Prop :=
  m R (o_box 27 x0) w fun x3 w1 =>
  m R (o_box 27 x1) w1 fun x4 w2 =>
  m R (o_box 27 x2) w2 fun x5 w3 =>
  mj1 (fun j2 =>
    dq Try.prog w3 (o_load 27 x3) fun x7 =>
    dq Try.prog w3 (o_load 27 x4) fun x8 =>
    df Try.prog w3 (o_call (fv 15) [x7, x8]) true fun x9 w4 =>
    dq Try.prog w3 (o_load 27 x3) fun x10 =>
    dq Try.prog w3 (o_load 27 x4) fun x11 =>
    df Try.prog w4 (o_call (fv 16) [x10, x11]) false fun x12 w5 =>
    dp Try.prog (o_bin .neq 4 false x9 x12) fun x13 =>
    qguard x13 false (fun k => dq Try.prog w5 (o_load 27 x3) k) fun x15 =>
    qguard x13 false (fun k => dq Try.prog w5 (o_load 27 x3) k) fun x16 =>
    mguard x13 false (fun k => df Try.prog w5 (o_call (fv 15) [x15, x16]) false k) w5 fun x17 w6 =>
    dp Try.prog (o_pick x13 (.bool true) x17) fun x18 =>
    qguard x18 false (fun k => dq Try.prog w6 (o_load 27 x3) k) fun x20 =>
    qguard x18 false (fun k => dq Try.prog w6 (o_load 27 x4) k) fun x21 =>
    mguard x18 false (fun k => df Try.prog w6 (o_call (fv 15) [x20, x21]) false k) w6 fun x22 w7 =>
    qguard x18 false (fun k => dp Try.prog (o_move x22) k) fun x23 =>
    qguard x23 true (fun k => dq Try.prog w7 (o_load 27 x4) k) fun x24 =>
    qguard x23 true (fun k => dq Try.prog w7 (o_load 27 x3) k) fun x25 =>
    mguard x23 true (fun k => df Try.prog w7 (o_call (fv 15) [x24, x25]) false k) w7 fun x26 w8 =>
    qguard x18 false (fun k => dp Try.prog (o_pick x23 x26 (.bool false)) k) fun x27 =>
    dp Try.prog (o_pick x18 (.bool true) x27) fun x28 =>
    dend w8 fun w9 =>
    j2 x28 w9) fun x28 u2 w10 =>
  mif x28 (
    R (.returned (.bool false)) w10) (
    m R (o_call (fv 17) []) w10 fun x29 w11 =>
    mguard x29 true (fun k => m R (o_load 27 x3) w11 k) w11 fun x31 w12 =>
    mguard x29 true (fun k => m R (o_load 27 x4) w12 k) w12 fun x32 w13 =>
    mguard x29 true (fun k => m R (o_call (fv 15) [x31, x32]) w13 k) w13 fun x33 w14 =>
    mguard x29 true (fun k => m R (o_un .not x33) w14 k) w14 fun x34 w15 =>
    mguard x29 true (fun k => m R (o_move x34) w15 k) w15 fun x35 w16 =>
    mguard x35 false (fun k => m R (o_load 27 x4) w16 k) w16 fun x36 w17 =>
    mguard x35 false (fun k => m R (o_load 27 x5) w17 k) w17 fun x37 w18 =>
    mguard x35 false (fun k => m R (o_call (fv 15) [x36, x37]) w18 k) w18 fun x38 w19 =>
    mguard x35 false (fun k => m R (o_un .not x38) w19 k) w19 fun x39 w20 =>
    mguard x29 true (fun k => m R (o_pick x35 (.bool true) x39) w20 k) w20 fun x40 w21 =>
    mguard x29 true (fun k => m R (o_move x40) w21 k) w21 fun x41 w22 =>
    mguard x41 false (fun k => m R (o_load 27 x3) w22 k) w22 fun x42 w23 =>
    mguard x41 false (fun k => m R (o_load 27 x5) w23 k) w23 fun x43 w24 =>
    mguard x41 false (fun k => m R (o_call (fv 15) [x42, x43]) w24 k) w24 fun x44 w25 =>
    mguard x29 true (fun k => m R (o_pick x41 (.bool true) x44) w25 k) w25 fun x45 w26 =>
    m R (o_pick x29 x45 (.bool false)) w26 fun x46 w27 =>
    R (.returned x46) w27)
def A_bevylaw10_ChangeOrders : Ann := ⟨[], [(2, [28], 536870784)], [(1, [⟨0, .q (some 0), 8, 0, 128⟩, ⟨1, .q (some 0), 16, 0, 256⟩, ⟨2, .f 0 true, 384, 3, 512⟩, ⟨3, .q (some 0), 8, 0, 1024⟩, ⟨4, .q (some 0), 16, 0, 2048⟩, ⟨5, .f 1 false, 3072, 31, 4096⟩, ⟨6, .q none, 4608, 63, 8192⟩, ⟨7, .q none, 8192, 127, 16384⟩, ⟨8, .q (some 2), 16392, 255, 32768⟩, ⟨9, .q (some 2), 16392, 255, 65536⟩, ⟨10, .f 2 false, 114688, 1023, 131072⟩, ⟨11, .q none, 147456, 2047, 262144⟩, ⟨12, .q none, 262144, 4095, 524288⟩, ⟨13, .q (some 3), 524296, 8191, 1048576⟩, ⟨14, .q (some 3), 524304, 8191, 2097152⟩, ⟨15, .f 3 false, 3670016, 32767, 4194304⟩, ⟨16, .q none, 4718592, 65535, 8388608⟩, ⟨17, .q (some 4), 8388624, 131071, 16777216⟩, ⟨18, .q (some 4), 8388616, 131071, 33554432⟩, ⟨19, .f 4 false, 58720256, 524287, 67108864⟩, ⟨20, .q none, 76021760, 1048575, 134217728⟩, ⟨21, .q none, 134742016, 2097151, 268435456⟩])], [], []⟩
theorem E_bevylaw10_ChangeOrders (x0 x1 x2 : Value) (w : World) (R : Ending → World → Prop) : cwp Try.prog A_bevylaw10_ChangeOrders (Try.f3.body.getD .skip) (retPost Try.prog Try.f3.results.toList R) (argE [x0, x1, x2]) w = F_bevylaw10_ChangeOrders x0 x1 x2 w R := by kernel_rfl
theorem C_bevylaw10_ChangeOrders {x0 x1 x2 : Value} {w : World} {R : Ending → World → Prop} (h : F_bevylaw10_ChangeOrders x0 x1 x2 w R) : Calls Try.prog 3 #[x0, x1, x2] w R :=
  calls_cwp (A := A_bevylaw10_ChangeOrders) (args := [x0, x1, x2]) mixed Try.func3 (c := Try.f3.body.getD .skip) (by kernel_rfl) (by kernel_rfl) (by kernel_rfl) ((E_bevylaw10_ChangeOrders x0 x1 x2 w R).mpr h)

/-- bevy/bevylaw10.ChangeSigns -/
def F_bevylaw10_ChangeSigns (x0 x1 x2 : Value) (w : World) (R : Ending → World → Prop) : Prop :=
  m R (o_box 27 x0) w fun x3 w1 =>
  m R (o_box 23 x1) w1 fun x4 w2 =>
  m R (o_box 23 x2) w2 fun x5 w3 =>
  m R (o_load 27 x3) w3 fun x8 w4 =>
  m R (o_call (fv 18) [x8]) w4 fun x9 w5 =>
  m R (o_un .not x9) w5 fun x10 w6 =>
  mif x10 (
    df Try.prog w6 (o_call (fv 17) []) false fun x11 w7 =>
    qguard x11 true (fun k => dq Try.prog w7 (o_load 27 x3) k) fun x13 =>
    qguard x11 true (fun k => dq Try.prog w7 (o_load 23 x4) k) fun x14 =>
    mguard x11 true (fun k => df Try.prog w7 (o_call (fv 19) [x13, x14]) true k) w7 fun x15 w8 =>
    qguard x11 true (fun k => dq Try.prog w7 (o_load 27 x3) k) fun x16 =>
    qguard x11 true (fun k => dp Try.prog (o_bin .eql 27 false x15 x16) k) fun x17 =>
    dp Try.prog (o_pick x11 x17 (.bool false)) fun x18 =>
    dend w8 fun w9 =>
    R (.returned x18) w9) (
    m R (o_load 27 x3) w6 fun x19 w10 =>
    m R (o_load 23 x4) w10 fun x20 w11 =>
    m R (o_call (fv 19) [x19, x20]) w11 fun x21 w12 =>
    m R (o_alloc 27) w12 fun x7 w13 =>
    m R (o_store 27 x7 x21) w13 fun _ w14 =>
    df Try.prog w14 (o_call (fv 17) []) false fun x22 w15 =>
    qguard x22 true (fun k => dq Try.prog w15 (o_load 27 x7) k) fun x24 =>
    qguard x22 true (fun k => dq Try.prog w15 (o_load 27 x3) k) fun x25 =>
    qguard x22 true (fun k => dq Try.prog w15 (o_load 23 x4) k) fun x26 =>
    mguard x22 true (fun k => df Try.prog w15 (o_call (fv 20) [x25, x26]) true k) w15 fun x27 w16 =>
    qguard x22 true (fun k => dp Try.prog (o_bin .eql 27 false x24 x27) k) fun x28 =>
    dp Try.prog (o_pick x22 x28 (.bool false)) fun x29 =>
    qguard x29 true (fun k => dq Try.prog w16 (o_load 27 x7) k) fun x31 =>
    qguard x29 true (fun k => dq Try.prog w16 (o_load 23 x4) k) fun x32 =>
    mguard x29 true (fun k => df Try.prog w16 (o_call (fv 22) [x32]) true k) w16 fun x33 w17 =>
    mguard x29 true (fun k => df Try.prog w17 (o_call (fv 21) [x31, x33]) false k) w17 fun x34 w18 =>
    dp Try.prog (o_pick x29 x34 (.bool false)) fun x35 =>
    qguard x35 true (fun k => dq Try.prog w18 (o_load 27 x7) k) fun x37 =>
    qguard x35 true (fun k => dq Try.prog w18 (o_load 23 x5) k) fun x38 =>
    mguard x35 true (fun k => df Try.prog w18 (o_call (fv 21) [x37, x38]) true k) w18 fun x39 w19 =>
    qguard x35 true (fun k => dq Try.prog w18 (o_load 27 x7) k) fun x40 =>
    qguard x35 true (fun k => dq Try.prog w18 (o_load 23 x5) k) fun x41 =>
    mguard x35 true (fun k => df Try.prog w19 (o_call (fv 23) [x40, x41]) false k) w19 fun x42 w20 =>
    qguard x35 true (fun k => dp Try.prog (o_bin .eql 4 false x39 x42) k) fun x43 =>
    dp Try.prog (o_pick x35 x43 (.bool false)) fun x44 =>
    dend w20 fun w21 =>
    R (.returned x44) w21)
def A_bevylaw10_ChangeSigns : Ann := ⟨[], [], [(2, [⟨0, .f 0 false, 0, 0, 2048⟩, ⟨1, .q none, 2048, 1, 4096⟩, ⟨2, .q (some 1), 4104, 3, 8192⟩, ⟨3, .q (some 1), 4112, 3, 16384⟩, ⟨4, .f 1 true, 28672, 15, 32768⟩, ⟨5, .q (some 1), 4104, 3, 65536⟩, ⟨6, .q none, 102400, 63, 131072⟩, ⟨7, .q none, 135168, 127, 262144⟩, ⟨8, .q none, 262144, 255, 64⟩]), (4, [⟨0, .f 0 false, 0, 0, 4194304⟩, ⟨1, .q none, 4194304, 1, 8388608⟩, ⟨2, .q (some 1), 8388736, 3, 16777216⟩, ⟨3, .q (some 1), 8388616, 3, 33554432⟩, ⟨4, .q (some 1), 8388624, 3, 67108864⟩, ⟨5, .f 1 true, 109051904, 27, 134217728⟩, ⟨6, .q none, 159383552, 63, 268435456⟩, ⟨7, .q none, 276824064, 127, 536870912⟩, ⟨8, .q none, 536870912, 255, 1073741824⟩, ⟨9, .q (some 2), 1073741952, 511, 2147483648⟩, ⟨10, .q (some 2), 1073741840, 511, 4294967296⟩, ⟨11, .f 2 true, 5368709120, 1535, 8589934592⟩, ⟨12, .f 3 false, 11811160064, 4095, 17179869184⟩, ⟨13, .q none, 18253611008, 8191, 34359738368⟩, ⟨14, .q none, 34359738368, 16383, 68719476736⟩, ⟨15, .q (some 4), 68719476864, 32767, 137438953472⟩, ⟨16, .q (some 4), 68719476768, 32767, 274877906944⟩, ⟨17, .f 4 true, 481036337152, 131071, 549755813888⟩, ⟨18, .q (some 4), 68719476864, 32767, 1099511627776⟩, ⟨19, .q (some 4), 68719476768, 32767, 2199023255552⟩, ⟨20, .f 5 false, 3367254360064, 1048575, 4398046511104⟩, ⟨21, .q none, 5016521801728, 2097151, 8796093022208⟩, ⟨22, .q none, 8864812498944, 4194303, 17592186044416⟩, ⟨23, .q none, 17592186044416, 8388607, 64⟩])], [], []⟩
theorem E_bevylaw10_ChangeSigns (x0 x1 x2 : Value) (w : World) (R : Ending → World → Prop) : cwp Try.prog A_bevylaw10_ChangeSigns (Try.f4.body.getD .skip) (retPost Try.prog Try.f4.results.toList R) (argE [x0, x1, x2]) w = F_bevylaw10_ChangeSigns x0 x1 x2 w R := by kernel_rfl
theorem C_bevylaw10_ChangeSigns {x0 x1 x2 : Value} {w : World} {R : Ending → World → Prop} (h : F_bevylaw10_ChangeSigns x0 x1 x2 w R) : Calls Try.prog 4 #[x0, x1, x2] w R :=
  calls_cwp (A := A_bevylaw10_ChangeSigns) (args := [x0, x1, x2]) mixed Try.func4 (c := Try.f4.body.getD .skip) (by kernel_rfl) (by kernel_rfl) (by kernel_rfl) ((E_bevylaw10_ChangeSigns x0 x1 x2 w R).mpr h)

/-- bevy/bevylaw10.ChangeRights -/
def F_bevylaw10_ChangeRights (x0 : Value) (w : World) (R : Ending → World → Prop) : Prop :=
  m R (o_box 27 x0) w fun x1 w1 =>
  m R (o_load 27 x1) w1 fun x4 w2 =>
  m R (o_call (fv 18) [x4]) w2 fun x5 w3 =>
  df Try.prog w3 (o_call (fv 17) []) false fun x6 w4 =>
  qguard x6 true (fun k => dq Try.prog w4 (o_load 27 x1) k) fun x8 =>
  mguard x6 true (fun k => df Try.prog w4 (o_call (fv 24) [x8]) false k) w4 fun x9 w5 =>
  qguard x6 true (fun k => dp Try.prog (o_move x5) k) fun x10 =>
  qguard x6 true (fun k => dp Try.prog (o_bin .eql 4 false x9 x10) k) fun x11 =>
  dp Try.prog (o_pick x6 x11 (.bool false)) fun x12 =>
  qguard x12 true (fun k => dp Try.prog (o_move x5) k) fun x14 =>
  qguard x12 true (fun k => dp Try.prog (o_move x14) k) fun x15 =>
  qguard x15 true (fun k => dq Try.prog w5 (o_load 27 x1) k) fun x16 =>
  mguard x15 true (fun k => df Try.prog w5 (o_call (fv 25) [x16]) true k) w5 fun x17 w6 =>
  qguard x15 true (fun k => dq Try.prog w5 (o_load 27 x1) k) fun x18 =>
  mguard x15 true (fun k => df Try.prog w6 (o_call (fv 26) [x18]) false k) w6 fun x19 w7 =>
  qguard x15 true (fun k => dp Try.prog (o_bin .eql 9 false x17 x19) k) fun x20 =>
  qguard x12 true (fun k => dp Try.prog (o_pick x15 x20 (.bool false)) k) fun x21 =>
  qguard x12 true (fun k => dp Try.prog (o_move x21) k) fun x22 =>
  qguard x22 false (fun k => dp Try.prog (o_move x5) k) fun x23 =>
  qguard x22 false (fun k => dp Try.prog (o_un .not x23) k) fun x24 =>
  qguard x22 false (fun k => dp Try.prog (o_move x24) k) fun x25 =>
  qguard x25 true (fun k => dq Try.prog w7 (o_load 27 x1) k) fun x26 =>
  mguard x25 true (fun k => df Try.prog w7 (o_call (fv 25) [x26]) false k) w7 fun x27 w8 =>
  qguard x25 true (fun k => dp Try.prog (o_bin .eql 9 true x27 (.string (ByteArray.mk #[]))) k) fun x28 =>
  qguard x22 false (fun k => dp Try.prog (o_pick x25 x28 (.bool false)) k) fun x29 =>
  qguard x12 true (fun k => dp Try.prog (o_pick x22 (.bool true) x29) k) fun x30 =>
  dp Try.prog (o_pick x12 x30 (.bool false)) fun x31 =>
  dend w8 fun w9 =>
  R (.returned x31) w9
def A_bevylaw10_ChangeRights : Ann := ⟨[], [], [(2, [⟨0, .f 0 false, 0, 0, 64⟩, ⟨1, .q none, 64, 1, 128⟩, ⟨2, .q (some 1), 130, 3, 256⟩, ⟨3, .f 1 false, 384, 7, 512⟩, ⟨4, .q none, 136, 3, 1024⟩, ⟨5, .q none, 1664, 31, 2048⟩, ⟨6, .q none, 2176, 63, 4096⟩, ⟨7, .q none, 4096, 127, 8192⟩, ⟨8, .q none, 8200, 255, 16384⟩, ⟨9, .q none, 24576, 511, 32768⟩, ⟨10, .q (some 2), 32770, 1023, 65536⟩, ⟨11, .f 2 true, 98304, 2047, 131072⟩, ⟨12, .q (some 2), 32770, 1023, 262144⟩, ⟨13, .f 3 false, 294912, 8191, 524288⟩, ⟨14, .q none, 688128, 16383, 1048576⟩, ⟨15, .q none, 1089536, 32767, 2097152⟩, ⟨16, .q none, 2105344, 65535, 4194304⟩, ⟨17, .q none, 4194312, 131071, 8388608⟩, ⟨18, .q none, 12582912, 262143, 16777216⟩, ⟨19, .q none, 20971520, 524287, 33554432⟩, ⟨20, .q (some 4), 33554434, 1048575, 67108864⟩, ⟨21, .f 4 false, 100663296, 2097151, 134217728⟩, ⟨22, .q none, 167772160, 4194303, 268435456⟩, ⟨23, .q none, 306184192, 8388607, 536870912⟩, ⟨24, .q none, 541073408, 16777215, 1073741824⟩, ⟨25, .q none, 1073750016, 33554431, 2147483648⟩, ⟨26, .q none, 2147483648, 67108863, 4⟩])], [], []⟩
theorem E_bevylaw10_ChangeRights (x0 : Value) (w : World) (R : Ending → World → Prop) : cwp Try.prog A_bevylaw10_ChangeRights (Try.f5.body.getD .skip) (retPost Try.prog Try.f5.results.toList R) (argE [x0]) w = F_bevylaw10_ChangeRights x0 w R := by kernel_rfl
theorem C_bevylaw10_ChangeRights {x0 : Value} {w : World} {R : Ending → World → Prop} (h : F_bevylaw10_ChangeRights x0 w R) : Calls Try.prog 5 #[x0] w R :=
  calls_cwp (A := A_bevylaw10_ChangeRights) (args := [x0]) mixed Try.func5 (c := Try.f5.body.getD .skip) (by kernel_rfl) (by kernel_rfl) (by kernel_rfl) ((E_bevylaw10_ChangeRights x0 w R).mpr h)

/-- bevy/bevylaw10.ChangeReads -/
def F_bevylaw10_ChangeReads (x0 : Value) (w : World) (R : Ending → World → Prop) : Prop :=
  m R (o_builtin .len #[9] 3 [false] [x0]) w fun x8 w1 =>
  m R (o_bin .gtr 3 true x8 (.int .i64 1000)) w1 fun x9 w2 =>
  mif x9 (
    m R (o_call (fv 17) []) w2 fun x10 w3 =>
    R (.returned x10) w3) (
    m R (o_call (fv 27) [x0]) w2 fun x13 w4 =>
    m R (o_extract x13 0) w4 fun x14 w5 =>
    m R (o_extract x13 1) w5 fun x15 w6 =>
    m R (o_alloc 27) w6 fun x3 w7 =>
    m R (o_store 27 x3 x14) w7 fun _ w8 =>
    m R (o_call (fv 28) [x0]) w8 fun x18 w9 =>
    m R (o_extract x18 0) w9 fun x19 w10 =>
    m R (o_extract x18 1) w10 fun x20 w11 =>
    m R (o_alloc 27) w11 fun x5 w12 =>
    m R (o_store 27 x5 x19) w12 fun _ w13 =>
    m R (o_call (fv 17) []) w13 fun x21 w14 =>
    mguard x21 true (fun k => m R (o_move x15) w14 k) w14 fun x23 w15 =>
    mguard x21 true (fun k => m R (o_move x20) w15 k) w15 fun x24 w16 =>
    mguard x21 true (fun k => m R (o_bin .eql 3 false x23 x24) w16 k) w16 fun x25 w17 =>
    m R (o_pick x21 x25 (.bool false)) w17 fun x26 w18 =>
    mguard x26 true (fun k => m R (o_load 27 x3) w18 k) w18 fun x28 w19 =>
    mguard x26 true (fun k => m R (o_load 27 x5) w19 k) w19 fun x29 w20 =>
    mguard x26 true (fun k => m R (o_bin .eql 27 false x28 x29) w20 k) w20 fun x30 w21 =>
    m R (o_pick x26 x30 (.bool false)) w21 fun x31 w22 =>
    mguard x31 true (fun k => m R (o_move x15) w22 k) w22 fun x33 w23 =>
    mguard x31 true (fun k => m R (o_bin .neq 37 true x33 (.int .i64 0)) w23 k) w23 fun x34 w24 =>
    mguard x31 true (fun k => m R (o_move x34) w24 k) w24 fun x35 w25 =>
    mguard x35 false (fun k => m R (o_load 27 x3) w25 k) w25 fun x36 w26 =>
    mguard x35 false (fun k => m R (o_call (fv 25) [x36]) w26 k) w26 fun x37 w27 =>
    mguard x35 false (fun k => m R (o_move x0) w27 k) w27 fun x38 w28 =>
    mguard x35 false (fun k => m R (o_bin .eql 9 false x37 x38) w28 k) w28 fun x39 w29 =>
    mguard x31 true (fun k => m R (o_pick x35 (.bool true) x39) w29 k) w29 fun x40 w30 =>
    m R (o_pick x31 x40 (.bool false)) w30 fun x41 w31 =>
    R (.returned x41) w31)
def A_bevylaw10_ChangeReads : Ann := ⟨[], [], [], [], []⟩
theorem E_bevylaw10_ChangeReads (x0 : Value) (w : World) (R : Ending → World → Prop) : cwp Try.prog A_bevylaw10_ChangeReads (Try.f6.body.getD .skip) (retPost Try.prog Try.f6.results.toList R) (argE [x0]) w = F_bevylaw10_ChangeReads x0 w R := by kernel_rfl
theorem C_bevylaw10_ChangeReads {x0 : Value} {w : World} {R : Ending → World → Prop} (h : F_bevylaw10_ChangeReads x0 w R) : Calls Try.prog 6 #[x0] w R :=
  calls_cwp (A := A_bevylaw10_ChangeReads) (args := [x0]) mixed Try.func6 (c := Try.f6.body.getD .skip) (by kernel_rfl) (by kernel_rfl) (by kernel_rfl) ((E_bevylaw10_ChangeReads x0 w R).mpr h)

/-- bevy/bevylaw10.ChangeOne -/
def F_bevylaw10_ChangeOne (x0 x1 x2 x3 : Value) (w : World) (R : Ending → World → Prop) : Prop :=
  m R (o_box 27 x0) w fun x4 w1 =>
  m R (o_box 27 x1) w1 fun x5 w2 =>
  m R (o_box 23 x2) w2 fun x6 w3 =>
  m R (o_box 23 x3) w3 fun x7 w4 =>
  mj1 (fun j2 =>
    df Try.prog w4 (o_call (fv 17) []) false fun x12 w5 =>
    dp Try.prog (o_un .not x12) fun x13 =>
    qguard x13 false (fun k => dq Try.prog w5 (o_load 27 x4) k) fun x15 =>
    mguard x13 false (fun k => df Try.prog w5 (o_call (fv 24) [x15]) true k) w5 fun x16 w6 =>
    qguard x13 false (fun k => dq Try.prog w5 (o_load 27 x4) k) fun x17 =>
    mguard x13 false (fun k => df Try.prog w6 (o_call (fv 18) [x17]) false k) w6 fun x18 w7 =>
    qguard x13 false (fun k => dp Try.prog (o_bin .neq 4 false x16 x18) k) fun x19 =>
    dp Try.prog (o_pick x13 (.bool true) x19) fun x20 =>
    qguard x20 false (fun k => dq Try.prog w7 (o_load 27 x4) k) fun x22 =>
    qguard x20 false (fun k => dq Try.prog w7 (o_load 27 x5) k) fun x23 =>
    mguard x20 false (fun k => df Try.prog w7 (o_call (fv 15) [x22, x23]) true k) w7 fun x24 w8 =>
    qguard x20 false (fun k => dq Try.prog w7 (o_load 27 x4) k) fun x25 =>
    qguard x20 false (fun k => dq Try.prog w7 (o_load 27 x5) k) fun x26 =>
    mguard x20 false (fun k => df Try.prog w8 (o_call (fv 16) [x25, x26]) false k) w8 fun x27 w9 =>
    qguard x20 false (fun k => dp Try.prog (o_bin .neq 4 false x24 x27) k) fun x28 =>
    dp Try.prog (o_pick x20 (.bool true) x28) fun x29 =>
    qguard x29 false (fun k => dq Try.prog w9 (o_load 27 x5) k) fun x31 =>
    qguard x29 false (fun k => dq Try.prog w9 (o_load 27 x4) k) fun x32 =>
    mguard x29 false (fun k => df Try.prog w9 (o_call (fv 15) [x31, x32]) true k) w9 fun x33 w10 =>
    qguard x29 false (fun k => dq Try.prog w9 (o_load 27 x5) k) fun x34 =>
    qguard x29 false (fun k => dq Try.prog w9 (o_load 27 x4) k) fun x35 =>
    mguard x29 false (fun k => df Try.prog w10 (o_call (fv 16) [x34, x35]) false k) w10 fun x36 w11 =>
    qguard x29 false (fun k => dp Try.prog (o_bin .neq 4 false x33 x36) k) fun x37 =>
    dp Try.prog (o_pick x29 (.bool true) x37) fun x38 =>
    qguard x38 false (fun k => dq Try.prog w11 (o_load 27 x4) k) fun x40 =>
    qguard x38 false (fun k => dq Try.prog w11 (o_load 23 x7) k) fun x41 =>
    mguard x38 false (fun k => df Try.prog w11 (o_call (fv 21) [x40, x41]) true k) w11 fun x42 w12 =>
    qguard x38 false (fun k => dq Try.prog w11 (o_load 27 x4) k) fun x43 =>
    qguard x38 false (fun k => dq Try.prog w11 (o_load 23 x7) k) fun x44 =>
    mguard x38 false (fun k => df Try.prog w12 (o_call (fv 23) [x43, x44]) false k) w12 fun x45 w13 =>
    qguard x38 false (fun k => dp Try.prog (o_bin .neq 4 false x42 x45) k) fun x46 =>
    dp Try.prog (o_pick x38 (.bool true) x46) fun x47 =>
    dend w13 fun w14 =>
    j2 x47 w14) fun x47 u2 w15 =>
  mif x47 (
    R (.returned (.bool false)) w15) (
    m R (o_load 27 x4) w15 fun x48 w16 =>
    m R (o_call (fv 18) [x48]) w16 fun x49 w17 =>
    m R (o_un .not x49) w17 fun x50 w18 =>
    mif x50 (
      dq Try.prog w18 (o_load 27 x4) fun x51 =>
      dq Try.prog w18 (o_load 23 x6) fun x52 =>
      df Try.prog w18 (o_call (fv 19) [x51, x52]) true fun x53 w19 =>
      dq Try.prog w18 (o_load 27 x4) fun x54 =>
      dp Try.prog (o_bin .eql 27 false x53 x54) fun x55 =>
      qguard x55 true (fun k => dq Try.prog w19 (o_load 27 x4) k) fun x57 =>
      mguard x55 true (fun k => df Try.prog w19 (o_call (fv 29) [x57]) false k) w19 fun x58 w20 =>
      qguard x55 true (fun k => dp Try.prog (o_build 23 []) k) fun x59 =>
      qguard x55 true (fun k => dp Try.prog (o_bin .eql 23 false x58 x59) k) fun x60 =>
      dp Try.prog (o_pick x55 x60 (.bool false)) fun x61 =>
      qguard x61 true (fun k => dq Try.prog w20 (o_load 27 x4) k) fun x63 =>
      mguard x61 true (fun k => df Try.prog w20 (o_call (fv 25) [x63]) false k) w20 fun x64 w21 =>
      qguard x61 true (fun k => dp Try.prog (o_bin .eql 9 true x64 (.string (ByteArray.mk #[]))) k) fun x65 =>
      dp Try.prog (o_pick x61 x65 (.bool false)) fun x66 =>
      dend w21 fun w22 =>
      R (.returned x66) w22) (
      m R (o_load 27 x4) w18 fun x67 w23 =>
      m R (o_load 23 x6) w23 fun x68 w24 =>
      m R (o_call (fv 19) [x67, x68]) w24 fun x69 w25 =>
      m R (o_alloc 27) w25 fun x9 w26 =>
      m R (o_store 27 x9 x69) w26 fun _ w27 =>
      m R (o_load 27 x9) w27 fun x71 w28 =>
      m R (o_call (fv 25) [x71]) w28 fun x72 w29 =>
      m R (o_call (fv 27) [x72]) w29 fun x73 w30 =>
      m R (o_extract x73 0) w30 fun x74 w31 =>
      m R (o_extract x73 1) w31 fun x75 w32 =>
      m R (o_alloc 27) w32 fun x10 w33 =>
      m R (o_store 27 x10 x74) w33 fun _ w34 =>
      dq Try.prog w34 (o_load 27 x9) fun x76 =>
      dq Try.prog w34 (o_load 27 x4) fun x77 =>
      dq Try.prog w34 (o_load 23 x6) fun x78 =>
      df Try.prog w34 (o_call (fv 20) [x77, x78]) true fun x79 w35 =>
      dp Try.prog (o_bin .eql 27 false x76 x79) fun x80 =>
      qguard x80 true (fun k => dq Try.prog w35 (o_load 27 x9) k) fun x82 =>
      qguard x80 true (fun k => dq Try.prog w35 (o_load 23 x6) k) fun x83 =>
      mguard x80 true (fun k => df Try.prog w35 (o_call (fv 22) [x83]) true k) w35 fun x84 w36 =>
      mguard x80 true (fun k => df Try.prog w36 (o_call (fv 21) [x82, x84]) false k) w36 fun x85 w37 =>
      dp Try.prog (o_pick x80 x85 (.bool false)) fun x86 =>
      qguard x86 true (fun k => dq Try.prog w37 (o_load 27 x4) k) fun x88 =>
      mguard x86 true (fun k => df Try.prog w37 (o_call (fv 29) [x88]) true k) w37 fun x89 w38 =>
      qguard x86 true (fun k => dq Try.prog w37 (o_load 27 x4) k) fun x90 =>
      mguard x86 true (fun k => df Try.prog w38 (o_call (fv 30) [x90]) false k) w38 fun x91 w39 =>
      qguard x86 true (fun k => dp Try.prog (o_bin .eql 23 false x89 x91) k) fun x92 =>
      dp Try.prog (o_pick x86 x92 (.bool false)) fun x93 =>
      qguard x93 true (fun k => dq Try.prog w39 (o_load 27 x4) k) fun x95 =>
      mguard x93 true (fun k => df Try.prog w39 (o_call (fv 25) [x95]) true k) w39 fun x96 w40 =>
      qguard x93 true (fun k => dq Try.prog w39 (o_load 27 x4) k) fun x97 =>
      mguard x93 true (fun k => df Try.prog w40 (o_call (fv 26) [x97]) false k) w40 fun x98 w41 =>
      qguard x93 true (fun k => dp Try.prog (o_bin .eql 9 false x96 x98) k) fun x99 =>
      dp Try.prog (o_pick x93 x99 (.bool false)) fun x100 =>
      qguard x100 true (fun k => dp Try.prog (o_move x75) k) fun x102 =>
      qguard x100 true (fun k => dp Try.prog (o_bin .eql 37 true x102 (.int .i64 0)) k) fun x103 =>
      dp Try.prog (o_pick x100 x103 (.bool false)) fun x104 =>
      qguard x104 true (fun k => dq Try.prog w41 (o_load 27 x10) k) fun x106 =>
      qguard x104 true (fun k => dq Try.prog w41 (o_load 27 x9) k) fun x107 =>
      qguard x104 true (fun k => dp Try.prog (o_bin .eql 27 false x106 x107) k) fun x108 =>
      dp Try.prog (o_pick x104 x108 (.bool false)) fun x109 =>
      dend w41 fun w42 =>
      R (.returned x109) w42))
def A_bevylaw10_ChangeOne : Ann := ⟨[], [(2, [47], 281474976706560)], [(1, [⟨0, .f 0 false, 0, 0, 4096⟩, ⟨1, .q none, 4096, 1, 8192⟩, ⟨2, .q none, 8192, 3, 16384⟩, ⟨3, .q (some 1), 16400, 7, 32768⟩, ⟨4, .f 1 true, 49152, 15, 65536⟩, ⟨5, .q (some 1), 16400, 7, 131072⟩, ⟨6, .f 2 false, 147456, 63, 262144⟩, ⟨7, .q none, 344064, 127, 524288⟩, ⟨8, .q none, 540672, 255, 1048576⟩, ⟨9, .q none, 1048576, 511, 2097152⟩, ⟨10, .q (some 3), 2097168, 1023, 4194304⟩, ⟨11, .q (some 3), 2097184, 1023, 8388608⟩, ⟨12, .f 3 true, 14680064, 4095, 16777216⟩, ⟨13, .q (some 3), 2097168, 1023, 33554432⟩, ⟨14, .q (some 3), 2097184, 1023, 67108864⟩, ⟨15, .f 4 false, 102760448, 32767, 134217728⟩, ⟨16, .q none, 153092096, 65535, 268435456⟩, ⟨17, .q none, 270532608, 131071, 536870912⟩, ⟨18, .q none, 536870912, 262143, 1073741824⟩, ⟨19, .q (some 5), 1073741856, 524287, 2147483648⟩, ⟨20, .q (some 5), 1073741840, 524287, 4294967296⟩, ⟨21, .f 5 true, 7516192768, 2097151, 8589934592⟩, ⟨22, .q (some 5), 1073741856, 524287, 17179869184⟩, ⟨23, .q (some 5), 1073741840, 524287, 34359738368⟩, ⟨24, .f 6 false, 52613349376, 16777215, 68719476736⟩, ⟨25, .q none, 78383153152, 33554431, 137438953472⟩, ⟨26, .q none, 138512695296, 67108863, 274877906944⟩, ⟨27, .q none, 274877906944, 134217727, 549755813888⟩, ⟨28, .q (some 7), 549755813904, 268435455, 1099511627776⟩, ⟨29, .q (some 7), 549755814016, 268435455, 2199023255552⟩, ⟨30, .f 7 true, 3848290697216, 1073741823, 4398046511104⟩, ⟨31, .q (some 7), 549755813904, 268435455, 8796093022208⟩, ⟨32, .q (some 7), 549755814016, 268435455, 17592186044416⟩, ⟨33, .f 8 false, 26938034880512, 8589934591, 35184372088832⟩, ⟨34, .q none, 40132174413824, 17179869183, 70368744177664⟩, ⟨35, .q none, 70918499991552, 34359738367, 140737488355328⟩]), (4, [⟨0, .q (some 0), 16, 0, 2251799813685248⟩, ⟨1, .q (some 0), 64, 0, 4503599627370496⟩, ⟨2, .f 0 true, 6755399441055744, 3, 9007199254740992⟩, ⟨3, .q (some 0), 16, 0, 18014398509481984⟩, ⟨4, .q none, 27021597764222976, 15, 36028797018963968⟩, ⟨5, .q none, 36028797018963968, 31, 72057594037927936⟩, ⟨6, .q (some 1), 72057594037927952, 63, 144115188075855872⟩, ⟨7, .f 1 false, 216172782113783808, 127, 288230376151711744⟩, ⟨8, .q none, 72057594037927936, 63, 576460752303423488⟩, ⟨9, .q none, 936748722493063168, 511, 1152921504606846976⟩, ⟨10, .q none, 1224979098644774912, 1023, 2305843009213693952⟩, ⟨11, .q none, 2305843009213693952, 2047, 4611686018427387904⟩, ⟨12, .q (some 2), 4611686018427387920, 4095, 9223372036854775808⟩, ⟨13, .f 2 false, 13835058055282163712, 8191, 18446744073709551616⟩, ⟨14, .q none, 23058430092136939520, 16383, 36893488147419103232⟩, ⟨15, .q none, 41505174165846491136, 32767, 73786976294838206464⟩, ⟨16, .q none, 73786976294838206464, 65535, 256⟩]), (7, [⟨0, .q (some 0), 512, 0, 75557863725914323419136⟩, ⟨1, .q (some 0), 16, 0, 151115727451828646838272⟩, ⟨2, .q (some 0), 64, 0, 302231454903657293676544⟩, ⟨3, .f 0 true, 453347182355485940514816, 6, 604462909807314587353088⟩, ⟨4, .q none, 680020773533228910772224, 15, 1208925819614629174706176⟩, ⟨5, .q none, 1208925819614629174706176, 31, 2417851639229258349412352⟩, ⟨6, .q (some 1), 2417851639229258349412864, 63, 4835703278458516698824704⟩, ⟨7, .q (some 1), 2417851639229258349412416, 63, 9671406556917033397649408⟩, ⟨8, .f 1 true, 12089258196146291747061760, 191, 19342813113834066795298816⟩, ⟨9, .f 2 false, 26596368031521841843535872, 511, 38685626227668133590597632⟩, ⟨10, .q none, 41103477866897391940009984, 1023, 77371252455336267181195264⟩, ⟨11, .q none, 77371252455336267181195264, 2047, 154742504910672534362390528⟩, ⟨12, .q (some 3), 154742504910672534362390544, 4095, 309485009821345068724781056⟩, ⟨13, .f 3 true, 464227514732017603087171584, 8191, 618970019642690137449562112⟩, ⟨14, .q (some 3), 154742504910672534362390544, 4095, 1237940039285380274899124224⟩, ⟨15, .f 4 false, 1392682544196052809261514752, 32767, 2475880078570760549798248448⟩, ⟨16, .q none, 3249592603124123221610201088, 65535, 4951760157141521099596496896⟩, ⟨17, .q none, 5106502662052193633958887424, 131071, 9903520314283042199192993792⟩, ⟨18, .q none, 9903520314283042199192993792, 262143, 19807040628566084398385987584⟩, ⟨19, .q (some 5), 19807040628566084398385987600, 524287, 39614081257132168796771975168⟩, ⟨20, .f 5 true, 59421121885698253195157962752, 1048575, 79228162514264337593543950336⟩, ⟨21, .q (some 5), 19807040628566084398385987600, 524287, 158456325028528675187087900672⟩, ⟨22, .f 6 false, 178263365657094759585473888256, 4194303, 316912650057057350374175801344⟩, ⟨23, .q none, 415947853199887772366105739264, 8388607, 633825300114114700748351602688⟩, ⟨24, .q none, 653632340742680785146737590272, 16777215, 1267650600228229401496703205376⟩, ⟨25, .q none, 1267650600228229401496703205376, 33554431, 2535301200456458802993406410752⟩, ⟨26, .q none, 2535301200456458802993406412800, 67108863, 5070602400912917605986812821504⟩, ⟨27, .q none, 7605903601369376408980219232256, 134217727, 10141204801825835211973625643008⟩, ⟨28, .q none, 12676506002282294014967032053760, 268435455, 20282409603651670423947251286016⟩, ⟨29, .q none, 20282409603651670423947251286016, 536870911, 40564819207303340847894502572032⟩, ⟨30, .q (some 7), 40564819207303340847894502573056, 1073741823, 81129638414606681695789005144064⟩, ⟨31, .q (some 7), 40564819207303340847894502572544, 1073741823, 162259276829213363391578010288128⟩, ⟨32, .q none, 283953734451123385935261518004224, 4294967295, 324518553658426726783156020576256⟩, ⟨33, .q none, 365083372865730067631050523148288, 8589934591, 649037107316853453566312041152512⟩, ⟨34, .q none, 649037107316853453566312041152512, 17179869183, 256⟩])], [], []⟩
theorem E_bevylaw10_ChangeOne (x0 x1 x2 x3 : Value) (w : World) (R : Ending → World → Prop) : cwp Try.prog A_bevylaw10_ChangeOne (Try.f7.body.getD .skip) (retPost Try.prog Try.f7.results.toList R) (argE [x0, x1, x2, x3]) w = F_bevylaw10_ChangeOne x0 x1 x2 x3 w R := by kernel_rfl
theorem C_bevylaw10_ChangeOne {x0 x1 x2 x3 : Value} {w : World} {R : Ending → World → Prop} (h : F_bevylaw10_ChangeOne x0 x1 x2 x3 w R) : Calls Try.prog 7 #[x0, x1, x2, x3] w R :=
  calls_cwp (A := A_bevylaw10_ChangeOne) (args := [x0, x1, x2, x3]) mixed Try.func7 (c := Try.f7.body.getD .skip) (by kernel_rfl) (by kernel_rfl) (by kernel_rfl) ((E_bevylaw10_ChangeOne x0 x1 x2 x3 w R).mpr h)

/-- bevy/change.Less -/
def F_change_Less (x0 x1 : Value) (w : World) (R : Ending → World → Prop) : Prop :=
  m R (o_box 27 x0) w fun x2 w1 =>
  m R (o_box 27 x1) w1 fun x3 w2 =>
  dp Try.prog (o_fieldAddr 27 x2 4) fun x7 =>
  dp Try.prog (o_fieldAddr 25 x7 0) fun x8 =>
  dq Try.prog w2 (o_load 3 x8) fun x9 =>
  df Try.prog w2 (o_call (fv 51) [x9]) true fun x10 w3 =>
  dp Try.prog (o_fieldAddr 27 x3 4) fun x11 =>
  dp Try.prog (o_fieldAddr 25 x11 0) fun x12 =>
  dq Try.prog w2 (o_load 3 x12) fun x13 =>
  df Try.prog w3 (o_call (fv 51) [x13]) false fun x14 w4 =>
  dend w4 fun w5 =>
  m R (o_bin .lss 3 false x10 x14) w5 fun x17 w6 =>
  mguard x17 false (fun k => m R (o_move x10) w6 k) w6 fun x19 w7 =>
  mguard x17 false (fun k => m R (o_move x14) w7 k) w7 fun x20 w8 =>
  mguard x17 false (fun k => m R (o_bin .eql 3 false x19 x20) w8 k) w8 fun x21 w9 =>
  mguard x17 false (fun k => m R (o_move x21) w9 k) w9 fun x22 w10 =>
  mguard x22 true (fun k => m R (o_fieldAddr 27 x2 4) w10 k) w10 fun x23 w11 =>
  mguard x22 true (fun k => m R (o_fieldAddr 25 x23 1) w11 k) w11 fun x24 w12 =>
  mguard x22 true (fun k => m R (o_load 3 x24) w12 k) w12 fun x25 w13 =>
  mguard x22 true (fun k => m R (o_fieldAddr 27 x3 4) w13 k) w13 fun x26 w14 =>
  mguard x22 true (fun k => m R (o_fieldAddr 25 x26 1) w14 k) w14 fun x27 w15 =>
  mguard x22 true (fun k => m R (o_load 3 x27) w15 k) w15 fun x28 w16 =>
  mguard x22 true (fun k => m R (o_bin .lss 3 false x25 x28) w16 k) w16 fun x29 w17 =>
  mguard x17 false (fun k => m R (o_pick x22 x29 (.bool false)) w17 k) w17 fun x30 w18 =>
  m R (o_pick x17 (.bool true) x30) w18 fun x31 w19 =>
  R (.returned x31) w19
def A_change_Less : Ann := ⟨[], [], [(1, [⟨0, .q none, 4, 0, 128⟩, ⟨1, .q none, 128, 1, 256⟩, ⟨2, .q (some 0), 256, 3, 512⟩, ⟨3, .f 0 true, 512, 7, 1024⟩, ⟨4, .q none, 8, 0, 2048⟩, ⟨5, .q none, 2048, 16, 4096⟩, ⟨6, .q (some 0), 4096, 48, 8192⟩, ⟨7, .f 1 false, 8192, 127, 16384⟩, ⟨8, .q none, 1024, 255, 32⟩, ⟨9, .q none, 16384, 511, 64⟩])], [], []⟩
theorem E_change_Less (x0 x1 : Value) (w : World) (R : Ending → World → Prop) : cwp Try.prog A_change_Less (Try.f15.body.getD .skip) (retPost Try.prog Try.f15.results.toList R) (argE [x0, x1]) w = F_change_Less x0 x1 w R := by kernel_rfl
theorem C_change_Less {x0 x1 : Value} {w : World} {R : Ending → World → Prop} (h : F_change_Less x0 x1 w R) : Calls Try.prog 15 #[x0, x1] w R :=
  calls_cwp (A := A_change_Less) (args := [x0, x1]) mixed Try.func15 (c := Try.f15.body.getD .skip) (by kernel_rfl) (by kernel_rfl) (by kernel_rfl) ((E_change_Less x0 x1 w R).mpr h)

/-- bevy/bevyref10.Less -/
def F_bevyref10_Less (x0 x1 : Value) (w : World) (R : Ending → World → Prop) : Prop :=
  m R (o_box 27 x0) w fun x2 w1 =>
  m R (o_box 27 x1) w1 fun x3 w2 =>
  dp Try.prog (o_fieldAddr 27 x2 4) fun x5 =>
  dp Try.prog (o_fieldAddr 25 x5 0) fun x6 =>
  dq Try.prog w2 (o_load 3 x6) fun x7 =>
  df Try.prog w2 (o_call (fv 52) [x7]) true fun x8 w3 =>
  dp Try.prog (o_fieldAddr 27 x3 4) fun x9 =>
  dp Try.prog (o_fieldAddr 25 x9 0) fun x10 =>
  dq Try.prog w2 (o_load 3 x10) fun x11 =>
  df Try.prog w3 (o_call (fv 52) [x11]) false fun x12 w4 =>
  dp Try.prog (o_bin .neq 3 false x8 x12) fun x13 =>
  dend w4 fun w5 =>
  mif x13 (
    dp Try.prog (o_fieldAddr 27 x2 4) fun x14 =>
    dp Try.prog (o_fieldAddr 25 x14 0) fun x15 =>
    dq Try.prog w5 (o_load 3 x15) fun x16 =>
    df Try.prog w5 (o_call (fv 52) [x16]) true fun x17 w6 =>
    dp Try.prog (o_fieldAddr 27 x3 4) fun x18 =>
    dp Try.prog (o_fieldAddr 25 x18 0) fun x19 =>
    dq Try.prog w5 (o_load 3 x19) fun x20 =>
    df Try.prog w6 (o_call (fv 52) [x20]) false fun x21 w7 =>
    dp Try.prog (o_bin .lss 3 false x17 x21) fun x22 =>
    dend w7 fun w8 =>
    R (.returned x22) w8) (
    m R (o_fieldAddr 27 x2 4) w5 fun x23 w9 =>
    m R (o_fieldAddr 25 x23 1) w9 fun x24 w10 =>
    m R (o_load 3 x24) w10 fun x25 w11 =>
    m R (o_fieldAddr 27 x3 4) w11 fun x26 w12 =>
    m R (o_fieldAddr 25 x26 1) w12 fun x27 w13 =>
    m R (o_load 3 x27) w13 fun x28 w14 =>
    m R (o_bin .lss 3 false x25 x28) w14 fun x29 w15 =>
    R (.returned x29) w15)
def A_bevyref10_Less : Ann := ⟨[], [], [(1, [⟨0, .q none, 4, 0, 32⟩, ⟨1, .q none, 32, 1, 64⟩, ⟨2, .q (some 0), 64, 3, 128⟩, ⟨3, .f 0 true, 128, 7, 256⟩, ⟨4, .q none, 8, 0, 512⟩, ⟨5, .q none, 512, 16, 1024⟩, ⟨6, .q (some 0), 1024, 48, 2048⟩, ⟨7, .f 1 false, 2048, 127, 4096⟩, ⟨8, .q none, 4352, 255, 8192⟩]), (2, [⟨0, .q none, 4, 0, 16384⟩, ⟨1, .q none, 16384, 1, 32768⟩, ⟨2, .q (some 0), 32768, 3, 65536⟩, ⟨3, .f 0 true, 65536, 7, 131072⟩, ⟨4, .q none, 8, 0, 262144⟩, ⟨5, .q none, 262144, 16, 524288⟩, ⟨6, .q (some 0), 524288, 48, 1048576⟩, ⟨7, .f 1 false, 1048576, 127, 2097152⟩, ⟨8, .q none, 2228224, 255, 4194304⟩, ⟨9, .q none, 4194304, 511, 16⟩])], [], []⟩
theorem E_bevyref10_Less (x0 x1 : Value) (w : World) (R : Ending → World → Prop) : cwp Try.prog A_bevyref10_Less (Try.f16.body.getD .skip) (retPost Try.prog Try.f16.results.toList R) (argE [x0, x1]) w = F_bevyref10_Less x0 x1 w R := by kernel_rfl
theorem C_bevyref10_Less {x0 x1 : Value} {w : World} {R : Ending → World → Prop} (h : F_bevyref10_Less x0 x1 w R) : Calls Try.prog 16 #[x0, x1] w R :=
  calls_cwp (A := A_bevyref10_Less) (args := [x0, x1]) mixed Try.func16 (c := Try.f16.body.getD .skip) (by kernel_rfl) (by kernel_rfl) (by kernel_rfl) ((E_bevyref10_Less x0 x1 w R).mpr h)

/-- bevy/bevylaw10.awake -/
def F_bevylaw10_awake (w : World) (R : Ending → World → Prop) : Prop :=
  m R (o_build 25 [(0, (.int .i64 2)), (1, (.int .i64 3))]) w fun x4 w1 =>
  m R (o_build 27 [(2, (.int .i64 3)), (3, (.int .i64 1)), (4, x4)]) w1 fun x5 w2 =>
  m R (o_alloc 27) w2 fun x1 w3 =>
  m R (o_store 27 x1 x5) w3 fun _ w4 =>
  m R (o_build 25 [(0, (.int .i64 3)), (1, (.int .i64 2))]) w4 fun x6 w5 =>
  m R (o_build 27 [(2, (.int .i64 3)), (3, (.int .i64 2)), (4, x6)]) w5 fun x7 w6 =>
  m R (o_alloc 27) w6 fun x2 w7 =>
  m R (o_store 27 x2 x7) w7 fun _ w8 =>
  m R (o_build 23 [(0, (.int .u8 1))]) w8 fun x8 w9 =>
  m R (o_alloc 23) w9 fun x3 w10 =>
  m R (o_store 23 x3 x8) w10 fun _ w11 =>
  dq Try.prog w11 (o_load 27 x1) fun x9 =>
  dq Try.prog w11 (o_load 27 x2) fun x10 =>
  df Try.prog w11 (o_call (fv 15) [x9, x10]) false fun x11 w12 =>
  qguard x11 true (fun k => dq Try.prog w12 (o_load 27 x2) k) fun x13 =>
  qguard x11 true (fun k => dq Try.prog w12 (o_load 27 x1) k) fun x14 =>
  mguard x11 true (fun k => df Try.prog w12 (o_call (fv 15) [x13, x14]) false k) w12 fun x15 w13 =>
  qguard x11 true (fun k => dp Try.prog (o_un .not x15) k) fun x16 =>
  dp Try.prog (o_pick x11 x16 (.bool false)) fun x17 =>
  qguard x17 true (fun k => dq Try.prog w13 (o_load 27 x1) k) fun x19 =>
  qguard x17 true (fun k => dq Try.prog w13 (o_load 23 x3) k) fun x20 =>
  mguard x17 true (fun k => df Try.prog w13 (o_call (fv 19) [x19, x20]) true k) w13 fun x21 w14 =>
  qguard x17 true (fun k => dq Try.prog w13 (o_load 23 x3) k) fun x22 =>
  mguard x17 true (fun k => df Try.prog w14 (o_call (fv 22) [x22]) false k) w14 fun x23 w15 =>
  mguard x17 true (fun k => df Try.prog w15 (o_call (fv 21) [x21, x23]) false k) w15 fun x24 w16 =>
  dp Try.prog (o_pick x17 x24 (.bool false)) fun x25 =>
  qguard x25 true (fun k => dq Try.prog w16 (o_load 27 x2) k) fun x27 =>
  mguard x25 true (fun k => df Try.prog w16 (o_call (fv 24) [x27]) false k) w16 fun x28 w17 =>
  dp Try.prog (o_pick x25 x28 (.bool false)) fun x29 =>
  qguard x29 true (fun k => dp Try.prog (o_build 27 []) k) fun x31 =>
  mguard x29 true (fun k => df Try.prog w17 (o_call (fv 24) [x31]) false k) w17 fun x32 w18 =>
  qguard x29 true (fun k => dp Try.prog (o_un .not x32) k) fun x33 =>
  dp Try.prog (o_pick x29 x33 (.bool false)) fun x34 =>
  dend w18 fun w19 =>
  R (.returned x34) w19
def A_bevylaw10_awake : Ann := ⟨[], [], [(4, [⟨0, .q (some 0), 2, 0, 512⟩, ⟨1, .q (some 0), 4, 0, 1024⟩, ⟨2, .f 0 false, 1536, 3, 2048⟩, ⟨3, .q none, 2048, 7, 4096⟩, ⟨4, .q (some 1), 4100, 15, 8192⟩, ⟨5, .q (some 1), 4098, 15, 16384⟩, ⟨6, .f 1 false, 28672, 63, 32768⟩, ⟨7, .q none, 36864, 127, 65536⟩, ⟨8, .q none, 69632, 255, 131072⟩, ⟨9, .q none, 131072, 511, 262144⟩, ⟨10, .q (some 2), 262146, 1023, 524288⟩, ⟨11, .q (some 2), 262152, 1023, 1048576⟩, ⟨12, .f 2 true, 1835008, 4095, 2097152⟩, ⟨13, .q (some 2), 262152, 1023, 4194304⟩, ⟨14, .f 3 false, 4456448, 16383, 8388608⟩, ⟨15, .f 4 false, 10747904, 32767, 16777216⟩, ⟨16, .q none, 17039360, 65535, 33554432⟩, ⟨17, .q none, 33554432, 131071, 67108864⟩, ⟨18, .q (some 5), 67108868, 262143, 134217728⟩, ⟨19, .f 5 false, 201326592, 524287, 268435456⟩, ⟨20, .q none, 335544320, 1048575, 536870912⟩, ⟨21, .q none, 536870912, 2097151, 1073741824⟩, ⟨22, .q none, 1073741824, 4194303, 2147483648⟩, ⟨23, .f 6 false, 3221225472, 8388607, 4294967296⟩, ⟨24, .q none, 5368709120, 16777215, 8589934592⟩, ⟨25, .q none, 9663676416, 33554431, 17179869184⟩, ⟨26, .q none, 17179869184, 67108863, 1⟩])], [], []⟩
theorem E_bevylaw10_awake (w : World) (R : Ending → World → Prop) : cwp Try.prog A_bevylaw10_awake (Try.f17.body.getD .skip) (retPost Try.prog Try.f17.results.toList R) (argE []) w = F_bevylaw10_awake w R := by kernel_rfl
theorem C_bevylaw10_awake {w : World} {R : Ending → World → Prop} (h : F_bevylaw10_awake w R) : Calls Try.prog 17 #[] w R :=
  calls_cwp (A := A_bevylaw10_awake) (args := []) mixed Try.func17 (c := Try.f17.body.getD .skip) (by kernel_rfl) (by kernel_rfl) (by kernel_rfl) ((E_bevylaw10_awake w R).mpr h)

/-- bevy/bevyref10.Right -/
def F_bevyref10_Right (x0 : Value) (w : World) (R : Ending → World → Prop) : Prop :=
  m R (o_box 27 x0) w fun x1 w1 =>
  m R (o_fieldAddr 27 x1 4) w1 fun x4 w2 =>
  m R (o_load 25 x4) w2 fun x5 w3 =>
  m R (o_alloc 25) w3 fun x3 w4 =>
  m R (o_store 25 x3 x5) w4 fun _ w5 =>
  mj1 (fun j3 =>
    m R (o_fieldAddr 27 x1 1) w5 fun x6 w6 =>
    m R (o_load 3 x6) w6 fun x7 w7 =>
    m R (o_bin .lss 3 true x7 (.int .i64 0)) w7 fun x8 w8 =>
    mguard x8 false (fun k => m R (o_fieldAddr 27 x1 1) w8 k) w8 fun x10 w9 =>
    mguard x8 false (fun k => m R (o_load 3 x10) w9 k) w9 fun x11 w10 =>
    mguard x8 false (fun k => m R (o_bin .gtr 3 true x11 (.int .i64 4611686018427387903)) w10 k) w10 fun x12 w11 =>
    m R (o_pick x8 (.bool true) x12) w11 fun x13 w12 =>
    mguard x13 false (fun k => m R (o_fieldAddr 27 x1 3) w12 k) w12 fun x15 w13 =>
    mguard x13 false (fun k => m R (o_load 3 x15) w13 k) w13 fun x16 w14 =>
    mguard x13 false (fun k => m R (o_bin .lss 3 true x16 (.int .i64 1)) w14 k) w14 fun x17 w15 =>
    m R (o_pick x13 (.bool true) x17) w15 fun x18 w16 =>
    mguard x18 false (fun k => m R (o_fieldAddr 27 x1 3) w16 k) w16 fun x20 w17 =>
    mguard x18 false (fun k => m R (o_load 3 x20) w17 k) w17 fun x21 w18 =>
    mguard x18 false (fun k => m R (o_bin .gtr 3 true x21 (.int .i64 4611686018427387903)) w18 k) w18 fun x22 w19 =>
    m R (o_pick x18 (.bool true) x22) w19 fun x23 w20 =>
    j3 x23 w20) fun x23 u3 w21 =>
  mif x23 (
    R (.returned (.bool false)) w21) (
    mj1 (fun j5 =>
      m R (o_fieldAddr 27 x1 2) w21 fun x24 w22 =>
      m R (o_load 3 x24) w22 fun x25 w23 =>
      m R (o_bin .lss 3 true x25 (.int .i64 1)) w23 fun x26 w24 =>
      mguard x26 false (fun k => m R (o_fieldAddr 27 x1 2) w24 k) w24 fun x28 w25 =>
      mguard x26 false (fun k => m R (o_load 3 x28) w25 k) w25 fun x29 w26 =>
      mguard x26 false (fun k => m R (o_bin .gtr 3 true x29 (.int .i64 64)) w26 k) w26 fun x30 w27 =>
      m R (o_pick x26 (.bool true) x30) w27 fun x31 w28 =>
      mguard x31 false (fun k => m R (o_fieldAddr 25 x3 1) w28 k) w28 fun x33 w29 =>
      mguard x31 false (fun k => m R (o_load 3 x33) w29 k) w29 fun x34 w30 =>
      mguard x31 false (fun k => m R (o_bin .lss 3 true x34 (.int .i64 1)) w30 k) w30 fun x35 w31 =>
      m R (o_pick x31 (.bool true) x35) w31 fun x36 w32 =>
      mguard x36 false (fun k => m R (o_fieldAddr 25 x3 1) w32 k) w32 fun x38 w33 =>
      mguard x36 false (fun k => m R (o_load 3 x38) w33 k) w33 fun x39 w34 =>
      mguard x36 false (fun k => m R (o_bin .gtr 3 true x39 (.int .i64 64)) w34 k) w34 fun x40 w35 =>
      m R (o_pick x36 (.bool true) x40) w35 fun x41 w36 =>
      j5 x41 w36) fun x41 u5 w37 =>
    mif x41 (
      R (.returned (.bool false)) w37) (
      m R (o_fieldAddr 25 x3 0) w37 fun x42 w38 =>
      m R (o_load 3 x42) w38 fun x43 w39 =>
      m R (o_bin .eql 3 true x43 (.int .i64 2)) w39 fun x44 w40 =>
      mif x44 (
        m R (o_fieldAddr 25 x3 1) w40 fun x45 w41 =>
        m R (o_load 3 x45) w41 fun x46 w42 =>
        m R (o_fieldAddr 27 x1 2) w42 fun x47 w43 =>
        m R (o_load 3 x47) w43 fun x48 w44 =>
        m R (o_bin .eql 3 false x46 x48) w44 fun x49 w45 =>
        R (.returned x49) w45) (
        m R (o_fieldAddr 25 x3 0) w40 fun x50 w46 =>
        m R (o_load 3 x50) w46 fun x51 w47 =>
        m R (o_bin .eql 3 true x51 (.int .i64 1)) w47 fun x52 w48 =>
        mguard x52 false (fun k => m R (o_fieldAddr 25 x3 0) w48 k) w48 fun x54 w49 =>
        mguard x52 false (fun k => m R (o_load 3 x54) w49 k) w49 fun x55 w50 =>
        mguard x52 false (fun k => m R (o_bin .eql 3 true x55 (.int .i64 3)) w50 k) w50 fun x56 w51 =>
        m R (o_pick x52 (.bool true) x56) w51 fun x57 w52 =>
        mguard x57 true (fun k => m R (o_fieldAddr 25 x3 2) w52 k) w52 fun x59 w53 =>
        mguard x57 true (fun k => m R (o_load 23 x59) w53 k) w53 fun x60 w54 =>
        mguard x57 true (fun k => m R (o_build 23 []) w54 k) w54 fun x61 w55 =>
        mguard x57 true (fun k => m R (o_bin .eql 23 false x60 x61) w55 k) w55 fun x62 w56 =>
        m R (o_pick x57 x62 (.bool false)) w56 fun x63 w57 =>
        R (.returned x63) w57)))
def A_bevyref10_Right : Ann := ⟨[], [(3, [23], 16777152), (5, [41], 4398029733888)], [], [], []⟩
theorem E_bevyref10_Right (x0 : Value) (w : World) (R : Ending → World → Prop) : cwp Try.prog A_bevyref10_Right (Try.f18.body.getD .skip) (retPost Try.prog Try.f18.results.toList R) (argE [x0]) w = F_bevyref10_Right x0 w R := by kernel_rfl
theorem C_bevyref10_Right {x0 : Value} {w : World} {R : Ending → World → Prop} (h : F_bevyref10_Right x0 w R) : Calls Try.prog 18 #[x0] w R :=
  calls_cwp (A := A_bevyref10_Right) (args := [x0]) mixed Try.func18 (c := Try.f18.body.getD .skip) (by kernel_rfl) (by kernel_rfl) (by kernel_rfl) ((E_bevyref10_Right x0 w R).mpr h)

/-- bevy/change.Sign -/
def F_change_Sign (x0 x1 : Value) (w : World) (R : Ending → World → Prop) : Prop :=
  m R (o_box 27 x0) w fun x2 w1 =>
  m R (o_box 23 x1) w1 fun x3 w2 =>
  m R (o_alloc 27) w2 fun x4 w3 =>
  mj0 (fun j3 =>
    m R (o_load 27 x2) w3 fun x5 w4 =>
    m R (o_call (fv 24) [x5]) w4 fun x6 w5 =>
    mif x6 (
      dq Try.prog w5 (o_load 23 x3) fun x7 =>
      dq Try.prog w5 (o_load 27 x2) fun x8 =>
      df Try.prog w5 (o_call (fv 54) [x8]) true fun x9 w6 =>
      df Try.prog w6 (o_call (fv 53) [x7, x9]) false fun x10 w7 =>
      dp Try.prog (o_fieldAddr 27 x2 5) fun x11 =>
      df Try.prog w7 (o_store 23 x11 x10) false fun _ w8 =>
      dend w8 fun w9 =>
      j3 w9) (
      j3 w5)) fun u3 w10 =>
  m R (o_load 27 x2) w10 fun x12 w11 =>
  m R (o_store 27 x4 x12) w11 fun _ w12 =>
  rcell Try.prog 27 x4 w12 fun r4 =>
  R (.returned r4) w12
def A_change_Sign : Ann := ⟨[], [(3, [], 4064)], [(2, [⟨0, .q (some 0), 8, 0, 128⟩, ⟨1, .q (some 0), 4, 0, 256⟩, ⟨2, .f 0 true, 256, 2, 512⟩, ⟨3, .f 1 false, 640, 7, 1024⟩, ⟨4, .q none, 4, 15, 2048⟩, ⟨5, .f 2 false, 3072, 31, 0⟩])], [], []⟩
theorem E_change_Sign (x0 x1 : Value) (w : World) (R : Ending → World → Prop) : cwp Try.prog A_change_Sign (Try.f19.body.getD .skip) (retPost Try.prog Try.f19.results.toList R) (argE [x0, x1]) w = F_change_Sign x0 x1 w R := by kernel_rfl
theorem C_change_Sign {x0 x1 : Value} {w : World} {R : Ending → World → Prop} (h : F_change_Sign x0 x1 w R) : Calls Try.prog 19 #[x0, x1] w R :=
  calls_cwp (A := A_change_Sign) (args := [x0, x1]) mixed Try.func19 (c := Try.f19.body.getD .skip) (by kernel_rfl) (by kernel_rfl) (by kernel_rfl) ((E_change_Sign x0 x1 w R).mpr h)

/-- bevy/bevyref10.Sign -/
def F_bevyref10_Sign (x0 x1 : Value) (w : World) (R : Ending → World → Prop) : Prop :=
  m R (o_box 27 x0) w fun x2 w1 =>
  m R (o_box 23 x1) w1 fun x3 w2 =>
  m R (o_alloc 27) w2 fun x4 w3 =>
  dq Try.prog w3 (o_load 23 x3) fun x5 =>
  df Try.prog w3 (o_call (fv 56) [x5]) true fun x6 w4 =>
  dq Try.prog w3 (o_load 27 x2) fun x7 =>
  df Try.prog w4 (o_call (fv 57) [x7]) false fun x8 w5 =>
  df Try.prog w5 (o_call (fv 55) [x6, x8]) false fun x9 w6 =>
  dp Try.prog (o_fieldAddr 27 x2 5) fun x10 =>
  df Try.prog w6 (o_store 23 x10 x9) false fun _ w7 =>
  dend w7 fun w8 =>
  m R (o_load 27 x2) w8 fun x11 w9 =>
  m R (o_store 27 x4 x11) w9 fun _ w10 =>
  rcell Try.prog 27 x4 w10 fun r4 =>
  R (.returned r4) w10
def A_bevyref10_Sign : Ann := ⟨[], [], [(1, [⟨0, .q (some 0), 8, 0, 32⟩, ⟨1, .f 0 true, 32, 1, 64⟩, ⟨2, .q (some 0), 4, 0, 128⟩, ⟨3, .f 1 false, 128, 7, 256⟩, ⟨4, .f 2 false, 320, 15, 512⟩, ⟨5, .q none, 4, 31, 1024⟩, ⟨6, .f 3 false, 1536, 63, 0⟩])], [], []⟩
theorem E_bevyref10_Sign (x0 x1 : Value) (w : World) (R : Ending → World → Prop) : cwp Try.prog A_bevyref10_Sign (Try.f20.body.getD .skip) (retPost Try.prog Try.f20.results.toList R) (argE [x0, x1]) w = F_bevyref10_Sign x0 x1 w R := by kernel_rfl
theorem C_bevyref10_Sign {x0 x1 : Value} {w : World} {R : Ending → World → Prop} (h : F_bevyref10_Sign x0 x1 w R) : Calls Try.prog 20 #[x0, x1] w R :=
  calls_cwp (A := A_bevyref10_Sign) (args := [x0, x1]) mixed Try.func20 (c := Try.f20.body.getD .skip) (by kernel_rfl) (by kernel_rfl) (by kernel_rfl) ((E_bevyref10_Sign x0 x1 w R).mpr h)

/-- bevy/change.Check -/
def F_change_Check (x0 x1 : Value) (w : World) (R : Ending → World → Prop) : Prop :=
  m R (o_box 27 x0) w fun x2 w1 =>
  m R (o_box 23 x1) w1 fun x3 w2 =>
  dq Try.prog w2 (o_load 27 x2) fun x5 =>
  df Try.prog w2 (o_call (fv 24) [x5]) false fun x6 w3 =>
  qguard x6 true (fun k => dq Try.prog w3 (o_load 23 x3) k) fun x8 =>
  qguard x6 true (fun k => dq Try.prog w3 (o_load 27 x2) k) fun x9 =>
  mguard x6 true (fun k => df Try.prog w3 (o_call (fv 54) [x9]) true k) w3 fun x10 w4 =>
  qguard x6 true (fun k => dp Try.prog (o_fieldAddr 27 x2 5) k) fun x11 =>
  qguard x6 true (fun k => dq Try.prog w3 (o_load 23 x11) k) fun x12 =>
  mguard x6 true (fun k => df Try.prog w4 (o_call (fv 58) [x8, x10, x12]) false k) w4 fun x13 w5 =>
  dp Try.prog (o_pick x6 x13 (.bool false)) fun x14 =>
  dend w5 fun w6 =>
  R (.returned x14) w6
def A_change_Check : Ann := ⟨[], [], [(1, [⟨0, .q (some 0), 4, 0, 32⟩, ⟨1, .f 0 false, 32, 1, 64⟩, ⟨2, .q none, 64, 3, 128⟩, ⟨3, .q (some 1), 136, 7, 256⟩, ⟨4, .q (some 1), 132, 7, 512⟩, ⟨5, .f 1 true, 640, 23, 1024⟩, ⟨6, .q none, 132, 7, 2048⟩, ⟨7, .q (some 1), 2176, 71, 4096⟩, ⟨8, .f 2 false, 5504, 255, 8192⟩, ⟨9, .q none, 8320, 511, 16384⟩, ⟨10, .q none, 16384, 1023, 16⟩])], [], []⟩
theorem E_change_Check (x0 x1 : Value) (w : World) (R : Ending → World → Prop) : cwp Try.prog A_change_Check (Try.f21.body.getD .skip) (retPost Try.prog Try.f21.results.toList R) (argE [x0, x1]) w = F_change_Check x0 x1 w R := by kernel_rfl
theorem C_change_Check {x0 x1 : Value} {w : World} {R : Ending → World → Prop} (h : F_change_Check x0 x1 w R) : Calls Try.prog 21 #[x0, x1] w R :=
  calls_cwp (A := A_change_Check) (args := [x0, x1]) mixed Try.func21 (c := Try.f21.body.getD .skip) (by kernel_rfl) (by kernel_rfl) (by kernel_rfl) ((E_change_Check x0 x1 w R).mpr h)

/-- bevy/bevylaw10.verify -/
def F_bevylaw10_verify (x0 : Value) (w : World) (R : Ending → World → Prop) : Prop :=
  m R (o_box 23 x0) w fun x1 w1 =>
  m R (o_alloc 23) w1 fun x2 w2 =>
  m R (o_load 23 x1) w2 fun x3 w3 =>
  m R (o_call (fv 56) [x3]) w3 fun x4 w4 =>
  m R (o_store 23 x2 x4) w4 fun _ w5 =>
  rcell Try.prog 23 x2 w5 fun r2 =>
  R (.returned r2) w5
def A_bevylaw10_verify : Ann := ⟨[], [], [], [], []⟩
theorem E_bevylaw10_verify (x0 : Value) (w : World) (R : Ending → World → Prop) : cwp Try.prog A_bevylaw10_verify (Try.f22.body.getD .skip) (retPost Try.prog Try.f22.results.toList R) (argE [x0]) w = F_bevylaw10_verify x0 w R := by kernel_rfl
theorem C_bevylaw10_verify {x0 : Value} {w : World} {R : Ending → World → Prop} (h : F_bevylaw10_verify x0 w R) : Calls Try.prog 22 #[x0] w R :=
  calls_cwp (A := A_bevylaw10_verify) (args := [x0]) mixed Try.func22 (c := Try.f22.body.getD .skip) (by kernel_rfl) (by kernel_rfl) (by kernel_rfl) ((E_bevylaw10_verify x0 w R).mpr h)

/-- bevy/bevyref10.Check -/
def F_bevyref10_Check (x0 x1 : Value) (w : World) (R : Ending → World → Prop) : Prop :=
  m R (o_box 27 x0) w fun x2 w1 =>
  m R (o_box 23 x1) w1 fun x3 w2 =>
  dq Try.prog w2 (o_load 27 x2) fun x5 =>
  df Try.prog w2 (o_call (fv 18) [x5]) false fun x6 w3 =>
  qguard x6 true (fun k => dp Try.prog (o_fieldAddr 27 x2 5) k) fun x8 =>
  qguard x6 true (fun k => dq Try.prog w3 (o_load 23 x8) k) fun x9 =>
  qguard x6 true (fun k => dq Try.prog w3 (o_load 23 x3) k) fun x10 =>
  qguard x6 true (fun k => dq Try.prog w3 (o_load 27 x2) k) fun x11 =>
  mguard x6 true (fun k => df Try.prog w3 (o_call (fv 57) [x11]) true k) w3 fun x12 w4 =>
  mguard x6 true (fun k => df Try.prog w4 (o_call (fv 55) [x10, x12]) true k) w4 fun x13 w5 =>
  qguard x6 true (fun k => dp Try.prog (o_bin .eql 23 false x9 x13) k) fun x14 =>
  dp Try.prog (o_pick x6 x14 (.bool false)) fun x15 =>
  dend w5 fun w6 =>
  R (.returned x15) w6
def A_bevyref10_Check : Ann := ⟨[], [], [(1, [⟨0, .q (some 0), 4, 0, 32⟩, ⟨1, .f 0 false, 32, 1, 64⟩, ⟨2, .q none, 64, 3, 128⟩, ⟨3, .q none, 132, 7, 256⟩, ⟨4, .q (some 1), 384, 15, 512⟩, ⟨5, .q (some 1), 136, 7, 1024⟩, ⟨6, .q (some 1), 132, 7, 2048⟩, ⟨7, .f 1 true, 2176, 71, 4096⟩, ⟨8, .f 2 true, 5248, 231, 8192⟩, ⟨9, .q none, 8832, 511, 16384⟩, ⟨10, .q none, 16512, 1023, 32768⟩, ⟨11, .q none, 32768, 2047, 16⟩])], [], []⟩
theorem E_bevyref10_Check (x0 x1 : Value) (w : World) (R : Ending → World → Prop) : cwp Try.prog A_bevyref10_Check (Try.f23.body.getD .skip) (retPost Try.prog Try.f23.results.toList R) (argE [x0, x1]) w = F_bevyref10_Check x0 x1 w R := by kernel_rfl
theorem C_bevyref10_Check {x0 x1 : Value} {w : World} {R : Ending → World → Prop} (h : F_bevyref10_Check x0 x1 w R) : Calls Try.prog 23 #[x0, x1] w R :=
  calls_cwp (A := A_bevyref10_Check) (args := [x0, x1]) mixed Try.func23 (c := Try.f23.body.getD .skip) (by kernel_rfl) (by kernel_rfl) (by kernel_rfl) ((E_bevyref10_Check x0 x1 w R).mpr h)

/-- bevy/change.Right -/
def F_change_Right (x0 : Value) (w : World) (R : Ending → World → Prop) : Prop :=
  m R (o_box 27 x0) w fun x1 w1 =>
  m R (o_fieldAddr 27 x1 4) w1 fun x4 w2 =>
  m R (o_load 25 x4) w2 fun x5 w3 =>
  m R (o_alloc 25) w3 fun x3 w4 =>
  m R (o_store 25 x3 x5) w4 fun _ w5 =>
  mj1 (fun j3 =>
    m R (o_fieldAddr 27 x1 1) w5 fun x6 w6 =>
    m R (o_load 3 x6) w6 fun x7 w7 =>
    m R (o_bin .lss 3 true x7 (.int .i64 0)) w7 fun x8 w8 =>
    mguard x8 false (fun k => m R (o_fieldAddr 27 x1 1) w8 k) w8 fun x10 w9 =>
    mguard x8 false (fun k => m R (o_load 3 x10) w9 k) w9 fun x11 w10 =>
    mguard x8 false (fun k => m R (o_bin .gtr 3 true x11 (.int .i64 4611686018427387903)) w10 k) w10 fun x12 w11 =>
    m R (o_pick x8 (.bool true) x12) w11 fun x13 w12 =>
    mguard x13 false (fun k => m R (o_fieldAddr 27 x1 2) w12 k) w12 fun x15 w13 =>
    mguard x13 false (fun k => m R (o_load 3 x15) w13 k) w13 fun x16 w14 =>
    mguard x13 false (fun k => m R (o_call (fv 59) [x16]) w14 k) w14 fun x17 w15 =>
    mguard x13 false (fun k => m R (o_un .not x17) w15 k) w15 fun x18 w16 =>
    m R (o_pick x13 (.bool true) x18) w16 fun x19 w17 =>
    mguard x19 false (fun k => m R (o_fieldAddr 25 x3 1) w17 k) w17 fun x21 w18 =>
    mguard x19 false (fun k => m R (o_load 3 x21) w18 k) w18 fun x22 w19 =>
    mguard x19 false (fun k => m R (o_call (fv 59) [x22]) w19 k) w19 fun x23 w20 =>
    mguard x19 false (fun k => m R (o_un .not x23) w20 k) w20 fun x24 w21 =>
    m R (o_pick x19 (.bool true) x24) w21 fun x25 w22 =>
    mguard x25 false (fun k => m R (o_fieldAddr 27 x1 3) w22 k) w22 fun x27 w23 =>
    mguard x25 false (fun k => m R (o_load 3 x27) w23 k) w23 fun x28 w24 =>
    mguard x25 false (fun k => m R (o_bin .lss 3 true x28 (.int .i64 1)) w24 k) w24 fun x29 w25 =>
    m R (o_pick x25 (.bool true) x29) w25 fun x30 w26 =>
    mguard x30 false (fun k => m R (o_fieldAddr 27 x1 3) w26 k) w26 fun x32 w27 =>
    mguard x30 false (fun k => m R (o_load 3 x32) w27 k) w27 fun x33 w28 =>
    mguard x30 false (fun k => m R (o_bin .gtr 3 true x33 (.int .i64 4611686018427387903)) w28 k) w28 fun x34 w29 =>
    m R (o_pick x30 (.bool true) x34) w29 fun x35 w30 =>
    j3 x35 w30) fun x35 u3 w31 =>
  mif x35 (
    R (.returned (.bool false)) w31) (
    m R (o_fieldAddr 25 x3 0) w31 fun x36 w32 =>
    m R (o_load 3 x36) w32 fun x37 w33 =>
    m R (o_bin .eql 3 true x37 (.int .i64 2)) w33 fun x39 w34 =>
    mif x39 (
      m R (o_fieldAddr 25 x3 1) w34 fun x40 w35 =>
      m R (o_load 3 x40) w35 fun x41 w36 =>
      m R (o_fieldAddr 27 x1 2) w36 fun x42 w37 =>
      m R (o_load 3 x42) w37 fun x43 w38 =>
      m R (o_bin .eql 3 false x41 x43) w38 fun x44 w39 =>
      R (.returned x44) w39) (
      mj1 (fun j9 =>
        m R (o_bin .eql 3 true x37 (.int .i64 1)) w34 fun x46 w40 =>
        mif x46 (
          j9 x46 w40) (
          m R (o_bin .eql 3 true x37 (.int .i64 3)) w40 fun x47 w41 =>
          j9 x47 w41)) fun x45 u9 w42 =>
      mif x45 (
        m R (o_fieldAddr 25 x3 2) w42 fun x48 w43 =>
        m R (o_load 23 x48) w43 fun x49 w44 =>
        m R (o_build 23 []) w44 fun x50 w45 =>
        m R (o_bin .eql 23 false x49 x50) w45 fun x51 w46 =>
        R (.returned x51) w46) (
        R (.returned (.bool false)) w42)))
def A_change_Right : Ann := ⟨[], [(3, [35], 68719476672), (9, [45], 246290604621824)], [], [], []⟩
theorem E_change_Right (x0 : Value) (w : World) (R : Ending → World → Prop) : cwp Try.prog A_change_Right (Try.f24.body.getD .skip) (retPost Try.prog Try.f24.results.toList R) (argE [x0]) w = F_change_Right x0 w R := by kernel_rfl
theorem C_change_Right {x0 : Value} {w : World} {R : Ending → World → Prop} (h : F_change_Right x0 w R) : Calls Try.prog 24 #[x0] w R :=
  calls_cwp (A := A_change_Right) (args := [x0]) mixed Try.func24 (c := Try.f24.body.getD .skip) (by kernel_rfl) (by kernel_rfl) (by kernel_rfl) ((E_change_Right x0 w R).mpr h)

/-- bevy/change.Pack -/
def F_change_Pack (x0 : Value) (w : World) (R : Ending → World → Prop) : Prop :=
  m R (o_box 27 x0) w fun x1 w1 =>
  m R (o_load 27 x1) w1 fun x3 w2 =>
  m R (o_call (fv 24) [x3]) w2 fun x4 w3 =>
  m R (o_un .not x4) w3 fun x5 w4 =>
  mif x5 (
    R (.returned (.string (ByteArray.mk #[]))) w4) (
    dq Try.prog w4 (o_load 27 x1) fun x6 =>
    df Try.prog w4 (o_call (fv 54) [x6]) true fun x7 w5 =>
    dp Try.prog (o_fieldAddr 27 x1 5) fun x8 =>
    dp Try.prog (o_slice 23 x8 none none none) fun x9 =>
    dq Try.prog w4 (o_conv 86 9 x9) fun x10 =>
    dp Try.prog (o_bin .add 9 false x7 x10) fun x11 =>
    dend w5 fun w6 =>
    R (.returned x11) w6)
def A_change_Pack : Ann := ⟨[], [], [(3, [⟨0, .q (some 0), 2, 0, 64⟩, ⟨1, .f 0 true, 64, 1, 128⟩, ⟨2, .q none, 2, 0, 256⟩, ⟨3, .q none, 256, 4, 512⟩, ⟨4, .q (some 0), 512, 12, 1024⟩, ⟨5, .q none, 1152, 31, 2048⟩, ⟨6, .q none, 2048, 63, 4⟩])], [], []⟩
theorem E_change_Pack (x0 : Value) (w : World) (R : Ending → World → Prop) : cwp Try.prog A_change_Pack (Try.f25.body.getD .skip) (retPost Try.prog Try.f25.results.toList R) (argE [x0]) w = F_change_Pack x0 w R := by kernel_rfl
theorem C_change_Pack {x0 : Value} {w : World} {R : Ending → World → Prop} (h : F_change_Pack x0 w R) : Calls Try.prog 25 #[x0] w R :=
  calls_cwp (A := A_change_Pack) (args := [x0]) mixed Try.func25 (c := Try.f25.body.getD .skip) (by kernel_rfl) (by kernel_rfl) (by kernel_rfl) ((E_change_Pack x0 w R).mpr h)

/-- bevy/bevyref10.Pack -/
def F_bevyref10_Pack (x0 : Value) (w : World) (R : Ending → World → Prop) : Prop :=
  m R (o_box 27 x0) w fun x1 w1 =>
  dq Try.prog w1 (o_load 27 x1) fun x3 =>
  df Try.prog w1 (o_call (fv 57) [x3]) true fun x4 w2 =>
  dp Try.prog (o_fieldAddr 27 x1 5) fun x5 =>
  dq Try.prog w1 (o_load 23 x5) fun x6 =>
  df Try.prog w2 (o_call (fv 60) [x6]) false fun x7 w3 =>
  dp Try.prog (o_bin .add 9 false x4 x7) fun x8 =>
  dend w3 fun w4 =>
  R (.returned x8) w4
def A_bevyref10_Pack : Ann := ⟨[], [], [(1, [⟨0, .q (some 0), 2, 0, 8⟩, ⟨1, .f 0 true, 8, 1, 16⟩, ⟨2, .q none, 2, 0, 32⟩, ⟨3, .q (some 0), 32, 4, 64⟩, ⟨4, .f 1 false, 64, 15, 128⟩, ⟨5, .q none, 144, 31, 256⟩, ⟨6, .q none, 256, 63, 4⟩])], [], []⟩
theorem E_bevyref10_Pack (x0 : Value) (w : World) (R : Ending → World → Prop) : cwp Try.prog A_bevyref10_Pack (Try.f26.body.getD .skip) (retPost Try.prog Try.f26.results.toList R) (argE [x0]) w = F_bevyref10_Pack x0 w R := by kernel_rfl
theorem C_bevyref10_Pack {x0 : Value} {w : World} {R : Ending → World → Prop} (h : F_bevyref10_Pack x0 w R) : Calls Try.prog 26 #[x0] w R :=
  calls_cwp (A := A_bevyref10_Pack) (args := [x0]) mixed Try.func26 (c := Try.f26.body.getD .skip) (by kernel_rfl) (by kernel_rfl) (by kernel_rfl) ((E_bevyref10_Pack x0 w R).mpr h)

abbrev RD_change_Unpack (k0 k1 r0 r1 : Value) (R : Ending → World → Prop) : Ending → World → Prop := dR Try.prog 61 [k0, k1] [(27, r0), (37, r1)] R
/-- bevy/change.Unpack -/
def F_change_Unpack (x0 : Value) (w : World) (R : Ending → World → Prop) : Prop :=
  m R (o_alloc 27) w fun x2 w1 =>
  m R (o_alloc 37) w1 fun x3 w2 =>
  m (RD_change_Unpack x2 x3 x2 x3 R) (o_call (fv 62) [x0]) w2 fun x8 w3 =>
  m (RD_change_Unpack x2 x3 x2 x3 R) (o_call (fv 63) [x8]) w3 fun x10 w4 =>
  m (RD_change_Unpack x2 x3 x2 x3 R) (o_fieldAddr 27 x2 0) w4 fun x11 w5 =>
  m (RD_change_Unpack x2 x3 x2 x3 R) (o_store 23 x11 x10) w5 fun _ w6 =>
  m (RD_change_Unpack x2 x3 x2 x3 R) (o_call (fv 64) [x8, (.int .i64 4611686018427387903)]) w6 fun x13 w7 =>
  m (RD_change_Unpack x2 x3 x2 x3 R) (o_fieldAddr 27 x2 1) w7 fun x14 w8 =>
  m (RD_change_Unpack x2 x3 x2 x3 R) (o_store 3 x14 x13) w8 fun _ w9 =>
  m (RD_change_Unpack x2 x3 x2 x3 R) (o_call (fv 64) [x8, (.int .i64 64)]) w9 fun x16 w10 =>
  m (RD_change_Unpack x2 x3 x2 x3 R) (o_fieldAddr 27 x2 2) w10 fun x17 w11 =>
  m (RD_change_Unpack x2 x3 x2 x3 R) (o_store 3 x17 x16) w11 fun _ w12 =>
  m (RD_change_Unpack x2 x3 x2 x3 R) (o_call (fv 64) [x8, (.int .i64 4611686018427387903)]) w12 fun x19 w13 =>
  m (RD_change_Unpack x2 x3 x2 x3 R) (o_fieldAddr 27 x2 3) w13 fun x20 w14 =>
  m (RD_change_Unpack x2 x3 x2 x3 R) (o_store 3 x20 x19) w14 fun _ w15 =>
  m (RD_change_Unpack x2 x3 x2 x3 R) (o_call (fv 64) [x8, (.int .i64 3)]) w15 fun x22 w16 =>
  m (RD_change_Unpack x2 x3 x2 x3 R) (o_call (fv 64) [x8, (.int .i64 64)]) w16 fun x24 w17 =>
  m (RD_change_Unpack x2 x3 x2 x3 R) (o_call (fv 63) [x8]) w17 fun x26 w18 =>
  m (RD_change_Unpack x2 x3 x2 x3 R) (o_build 25 [(0, x22), (1, x24), (2, x26)]) w18 fun x27 w19 =>
  m (RD_change_Unpack x2 x3 x2 x3 R) (o_fieldAddr 27 x2 4) w19 fun x28 w20 =>
  m (RD_change_Unpack x2 x3 x2 x3 R) (o_store 25 x28 x27) w20 fun _ w21 =>
  m (RD_change_Unpack x2 x3 x2 x3 R) (o_call (fv 63) [x8]) w21 fun x30 w22 =>
  m (RD_change_Unpack x2 x3 x2 x3 R) (o_fieldAddr 27 x2 5) w22 fun x31 w23 =>
  m (RD_change_Unpack x2 x3 x2 x3 R) (o_store 23 x31 x30) w23 fun _ w24 =>
  mj0 (fun j12 =>
    m (RD_change_Unpack x2 x3 x2 x3 R) (o_call (fv 65) [x8]) w24 fun x33 w25 =>
    m (RD_change_Unpack x2 x3 x2 x3 R) (o_bin .neq 37 true x33 (.int .i64 0)) w25 fun x35 w26 =>
    mif x35 (
      m (RD_change_Unpack x2 x3 x2 x3 R) (o_build 89 [(0, x33)]) w26 fun x37 w27 =>
      m (RD_change_Unpack x2 x3 x2 x3 R) (o_iface 89 x37) w27 fun x38 w28 =>
      m (RD_change_Unpack x2 x3 x2 x3 R) (o_panic x38) w28 fun _ w29 =>
      j12 w29) (
      j12 w26)) fun u12 w30 =>
  mj0 (fun j14 =>
    m (RD_change_Unpack x2 x3 x2 x3 R) (o_load 27 x2) w30 fun x39 w31 =>
    m (RD_change_Unpack x2 x3 x2 x3 R) (o_call (fv 24) [x39]) w31 fun x40 w32 =>
    m (RD_change_Unpack x2 x3 x2 x3 R) (o_un .not x40) w32 fun x41 w33 =>
    mif x41 (
      m (RD_change_Unpack x2 x3 x2 x3 R) (o_build 89 [(0, (.int .i64 3))]) w33 fun x42 w34 =>
      m (RD_change_Unpack x2 x3 x2 x3 R) (o_iface 89 x42) w34 fun x43 w35 =>
      m (RD_change_Unpack x2 x3 x2 x3 R) (o_panic x43) w35 fun _ w36 =>
      j14 w36) (
      j14 w33)) fun u14 w37 =>
  m (RD_change_Unpack x2 x3 x2 x3 R) (o_load 27 x2) w37 fun x44 w38 =>
  m (RD_change_Unpack x2 x3 x2 x3 R) (o_store 27 x2 x44) w38 fun _ w39 =>
  m (RD_change_Unpack x2 x3 x2 x3 R) (o_store 37 x3 (.int .i64 0)) w39 fun _ w40 =>
  (RD_change_Unpack x2 x3 x2 x3 R) (.returned undef) w40
def A_change_Unpack : Ann := ⟨[], [(12, [], 545460846624), (14, [], 17042430230528)], [], [], []⟩
theorem E_change_Unpack (x0 : Value) (w : World) (R : Ending → World → Prop) : cwp Try.prog A_change_Unpack (cl (Try.f27.body.getD .skip)) (dfrPost Try.prog A_change_Unpack (cr (cr (Try.f27.body.getD .skip))) Try.f27.results.toList 6 61 [.tmp 2, .tmp 3] R) (argE [x0]) w = F_change_Unpack x0 w R := by kernel_rfl
theorem C_change_Unpack {x0 : Value} {w : World} {R : Ending → World → Prop} (h : F_change_Unpack x0 w R) : Calls Try.prog 27 #[x0] w R :=
  calls_cwpD (A := A_change_Unpack) (args := [x0]) (c1 := cl (Try.f27.body.getD .skip)) (c2 := cr (cr (Try.f27.body.getD .skip))) (id := 1) (o1 := cop (cl (cr (Try.f27.body.getD .skip))) 0) (o2 := cop (cl (cr (Try.f27.body.getD .skip))) 1) (d := 6) (g := 61) (caps := [.tmp 2, .tmp 3]) mixed Try.func27 (by kernel_rfl) ⟨by kernel_rfl, by kernel_rfl, by kernel_rfl⟩ ⟨by kernel_rfl, by kernel_rfl, by kernel_rfl⟩ (by kernel_rfl) (by kernel_rfl) (by kernel_rfl) (by kernel_rfl) (by kernel_rfl) (by kernel_rfl) ((E_change_Unpack x0 w R).mpr h)

/-- bevy/bevyref10.Unpack -/
def F_bevyref10_Unpack (x0 : Value) (w : World) (R : Ending → World → Prop) : Prop :=
  m R (o_alloc 27) w fun x2 w1 =>
  m R (o_build 97 [(0, x0)]) w1 fun x8 w2 =>
  m R (o_box 97 x8) w2 fun x9 w3 =>
  m R (o_call (fv 66) [x9]) w3 fun x12 w4 =>
  m R (o_extract x12 0) w4 fun x13 w5 =>
  m R (o_extract x12 1) w5 fun x14 w6 =>
  m R (o_alloc 27) w6 fun x5 w7 =>
  m R (o_store 27 x5 x13) w7 fun _ w8 =>
  m R (o_call (fv 67) [x9]) w8 fun x16 w9 =>
  m R (o_bin .neq 3 true x16 (.int .i64 0)) w9 fun x17 w10 =>
  mif x17 (
    m R (o_build 27 []) w10 fun x18 w11 =>
    m R (o_call (fv 67) [x9]) w11 fun x20 w12 =>
    m R (o_store 27 x2 x18) w12 fun _ w13 =>
    rcell Try.prog 27 x2 w13 fun r2 =>
    R (.returned (.tuple #[r2, x20])) w13) (
    m R (o_un .not x14) w10 fun x22 w14 =>
    mif x22 (
      m R (o_build 27 []) w14 fun x23 w15 =>
      m R (o_store 27 x2 x23) w15 fun _ w16 =>
      rcell Try.prog 27 x2 w16 fun r2 =>
      R (.returned (.tuple #[r2, (.int .i64 3)])) w16) (
      m R (o_load 27 x5) w14 fun x24 w17 =>
      m R (o_store 27 x2 x24) w17 fun _ w18 =>
      rcell Try.prog 27 x2 w18 fun r2 =>
      R (.returned (.tuple #[r2, (.int .i64 0)])) w18))
def A_bevyref10_Unpack : Ann := ⟨[], [], [], [], []⟩
theorem E_bevyref10_Unpack (x0 : Value) (w : World) (R : Ending → World → Prop) : cwp Try.prog A_bevyref10_Unpack (Try.f28.body.getD .skip) (retPost Try.prog Try.f28.results.toList R) (argE [x0]) w = F_bevyref10_Unpack x0 w R := by kernel_rfl
theorem C_bevyref10_Unpack {x0 : Value} {w : World} {R : Ending → World → Prop} (h : F_bevyref10_Unpack x0 w R) : Calls Try.prog 28 #[x0] w R :=
  calls_cwp (A := A_bevyref10_Unpack) (args := [x0]) mixed Try.func28 (c := Try.f28.body.getD .skip) (by kernel_rfl) (by kernel_rfl) (by kernel_rfl) ((E_bevyref10_Unpack x0 w R).mpr h)

/-- bevy/change.Id -/
def F_change_Id (x0 : Value) (w : World) (R : Ending → World → Prop) : Prop :=
  m R (o_box 27 x0) w fun x1 w1 =>
  m R (o_alloc 23) w1 fun x2 w2 =>
  m R (o_load 27 x1) w2 fun x3 w3 =>
  m R (o_call (fv 24) [x3]) w3 fun x4 w4 =>
  m R (o_un .not x4) w4 fun x5 w5 =>
  mif x5 (
    m R (o_build 23 []) w5 fun x6 w6 =>
    m R (o_store 23 x2 x6) w6 fun _ w7 =>
    rcell Try.prog 23 x2 w7 fun r2 =>
    R (.returned r2) w7) (
    m R (o_load 27 x1) w5 fun x7 w8 =>
    m R (o_call (fv 25) [x7]) w8 fun x8 w9 =>
    m R (o_buildSlice 147 2 [(0, (.string (ByteArray.mk #[99, 104, 97, 110, 103, 101]))), (1, x8)]) w9 fun x9 w10 =>
    m R (o_call (fv 68) [x9]) w10 fun x10 w11 =>
    m R (o_store 23 x2 x10) w11 fun _ w12 =>
    rcell Try.prog 23 x2 w12 fun r2 =>
    R (.returned r2) w12)
def A_change_Id : Ann := ⟨[], [], [], [], []⟩
theorem E_change_Id (x0 : Value) (w : World) (R : Ending → World → Prop) : cwp Try.prog A_change_Id (Try.f29.body.getD .skip) (retPost Try.prog Try.f29.results.toList R) (argE [x0]) w = F_change_Id x0 w R := by kernel_rfl
theorem C_change_Id {x0 : Value} {w : World} {R : Ending → World → Prop} (h : F_change_Id x0 w R) : Calls Try.prog 29 #[x0] w R :=
  calls_cwp (A := A_change_Id) (args := [x0]) mixed Try.func29 (c := Try.f29.body.getD .skip) (by kernel_rfl) (by kernel_rfl) (by kernel_rfl) ((E_change_Id x0 w R).mpr h)

/-- bevy/bevyref10.Id -/
def F_bevyref10_Id (x0 : Value) (w : World) (R : Ending → World → Prop) : Prop :=
  m R (o_box 27 x0) w fun x1 w1 =>
  m R (o_alloc 22) w1 fun x2 w2 =>
  m R (o_load 27 x1) w2 fun x3 w3 =>
  m R (o_call (fv 26) [x3]) w3 fun x4 w4 =>
  m R (o_bin .add 9 true (.string (ByteArray.mk #[99, 104, 97, 110, 103, 101])) x4) w4 fun x5 w5 =>
  m R (o_call (fv 69) [x5]) w5 fun x6 w6 =>
  m R (o_store 22 x2 x6) w6 fun _ w7 =>
  rcell Try.prog 22 x2 w7 fun r2 =>
  R (.returned r2) w7
def A_bevyref10_Id : Ann := ⟨[], [], [], [], []⟩
theorem E_bevyref10_Id (x0 : Value) (w : World) (R : Ending → World → Prop) : cwp Try.prog A_bevyref10_Id (Try.f30.body.getD .skip) (retPost Try.prog Try.f30.results.toList R) (argE [x0]) w = F_bevyref10_Id x0 w R := by kernel_rfl
theorem C_bevyref10_Id {x0 : Value} {w : World} {R : Ending → World → Prop} (h : F_bevyref10_Id x0 w R) : Calls Try.prog 30 #[x0] w R :=
  calls_cwp (A := A_bevyref10_Id) (args := [x0]) mixed Try.func30 (c := Try.f30.body.getD .skip) (by kernel_rfl) (by kernel_rfl) (by kernel_rfl) ((E_bevyref10_Id x0 w R).mpr h)

/-- bevy/change.rank -/
def F_change_rank (x0 : Value) (w : World) (R : Ending → World → Prop) : Prop :=
  m R (o_bin .eql 3 true x0 (.int .i64 2)) w fun x5 w1 =>
  mif x5 (
    R (.returned (.int .i64 0)) w1) (
    m R (o_bin .eql 3 true x0 (.int .i64 3)) w1 fun x7 w2 =>
    mif x7 (
      R (.returned (.int .i64 1)) w2) (
      m R (o_bin .eql 3 true x0 (.int .i64 1)) w2 fun x9 w3 =>
      mif x9 (
        R (.returned (.int .i64 2)) w3) (
        R (.returned (.int .i64 3)) w3)))
def A_change_rank : Ann := ⟨[], [], [], [], []⟩
theorem E_change_rank (x0 : Value) (w : World) (R : Ending → World → Prop) : cwp Try.prog A_change_rank (Try.f51.body.getD .skip) (retPost Try.prog Try.f51.results.toList R) (argE [x0]) w = F_change_rank x0 w R := by kernel_rfl
theorem C_change_rank {x0 : Value} {w : World} {R : Ending → World → Prop} (h : F_change_rank x0 w R) : Calls Try.prog 51 #[x0] w R :=
  calls_cwp (A := A_change_rank) (args := [x0]) mixed Try.func51 (c := Try.f51.body.getD .skip) (by kernel_rfl) (by kernel_rfl) (by kernel_rfl) ((E_change_rank x0 w R).mpr h)

/-- bevy/bevyref10.rank -/
def F_bevyref10_rank (x0 : Value) (w : World) (R : Ending → World → Prop) : Prop :=
  m R (o_bin .eql 3 true x0 (.int .i64 2)) w fun x4 w1 =>
  mif x4 (
    R (.returned (.int .i64 0)) w1) (
    m R (o_bin .eql 3 true x0 (.int .i64 3)) w1 fun x6 w2 =>
    mif x6 (
      R (.returned (.int .i64 1)) w2) (
      m R (o_bin .eql 3 true x0 (.int .i64 1)) w2 fun x8 w3 =>
      mif x8 (
        R (.returned (.int .i64 2)) w3) (
        R (.returned (.int .i64 3)) w3)))
def A_bevyref10_rank : Ann := ⟨[], [], [], [], []⟩
theorem E_bevyref10_rank (x0 : Value) (w : World) (R : Ending → World → Prop) : cwp Try.prog A_bevyref10_rank (Try.f52.body.getD .skip) (retPost Try.prog Try.f52.results.toList R) (argE [x0]) w = F_bevyref10_rank x0 w R := by kernel_rfl
theorem C_bevyref10_rank {x0 : Value} {w : World} {R : Ending → World → Prop} (h : F_bevyref10_rank x0 w R) : Calls Try.prog 52 #[x0] w R :=
  calls_cwp (A := A_bevyref10_rank) (args := [x0]) mixed Try.func52 (c := Try.f52.body.getD .skip) (by kernel_rfl) (by kernel_rfl) (by kernel_rfl) ((E_bevyref10_rank x0 w R).mpr h)

/-- bevy/prim.Sign -/
def F_prim_Sign (x0 x1 : Value) (w : World) (R : Ending → World → Prop) : Prop :=
  m R (o_box 23 x0) w fun x2 w1 =>
  m R (o_alloc 23) w1 fun x4 w2 =>
  m R (o_load 23 x2) w2 fun x5 w3 =>
  m R (o_call (fv 102) [x5]) w3 fun x6 w4 =>
  m R (o_call (fv 101) [x6, x1]) w4 fun x8 w5 =>
  m R (o_store 23 x4 x8) w5 fun _ w6 =>
  rcell Try.prog 23 x4 w6 fun r4 =>
  R (.returned r4) w6
def A_prim_Sign : Ann := ⟨[], [], [], [], []⟩
theorem E_prim_Sign (x0 x1 : Value) (w : World) (R : Ending → World → Prop) : cwp Try.prog A_prim_Sign (Try.f53.body.getD .skip) (retPost Try.prog Try.f53.results.toList R) (argE [x0, x1]) w = F_prim_Sign x0 x1 w R := by kernel_rfl
theorem C_prim_Sign {x0 x1 : Value} {w : World} {R : Ending → World → Prop} (h : F_prim_Sign x0 x1 w R) : Calls Try.prog 53 #[x0, x1] w R :=
  calls_cwp (A := A_prim_Sign) (args := [x0, x1]) mixed Try.func53 (c := Try.f53.body.getD .skip) (by kernel_rfl) (by kernel_rfl) (by kernel_rfl) ((E_prim_Sign x0 x1 w R).mpr h)

/-- bevy/change.text -/
def F_change_text (x0 : Value) (w : World) (R : Ending → World → Prop) : Prop :=
  m R (o_box 27 x0) w fun x1 w1 =>
  m R (o_call (fv 103) []) w1 fun x8 w2 =>
  m R (o_fieldAddr 27 x1 0) w2 fun x10 w3 =>
  m R (o_load 23 x10) w3 fun x11 w4 =>
  m R (o_call (fv 104) [x8, x11]) w4 fun x12 w5 =>
  m R (o_fieldAddr 27 x1 1) w5 fun x13 w6 =>
  m R (o_load 3 x13) w6 fun x14 w7 =>
  m R (o_fieldAddr 27 x1 2) w7 fun x15 w8 =>
  m R (o_load 3 x15) w8 fun x16 w9 =>
  m R (o_fieldAddr 27 x1 3) w9 fun x17 w10 =>
  m R (o_load 3 x17) w10 fun x18 w11 =>
  m R (o_fieldAddr 27 x1 4) w11 fun x19 w12 =>
  m R (o_fieldAddr 25 x19 0) w12 fun x20 w13 =>
  m R (o_load 3 x20) w13 fun x21 w14 =>
  m R (o_fieldAddr 27 x1 4) w14 fun x22 w15 =>
  m R (o_fieldAddr 25 x22 1) w15 fun x23 w16 =>
  m R (o_load 3 x23) w16 fun x24 w17 =>
  m R (o_build 134 [(0, x14), (1, x16), (2, x18), (3, x21), (4, x24)]) w17 fun x25 w18 =>
  ml1 (.int .i64 0) w18 fun x26 u4 w19 next4 =>
    m R (o_bin .lss 3 true x26 (.int .i64 5)) w19 fun x27 w20 =>
    mif x27 (
      m R (o_index 134 x25 x26) w20 fun x28 w21 =>
      m R (o_call (fv 105) [x8, x28]) w21 fun x31 w22 =>
      m R (o_bin .add 3 true x26 (.int .i64 1)) w22 fun x32 w23 =>
      next4 x32 w23) (
      m R (o_fieldAddr 27 x1 4) w20 fun x34 w24 =>
      m R (o_fieldAddr 25 x34 2) w24 fun x35 w25 =>
      m R (o_load 23 x35) w25 fun x36 w26 =>
      m R (o_call (fv 104) [x8, x36]) w26 fun x37 w27 =>
      m R (o_call (fv 106) [x8]) w27 fun x40 w28 =>
      m R (o_extract x40 0) w28 fun x41 w29 =>
      m R (o_extract x40 1) w29 fun x42 w30 =>
      R (.returned x41) w30)
def A_change_text : Ann := ⟨[(4, [26], 8522825760)], [], [], [], []⟩
theorem E_change_text (x0 : Value) (w : World) (R : Ending → World → Prop) : cwp Try.prog A_change_text (Try.f54.body.getD .skip) (retPost Try.prog Try.f54.results.toList R) (argE [x0]) w = F_change_text x0 w R := by kernel_rfl
theorem C_change_text {x0 : Value} {w : World} {R : Ending → World → Prop} (h : F_change_text x0 w R) : Calls Try.prog 54 #[x0] w R :=
  calls_cwp (A := A_change_text) (args := [x0]) mixed Try.func54 (c := Try.f54.body.getD .skip) (by kernel_rfl) (by kernel_rfl) (by kernel_rfl) ((E_change_text x0 w R).mpr h)

/-- bevy/bevyref05.Sign -/
def F_bevyref05_Sign (x0 x1 : Value) (w : World) (R : Ending → World → Prop) : Prop :=
  m R (o_box 22 x0) w fun x2 w1 =>
  m R (o_alloc 22) w1 fun x4 w2 =>
  m R (o_load 22 x2) w2 fun x5 w3 =>
  m R (o_call (fv 108) [x5]) w3 fun x6 w4 =>
  m R (o_bin .add 9 true (.string (ByteArray.mk #[115, 105, 103, 110])) x1) w4 fun x8 w5 =>
  m R (o_call (fv 107) [x6, x8]) w5 fun x9 w6 =>
  m R (o_store 22 x4 x9) w6 fun _ w7 =>
  rcell Try.prog 22 x4 w7 fun r4 =>
  R (.returned r4) w7
def A_bevyref05_Sign : Ann := ⟨[], [], [], [], []⟩
theorem E_bevyref05_Sign (x0 x1 : Value) (w : World) (R : Ending → World → Prop) : cwp Try.prog A_bevyref05_Sign (Try.f55.body.getD .skip) (retPost Try.prog Try.f55.results.toList R) (argE [x0, x1]) w = F_bevyref05_Sign x0 x1 w R := by kernel_rfl
theorem C_bevyref05_Sign {x0 x1 : Value} {w : World} {R : Ending → World → Prop} (h : F_bevyref05_Sign x0 x1 w R) : Calls Try.prog 55 #[x0, x1] w R :=
  calls_cwp (A := A_bevyref05_Sign) (args := [x0, x1]) mixed Try.func55 (c := Try.f55.body.getD .skip) (by kernel_rfl) (by kernel_rfl) (by kernel_rfl) ((E_bevyref05_Sign x0 x1 w R).mpr h)

/-- bevy/bevyref05.Verify -/
def F_bevyref05_Verify (x0 : Value) (w : World) (R : Ending → World → Prop) : Prop :=
  m R (o_box 22 x0) w fun x1 w1 =>
  m R (o_alloc 22) w1 fun x2 w2 =>
  m R (o_load 22 x1) w2 fun x3 w3 =>
  m R (o_call (fv 108) [x3]) w3 fun x4 w4 =>
  m R (o_bin .add 9 true (.string (ByteArray.mk #[118, 101, 114])) x4) w4 fun x5 w5 =>
  m R (o_call (fv 69) [x5]) w5 fun x6 w6 =>
  m R (o_store 22 x2 x6) w6 fun _ w7 =>
  rcell Try.prog 22 x2 w7 fun r2 =>
  R (.returned r2) w7
def A_bevyref05_Verify : Ann := ⟨[], [], [], [], []⟩
theorem E_bevyref05_Verify (x0 : Value) (w : World) (R : Ending → World → Prop) : cwp Try.prog A_bevyref05_Verify (Try.f56.body.getD .skip) (retPost Try.prog Try.f56.results.toList R) (argE [x0]) w = F_bevyref05_Verify x0 w R := by kernel_rfl
theorem C_bevyref05_Verify {x0 : Value} {w : World} {R : Ending → World → Prop} (h : F_bevyref05_Verify x0 w R) : Calls Try.prog 56 #[x0] w R :=
  calls_cwp (A := A_bevyref05_Verify) (args := [x0]) mixed Try.func56 (c := Try.f56.body.getD .skip) (by kernel_rfl) (by kernel_rfl) (by kernel_rfl) ((E_bevyref05_Verify x0 w R).mpr h)

/-- bevy/bevyref10.Text -/
def F_bevyref10_Text (x0 : Value) (w : World) (R : Ending → World → Prop) : Prop :=
  m R (o_box 27 x0) w fun x1 w1 =>
  dp Try.prog (o_fieldAddr 27 x1 0) fun x4 =>
  dq Try.prog w1 (o_load 23 x4) fun x5 =>
  df Try.prog w1 (o_call (fv 60) [x5]) true fun x6 w2 =>
  dp Try.prog (o_fieldAddr 27 x1 1) fun x7 =>
  dq Try.prog w1 (o_load 3 x7) fun x8 =>
  df Try.prog w2 (o_call (fv 109) [x8]) true fun x9 w3 =>
  dp Try.prog (o_bin .add 9 false x6 x9) fun x10 =>
  dp Try.prog (o_fieldAddr 27 x1 2) fun x11 =>
  dq Try.prog w1 (o_load 3 x11) fun x12 =>
  df Try.prog w3 (o_call (fv 109) [x12]) true fun x13 w4 =>
  dp Try.prog (o_bin .add 9 false x10 x13) fun x14 =>
  dp Try.prog (o_fieldAddr 27 x1 3) fun x15 =>
  dq Try.prog w1 (o_load 3 x15) fun x16 =>
  df Try.prog w4 (o_call (fv 109) [x16]) false fun x17 w5 =>
  dp Try.prog (o_bin .add 9 false x14 x17) fun x18 =>
  dend w5 fun w6 =>
  dp Try.prog (o_fieldAddr 27 x1 4) fun x20 =>
  dp Try.prog (o_fieldAddr 25 x20 0) fun x21 =>
  dq Try.prog w6 (o_load 3 x21) fun x22 =>
  df Try.prog w6 (o_call (fv 109) [x22]) true fun x23 w7 =>
  dp Try.prog (o_bin .add 9 false x18 x23) fun x24 =>
  dp Try.prog (o_fieldAddr 27 x1 4) fun x25 =>
  dp Try.prog (o_fieldAddr 25 x25 1) fun x26 =>
  dq Try.prog w6 (o_load 3 x26) fun x27 =>
  df Try.prog w7 (o_call (fv 109) [x27]) true fun x28 w8 =>
  dp Try.prog (o_bin .add 9 false x24 x28) fun x29 =>
  dp Try.prog (o_fieldAddr 27 x1 4) fun x30 =>
  dp Try.prog (o_fieldAddr 25 x30 2) fun x31 =>
  dq Try.prog w6 (o_load 23 x31) fun x32 =>
  df Try.prog w8 (o_call (fv 60) [x32]) false fun x33 w9 =>
  dp Try.prog (o_bin .add 9 false x29 x33) fun x34 =>
  dend w9 fun w10 =>
  R (.returned x34) w10
def A_bevyref10_Text : Ann := ⟨[], [], [(1, [⟨0, .q none, 2, 0, 16⟩, ⟨1, .q (some 0), 16, 1, 32⟩, ⟨2, .f 0 true, 32, 3, 64⟩, ⟨3, .q none, 2, 0, 128⟩, ⟨4, .q (some 0), 128, 8, 256⟩, ⟨5, .f 1 true, 256, 31, 512⟩, ⟨6, .q none, 576, 63, 1024⟩, ⟨7, .q none, 2, 0, 2048⟩, ⟨8, .q (some 0), 2048, 128, 4096⟩, ⟨9, .f 2 true, 4096, 447, 8192⟩, ⟨10, .q none, 9216, 1023, 16384⟩, ⟨11, .q none, 2, 0, 32768⟩, ⟨12, .q (some 0), 32768, 2048, 65536⟩, ⟨13, .f 3 false, 65536, 7103, 131072⟩, ⟨14, .q none, 147456, 16383, 262144⟩, ⟨15, .q none, 262144, 32767, 8⟩]), (2, [⟨0, .q none, 8, 0, 524288⟩, ⟨1, .q none, 2, 0, 1048576⟩, ⟨2, .q none, 1048576, 2, 2097152⟩, ⟨3, .q (some 0), 2097152, 6, 4194304⟩, ⟨4, .f 0 true, 4194304, 14, 8388608⟩, ⟨5, .q none, 8912896, 31, 16777216⟩, ⟨6, .q none, 2, 0, 33554432⟩, ⟨7, .q none, 33554432, 64, 67108864⟩, ⟨8, .q (some 0), 67108864, 192, 134217728⟩, ⟨9, .f 1 true, 134217728, 478, 268435456⟩, ⟨10, .q none, 285212672, 1023, 536870912⟩, ⟨11, .q none, 2, 0, 1073741824⟩, ⟨12, .q none, 1073741824, 2048, 2147483648⟩, ⟨13, .q (some 0), 2147483648, 6144, 4294967296⟩, ⟨14, .f 2 false, 4294967296, 15326, 8589934592⟩, ⟨15, .q none, 9126805504, 32767, 17179869184⟩, ⟨16, .q none, 17179869184, 65535, 4⟩])], [], []⟩
theorem E_bevyref10_Text (x0 : Value) (w : World) (R : Ending → World → Prop) : cwp Try.prog A_bevyref10_Text (Try.f57.body.getD .skip) (retPost Try.prog Try.f57.results.toList R) (argE [x0]) w = F_bevyref10_Text x0 w R := by kernel_rfl
theorem C_bevyref10_Text {x0 : Value} {w : World} {R : Ending → World → Prop} (h : F_bevyref10_Text x0 w R) : Calls Try.prog 57 #[x0] w R :=
  calls_cwp (A := A_bevyref10_Text) (args := [x0]) mixed Try.func57 (c := Try.f57.body.getD .skip) (by kernel_rfl) (by kernel_rfl) (by kernel_rfl) ((E_bevyref10_Text x0 w R).mpr h)

/-- bevy/prim.Check -/
def F_prim_Check (x0 x1 x2 : Value) (w : World) (R : Ending → World → Prop) : Prop :=
  m R (o_box 23 x0) w fun x3 w1 =>
  m R (o_box 23 x2) w1 fun x5 w2 =>
  dq Try.prog w2 (o_load 23 x3) fun x7 =>
  df Try.prog w2 (o_call (fv 101) [x7, x1]) true fun x9 w3 =>
  dq Try.prog w2 (o_load 23 x5) fun x10 =>
  dp Try.prog (o_bin .eql 23 false x9 x10) fun x11 =>
  dend w3 fun w4 =>
  R (.returned x11) w4
def A_prim_Check : Ann := ⟨[], [], [(1, [⟨0, .q (some 0), 8, 0, 128⟩, ⟨1, .q none, 2, 0, 256⟩, ⟨2, .f 0 true, 384, 3, 512⟩, ⟨3, .q (some 0), 32, 0, 1024⟩, ⟨4, .q none, 1536, 15, 2048⟩, ⟨5, .q none, 2048, 31, 64⟩])], [], []⟩
theorem E_prim_Check (x0 x1 x2 : Value) (w : World) (R : Ending → World → Prop) : cwp Try.prog A_prim_Check (Try.f58.body.getD .skip) (retPost Try.prog Try.f58.results.toList R) (argE [x0, x1, x2]) w = F_prim_Check x0 x1 x2 w R := by kernel_rfl
theorem C_prim_Check {x0 x1 x2 : Value} {w : World} {R : Ending → World → Prop} (h : F_prim_Check x0 x1 x2 w R) : Calls Try.prog 58 #[x0, x1, x2] w R :=
  calls_cwp (A := A_prim_Check) (args := [x0, x1, x2]) mixed Try.func58 (c := Try.f58.body.getD .skip) (by kernel_rfl) (by kernel_rfl) (by kernel_rfl) ((E_prim_Check x0 x1 x2 w R).mpr h)

/-- bevy/change.named -/
def F_change_named (x0 : Value) (w : World) (R : Ending → World → Prop) : Prop :=
  m R (o_bin .geq 3 true x0 (.int .i64 1)) w fun x4 w1 =>
  mguard x4 true (fun k => m R (o_move x0) w1 k) w1 fun x6 w2 =>
  mguard x4 true (fun k => m R (o_bin .leq 3 true x6 (.int .i64 64)) w2 k) w2 fun x7 w3 =>
  m R (o_pick x4 x7 (.bool false)) w3 fun x8 w4 =>
  R (.returned x8) w4
def A_change_named : Ann := ⟨[], [], [], [], []⟩
theorem E_change_named (x0 : Value) (w : World) (R : Ending → World → Prop) : cwp Try.prog A_change_named (Try.f59.body.getD .skip) (retPost Try.prog Try.f59.results.toList R) (argE [x0]) w = F_change_named x0 w R := by kernel_rfl
theorem C_change_named {x0 : Value} {w : World} {R : Ending → World → Prop} (h : F_change_named x0 w R) : Calls Try.prog 59 #[x0] w R :=
  calls_cwp (A := A_change_named) (args := [x0]) mixed Try.func59 (c := Try.f59.body.getD .skip) (by kernel_rfl) (by kernel_rfl) (by kernel_rfl) ((E_change_named x0 w R).mpr h)

/-- bevy/bevyref01.Hash -/
def F_bevyref01_Hash (x0 : Value) (w : World) (R : Ending → World → Prop) : Prop :=
  m R (o_box 22 x0) w fun x1 w1 =>
  m R (o_slice 22 x1 none none none) w1 fun x3 w2 =>
  m R (o_conv 86 9 x3) w2 fun x4 w3 =>
  R (.returned x4) w3
def A_bevyref01_Hash : Ann := ⟨[], [], [], [], []⟩
theorem E_bevyref01_Hash (x0 : Value) (w : World) (R : Ending → World → Prop) : cwp Try.prog A_bevyref01_Hash (Try.f60.body.getD .skip) (retPost Try.prog Try.f60.results.toList R) (argE [x0]) w = F_bevyref01_Hash x0 w R := by kernel_rfl
theorem C_bevyref01_Hash {x0 : Value} {w : World} {R : Ending → World → Prop} (h : F_bevyref01_Hash x0 w R) : Calls Try.prog 60 #[x0] w R :=
  calls_cwp (A := A_bevyref01_Hash) (args := [x0]) mixed Try.func60 (c := Try.f60.body.getD .skip) (by kernel_rfl) (by kernel_rfl) (by kernel_rfl) ((E_bevyref01_Hash x0 w R).mpr h)

/-- bevy/change.Unpack$1 -/
def F_change_Unpack_1 (x0 x1 v : Value) (w : World) (R : Ending → World → Prop) : Prop :=
  m R (o_bin .neq 20 true v (.nilIface : Value)) w fun x7 w1 =>
  mif x7 (
    m R (o_assert v 20 89 true) w1 fun x10 w2 =>
    m R (o_extract x10 0) w2 fun x11 w3 =>
    m R (o_extract x10 1) w3 fun x12 w4 =>
    m R (o_alloc 89) w4 fun x3 w5 =>
    m R (o_store 89 x3 x11) w5 fun _ w6 =>
    mj0 (fun j5 =>
      m R (o_un .not x12) w6 fun x14 w7 =>
      mif x14 (
        m R (o_panic v) w7 fun _ w8 =>
        j5 w8) (
        j5 w7)) fun u5 w9 =>
    ∃ S : Rl,
      dp Try.prog (o_build 27 []) fun x16 =>
      dp Try.prog (o_fieldAddr 89 x3 0) fun x17 =>
      dqS Try.prog S w9 (o_load 37 x17) fun x18 =>
      dfS Try.prog S w9 (o_store 27 x0 x16) true fun _ w10 =>
      dfS Try.prog S w10 (o_store 37 x1 x18) false fun _ w11 =>
      dend w11 fun w12 =>
      R (.returned (.tuple #[])) w12) (
    R (.returned (.tuple #[])) w1)
def A_change_Unpack_1 : Ann := ⟨[], [(5, [], 57344)], [(5, [⟨0, .q none, 0, 0, 65536⟩, ⟨1, .q none, 8, 0, 131072⟩, ⟨2, .q (some 0), 131072, 2, 262144⟩, ⟨3, .f 0 true, 65537, 1, 0⟩, ⟨4, .f 1 false, 262146, 15, 0⟩])], [], [5]⟩
theorem E_change_Unpack_1 (x0 x1 v : Value) (w : World) (u : FrameMode) (R : Ending → FrameMode → World → Prop) : cwp Try.prog A_change_Unpack_1 (cr (Try.f61.body.getD .skip)) (clPost Try.prog Try.f61.results.toList R u) (((argE [x0, x1]).set (some 5) v).set (some 2) v) w = F_change_Unpack_1 x0 x1 v w (fun en w => R en u w) := by kernel_rfl
theorem C_change_Unpack_1 {x0 x1 : Value} {w : World} {u : FrameMode} {R : Ending → FrameMode → World → Prop} (h : F_change_Unpack_1 x0 x1 (rcv u).1 w (fun en w => R en (rcv u).2 w)) : CallsD Try.prog 61 #[x0, x1] u w R :=
  callsD_cwp (A := A_change_Unpack_1) (caps := [x0, x1]) (c2 := cr (Try.f61.body.getD .skip)) (id := 0) (o1 := cop (cl (Try.f61.body.getD .skip)) 0) (o2 := cop (cl (Try.f61.body.getD .skip)) 1) (r := 5) (d := 2) mixed Try.func61 (by kernel_rfl) ⟨by kernel_rfl, by kernel_rfl, by kernel_rfl⟩ ⟨by kernel_rfl, by kernel_rfl, by kernel_rfl⟩ (by kernel_rfl) (by kernel_rfl) (by kernel_rfl) (by kernel_rfl) ((E_change_Unpack_1 x0 x1 (rcv u).1 w (rcv u).2 R).mpr h)

/-- bevy/wire.From -/
def F_wire_From (x0 : Value) (w : World) (R : Ending → World → Prop) : Prop :=
  m R (o_build 140 [(0, x0)]) w fun x4 w1 =>
  m R (o_box 140 x4) w1 fun x5 w2 =>
  R (.returned x5) w2
def A_wire_From : Ann := ⟨[], [], [], [], []⟩
theorem E_wire_From (x0 : Value) (w : World) (R : Ending → World → Prop) : cwp Try.prog A_wire_From (Try.f62.body.getD .skip) (retPost Try.prog Try.f62.results.toList R) (argE [x0]) w = F_wire_From x0 w R := by kernel_rfl
theorem C_wire_From {x0 : Value} {w : World} {R : Ending → World → Prop} (h : F_wire_From x0 w R) : Calls Try.prog 62 #[x0] w R :=
  calls_cwp (A := A_wire_From) (args := [x0]) mixed Try.func62 (c := Try.f62.body.getD .skip) (by kernel_rfl) (by kernel_rfl) (by kernel_rfl) ((E_wire_From x0 w R).mpr h)

/-- (*bevy/wire.Reader).Hash -/
def F_wire_Reader_Hash (x0 : Value) (w : World) (R : Ending → World → Prop) : Prop :=
  m R (o_alloc 23) w fun x2 w1 =>
  m R (o_alloc 23) w1 fun x3 w2 =>
  m R (o_call (fv 110) [x0, (.int .i64 32)]) w2 fun x8 w3 =>
  m R (o_extract x8 0) w3 fun x9 w4 =>
  m R (o_extract x8 1) w4 fun x10 w5 =>
  m R (o_slice 23 x3 none none none) w5 fun x11 w6 =>
  m R (o_builtin .copy #[86, 9] 3 [false, false] [x11, x9]) w6 fun x13 w7 =>
  m R (o_load 23 x3) w7 fun x14 w8 =>
  m R (o_store 23 x2 x14) w8 fun _ w9 =>
  rcell Try.prog 23 x2 w9 fun r2 =>
  R (.returned r2) w9
def A_wire_Reader_Hash : Ann := ⟨[], [], [], [], []⟩
theorem E_wire_Reader_Hash (x0 : Value) (w : World) (R : Ending → World → Prop) : cwp Try.prog A_wire_Reader_Hash (Try.f63.body.getD .skip) (retPost Try.prog Try.f63.results.toList R) (argE [x0]) w = F_wire_Reader_Hash x0 w R := by kernel_rfl
theorem C_wire_Reader_Hash {x0 : Value} {w : World} {R : Ending → World → Prop} (h : F_wire_Reader_Hash x0 w R) : Calls Try.prog 63 #[x0] w R :=
  calls_cwp (A := A_wire_Reader_Hash) (args := [x0]) mixed Try.func63 (c := Try.f63.body.getD .skip) (by kernel_rfl) (by kernel_rfl) (by kernel_rfl) ((E_wire_Reader_Hash x0 w R).mpr h)

/-- (*bevy/wire.Reader).Num -/
def F_wire_Reader_Num (x0 x1 : Value) (w : World) (R : Ending → World → Prop) : Prop :=
  mj1 (fun j2 =>
    m R (o_bin .eql 91 true x0 (.pointer none)) w fun x11 w1 =>
    mguard x11 false (fun k => m R (o_move x0) w1 k) w1 fun x13 w2 =>
    mguard x11 false (fun k => m R (o_nilCheck x13) w2 k) w2 fun x14 w3 =>
    mguard x11 false (fun k => m R (o_fieldAddr 140 x14 1) w3 k) w3 fun x15 w4 =>
    mguard x11 false (fun k => m R (o_load 37 x15) w4 k) w4 fun x16 w5 =>
    mguard x11 false (fun k => m R (o_bin .neq 37 true x16 (.int .i64 0)) w5 k) w5 fun x17 w6 =>
    m R (o_pick x11 (.bool true) x17) w6 fun x18 w7 =>
    j2 x18 w7) fun x18 u2 w8 =>
  mif x18 (
    R (.returned (.int .i64 0)) w8) (
    m R (o_nilCheck x0) w8 fun x20 w9 =>
    m R (o_fieldAddr 140 x20 0) w9 fun x21 w10 =>
    m R (o_load 9 x21) w10 fun x22 w11 =>
    m R (o_bin .eql 9 true x22 (.string (ByteArray.mk #[]))) w11 fun x23 w12 =>
    mif x23 (
      m R (o_nilCheck x0) w12 fun x25 w13 =>
      m R (o_fieldAddr 140 x25 1) w13 fun x26 w14 =>
      m R (o_store 37 x26 (.int .i64 2)) w14 fun _ w15 =>
      R (.returned (.int .i64 0)) w15) (
      m R (o_nilCheck x0) w12 fun x28 w16 =>
      m R (o_fieldAddr 140 x28 0) w16 fun x29 w17 =>
      m R (o_load 9 x29) w17 fun x30 w18 =>
      m R (o_index 9 x30 (.int .i64 0)) w18 fun x31 w19 =>
      m R (o_bin .shr 5 true x31 (.int .u64 6)) w19 fun x32 w20 =>
      m R (o_conv 5 3 x32) w20 fun x33 w21 =>
      m R (o_bin .shl 3 true (.int .i64 1) x33) w21 fun x37 w22 =>
      m R (o_call (fv 110) [x0, x37]) w22 fun x38 w23 =>
      m R (o_extract x38 0) w23 fun x39 w24 =>
      m R (o_extract x38 1) w24 fun x40 w25 =>
      m R (o_un .not x40) w25 fun x42 w26 =>
      mif x42 (
        R (.returned (.int .i64 0)) w26) (
        m R (o_index 9 x39 (.int .i64 0)) w26 fun x44 w27 =>
        m R (o_bin .and 5 true x44 (.int .u8 63)) w27 fun x45 w28 =>
        m R (o_conv 5 3 x45) w28 fun x46 w29 =>
        ml2 x46 (.int .i64 1) w29 fun x8 x9 u12 w30 next12 =>
          m R (o_builtin .len #[9] 3 [false] [x39]) w30 fun x49 w31 =>
          m R (o_bin .lss 3 false x9 x49) w31 fun x50 w32 =>
          mif x50 (
            m R (o_bin .shl 3 true x8 (.int .u64 8)) w32 fun x54 w33 =>
            m R (o_index 9 x39 x9) w33 fun x57 w34 =>
            m R (o_conv 5 3 x57) w34 fun x58 w35 =>
            m R (o_bin .or 3 false x54 x58) w35 fun x59 w36 =>
            m R (o_bin .add 3 true x9 (.int .i64 1)) w36 fun x52 w37 =>
            next12 x59 x52 w37) (
            mj0 (fun j20 =>
              mj1 (fun j17 =>
                m R (o_bin .gtr 3 true x33 (.int .i64 0)) w32 fun x63 w38 =>
                mguard x63 true (fun k => m R (o_move x8) w38 k) w38 fun x65 w39 =>
                mguard x63 true (fun k => m R (o_call (fv 111) []) w39 k) w39 fun x66 w40 =>
                mguard x63 true (fun k => m R (o_move x33) w40 k) w40 fun x67 w41 =>
                mguard x63 true (fun k => m R (o_bin .sub 3 true x67 (.int .i64 1)) w41 k) w41 fun x68 w42 =>
                mguard x63 true (fun k => m R (o_index 144 x66 x68) w42 k) w42 fun x69 w43 =>
                mguard x63 true (fun k => m R (o_bin .lss 3 false x65 x69) w43 k) w43 fun x70 w44 =>
                m R (o_pick x63 x70 (.bool false)) w44 fun x71 w45 =>
                j17 x71 w45) fun x61 u17 w46 =>
              mif x61 (
                m R (o_nilCheck x0) w46 fun x73 w47 =>
                m R (o_fieldAddr 140 x73 1) w47 fun x74 w48 =>
                m R (o_store 37 x74 (.int .i64 3)) w48 fun _ w49 =>
                j20 w49) (
                m R (o_bin .gtr 3 false x8 x1) w46 fun x78 w50 =>
                mif x78 (
                  m R (o_nilCheck x0) w50 fun x80 w51 =>
                  m R (o_fieldAddr 140 x80 1) w51 fun x81 w52 =>
                  m R (o_store 37 x81 (.int .i64 5)) w52 fun _ w53 =>
                  j20 w53) (
                  R (.returned x8) w50))) fun u20 w54 =>
            R (.returned (.int .i64 0)) w54))))
def A_wire_Reader_Num : Ann := ⟨[(12, [8, 9], 1152780767118492416)], [(2, [18], 523264), (20, [], 4835702125537012091977744), (17, [61], 4720060639860431519744)], [], [], []⟩
theorem E_wire_Reader_Num (x0 x1 : Value) (w : World) (R : Ending → World → Prop) : cwp Try.prog A_wire_Reader_Num (Try.f64.body.getD .skip) (retPost Try.prog Try.f64.results.toList R) (argE [x0, x1]) w = F_wire_Reader_Num x0 x1 w R := by kernel_rfl
theorem C_wire_Reader_Num {x0 x1 : Value} {w : World} {R : Ending → World → Prop} (h : F_wire_Reader_Num x0 x1 w R) : Calls Try.prog 64 #[x0, x1] w R :=
  calls_cwp (A := A_wire_Reader_Num) (args := [x0, x1]) mixed Try.func64 (c := Try.f64.body.getD .skip) (by kernel_rfl) (by kernel_rfl) (by kernel_rfl) ((E_wire_Reader_Num x0 x1 w R).mpr h)

/-- (*bevy/wire.Reader).End -/
def F_wire_Reader_End (x0 : Value) (w : World) (R : Ending → World → Prop) : Prop :=
  mj1 (fun j2 =>
    m R (o_call (fv 112) [x0]) w fun x4 w1 =>
    m R (o_bin .eql 37 true x4 (.int .i64 0)) w1 fun x5 w2 =>
    mguard x5 true (fun k => m R (o_move x0) w2 k) w2 fun x7 w3 =>
    mguard x5 true (fun k => m R (o_nilCheck x7) w3 k) w3 fun x8 w4 =>
    mguard x5 true (fun k => m R (o_fieldAddr 140 x8 0) w4 k) w4 fun x9 w5 =>
    mguard x5 true (fun k => m R (o_load 9 x9) w5 k) w5 fun x10 w6 =>
    mguard x5 true (fun k => m R (o_bin .neq 9 true x10 (.string (ByteArray.mk #[]))) w6 k) w6 fun x11 w7 =>
    m R (o_pick x5 x11 (.bool false)) w7 fun x12 w8 =>
    j2 x12 w8) fun x12 u2 w9 =>
  mif x12 (
    R (.returned (.int .i64 4)) w9) (
    m R (o_call (fv 112) [x0]) w9 fun x14 w10 =>
    R (.returned x14) w10)
def A_wire_Reader_End : Ann := ⟨[], [(2, [12], 8184)], [], [], []⟩
theorem E_wire_Reader_End (x0 : Value) (w : World) (R : Ending → World → Prop) : cwp Try.prog A_wire_Reader_End (Try.f65.body.getD .skip) (retPost Try.prog Try.f65.results.toList R) (argE [x0]) w = F_wire_Reader_End x0 w R := by kernel_rfl
theorem C_wire_Reader_End {x0 : Value} {w : World} {R : Ending → World → Prop} (h : F_wire_Reader_End x0 w R) : Calls Try.prog 65 #[x0] w R :=
  calls_cwp (A := A_wire_Reader_End) (args := [x0]) mixed Try.func65 (c := Try.f65.body.getD .skip) (by kernel_rfl) (by kernel_rfl) (by kernel_rfl) ((E_wire_Reader_End x0 w R).mpr h)

/-- bevy/bevyref10.Take -/
def F_bevyref10_Take (x0 : Value) (w : World) (R : Ending → World → Prop) : Prop :=
  m R (o_alloc 27) w fun x2 w1 =>
  m R (o_build 27 []) w1 fun x5 w2 =>
  m R (o_alloc 27) w2 fun x4 w3 =>
  m R (o_store 27 x4 x5) w3 fun _ w4 =>
  m R (o_call (fv 113) [x0]) w4 fun x7 w5 =>
  m R (o_fieldAddr 27 x4 0) w5 fun x8 w6 =>
  m R (o_store 23 x8 x7) w6 fun _ w7 =>
  m R (o_call (fv 114) [x0, (.int .i64 4611686018427387903)]) w7 fun x10 w8 =>
  m R (o_fieldAddr 27 x4 1) w8 fun x11 w9 =>
  m R (o_store 3 x11 x10) w9 fun _ w10 =>
  m R (o_call (fv 114) [x0, (.int .i64 64)]) w10 fun x13 w11 =>
  m R (o_fieldAddr 27 x4 2) w11 fun x14 w12 =>
  m R (o_store 3 x14 x13) w12 fun _ w13 =>
  m R (o_call (fv 114) [x0, (.int .i64 4611686018427387903)]) w13 fun x16 w14 =>
  m R (o_fieldAddr 27 x4 3) w14 fun x17 w15 =>
  m R (o_store 3 x17 x16) w15 fun _ w16 =>
  m R (o_call (fv 114) [x0, (.int .i64 3)]) w16 fun x19 w17 =>
  m R (o_fieldAddr 27 x4 4) w17 fun x20 w18 =>
  m R (o_fieldAddr 25 x20 0) w18 fun x21 w19 =>
  m R (o_store 3 x21 x19) w19 fun _ w20 =>
  m R (o_call (fv 114) [x0, (.int .i64 64)]) w20 fun x23 w21 =>
  m R (o_fieldAddr 27 x4 4) w21 fun x24 w22 =>
  m R (o_fieldAddr 25 x24 1) w22 fun x25 w23 =>
  m R (o_store 3 x25 x23) w23 fun _ w24 =>
  m R (o_call (fv 113) [x0]) w24 fun x27 w25 =>
  m R (o_fieldAddr 27 x4 4) w25 fun x28 w26 =>
  m R (o_fieldAddr 25 x28 2) w26 fun x29 w27 =>
  m R (o_store 23 x29 x27) w27 fun _ w28 =>
  m R (o_call (fv 113) [x0]) w28 fun x31 w29 =>
  m R (o_fieldAddr 27 x4 5) w29 fun x32 w30 =>
  m R (o_store 23 x32 x31) w30 fun _ w31 =>
  dq Try.prog w31 (o_load 27 x4) fun x33 =>
  dq Try.prog w31 (o_load 27 x4) fun x34 =>
  df Try.prog w31 (o_call (fv 18) [x34]) true fun x35 w32 =>
  df Try.prog w32 (o_store 27 x2 x33) false fun _ w33 =>
  dend w33 fun w34 =>
  rcell Try.prog 27 x2 w34 fun r2 =>
  R (.returned (.tuple #[r2, x35])) w34
def A_bevyref10_Take : Ann := ⟨[], [], [(10, [⟨0, .q (some 0), 16, 0, 8589934592⟩, ⟨1, .q (some 0), 16, 0, 17179869184⟩, ⟨2, .f 0 true, 17179869184, 2, 34359738368⟩, ⟨3, .f 1 false, 8589934596, 7, 0⟩, ⟨4, .q none, 34359738368, 15, 8⟩])], [], []⟩
theorem E_bevyref10_Take (x0 : Value) (w : World) (R : Ending → World → Prop) : cwp Try.prog A_bevyref10_Take (Try.f66.body.getD .skip) (retPost Try.prog Try.f66.results.toList R) (argE [x0]) w = F_bevyref10_Take x0 w R := by kernel_rfl
theorem C_bevyref10_Take {x0 : Value} {w : World} {R : Ending → World → Prop} (h : F_bevyref10_Take x0 w R) : Calls Try.prog 66 #[x0] w R :=
  calls_cwp (A := A_bevyref10_Take) (args := [x0]) mixed Try.func66 (c := Try.f66.body.getD .skip) (by kernel_rfl) (by kernel_rfl) (by kernel_rfl) ((E_bevyref10_Take x0 w R).mpr h)

/-- (*bevy/bevyref01.Reader).End -/
def F_bevyref01_Reader_End (x0 : Value) (w : World) (R : Ending → World → Prop) : Prop :=
  m R (o_nilCheck x0) w fun x4 w1 =>
  m R (o_fieldAddr 97 x4 1) w1 fun x5 w2 =>
  m R (o_load 3 x5) w2 fun x6 w3 =>
  m R (o_bin .neq 3 true x6 (.int .i64 0)) w3 fun x7 w4 =>
  mif x7 (
    m R (o_nilCheck x0) w4 fun x9 w5 =>
    m R (o_fieldAddr 97 x9 1) w5 fun x10 w6 =>
    m R (o_load 3 x10) w6 fun x11 w7 =>
    R (.returned x11) w7) (
    m R (o_nilCheck x0) w4 fun x13 w8 =>
    m R (o_fieldAddr 97 x13 0) w8 fun x14 w9 =>
    m R (o_load 9 x14) w9 fun x15 w10 =>
    m R (o_builtin .len #[9] 3 [false] [x15]) w10 fun x16 w11 =>
    m R (o_bin .gtr 3 true x16 (.int .i64 0)) w11 fun x17 w12 =>
    mif x17 (
      R (.returned (.int .i64 4)) w12) (
      R (.returned (.int .i64 0)) w12))
def A_bevyref01_Reader_End : Ann := ⟨[], [], [], [], []⟩
theorem E_bevyref01_Reader_End (x0 : Value) (w : World) (R : Ending → World → Prop) : cwp Try.prog A_bevyref01_Reader_End (Try.f67.body.getD .skip) (retPost Try.prog Try.f67.results.toList R) (argE [x0]) w = F_bevyref01_Reader_End x0 w R := by kernel_rfl
theorem C_bevyref01_Reader_End {x0 : Value} {w : World} {R : Ending → World → Prop} (h : F_bevyref01_Reader_End x0 w R) : Calls Try.prog 67 #[x0] w R :=
  calls_cwp (A := A_bevyref01_Reader_End) (args := [x0]) mixed Try.func67 (c := Try.f67.body.getD .skip) (by kernel_rfl) (by kernel_rfl) (by kernel_rfl) ((E_bevyref01_Reader_End x0 w R).mpr h)

/-- bevy/sha.Sum -/
def F_sha_Sum (x0 : Value) (w : World) (R : Ending → World → Prop) : Prop :=
  m R (o_alloc 23) w fun x2 w1 =>
  m R (o_build 150 [(0, (.int .u32 1779033703)), (1, (.int .u32 3144134277)), (2, (.int .u32 1013904242)), (3, (.int .u32 2773480762)), (4, (.int .u32 1359893119)), (5, (.int .u32 2600822924)), (6, (.int .u32 528734635)), (7, (.int .u32 1541459225))]) w1 fun x11 w2 =>
  m R (o_call (fv 115) []) w2 fun x12 w3 =>
  m R (o_build 155 [(0, x11), (3, x12)]) w3 fun x13 w4 =>
  m R (o_box 155 x13) w4 fun x14 w5 =>
  m R (o_builtin .len #[147] 3 [false] [x0]) w5 fun x16 w6 =>
  ml1 (.int .i64 0) w6 fun x17 u3 w7 next3 =>
    m R (o_bin .lss 3 false x17 x16) w7 fun x18 w8 =>
    mif x18 (
      m R (o_indexAddr 147 x0 x17) w8 fun x19 w9 =>
      m R (o_load 9 x19) w9 fun x20 w10 =>
      m R (o_call (fv 116) [x14, x20]) w10 fun x23 w11 =>
      m R (o_bin .add 3 true x17 (.int .i64 1)) w11 fun x24 w12 =>
      next3 x24 w12) (
      m R (o_alloc 157) w8 fun x6 w13 =>
      m R (o_indexAddr 157 x6 (.int .i64 0)) w13 fun x25 w14 =>
      m R (o_store 5 x25 (.int .u8 128)) w14 fun _ w15 =>
      m R (o_nilCheck x14) w15 fun x27 w16 =>
      m R (o_fieldAddr 155 x27 2) w16 fun x28 w17 =>
      m R (o_load 3 x28) w17 fun x29 w18 =>
      m R (o_bin .add 3 true x29 (.int .i64 8)) w18 fun x30 w19 =>
      m R (o_bin .rem 3 true x30 (.int .i64 64)) w19 fun x31 w20 =>
      m R (o_bin .sub 3 true (.int .i64 64) x31) w20 fun x32 w21 =>
      ml1 (.int .i64 0) w21 fun x33 u11 w22 next11 =>
        m R (o_bin .lss 3 true x33 (.int .i64 8)) w22 fun x34 w23 =>
        mif x34 (
          m R (o_bin .add 3 false x32 x33) w23 fun x38 w24 =>
          m R (o_nilCheck x14) w24 fun x40 w25 =>
          m R (o_fieldAddr 155 x40 2) w25 fun x41 w26 =>
          m R (o_load 3 x41) w26 fun x42 w27 =>
          m R (o_conv 3 158 x42) w27 fun x43 w28 =>
          m R (o_bin .mul 158 true x43 (.int .u64 8)) w28 fun x44 w29 =>
          m R (o_bin .mul 3 true (.int .i64 8) x33) w29 fun x46 w30 =>
          m R (o_bin .sub 3 true (.int .i64 56) x46) w30 fun x47 w31 =>
          m R (o_bin .shr 158 false x44 x47) w31 fun x48 w32 =>
          m R (o_conv 158 5 x48) w32 fun x49 w33 =>
          m R (o_indexAddr 157 x6 x38) w33 fun x50 w34 =>
          m R (o_store 5 x50 x49) w34 fun _ w35 =>
          m R (o_bin .add 3 true x33 (.int .i64 1)) w35 fun x51 w36 =>
          next11 x51 w36) (
          m R (o_bin .add 3 true x32 (.int .i64 8)) w23 fun x54 w37 =>
          m R (o_slice 157 x6 none (some x54) none) w37 fun x55 w38 =>
          m R (o_conv 86 9 x55) w38 fun x56 w39 =>
          m R (o_call (fv 116) [x14, x56]) w39 fun x57 w40 =>
          m R (o_alloc 23) w40 fun x9 w41 =>
          ml1 (.int .i64 0) w41 fun x58 u18 w42 next18 =>
            m R (o_bin .lss 3 true x58 (.int .i64 32)) w42 fun x59 w43 =>
            mif x59 (
              m R (o_bin .quo 3 true x58 (.int .i64 4)) w43 fun x64 w44 =>
              m R (o_nilCheck x14) w44 fun x65 w45 =>
              m R (o_fieldAddr 155 x65 0) w45 fun x66 w46 =>
              m R (o_indexAddr 150 x66 x64) w46 fun x67 w47 =>
              m R (o_load 149 x67) w47 fun x68 w48 =>
              m R (o_bin .rem 3 true x58 (.int .i64 4)) w48 fun x70 w49 =>
              m R (o_bin .mul 3 true (.int .i64 8) x70) w49 fun x71 w50 =>
              m R (o_bin .sub 3 true (.int .i64 24) x71) w50 fun x72 w51 =>
              m R (o_bin .shr 149 false x68 x72) w51 fun x73 w52 =>
              m R (o_conv 149 5 x73) w52 fun x74 w53 =>
              m R (o_indexAddr 23 x9 x58) w53 fun x75 w54 =>
              m R (o_store 5 x75 x74) w54 fun _ w55 =>
              m R (o_bin .add 3 true x58 (.int .i64 1)) w55 fun x76 w56 =>
              next18 x76 w56) (
              m R (o_load 23 x9) w43 fun x77 w57 =>
              m R (o_store 23 x2 x77) w57 fun _ w58 =>
              rcell Try.prog 23 x2 w58 fun r2 =>
              R (.returned r2) w58)))
def A_sha_Sum : Ann := ⟨[(3, [17], 33423392), (11, [33], 4503591037436160), (18, [58], 151115439221452495127552)], [], [], [], []⟩
theorem E_sha_Sum (x0 : Value) (w : World) (R : Ending → World → Prop) : cwp Try.prog A_sha_Sum (Try.f68.body.getD .skip) (retPost Try.prog Try.f68.results.toList R) (argE [x0]) w = F_sha_Sum x0 w R := by kernel_rfl
theorem C_sha_Sum {x0 : Value} {w : World} {R : Ending → World → Prop} (h : F_sha_Sum x0 w R) : Calls Try.prog 68 #[x0] w R :=
  calls_cwp (A := A_sha_Sum) (args := [x0]) mixed Try.func68 (c := Try.f68.body.getD .skip) (by kernel_rfl) (by kernel_rfl) (by kernel_rfl) ((E_sha_Sum x0 w R).mpr h)

/-- bevy/bevyref02.Sum -/
def F_bevyref02_Sum (x0 : Value) (w : World) (R : Ending → World → Prop) : Prop :=
  m R (o_alloc 22) w fun x2 w1 =>
  m R (o_build 151 [(0, (.int .u32 1116352408)), (1, (.int .u32 1899447441)), (2, (.int .u32 3049323471)), (3, (.int .u32 3921009573)), (4, (.int .u32 961987163)), (5, (.int .u32 1508970993)), (6, (.int .u32 2453635748)), (7, (.int .u32 2870763221)), (8, (.int .u32 3624381080)), (9, (.int .u32 310598401)), (10, (.int .u32 607225278)), (11, (.int .u32 1426881987)), (12, (.int .u32 1925078388)), (13, (.int .u32 2162078206)), (14, (.int .u32 2614888103)), (15, (.int .u32 3248222580)), (16, (.int .u32 3835390401)), (17, (.int .u32 4022224774)), (18, (.int .u32 264347078)), (19, (.int .u32 604807628)), (20, (.int .u32 770255983)), (21, (.int .u32 1249150122)), (22, (.int .u32 1555081692)), (23, (.int .u32 1996064986)), (24, (.int .u32 2554220882)), (25, (.int .u32 2821834349)), (26, (.int .u32 2952996808)), (27, (.int .u32 3210313671)), (28, (.int .u32 3336571891)), (29, (.int .u32 3584528711)), (30, (.int .u32 113926993)), (31, (.int .u32 338241895)), (32, (.int .u32 666307205)), (33, (.int .u32 773529912)), (34, (.int .u32 1294757372)), (35, (.int .u32 1396182291)), (36, (.int .u32 1695183700)), (37, (.int .u32 1986661051)), (38, (.int .u32 2177026350)), (39, (.int .u32 2456956037)), (40, (.int .u32 2730485921)), (41, (.int .u32 2820302411)), (42, (.int .u32 3259730800)), (43, (.int .u32 3345764771)), (44, (.int .u32 3516065817)), (45, (.int .u32 3600352804)), (46, (.int .u32 4094571909)), (47, (.int .u32 275423344)), (48, (.int .u32 430227734)), (49, (.int .u32 506948616)), (50, (.int .u32 659060556)), (51, (.int .u32 883997877)), (52, (.int .u32 958139571)), (53, (.int .u32 1322822218)), (54, (.int .u32 1537002063)), (55, (.int .u32 1747873779)), (56, (.int .u32 1955562222)), (57, (.int .u32 2024104815)), (58, (.int .u32 2227730452)), (59, (.int .u32 2361852424)), (60, (.int .u32 2428436474)), (61, (.int .u32 2756734187)), (62, (.int .u32 3204031479)), (63, (.int .u32 3329325298))]) w1 fun x23 w2 =>
  m R (o_alloc 151) w2 fun x3 w3 =>
  m R (o_store 151 x3 x23) w3 fun _ w4 =>
  m R (o_conv 9 86 x0) w4 fun x25 w5 =>
  m R (o_buildSlice 86 1 [(0, (.int .u8 128))]) w5 fun x27 w6 =>
  m R (o_builtin .append #[86, 86] 86 [false, false] [x25, x27]) w6 fun x28 w7 =>
  ml1 x28 w7 fun x4 u4 w8 next4 =>
    m R (o_builtin .len #[86] 3 [false] [x4]) w8 fun x30 w9 =>
    m R (o_bin .rem 3 true x30 (.int .i64 64)) w9 fun x31 w10 =>
    m R (o_bin .neq 3 true x31 (.int .i64 56)) w10 fun x32 w11 =>
    mif x32 (
      m R (o_buildSlice 86 1 [(0, (.int .u8 0))]) w11 fun x34 w12 =>
      m R (o_builtin .append #[86, 86] 86 [false, false] [x4, x34]) w12 fun x35 w13 =>
      next4 x35 w13) (
      m R (o_builtin .len #[9] 3 [false] [x0]) w11 fun x37 w14 =>
      m R (o_conv 3 158 x37) w14 fun x38 w15 =>
      m R (o_bin .mul 158 true x38 (.int .u64 8)) w15 fun x39 w16 =>
      ml2 x4 (.int .i64 0) w16 fun x4 x6 u8 w17 next8 =>
        m R (o_bin .lss 3 true x6 (.int .i64 8)) w17 fun x41 w18 =>
        mif x41 (
          m R (o_bin .mul 3 true (.int .i64 8) x6) w18 fun x47 w19 =>
          m R (o_bin .sub 3 true (.int .i64 56) x47) w19 fun x48 w20 =>
          m R (o_conv 3 143 x48) w20 fun x49 w21 =>
          m R (o_bin .shr 158 false x39 x49) w21 fun x50 w22 =>
          m R (o_conv 158 5 x50) w22 fun x51 w23 =>
          m R (o_buildSlice 86 1 [(0, x51)]) w23 fun x52 w24 =>
          m R (o_builtin .append #[86, 86] 86 [false, false] [x4, x52]) w24 fun x53 w25 =>
          m R (o_bin .add 3 true x6 (.int .i64 1)) w25 fun x43 w26 =>
          next8 x53 x43 w26) (
          m R (o_build 150 [(0, (.int .u32 1779033703)), (1, (.int .u32 3144134277)), (2, (.int .u32 1013904242)), (3, (.int .u32 2773480762)), (4, (.int .u32 1359893119)), (5, (.int .u32 2600822924)), (6, (.int .u32 528734635)), (7, (.int .u32 1541459225))]) w18 fun x54 w27 =>
          m R (o_alloc 150) w27 fun x7 w28 =>
          m R (o_store 150 x7 x54) w28 fun _ w29 =>
          ml1 (.int .i64 0) w29 fun x8 u13 w30 next13 =>
            m R (o_builtin .len #[86] 3 [false] [x4]) w30 fun x57 w31 =>
            m R (o_bin .lss 3 false x8 x57) w31 fun x58 w32 =>
            mif x58 (
              m R (o_alloc 151) w32 fun x9 w33 =>
              ml1 (.int .i64 0) w33 fun x10 u17 w34 next17 =>
                m R (o_bin .lss 3 true x10 (.int .i64 16)) w34 fun x62 w35 =>
                mif x62 (
                  m R (o_bin .mul 3 true (.int .i64 4) x10) w35 fun x69 w36 =>
                  m R (o_bin .add 3 false x8 x69) w36 fun x70 w37 =>
                  m R (o_call (fv 117) [x4, x70]) w37 fun x71 w38 =>
                  m R (o_indexAddr 151 x9 x10) w38 fun x72 w39 =>
                  m R (o_store 149 x72 x71) w39 fun _ w40 =>
                  m R (o_bin .add 3 true x10 (.int .i64 1)) w40 fun x64 w41 =>
                  next17 x64 w41) (
                  ml1 (.int .i64 16) w35 fun x11 u21 w42 next21 =>
                    m R (o_bin .lss 3 true x11 (.int .i64 64)) w42 fun x74 w43 =>
                    mif x74 (
                      m R (o_bin .sub 3 true x11 (.int .i64 15)) w43 fun x78 w44 =>
                      m R (o_indexAddr 151 x9 x78) w44 fun x79 w45 =>
                      m R (o_load 149 x79) w45 fun x80 w46 =>
                      m R (o_bin .sub 3 true x11 (.int .i64 2)) w46 fun x82 w47 =>
                      m R (o_indexAddr 151 x9 x82) w47 fun x83 w48 =>
                      m R (o_load 149 x83) w48 fun x84 w49 =>
                      dp Try.prog (o_bin .sub 3 true x11 (.int .i64 16)) fun x87 =>
                      dp Try.prog (o_indexAddr 151 x9 x87) fun x88 =>
                      dq Try.prog w49 (o_load 149 x88) fun x89 =>
                      dp Try.prog (o_bin .sub 3 true x11 (.int .i64 7)) fun x91 =>
                      dp Try.prog (o_indexAddr 151 x9 x91) fun x92 =>
                      dq Try.prog w49 (o_load 149 x92) fun x93 =>
                      dp Try.prog (o_bin .add 149 false x89 x93) fun x94 =>
                      df Try.prog w49 (o_call (fv 118) [x80, (.int .u64 7)]) true fun x96 w50 =>
                      df Try.prog w50 (o_call (fv 118) [x80, (.int .u64 18)]) true fun x98 w51 =>
                      dp Try.prog (o_bin .xor 149 false x96 x98) fun x99 =>
                      dp Try.prog (o_bin .shr 149 true x80 (.int .u64 3)) fun x101 =>
                      dp Try.prog (o_bin .xor 149 false x99 x101) fun x102 =>
                      dp Try.prog (o_bin .add 149 false x94 x102) fun x103 =>
                      df Try.prog w51 (o_call (fv 118) [x84, (.int .u64 17)]) true fun x105 w52 =>
                      df Try.prog w52 (o_call (fv 118) [x84, (.int .u64 19)]) true fun x107 w53 =>
                      dp Try.prog (o_bin .xor 149 false x105 x107) fun x108 =>
                      dp Try.prog (o_bin .shr 149 true x84 (.int .u64 10)) fun x110 =>
                      dp Try.prog (o_bin .xor 149 false x108 x110) fun x111 =>
                      dp Try.prog (o_bin .add 149 false x103 x111) fun x112 =>
                      dp Try.prog (o_indexAddr 151 x9 x11) fun x113 =>
                      df Try.prog w53 (o_store 149 x113 x112) false fun _ w54 =>
                      dend w54 fun w55 =>
                      m R (o_bin .add 3 true x11 (.int .i64 1)) w55 fun x76 w56 =>
                      next21 x76 w56) (
                      m R (o_load 150 x7) w43 fun x114 w57 =>
                      m R (o_alloc 150) w57 fun x14 w58 =>
                      m R (o_store 150 x14 x114) w58 fun _ w59 =>
                      ml1 (.int .i64 0) w59 fun x15 u28 w60 next28 =>
                        m R (o_bin .lss 3 true x15 (.int .i64 64)) w60 fun x116 w61 =>
                        mif x116 (
                          m R (o_indexAddr 150 x14 (.int .i64 4)) w61 fun x119 w62 =>
                          m R (o_load 149 x119) w62 fun x120 w63 =>
                          m R (o_indexAddr 150 x14 (.int .i64 0)) w63 fun x121 w64 =>
                          m R (o_load 149 x121) w64 fun x122 w65 =>
                          dp Try.prog (o_indexAddr 150 x14 (.int .i64 7)) fun x123 =>
                          dq Try.prog w65 (o_load 149 x123) fun x124 =>
                          df Try.prog w65 (o_call (fv 118) [x120, (.int .u64 6)]) true fun x126 w66 =>
                          df Try.prog w66 (o_call (fv 118) [x120, (.int .u64 11)]) true fun x128 w67 =>
                          dp Try.prog (o_bin .xor 149 false x126 x128) fun x129 =>
                          df Try.prog w67 (o_call (fv 118) [x120, (.int .u64 25)]) true fun x131 w68 =>
                          dp Try.prog (o_bin .xor 149 false x129 x131) fun x132 =>
                          dp Try.prog (o_bin .add 149 false x124 x132) fun x133 =>
                          dp Try.prog (o_indexAddr 150 x14 (.int .i64 5)) fun x135 =>
                          dq Try.prog w65 (o_load 149 x135) fun x136 =>
                          dp Try.prog (o_bin .and 149 false x120 x136) fun x137 =>
                          dp Try.prog (o_un .xor x120) fun x139 =>
                          dp Try.prog (o_indexAddr 150 x14 (.int .i64 6)) fun x140 =>
                          dq Try.prog w65 (o_load 149 x140) fun x141 =>
                          dp Try.prog (o_bin .and 149 false x139 x141) fun x142 =>
                          dp Try.prog (o_bin .xor 149 false x137 x142) fun x143 =>
                          dp Try.prog (o_bin .add 149 false x133 x143) fun x144 =>
                          dp Try.prog (o_indexAddr 151 x3 x15) fun x146 =>
                          dq Try.prog w65 (o_load 149 x146) fun x147 =>
                          dp Try.prog (o_bin .add 149 false x144 x147) fun x148 =>
                          dp Try.prog (o_indexAddr 151 x9 x15) fun x150 =>
                          dq Try.prog w65 (o_load 149 x150) fun x151 =>
                          dp Try.prog (o_bin .add 149 false x148 x151) fun x152 =>
                          dend w68 fun w69 =>
                          df Try.prog w69 (o_call (fv 118) [x122, (.int .u64 2)]) true fun x154 w70 =>
                          df Try.prog w70 (o_call (fv 118) [x122, (.int .u64 13)]) true fun x156 w71 =>
                          dp Try.prog (o_bin .xor 149 false x154 x156) fun x157 =>
                          df Try.prog w71 (o_call (fv 118) [x122, (.int .u64 22)]) true fun x159 w72 =>
                          dp Try.prog (o_bin .xor 149 false x157 x159) fun x160 =>
                          dp Try.prog (o_indexAddr 150 x14 (.int .i64 1)) fun x162 =>
                          dq Try.prog w69 (o_load 149 x162) fun x163 =>
                          dp Try.prog (o_bin .and 149 false x122 x163) fun x164 =>
                          dp Try.prog (o_indexAddr 150 x14 (.int .i64 2)) fun x166 =>
                          dq Try.prog w69 (o_load 149 x166) fun x167 =>
                          dp Try.prog (o_bin .and 149 false x122 x167) fun x168 =>
                          dp Try.prog (o_bin .xor 149 false x164 x168) fun x169 =>
                          dp Try.prog (o_indexAddr 150 x14 (.int .i64 1)) fun x170 =>
                          dq Try.prog w69 (o_load 149 x170) fun x171 =>
                          dp Try.prog (o_indexAddr 150 x14 (.int .i64 2)) fun x172 =>
                          dq Try.prog w69 (o_load 149 x172) fun x173 =>
                          dp Try.prog (o_bin .and 149 false x171 x173) fun x174 =>
                          dp Try.prog (o_bin .xor 149 false x169 x174) fun x175 =>
                          dp Try.prog (o_bin .add 149 false x160 x175) fun x176 =>
                          dend w72 fun w73 =>
                          m R (o_bin .add 149 false x152 x176) w73 fun x179 w74 =>
                          m R (o_indexAddr 150 x14 (.int .i64 0)) w74 fun x180 w75 =>
                          m R (o_load 149 x180) w75 fun x181 w76 =>
                          m R (o_indexAddr 150 x14 (.int .i64 1)) w76 fun x182 w77 =>
                          m R (o_load 149 x182) w77 fun x183 w78 =>
                          m R (o_indexAddr 150 x14 (.int .i64 2)) w78 fun x184 w79 =>
                          m R (o_load 149 x184) w79 fun x185 w80 =>
                          m R (o_indexAddr 150 x14 (.int .i64 3)) w80 fun x186 w81 =>
                          m R (o_load 149 x186) w81 fun x187 w82 =>
                          m R (o_bin .add 149 false x187 x152) w82 fun x189 w83 =>
                          m R (o_indexAddr 150 x14 (.int .i64 4)) w83 fun x190 w84 =>
                          m R (o_load 149 x190) w84 fun x191 w85 =>
                          m R (o_indexAddr 150 x14 (.int .i64 5)) w85 fun x192 w86 =>
                          m R (o_load 149 x192) w86 fun x193 w87 =>
                          m R (o_indexAddr 150 x14 (.int .i64 6)) w87 fun x194 w88 =>
                          m R (o_load 149 x194) w88 fun x195 w89 =>
                          m R (o_build 150 [(0, x179), (1, x181), (2, x183), (3, x185), (4, x189), (5, x191), (6, x193), (7, x195)]) w89 fun x196 w90 =>
                          m R (o_store 150 x14 x196) w90 fun _ w91 =>
                          m R (o_bin .add 3 true x15 (.int .i64 1)) w91 fun x118 w92 =>
                          next28 x118 w92) (
                          ml1 (.int .i64 0) w61 fun x20 u36 w93 next36 =>
                            m R (o_bin .lss 3 true x20 (.int .i64 8)) w93 fun x198 w94 =>
                            mif x198 (
                              dp Try.prog (o_indexAddr 150 x7 x20) fun x203 =>
                              dq Try.prog w94 (o_load 149 x203) fun x204 =>
                              dp Try.prog (o_indexAddr 150 x14 x20) fun x206 =>
                              dq Try.prog w94 (o_load 149 x206) fun x207 =>
                              dp Try.prog (o_bin .add 149 false x204 x207) fun x208 =>
                              dp Try.prog (o_indexAddr 150 x7 x20) fun x209 =>
                              df Try.prog w94 (o_store 149 x209 x208) false fun _ w95 =>
                              dend w95 fun w96 =>
                              m R (o_bin .add 3 true x20 (.int .i64 1)) w96 fun x200 w97 =>
                              next36 x200 w97) (
                              m R (o_bin .add 3 true x8 (.int .i64 64)) w94 fun x60 w98 =>
                              next13 x60 w98))))) (
              m R (o_alloc 22) w32 fun x21 w99 =>
              ml1 (.int .i64 0) w99 fun x22 u41 w100 next41 =>
                m R (o_bin .lss 3 true x22 (.int .i64 32)) w100 fun x211 w101 =>
                mif x211 (
                  m R (o_bin .quo 3 true x22 (.int .i64 4)) w101 fun x216 w102 =>
                  m R (o_indexAddr 150 x7 x216) w102 fun x217 w103 =>
                  m R (o_load 149 x217) w103 fun x218 w104 =>
                  m R (o_bin .rem 3 true x22 (.int .i64 4)) w104 fun x220 w105 =>
                  m R (o_bin .mul 3 true (.int .i64 8) x220) w105 fun x221 w106 =>
                  m R (o_bin .sub 3 true (.int .i64 24) x221) w106 fun x222 w107 =>
                  m R (o_conv 3 143 x222) w107 fun x223 w108 =>
                  m R (o_bin .shr 149 false x218 x223) w108 fun x224 w109 =>
                  m R (o_conv 149 5 x224) w109 fun x225 w110 =>
                  m R (o_indexAddr 22 x21 x22) w110 fun x226 w111 =>
                  m R (o_store 5 x226 x225) w111 fun _ w112 =>
                  m R (o_bin .add 3 true x22 (.int .i64 1)) w112 fun x213 w113 =>
                  next41 x213 w113) (
                  m R (o_load 22 x21) w101 fun x227 w114 =>
                  m R (o_store 22 x2 x227) w114 fun _ w115 =>
                  rcell Try.prog 22 x2 w115 fun r2 =>
                  R (.returned r2) w115))))
def A_bevyref02_Sum : Ann := ⟨[(4, [4], 68182605840), (8, [4, 6], 18013298997854288), (13, [8], 1645504557321206042154969182557350504982735865597551066331741952), (17, [10], 9442427122730076734464), (21, [11], 20769187434129865781156246026467328), (28, [15], 200867255532373784442745220004270457036654345978878471667712), (36, [20], 1645303690065673668370526437295807859657420590259357014245244928), (41, [22], 215677927832647797151293965726974488038592172644458946268965537579008)], [], [(25, [⟨0, .q none, 2048, 0, 38685626227668133590597632⟩, ⟨1, .q none, 2048, 0, 77371252455336267181195264⟩, ⟨2, .q none, 77371252455336267181195264, 2, 154742504910672534362390528⟩, ⟨3, .q none, 154742504910672534362391040, 6, 309485009821345068724781056⟩, ⟨4, .q (some 0), 309485009821345068724781056, 14, 618970019642690137449562112⟩, ⟨5, .q none, 2048, 0, 1237940039285380274899124224⟩, ⟨6, .q none, 1237940039285380274899124224, 32, 2475880078570760549798248448⟩, ⟨7, .q none, 2475880078570760549798248960, 96, 4951760157141521099596496896⟩, ⟨8, .q (some 0), 4951760157141521099596496896, 224, 9903520314283042199192993792⟩, ⟨9, .q none, 10522490333925732336642555904, 510, 19807040628566084398385987584⟩, ⟨10, .q none, 4096, 0, 39614081257132168796771975168⟩, ⟨11, .f 0 true, 39614081257132168796771975168, 1024, 79228162514264337593543950336⟩, ⟨12, .q none, 4096, 0, 158456325028528675187087900672⟩, ⟨13, .f 1 true, 158456325028528675187087900672, 7168, 316912650057057350374175801344⟩, ⟨14, .q none, 396140812571321687967719751680, 15360, 633825300114114700748351602688⟩, ⟨15, .q none, 4096, 0, 1267650600228229401496703205376⟩, ⟨16, .q none, 1267650600228229401496703205376, 32768, 2535301200456458802993406410752⟩, ⟨17, .q none, 3169126500570573503741758013440, 130048, 5070602400912917605986812821504⟩, ⟨18, .q none, 5090409441541483690385198809088, 262142, 10141204801825835211973625643008⟩, ⟨19, .q none, 8192, 0, 20282409603651670423947251286016⟩, ⟨20, .f 2 true, 20282409603651670423947251286016, 539648, 40564819207303340847894502572032⟩, ⟨21, .q none, 8192, 0, 81129638414606681695789005144064⟩, ⟨22, .f 3 true, 81129638414606681695789005144064, 3685376, 162259276829213363391578010288128⟩, ⟨23, .q none, 202824096036516704239472512860160, 7879680, 324518553658426726783156020576256⟩, ⟨24, .q none, 8192, 0, 649037107316853453566312041152512⟩, ⟨25, .q none, 649037107316853453566312041152512, 16777216, 1298074214633706907132624082305024⟩, ⟨26, .q none, 1622592768292133633915780102881280, 66599936, 2596148429267413814265248164610048⟩, ⟨27, .q none, 2606289634069239649477221790253056, 134217726, 5192296858534827628530496329220096⟩, ⟨28, .q none, 38685626227668133590598144, 268435455, 10384593717069655257060992658440192⟩, ⟨29, .f 4 false, 15576890575604482885591488987660288, 536870911, 0⟩]), (32, [⟨0, .q none, 16384, 0, 10633823966279326983230456482242756608⟩, ⟨1, .q (some 0), 10633823966279326983230456482242756608, 1, 21267647932558653966460912964485513216⟩, ⟨2, .q none, 65536, 0, 42535295865117307932921825928971026432⟩, ⟨3, .f 0 true, 42535295865117307932921825928971026432, 4, 85070591730234615865843651857942052864⟩, ⟨4, .q none, 65536, 0, 170141183460469231731687303715884105728⟩, ⟨5, .f 1 true, 170141183460469231731687303715884105728, 28, 340282366920938463463374607431768211456⟩, ⟨6, .q none, 425352958651173079329218259289710264320, 60, 680564733841876926926749214863536422912⟩, ⟨7, .q none, 65536, 0, 1361129467683753853853498429727072845824⟩, ⟨8, .f 2 true, 1361129467683753853853498429727072845824, 188, 2722258935367507707706996859454145691648⟩, ⟨9, .q none, 3402823669209384634633746074317682114560, 508, 5444517870735015415413993718908291383296⟩, ⟨10, .q none, 5465785518667574069380454631872776896512, 1023, 10889035741470030830827987437816582766592⟩, ⟨11, .q none, 65536, 0, 21778071482940061661655974875633165533184⟩, ⟨12, .q none, 16384, 0, 43556142965880123323311949751266331066368⟩, ⟨13, .q (some 0), 43556142965880123323311949751266331066368, 4096, 87112285931760246646623899502532662132736⟩, ⟨14, .q none, 108890357414700308308279874378165827665920, 14336, 174224571863520493293247799005065324265472⟩, ⟨15, .q none, 65536, 0, 348449143727040986586495598010130648530944⟩, ⟨16, .q none, 348449143727040986586495598010130648530944, 32768, 696898287454081973172991196020261297061888⟩, ⟨17, .q none, 16384, 0, 1393796574908163946345982392040522594123776⟩, ⟨18, .q (some 0), 1393796574908163946345982392040522594123776, 131072, 2787593149816327892691964784081045188247552⟩, ⟨19, .q none, 3484491437270409865864955980101306485309440, 491520, 5575186299632655785383929568162090376495104⟩, ⟨20, .q none, 5749410871496176278677177367167155700760576, 1046528, 11150372599265311570767859136324180752990208⟩, ⟨21, .q none, 11161261635006781601598687123761997335756800, 2097151, 22300745198530623141535718272648361505980416⟩, ⟨22, .q none, 32768, 0, 44601490397061246283071436545296723011960832⟩, ⟨23, .q none, 44601490397061246283071436545296723011960840, 4194304, 89202980794122492566142873090593446023921664⟩, ⟨24, .q (some 0), 89202980794122492566142873090593446023921664, 12582912, 178405961588244985132285746181186892047843328⟩, ⟨25, .q none, 200706706786775608273821464453835253553823744, 33554431, 356811923176489970264571492362373784095686656⟩, ⟨26, .q none, 32768, 0, 713623846352979940529142984724747568191373312⟩, ⟨27, .q none, 713623846352979940529142984724747568191373824, 67108864, 1427247692705959881058285969449495136382746624⟩, ⟨28, .q (some 0), 1427247692705959881058285969449495136382746624, 201326592, 2854495385411919762116571938898990272765493248⟩, ⟨29, .q none, 3211307308588409732381143431261364056861179904, 536870911, 5708990770823839524233143877797980545530986496⟩, ⟨30, .q none, 5708990770823839524233143877797980545530986496, 1073741823, 262144⟩]), (33, [⟨0, .q none, 131072, 0, 11417981541647679048466287755595961091061972992⟩, ⟨1, .f 0 true, 11417981541647679048466287755595961091061972992, 1, 22835963083295358096932575511191922182123945984⟩, ⟨2, .q none, 131072, 0, 45671926166590716193865151022383844364247891968⟩, ⟨3, .f 1 true, 45671926166590716193865151022383844364247891968, 7, 91343852333181432387730302044767688728495783936⟩, ⟨4, .q none, 114179815416476790484662877555959610910619729920, 15, 182687704666362864775460604089535377456991567872⟩, ⟨5, .q none, 131072, 0, 365375409332725729550921208179070754913983135744⟩, ⟨6, .f 2 true, 365375409332725729550921208179070754913983135744, 47, 730750818665451459101842416358141509827966271488⟩, ⟨7, .q none, 913438523331814323877303020447676887284957839360, 127, 1461501637330902918203684832716283019655932542976⟩, ⟨8, .q none, 131072, 0, 2923003274661805836407369665432566039311865085952⟩, ⟨9, .q none, 16384, 0, 5846006549323611672814739330865132078623730171904⟩, ⟨10, .q (some 0), 5846006549323611672814739330865132078623730171904, 512, 11692013098647223345629478661730264157247460343808⟩, ⟨11, .q none, 14615016373309029182036848327162830196559325429760, 1792, 23384026197294446691258957323460528314494920687616⟩, ⟨12, .q none, 131072, 0, 46768052394588893382517914646921056628989841375232⟩, ⟨13, .q none, 16384, 0, 93536104789177786765035829293842113257979682750464⟩, ⟨14, .q (some 0), 93536104789177786765035829293842113257979682750464, 8192, 187072209578355573530071658587684226515959365500928⟩, ⟨15, .q none, 233840261972944466912589573234605283144949206876160, 28672, 374144419156711147060143317175368453031918731001856⟩, ⟨16, .q none, 397528445354005593751402274498828981346413651689472, 65280, 748288838313422294120286634350736906063837462003712⟩, ⟨17, .q none, 16384, 0, 1496577676626844588240573268701473812127674924007424⟩, ⟨18, .q (some 0), 1496577676626844588240573268701473812127674924007424, 131072, 2993155353253689176481146537402947624255349848014848⟩, ⟨19, .q none, 16384, 0, 5986310706507378352962293074805895248510699696029696⟩, ⟨20, .q (some 0), 5986310706507378352962293074805895248510699696029696, 524288, 11972621413014756705924586149611790497021399392059392⟩, ⟨21, .q none, 14965776766268445882405732687014738121276749240074240, 1966080, 23945242826029513411849172299223580994042798784118784⟩, ⟨22, .q none, 24693531664342935705969458933574317900106636246122496, 4194048, 47890485652059026823698344598447161988085597568237568⟩, ⟨23, .q none, 47891947153696357726616548283279878271105253500780544, 8388607, 95780971304118053647396689196894323976171195136475136⟩, ⟨24, .q none, 95780971304118053647396689196894323976171195136475136, 16777215, 524288⟩]), (38, [⟨0, .q none, 1048576, 0, 3213876088517980551083924184682325205044405987565585670602752⟩, ⟨1, .q none, 1048576, 0, 6427752177035961102167848369364650410088811975131171341205504⟩, ⟨2, .q none, 6427752177035961102167848369364650410088811975131171341205632, 2, 12855504354071922204335696738729300820177623950262342682411008⟩, ⟨3, .q (some 0), 12855504354071922204335696738729300820177623950262342682411008, 6, 25711008708143844408671393477458601640355247900524685364822016⟩, ⟨4, .q none, 1048576, 0, 51422017416287688817342786954917203280710495801049370729644032⟩, ⟨5, .q none, 51422017416287688817342786954917203280710495801049370729660416, 16, 102844034832575377634685573909834406561420991602098741459288064⟩, ⟨6, .q (some 0), 102844034832575377634685573909834406561420991602098741459288064, 48, 205688069665150755269371147819668813122841983204197482918576128⟩, ⟨7, .q none, 231399078373294599678042541297127414763197231104722168283398144, 126, 411376139330301510538742295639337626245683966408394965837152256⟩, ⟨8, .q none, 3213876088517980551083924184682325205044405987565585670602880, 255, 822752278660603021077484591278675252491367932816789931674304512⟩, ⟨9, .f 0 false, 1234128417990904531616226886918012878737051899225184897511456768, 511, 0⟩])], [], []⟩
theorem E_bevyref02_Sum (x0 : Value) (w : World) (R : Ending → World → Prop) : cwp Try.prog A_bevyref02_Sum (Try.f69.body.getD .skip) (retPost Try.prog Try.f69.results.toList R) (argE [x0]) w = F_bevyref02_Sum x0 w R := by kernel_rfl
theorem C_bevyref02_Sum {x0 : Value} {w : World} {R : Ending → World → Prop} (h : F_bevyref02_Sum x0 w R) : Calls Try.prog 69 #[x0] w R :=
  calls_cwp (A := A_bevyref02_Sum) (args := [x0]) mixed Try.func69 (c := Try.f69.body.getD .skip) (by kernel_rfl) (by kernel_rfl) (by kernel_rfl) ((E_bevyref02_Sum x0 w R).mpr h)

/-- bevy/prim.code -/
def F_prim_code (x0 x1 : Value) (w : World) (R : Ending → World → Prop) : Prop :=
  m R (o_box 23 x0) w fun x2 w1 =>
  m R (o_alloc 23) w1 fun x4 w2 =>
  m R (o_slice 23 x2 none none none) w2 fun x5 w3 =>
  m R (o_conv 86 9 x5) w3 fun x6 w4 =>
  m R (o_buildSlice 147 2 [(0, (.string (ByteArray.mk #[115, 105, 103, 110]))), (1, x1)]) w4 fun x8 w5 =>
  m R (o_call (fv 144) [x6, x8]) w5 fun x9 w6 =>
  m R (o_store 23 x4 x9) w6 fun _ w7 =>
  rcell Try.prog 23 x4 w7 fun r4 =>
  R (.returned r4) w7
def A_prim_code : Ann := ⟨[], [], [], [], []⟩
theorem E_prim_code (x0 x1 : Value) (w : World) (R : Ending → World → Prop) : cwp Try.prog A_prim_code (Try.f101.body.getD .skip) (retPost Try.prog Try.f101.results.toList R) (argE [x0, x1]) w = F_prim_code x0 x1 w R := by kernel_rfl
theorem C_prim_code {x0 x1 : Value} {w : World} {R : Ending → World → Prop} (h : F_prim_code x0 x1 w R) : Calls Try.prog 101 #[x0, x1] w R :=
  calls_cwp (A := A_prim_code) (args := [x0, x1]) mixed Try.func101 (c := Try.f101.body.getD .skip) (by kernel_rfl) (by kernel_rfl) (by kernel_rfl) ((E_prim_code x0 x1 w R).mpr h)

/-- bevy/prim.Verify -/
def F_prim_Verify (x0 : Value) (w : World) (R : Ending → World → Prop) : Prop :=
  m R (o_box 23 x0) w fun x1 w1 =>
  m R (o_alloc 23) w1 fun x2 w2 =>
  m R (o_slice 23 x1 none none none) w2 fun x3 w3 =>
  m R (o_conv 86 9 x3) w3 fun x4 w4 =>
  m R (o_buildSlice 147 2 [(0, (.string (ByteArray.mk #[118, 101, 114]))), (1, x4)]) w4 fun x5 w5 =>
  m R (o_call (fv 68) [x5]) w5 fun x6 w6 =>
  m R (o_store 23 x2 x6) w6 fun _ w7 =>
  rcell Try.prog 23 x2 w7 fun r2 =>
  R (.returned r2) w7
def A_prim_Verify : Ann := ⟨[], [], [], [], []⟩
theorem E_prim_Verify (x0 : Value) (w : World) (R : Ending → World → Prop) : cwp Try.prog A_prim_Verify (Try.f102.body.getD .skip) (retPost Try.prog Try.f102.results.toList R) (argE [x0]) w = F_prim_Verify x0 w R := by kernel_rfl
theorem C_prim_Verify {x0 : Value} {w : World} {R : Ending → World → Prop} (h : F_prim_Verify x0 w R) : Calls Try.prog 102 #[x0] w R :=
  calls_cwp (A := A_prim_Verify) (args := [x0]) mixed Try.func102 (c := Try.f102.body.getD .skip) (by kernel_rfl) (by kernel_rfl) (by kernel_rfl) ((E_prim_Verify x0 w R).mpr h)

/-- bevy/wire.New -/
def F_wire_New (w : World) (R : Ending → World → Prop) : Prop :=
  m R (o_build 178 []) w fun x1 w1 =>
  m R (o_box 178 x1) w1 fun x2 w2 =>
  R (.returned x2) w2
def A_wire_New : Ann := ⟨[], [], [], [], []⟩
theorem E_wire_New (w : World) (R : Ending → World → Prop) : cwp Try.prog A_wire_New (Try.f103.body.getD .skip) (retPost Try.prog Try.f103.results.toList R) (argE []) w = F_wire_New w R := by kernel_rfl
theorem C_wire_New {w : World} {R : Ending → World → Prop} (h : F_wire_New w R) : Calls Try.prog 103 #[] w R :=
  calls_cwp (A := A_wire_New) (args := []) mixed Try.func103 (c := Try.f103.body.getD .skip) (by kernel_rfl) (by kernel_rfl) (by kernel_rfl) ((E_wire_New w R).mpr h)

/-- (*bevy/wire.Writer).Hash -/
def F_wire_Writer_Hash (x0 x1 : Value) (w : World) (R : Ending → World → Prop) : Prop :=
  m R (o_box 23 x1) w fun x3 w1 =>
  m R (o_bin .neq 131 true x0 (.pointer none)) w1 fun x5 w2 =>
  mif x5 (
    dp Try.prog (o_nilCheck x0) fun x8 =>
    dp Try.prog (o_fieldAddr 178 x8 0) fun x9 =>
    dq Try.prog w2 (o_load 86 x9) fun x10 =>
    dp Try.prog (o_slice 23 x3 none none none) fun x11 =>
    df Try.prog w2 (o_builtin .append #[86, 86] 86 [false, false] [x10, x11]) false fun x12 w3 =>
    dp Try.prog (o_nilCheck x0) fun x13 =>
    dp Try.prog (o_fieldAddr 178 x13 0) fun x14 =>
    df Try.prog w3 (o_store 86 x14 x12) false fun _ w4 =>
    dend w4 fun w5 =>
    R (.returned (.tuple #[])) w5) (
    R (.returned (.tuple #[])) w2)
def A_wire_Writer_Hash : Ann := ⟨[], [], [(2, [⟨0, .q none, 1, 0, 64⟩, ⟨1, .q none, 1, 0, 128⟩, ⟨2, .q none, 128, 2, 256⟩, ⟨3, .q none, 256, 6, 512⟩, ⟨4, .q (some 0), 512, 14, 1024⟩, ⟨5, .q none, 8, 0, 2048⟩, ⟨6, .f 0 false, 3072, 62, 4096⟩, ⟨7, .q none, 64, 127, 8192⟩, ⟨8, .q none, 8192, 255, 16384⟩, ⟨9, .f 1 false, 20480, 511, 0⟩])], [], []⟩
theorem E_wire_Writer_Hash (x0 x1 : Value) (w : World) (R : Ending → World → Prop) : cwp Try.prog A_wire_Writer_Hash (Try.f104.body.getD .skip) (retPost Try.prog Try.f104.results.toList R) (argE [x0, x1]) w = F_wire_Writer_Hash x0 x1 w R := by kernel_rfl
theorem C_wire_Writer_Hash {x0 x1 : Value} {w : World} {R : Ending → World → Prop} (h : F_wire_Writer_Hash x0 x1 w R) : Calls Try.prog 104 #[x0, x1] w R :=
  calls_cwp (A := A_wire_Writer_Hash) (args := [x0, x1]) mixed Try.func104 (c := Try.f104.body.getD .skip) (by kernel_rfl) (by kernel_rfl) (by kernel_rfl) ((E_wire_Writer_Hash x0 x1 w R).mpr h)

/-- (*bevy/wire.Writer).Num -/
def F_wire_Writer_Num (x0 x1 : Value) (w : World) (R : Ending → World → Prop) : Prop :=
  m R (o_bin .eql 131 true x0 (.pointer none)) w fun x9 w1 =>
  mif x9 (
    R (.returned (.tuple #[])) w1) (
    mj1 (fun j2 =>
      m R (o_bin .lss 3 true x1 (.int .i64 0)) w1 fun x11 w2 =>
      mguard x11 false (fun k => m R (o_move x1) w2 k) w2 fun x13 w3 =>
      mguard x11 false (fun k => m R (o_bin .gtr 3 true x13 (.int .i64 4611686018427387903)) w3 k) w3 fun x14 w4 =>
      m R (o_pick x11 (.bool true) x14) w4 fun x15 w5 =>
      j2 x15 w5) fun x15 u2 w6 =>
    mif x15 (
      m R (o_nilCheck x0) w6 fun x17 w7 =>
      m R (o_fieldAddr 178 x17 1) w7 fun x18 w8 =>
      m R (o_store 4 x18 (.bool true)) w8 fun _ w9 =>
      R (.returned (.tuple #[])) w9) (
      ml1 (.int .i64 0) w6 fun x4 u4 w10 next4 =>
        mj0 (fun j5 =>
          m R (o_bin .lss 3 true x4 (.int .i64 3)) w10 fun x20 w11 =>
          mguard x20 true (fun k => m R (o_move x1) w11 k) w11 fun x22 w12 =>
          mguard x20 true (fun k => m R (o_call (fv 111) []) w12 k) w12 fun x23 w13 =>
          mguard x20 true (fun k => m R (o_move x4) w13 k) w13 fun x24 w14 =>
          mguard x20 true (fun k => m R (o_index 144 x23 x24) w14 k) w14 fun x25 w15 =>
          mguard x20 true (fun k => m R (o_bin .geq 3 false x22 x25) w15 k) w15 fun x26 w16 =>
          m R (o_pick x20 x26 (.bool false)) w16 fun x27 w17 =>
          mif x27 (
            j5 w17) (
            m R (o_bin .shl 3 true (.int .i64 1) x4) w17 fun x31 w18 =>
            ml1 (.int .i64 0) w18 fun x33 u8 w19 next8 =>
              m R (o_bin .lss 3 false x33 x31) w19 fun x34 w20 =>
              mif x34 (
                m R (o_bin .sub 3 true x31 (.int .i64 1)) w20 fun x38 w21 =>
                m R (o_bin .sub 3 false x38 x33) w21 fun x40 w22 =>
                m R (o_bin .mul 3 true (.int .i64 8) x40) w22 fun x41 w23 =>
                m R (o_bin .shr 3 false x1 x41) w23 fun x42 w24 =>
                m R (o_conv 3 5 x42) w24 fun x43 w25 =>
                mj1 (fun j13 =>
                  m R (o_bin .eql 3 true x33 (.int .i64 0)) w25 fun x45 w26 =>
                  mif x45 (
                    m R (o_bin .shl 3 true x4 (.int .u64 6)) w26 fun x48 w27 =>
                    m R (o_conv 3 5 x48) w27 fun x49 w28 =>
                    m R (o_bin .or 5 false x43 x49) w28 fun x50 w29 =>
                    j13 x50 w29) (
                    j13 x43 w26)) fun x7 u13 w30 =>
                m R (o_nilCheck x0) w30 fun x53 w31 =>
                m R (o_fieldAddr 178 x53 0) w31 fun x54 w32 =>
                m R (o_load 86 x54) w32 fun x55 w33 =>
                m R (o_buildSlice 86 1 [(0, x7)]) w33 fun x57 w34 =>
                m R (o_builtin .append #[86, 86] 86 [false, false] [x55, x57]) w34 fun x58 w35 =>
                m R (o_nilCheck x0) w35 fun x59 w36 =>
                m R (o_fieldAddr 178 x59 0) w36 fun x60 w37 =>
                m R (o_store 86 x60 x58) w37 fun _ w38 =>
                m R (o_bin .add 3 true x33 (.int .i64 1)) w38 fun x61 w39 =>
                next8 x61 w39) (
                R (.returned (.tuple #[])) w20))) fun u5 w40 =>
        m R (o_bin .add 3 true x4 (.int .i64 1)) w40 fun x29 w41 =>
        next4 x29 w41))
def A_wire_Writer_Num : Ann := ⟨[(4, [4], 1073217552), (8, [33], 4611686009837453504)], [(2, [15], 64512), (5, [], 267911168), (13, [7], 2234207627640960)], [], [], []⟩
theorem E_wire_Writer_Num (x0 x1 : Value) (w : World) (R : Ending → World → Prop) : cwp Try.prog A_wire_Writer_Num (Try.f105.body.getD .skip) (retPost Try.prog Try.f105.results.toList R) (argE [x0, x1]) w = F_wire_Writer_Num x0 x1 w R := by kernel_rfl
theorem C_wire_Writer_Num {x0 x1 : Value} {w : World} {R : Ending → World → Prop} (h : F_wire_Writer_Num x0 x1 w R) : Calls Try.prog 105 #[x0, x1] w R :=
  calls_cwp (A := A_wire_Writer_Num) (args := [x0, x1]) mixed Try.func105 (c := Try.f105.body.getD .skip) (by kernel_rfl) (by kernel_rfl) (by kernel_rfl) ((E_wire_Writer_Num x0 x1 w R).mpr h)

/-- (*bevy/wire.Writer).End -/
def F_wire_Writer_End (x0 : Value) (w : World) (R : Ending → World → Prop) : Prop :=
  mj1 (fun j2 =>
    m R (o_bin .eql 131 true x0 (.pointer none)) w fun x5 w1 =>
    mguard x5 false (fun k => m R (o_move x0) w1 k) w1 fun x7 w2 =>
    mguard x5 false (fun k => m R (o_nilCheck x7) w2 k) w2 fun x8 w3 =>
    mguard x5 false (fun k => m R (o_fieldAddr 178 x8 1) w3 k) w3 fun x9 w4 =>
    mguard x5 false (fun k => m R (o_load 4 x9) w4 k) w4 fun x10 w5 =>
    m R (o_pick x5 (.bool true) x10) w5 fun x11 w6 =>
    j2 x11 w6) fun x11 u2 w7 =>
  mif x11 (
    R (.returned (.tuple #[(.string (ByteArray.mk #[])), (.int .i64 1)])) w7) (
    m R (o_nilCheck x0) w7 fun x13 w8 =>
    m R (o_fieldAddr 178 x13 0) w8 fun x14 w9 =>
    m R (o_load 86 x14) w9 fun x15 w10 =>
    m R (o_conv 86 9 x15) w10 fun x16 w11 =>
    R (.returned (.tuple #[x16, (.int .i64 0)])) w11)
def A_wire_Writer_End : Ann := ⟨[], [(2, [11], 4080)], [], [], []⟩
theorem E_wire_Writer_End (x0 : Value) (w : World) (R : Ending → World → Prop) : cwp Try.prog A_wire_Writer_End (Try.f106.body.getD .skip) (retPost Try.prog Try.f106.results.toList R) (argE [x0]) w = F_wire_Writer_End x0 w R := by kernel_rfl
theorem C_wire_Writer_End {x0 : Value} {w : World} {R : Ending → World → Prop} (h : F_wire_Writer_End x0 w R) : Calls Try.prog 106 #[x0] w R :=
  calls_cwp (A := A_wire_Writer_End) (args := [x0]) mixed Try.func106 (c := Try.f106.body.getD .skip) (by kernel_rfl) (by kernel_rfl) (by kernel_rfl) ((E_wire_Writer_End x0 w R).mpr h)

/-- bevy/bevyref03.Code -/
def F_bevyref03_Code (x0 x1 : Value) (w : World) (R : Ending → World → Prop) : Prop :=
  m R (o_alloc 22) w fun x4 w1 =>
  mj1 (fun j4 =>
    m R (o_builtin .len #[9] 3 [false] [x0]) w1 fun x12 w2 =>
    m R (o_bin .gtr 3 true x12 (.int .i64 64)) w2 fun x13 w3 =>
    mif x13 (
      m R (o_call (fv 69) [x0]) w3 fun x15 w4 =>
      m R (o_alloc 22) w4 fun x5 w5 =>
      m R (o_store 22 x5 x15) w5 fun _ w6 =>
      m R (o_slice 22 x5 none none none) w6 fun x16 w7 =>
      m R (o_conv 86 9 x16) w7 fun x17 w8 =>
      j4 x17 w8) (
      j4 x0 w3)) fun x0 u4 w9 =>
  ml3 (.string (ByteArray.mk #[])) (.string (ByteArray.mk #[])) (.int .i64 0) w9 fun x6 x7 x8 u7 w10 next7 =>
    m R (o_bin .lss 3 true x8 (.int .i64 64)) w10 fun x19 w11 =>
    mif x19 (
      mj1 (fun j12 =>
        m R (o_builtin .len #[9] 3 [false] [x0]) w11 fun x24 w12 =>
        m R (o_bin .lss 3 false x8 x24) w12 fun x25 w13 =>
        mif x25 (
          m R (o_index 9 x0 x8) w13 fun x28 w14 =>
          j12 x28 w14) (
          j12 (.int .u8 0) w13)) fun x9 u12 w15 =>
      m R (o_bin .xor 5 true x9 (.int .u8 54)) w15 fun x31 w16 =>
      m R (o_buildSlice 86 1 [(0, x31)]) w16 fun x32 w17 =>
      m R (o_conv 86 9 x32) w17 fun x33 w18 =>
      m R (o_bin .add 9 false x6 x33) w18 fun x34 w19 =>
      m R (o_bin .xor 5 true x9 (.int .u8 92)) w19 fun x37 w20 =>
      m R (o_buildSlice 86 1 [(0, x37)]) w20 fun x38 w21 =>
      m R (o_conv 86 9 x38) w21 fun x39 w22 =>
      m R (o_bin .add 9 false x7 x39) w22 fun x40 w23 =>
      m R (o_bin .add 3 true x8 (.int .i64 1)) w23 fun x21 w24 =>
      next7 x34 x40 x21 w24) (
      m R (o_bin .add 9 false x6 x1) w11 fun x43 w25 =>
      m R (o_call (fv 69) [x43]) w25 fun x44 w26 =>
      m R (o_alloc 22) w26 fun x10 w27 =>
      m R (o_store 22 x10 x44) w27 fun _ w28 =>
      m R (o_slice 22 x10 none none none) w28 fun x46 w29 =>
      m R (o_conv 86 9 x46) w29 fun x47 w30 =>
      m R (o_bin .add 9 false x7 x47) w30 fun x48 w31 =>
      m R (o_call (fv 69) [x48]) w31 fun x49 w32 =>
      m R (o_store 22 x4 x49) w32 fun _ w33 =>
      rcell Try.prog 22 x4 w33 fun r4 =>
      R (.returned r4) w33)
def A_bevyref03_Code : Ann := ⟨[(7, [6, 7, 8], 2199022994368)], [(4, [0], 260129), (12, [9], 532677120)], [], [], []⟩
theorem E_bevyref03_Code (x0 x1 : Value) (w : World) (R : Ending → World → Prop) : cwp Try.prog A_bevyref03_Code (Try.f107.body.getD .skip) (retPost Try.prog Try.f107.results.toList R) (argE [x0, x1]) w = F_bevyref03_Code x0 x1 w R := by kernel_rfl
theorem C_bevyref03_Code {x0 x1 : Value} {w : World} {R : Ending → World → Prop} (h : F_bevyref03_Code x0 x1 w R) : Calls Try.prog 107 #[x0, x1] w R :=
  calls_cwp (A := A_bevyref03_Code) (args := [x0, x1]) mixed Try.func107 (c := Try.f107.body.getD .skip) (by kernel_rfl) (by kernel_rfl) (by kernel_rfl) ((E_bevyref03_Code x0 x1 w R).mpr h)

/-- bevy/bevyref05.text -/
def F_bevyref05_text (x0 : Value) (w : World) (R : Ending → World → Prop) : Prop :=
  m R (o_box 22 x0) w fun x1 w1 =>
  m R (o_slice 22 x1 none none none) w1 fun x3 w2 =>
  m R (o_conv 86 9 x3) w2 fun x4 w3 =>
  R (.returned x4) w3
def A_bevyref05_text : Ann := ⟨[], [], [], [], []⟩
theorem E_bevyref05_text (x0 : Value) (w : World) (R : Ending → World → Prop) : cwp Try.prog A_bevyref05_text (Try.f108.body.getD .skip) (retPost Try.prog Try.f108.results.toList R) (argE [x0]) w = F_bevyref05_text x0 w R := by kernel_rfl
theorem C_bevyref05_text {x0 : Value} {w : World} {R : Ending → World → Prop} (h : F_bevyref05_text x0 w R) : Calls Try.prog 108 #[x0] w R :=
  calls_cwp (A := A_bevyref05_text) (args := [x0]) mixed Try.func108 (c := Try.f108.body.getD .skip) (by kernel_rfl) (by kernel_rfl) (by kernel_rfl) ((E_bevyref05_text x0 w R).mpr h)

/-- bevy/bevyref01.Num -/
def F_bevyref01_Num (x0 : Value) (w : World) (R : Ending → World → Prop) : Prop :=
  m R (o_bin .lss 3 true x0 (.int .i64 64)) w fun x6 w1 =>
  mif x6 (
    m R (o_conv 3 5 x0) w1 fun x8 w2 =>
    m R (o_buildSlice 86 1 [(0, x8)]) w2 fun x9 w3 =>
    m R (o_conv 86 9 x9) w3 fun x10 w4 =>
    R (.returned x10) w4) (
    m R (o_bin .lss 3 true x0 (.int .i64 16384)) w1 fun x12 w5 =>
    mif x12 (
      m R (o_bin .quo 3 true x0 (.int .i64 256)) w5 fun x14 w6 =>
      m R (o_bin .add 3 true (.int .i64 64) x14) w6 fun x15 w7 =>
      m R (o_conv 3 5 x15) w7 fun x16 w8 =>
      m R (o_bin .rem 3 true x0 (.int .i64 256)) w8 fun x18 w9 =>
      m R (o_conv 3 5 x18) w9 fun x19 w10 =>
      m R (o_buildSlice 86 2 [(0, x16), (1, x19)]) w10 fun x20 w11 =>
      m R (o_conv 86 9 x20) w11 fun x21 w12 =>
      R (.returned x21) w12) (
      m R (o_bin .lss 3 true x0 (.int .i64 1073741824)) w5 fun x23 w13 =>
      mif x23 (
        m R (o_bin .quo 3 true x0 (.int .i64 16777216)) w13 fun x25 w14 =>
        m R (o_bin .add 3 true (.int .i64 128) x25) w14 fun x26 w15 =>
        m R (o_conv 3 5 x26) w15 fun x27 w16 =>
        m R (o_bin .quo 3 true x0 (.int .i64 65536)) w16 fun x29 w17 =>
        m R (o_bin .rem 3 true x29 (.int .i64 256)) w17 fun x30 w18 =>
        m R (o_conv 3 5 x30) w18 fun x31 w19 =>
        m R (o_bin .quo 3 true x0 (.int .i64 256)) w19 fun x33 w20 =>
        m R (o_bin .rem 3 true x33 (.int .i64 256)) w20 fun x34 w21 =>
        m R (o_conv 3 5 x34) w21 fun x35 w22 =>
        m R (o_bin .rem 3 true x0 (.int .i64 256)) w22 fun x37 w23 =>
        m R (o_conv 3 5 x37) w23 fun x38 w24 =>
        m R (o_buildSlice 86 4 [(0, x27), (1, x31), (2, x35), (3, x38)]) w24 fun x39 w25 =>
        m R (o_conv 86 9 x39) w25 fun x40 w26 =>
        R (.returned x40) w26) (
        m R (o_alloc 179) w13 fun x3 w27 =>
        ml2 x0 (.int .i64 7) w27 fun x0 x4 u9 w28 next9 =>
          m R (o_bin .geq 3 true x4 (.int .i64 0)) w28 fun x42 w29 =>
          mif x42 (
            m R (o_bin .rem 3 true x0 (.int .i64 256)) w29 fun x47 w30 =>
            m R (o_conv 3 5 x47) w30 fun x48 w31 =>
            m R (o_indexAddr 179 x3 x4) w31 fun x49 w32 =>
            m R (o_store 5 x49 x48) w32 fun _ w33 =>
            m R (o_bin .quo 3 true x0 (.int .i64 256)) w33 fun x51 w34 =>
            m R (o_bin .sub 3 true x4 (.int .i64 1)) w34 fun x44 w35 =>
            next9 x51 x44 w35) (
            m R (o_indexAddr 179 x3 (.int .i64 0)) w29 fun x52 w36 =>
            m R (o_load 5 x52) w36 fun x53 w37 =>
            m R (o_bin .add 5 true x53 (.int .u8 192)) w37 fun x54 w38 =>
            m R (o_indexAddr 179 x3 (.int .i64 0)) w38 fun x55 w39 =>
            m R (o_store 5 x55 x54) w39 fun _ w40 =>
            m R (o_slice 179 x3 none none none) w40 fun x56 w41 =>
            m R (o_conv 86 9 x56) w41 fun x57 w42 =>
            R (.returned x57) w42))))
def A_bevyref01_Num : Ann := ⟨[(9, [0, 4], 4501400604114961)], [], [], [], []⟩
theorem E_bevyref01_Num (x0 : Value) (w : World) (R : Ending → World → Prop) : cwp Try.prog A_bevyref01_Num (Try.f109.body.getD .skip) (retPost Try.prog Try.f109.results.toList R) (argE [x0]) w = F_bevyref01_Num x0 w R := by kernel_rfl
theorem C_bevyref01_Num {x0 : Value} {w : World} {R : Ending → World → Prop} (h : F_bevyref01_Num x0 w R) : Calls Try.prog 109 #[x0] w R :=
  calls_cwp (A := A_bevyref01_Num) (args := [x0]) mixed Try.func109 (c := Try.f109.body.getD .skip) (by kernel_rfl) (by kernel_rfl) (by kernel_rfl) ((E_bevyref01_Num x0 w R).mpr h)

/-- (*bevy/wire.Reader).take -/
def F_wire_Reader_take (x0 x1 : Value) (w : World) (R : Ending → World → Prop) : Prop :=
  mj1 (fun j2 =>
    m R (o_bin .eql 91 true x0 (.pointer none)) w fun x8 w1 =>
    mguard x8 false (fun k => m R (o_move x0) w1 k) w1 fun x10 w2 =>
    mguard x8 false (fun k => m R (o_nilCheck x10) w2 k) w2 fun x11 w3 =>
    mguard x8 false (fun k => m R (o_fieldAddr 140 x11 1) w3 k) w3 fun x12 w4 =>
    mguard x8 false (fun k => m R (o_load 37 x12) w4 k) w4 fun x13 w5 =>
    mguard x8 false (fun k => m R (o_bin .neq 37 true x13 (.int .i64 0)) w5 k) w5 fun x14 w6 =>
    m R (o_pick x8 (.bool true) x14) w6 fun x15 w7 =>
    j2 x15 w7) fun x15 u2 w8 =>
  mif x15 (
    R (.returned (.tuple #[(.string (ByteArray.mk #[])), (.bool false)])) w8) (
    m R (o_nilCheck x0) w8 fun x17 w9 =>
    m R (o_fieldAddr 140 x17 0) w9 fun x18 w10 =>
    m R (o_load 9 x18) w10 fun x19 w11 =>
    m R (o_builtin .len #[9] 3 [false] [x19]) w11 fun x20 w12 =>
    m R (o_bin .lss 3 false x20 x1) w12 fun x22 w13 =>
    mif x22 (
      m R (o_nilCheck x0) w13 fun x24 w14 =>
      m R (o_fieldAddr 140 x24 1) w14 fun x25 w15 =>
      m R (o_store 37 x25 (.int .i64 2)) w15 fun _ w16 =>
      R (.returned (.tuple #[(.string (ByteArray.mk #[])), (.bool false)])) w16) (
      m R (o_nilCheck x0) w13 fun x27 w17 =>
      m R (o_fieldAddr 140 x27 0) w17 fun x28 w18 =>
      m R (o_load 9 x28) w18 fun x29 w19 =>
      m R (o_slice 9 x29 none (some x1) none) w19 fun x31 w20 =>
      m R (o_nilCheck x0) w20 fun x34 w21 =>
      m R (o_fieldAddr 140 x34 0) w21 fun x35 w22 =>
      m R (o_load 9 x35) w22 fun x36 w23 =>
      m R (o_slice 9 x36 (some x1) none none) w23 fun x38 w24 =>
      m R (o_nilCheck x0) w24 fun x39 w25 =>
      m R (o_fieldAddr 140 x39 0) w25 fun x40 w26 =>
      m R (o_store 9 x40 x38) w26 fun _ w27 =>
      R (.returned (.tuple #[x31, (.bool true)])) w27))
def A_wire_Reader_take : Ann := ⟨[], [(2, [15], 65408)], [], [], []⟩
theorem E_wire_Reader_take (x0 x1 : Value) (w : World) (R : Ending → World → Prop) : cwp Try.prog A_wire_Reader_take (Try.f110.body.getD .skip) (retPost Try.prog Try.f110.results.toList R) (argE [x0, x1]) w = F_wire_Reader_take x0 x1 w R := by kernel_rfl
theorem C_wire_Reader_take {x0 x1 : Value} {w : World} {R : Ending → World → Prop} (h : F_wire_Reader_take x0 x1 w R) : Calls Try.prog 110 #[x0, x1] w R :=
  calls_cwp (A := A_wire_Reader_take) (args := [x0, x1]) mixed Try.func110 (c := Try.f110.body.getD .skip) (by kernel_rfl) (by kernel_rfl) (by kernel_rfl) ((E_wire_Reader_take x0 x1 w R).mpr h)

/-- bevy/wire.bounds -/
def F_wire_bounds (w : World) (R : Ending → World → Prop) : Prop :=
  m R (o_alloc 144) w fun x0 w1 =>
  m R (o_build 144 [(0, (.int .i64 64)), (1, (.int .i64 16384)), (2, (.int .i64 1073741824)), (3, (.int .i64 4611686018427387903))]) w1 fun x1 w2 =>
  m R (o_store 144 x0 x1) w2 fun _ w3 =>
  rcell Try.prog 144 x0 w3 fun r0 =>
  R (.returned r0) w3
def A_wire_bounds : Ann := ⟨[], [], [], [], []⟩
theorem E_wire_bounds (w : World) (R : Ending → World → Prop) : cwp Try.prog A_wire_bounds (Try.f111.body.getD .skip) (retPost Try.prog Try.f111.results.toList R) (argE []) w = F_wire_bounds w R := by kernel_rfl
theorem C_wire_bounds {w : World} {R : Ending → World → Prop} (h : F_wire_bounds w R) : Calls Try.prog 111 #[] w R :=
  calls_cwp (A := A_wire_bounds) (args := []) mixed Try.func111 (c := Try.f111.body.getD .skip) (by kernel_rfl) (by kernel_rfl) (by kernel_rfl) ((E_wire_bounds w R).mpr h)

/-- (*bevy/wire.Reader).Err -/
def F_wire_Reader_Err (x0 : Value) (w : World) (R : Ending → World → Prop) : Prop :=
  m R (o_bin .eql 91 true x0 (.pointer none)) w fun x4 w1 =>
  mif x4 (
    R (.returned (.int .i64 1)) w1) (
    m R (o_nilCheck x0) w1 fun x6 w2 =>
    m R (o_fieldAddr 140 x6 1) w2 fun x7 w3 =>
    m R (o_load 37 x7) w3 fun x8 w4 =>
    R (.returned x8) w4)
def A_wire_Reader_Err : Ann := ⟨[], [], [], [], []⟩
theorem E_wire_Reader_Err (x0 : Value) (w : World) (R : Ending → World → Prop) : cwp Try.prog A_wire_Reader_Err (Try.f112.body.getD .skip) (retPost Try.prog Try.f112.results.toList R) (argE [x0]) w = F_wire_Reader_Err x0 w R := by kernel_rfl
theorem C_wire_Reader_Err {x0 : Value} {w : World} {R : Ending → World → Prop} (h : F_wire_Reader_Err x0 w R) : Calls Try.prog 112 #[x0] w R :=
  calls_cwp (A := A_wire_Reader_Err) (args := [x0]) mixed Try.func112 (c := Try.f112.body.getD .skip) (by kernel_rfl) (by kernel_rfl) (by kernel_rfl) ((E_wire_Reader_Err x0 w R).mpr h)

/-- (*bevy/bevyref01.Reader).Hash -/
def F_bevyref01_Reader_Hash (x0 : Value) (w : World) (R : Ending → World → Prop) : Prop :=
  m R (o_alloc 22) w fun x2 w1 =>
  m R (o_alloc 22) w1 fun x3 w2 =>
  m R (o_call (fv 145) [x0, (.int .i64 32)]) w2 fun x7 w3 =>
  ml1 (.int .i64 0) w3 fun x5 u4 w4 next4 =>
    m R (o_builtin .len #[9] 3 [false] [x7]) w4 fun x10 w5 =>
    m R (o_bin .lss 3 false x5 x10) w5 fun x11 w6 =>
    mif x11 (
      m R (o_index 9 x7 x5) w6 fun x17 w7 =>
      m R (o_indexAddr 22 x3 x5) w7 fun x18 w8 =>
      m R (o_store 5 x18 x17) w8 fun _ w9 =>
      m R (o_bin .add 3 true x5 (.int .i64 1)) w9 fun x13 w10 =>
      next4 x13 w10) (
      m R (o_load 22 x3) w6 fun x19 w11 =>
      m R (o_store 22 x2 x19) w11 fun _ w12 =>
      rcell Try.prog 22 x2 w12 fun r2 =>
      R (.returned r2) w12)
def A_bevyref01_Reader_Hash : Ann := ⟨[(4, [5], 524064)], [], [], [], []⟩
theorem E_bevyref01_Reader_Hash (x0 : Value) (w : World) (R : Ending → World → Prop) : cwp Try.prog A_bevyref01_Reader_Hash (Try.f113.body.getD .skip) (retPost Try.prog Try.f113.results.toList R) (argE [x0]) w = F_bevyref01_Reader_Hash x0 w R := by kernel_rfl
theorem C_bevyref01_Reader_Hash {x0 : Value} {w : World} {R : Ending → World → Prop} (h : F_bevyref01_Reader_Hash x0 w R) : Calls Try.prog 113 #[x0] w R :=
  calls_cwp (A := A_bevyref01_Reader_Hash) (args := [x0]) mixed Try.func113 (c := Try.f113.body.getD .skip) (by kernel_rfl) (by kernel_rfl) (by kernel_rfl) ((E_bevyref01_Reader_Hash x0 w R).mpr h)

/-- (*bevy/bevyref01.Reader).Num -/
def F_bevyref01_Reader_Num (x0 x1 : Value) (w : World) (R : Ending → World → Prop) : Prop :=
  m R (o_nilCheck x0) w fun x12 w1 =>
  m R (o_fieldAddr 97 x12 1) w1 fun x13 w2 =>
  m R (o_load 3 x13) w2 fun x14 w3 =>
  m R (o_bin .neq 3 true x14 (.int .i64 0)) w3 fun x15 w4 =>
  mif x15 (
    R (.returned (.int .i64 0)) w4) (
    m R (o_nilCheck x0) w4 fun x17 w5 =>
    m R (o_fieldAddr 97 x17 0) w5 fun x18 w6 =>
    m R (o_load 9 x18) w6 fun x19 w7 =>
    m R (o_builtin .len #[9] 3 [false] [x19]) w7 fun x20 w8 =>
    m R (o_bin .eql 3 true x20 (.int .i64 0)) w8 fun x21 w9 =>
    mif x21 (
      m R (o_nilCheck x0) w9 fun x23 w10 =>
      m R (o_fieldAddr 97 x23 1) w10 fun x24 w11 =>
      m R (o_store 3 x24 (.int .i64 2)) w11 fun _ w12 =>
      R (.returned (.int .i64 0)) w12) (
      m R (o_nilCheck x0) w9 fun x26 w13 =>
      m R (o_fieldAddr 97 x26 0) w13 fun x27 w14 =>
      m R (o_load 9 x27) w14 fun x28 w15 =>
      m R (o_index 9 x28 (.int .i64 0)) w15 fun x29 w16 =>
      m R (o_conv 5 3 x29) w16 fun x30 w17 =>
      ml2 (.int .i64 1) (.int .i64 0) w17 fun x5 x7 u9 w18 next9 =>
        m R (o_bin .quo 3 true x30 (.int .i64 64)) w18 fun x33 w19 =>
        m R (o_bin .lss 3 false x7 x33) w19 fun x34 w20 =>
        mif x34 (
          m R (o_bin .mul 3 true (.int .i64 2) x5) w20 fun x38 w21 =>
          m R (o_bin .add 3 true x7 (.int .i64 1)) w21 fun x36 w22 =>
          next9 x38 x36 w22) (
          m R (o_nilCheck x0) w20 fun x40 w23 =>
          m R (o_fieldAddr 97 x40 0) w23 fun x41 w24 =>
          m R (o_load 9 x41) w24 fun x42 w25 =>
          m R (o_builtin .len #[9] 3 [false] [x42]) w25 fun x43 w26 =>
          m R (o_bin .lss 3 false x43 x5) w26 fun x45 w27 =>
          mif x45 (
            m R (o_nilCheck x0) w27 fun x47 w28 =>
            m R (o_fieldAddr 97 x47 1) w28 fun x48 w29 =>
            m R (o_store 3 x48 (.int .i64 2)) w29 fun _ w30 =>
            R (.returned (.int .i64 0)) w30) (
            m R (o_bin .rem 3 true x30 (.int .i64 64)) w27 fun x50 w31 =>
            ml2 x50 (.int .i64 1) w31 fun x8 x9 u17 w32 next17 =>
              m R (o_bin .lss 3 false x9 x5) w32 fun x53 w33 =>
              mif x53 (
                m R (o_bin .mul 3 true x8 (.int .i64 256)) w33 fun x57 w34 =>
                m R (o_nilCheck x0) w34 fun x59 w35 =>
                m R (o_fieldAddr 97 x59 0) w35 fun x60 w36 =>
                m R (o_load 9 x60) w36 fun x61 w37 =>
                m R (o_index 9 x61 x9) w37 fun x63 w38 =>
                m R (o_conv 5 3 x63) w38 fun x64 w39 =>
                m R (o_bin .add 3 false x57 x64) w39 fun x65 w40 =>
                m R (o_bin .add 3 true x9 (.int .i64 1)) w40 fun x55 w41 =>
                next17 x65 x55 w41) (
                m R (o_nilCheck x0) w33 fun x67 w42 =>
                m R (o_fieldAddr 97 x67 0) w42 fun x68 w43 =>
                m R (o_load 9 x68) w43 fun x69 w44 =>
                m R (o_slice 9 x69 none (some x5) none) w44 fun x71 w45 =>
                m R (o_nilCheck x0) w45 fun x74 w46 =>
                m R (o_fieldAddr 97 x74 0) w46 fun x75 w47 =>
                m R (o_load 9 x75) w47 fun x76 w48 =>
                m R (o_slice 9 x76 (some x5) none none) w48 fun x78 w49 =>
                m R (o_nilCheck x0) w49 fun x79 w50 =>
                m R (o_fieldAddr 97 x79 0) w50 fun x80 w51 =>
                m R (o_store 9 x80 x78) w51 fun _ w52 =>
                m R (o_call (fv 109) [x8]) w52 fun x82 w53 =>
                m R (o_bin .neq 9 false x82 x71) w53 fun x84 w54 =>
                mif x84 (
                  m R (o_nilCheck x0) w54 fun x86 w55 =>
                  m R (o_fieldAddr 97 x86 1) w55 fun x87 w56 =>
                  m R (o_store 3 x87 (.int .i64 3)) w56 fun _ w57 =>
                  R (.returned (.int .i64 0)) w57) (
                  m R (o_bin .gtr 3 false x8 x1) w54 fun x90 w58 =>
                  mif x90 (
                    m R (o_nilCheck x0) w58 fun x92 w59 =>
                    m R (o_fieldAddr 97 x92 1) w59 fun x93 w60 =>
                    m R (o_store 3 x93 (.int .i64 5)) w60 fun _ w61 =>
                    R (.returned (.int .i64 0)) w61) (
                    R (.returned x8) w58)))))))
def A_bevyref01_Reader_Num : Ann := ⟨[(9, [5, 7], 547608330400), (17, [8, 9], 73784724495024521984)], [], [], [], []⟩
theorem E_bevyref01_Reader_Num (x0 x1 : Value) (w : World) (R : Ending → World → Prop) : cwp Try.prog A_bevyref01_Reader_Num (Try.f114.body.getD .skip) (retPost Try.prog Try.f114.results.toList R) (argE [x0, x1]) w = F_bevyref01_Reader_Num x0 x1 w R := by kernel_rfl
theorem C_bevyref01_Reader_Num {x0 x1 : Value} {w : World} {R : Ending → World → Prop} (h : F_bevyref01_Reader_Num x0 x1 w R) : Calls Try.prog 114 #[x0, x1] w R :=
  calls_cwp (A := A_bevyref01_Reader_Num) (args := [x0, x1]) mixed Try.func114 (c := Try.f114.body.getD .skip) (by kernel_rfl) (by kernel_rfl) (by kernel_rfl) ((E_bevyref01_Reader_Num x0 x1 w R).mpr h)

/-- bevy/sha.rounds -/
def F_sha_rounds (w : World) (R : Ending → World → Prop) : Prop :=
  m R (o_alloc 151) w fun x0 w1 =>
  m R (o_build 151 [(0, (.int .u32 1116352408)), (1, (.int .u32 1899447441)), (2, (.int .u32 3049323471)), (3, (.int .u32 3921009573)), (4, (.int .u32 961987163)), (5, (.int .u32 1508970993)), (6, (.int .u32 2453635748)), (7, (.int .u32 2870763221)), (8, (.int .u32 3624381080)), (9, (.int .u32 310598401)), (10, (.int .u32 607225278)), (11, (.int .u32 1426881987)), (12, (.int .u32 1925078388)), (13, (.int .u32 2162078206)), (14, (.int .u32 2614888103)), (15, (.int .u32 3248222580)), (16, (.int .u32 3835390401)), (17, (.int .u32 4022224774)), (18, (.int .u32 264347078)), (19, (.int .u32 604807628)), (20, (.int .u32 770255983)), (21, (.int .u32 1249150122)), (22, (.int .u32 1555081692)), (23, (.int .u32 1996064986)), (24, (.int .u32 2554220882)), (25, (.int .u32 2821834349)), (26, (.int .u32 2952996808)), (27, (.int .u32 3210313671)), (28, (.int .u32 3336571891)), (29, (.int .u32 3584528711)), (30, (.int .u32 113926993)), (31, (.int .u32 338241895)), (32, (.int .u32 666307205)), (33, (.int .u32 773529912)), (34, (.int .u32 1294757372)), (35, (.int .u32 1396182291)), (36, (.int .u32 1695183700)), (37, (.int .u32 1986661051)), (38, (.int .u32 2177026350)), (39, (.int .u32 2456956037)), (40, (.int .u32 2730485921)), (41, (.int .u32 2820302411)), (42, (.int .u32 3259730800)), (43, (.int .u32 3345764771)), (44, (.int .u32 3516065817)), (45, (.int .u32 3600352804)), (46, (.int .u32 4094571909)), (47, (.int .u32 275423344)), (48, (.int .u32 430227734)), (49, (.int .u32 506948616)), (50, (.int .u32 659060556)), (51, (.int .u32 883997877)), (52, (.int .u32 958139571)), (53, (.int .u32 1322822218)), (54, (.int .u32 1537002063)), (55, (.int .u32 1747873779)), (56, (.int .u32 1955562222)), (57, (.int .u32 2024104815)), (58, (.int .u32 2227730452)), (59, (.int .u32 2361852424)), (60, (.int .u32 2428436474)), (61, (.int .u32 2756734187)), (62, (.int .u32 3204031479)), (63, (.int .u32 3329325298))]) w1 fun x1 w2 =>
  m R (o_store 151 x0 x1) w2 fun _ w3 =>
  rcell Try.prog 151 x0 w3 fun r0 =>
  R (.returned r0) w3
def A_sha_rounds : Ann := ⟨[], [], [], [], []⟩
theorem E_sha_rounds (w : World) (R : Ending → World → Prop) : cwp Try.prog A_sha_rounds (Try.f115.body.getD .skip) (retPost Try.prog Try.f115.results.toList R) (argE []) w = F_sha_rounds w R := by kernel_rfl
theorem C_sha_rounds {w : World} {R : Ending → World → Prop} (h : F_sha_rounds w R) : Calls Try.prog 115 #[] w R :=
  calls_cwp (A := A_sha_rounds) (args := []) mixed Try.func115 (c := Try.f115.body.getD .skip) (by kernel_rfl) (by kernel_rfl) (by kernel_rfl) ((E_sha_rounds w R).mpr h)

/-- (*bevy/sha.state).put -/
def F_sha_state_put (x0 x1 : Value) (w : World) (R : Ending → World → Prop) : Prop :=
  ml1 x1 w fun x1 u0 w1 next0 =>
    m R (o_builtin .len #[9] 3 [false] [x1]) w1 fun x6 w2 =>
    m R (o_bin .gtr 3 true x6 (.int .i64 0)) w2 fun x7 w3 =>
    mif x7 (
      dp Try.prog (o_nilCheck x0) fun x9 =>
      dp Try.prog (o_fieldAddr 155 x9 1) fun x10 =>
      dp Try.prog (o_nilCheck x0) fun x12 =>
      dp Try.prog (o_fieldAddr 155 x12 2) fun x13 =>
      dq Try.prog w3 (o_load 3 x13) fun x14 =>
      dp Try.prog (o_bin .rem 3 true x14 (.int .i64 64)) fun x15 =>
      dp Try.prog (o_slice 153 x10 (some x15) none none) fun x16 =>
      df Try.prog w3 (o_builtin .copy #[86, 9] 3 [false, false] [x16, x1]) false fun x18 w4 =>
      dend w4 fun w5 =>
      m R (o_slice 9 x1 (some x18) none none) w5 fun x21 w6 =>
      m R (o_nilCheck x0) w6 fun x23 w7 =>
      m R (o_fieldAddr 155 x23 2) w7 fun x24 w8 =>
      m R (o_load 3 x24) w8 fun x25 w9 =>
      m R (o_bin .add 3 false x25 x18) w9 fun x27 w10 =>
      m R (o_nilCheck x0) w10 fun x28 w11 =>
      m R (o_fieldAddr 155 x28 2) w11 fun x29 w12 =>
      m R (o_store 3 x29 x27) w12 fun _ w13 =>
      m R (o_nilCheck x0) w13 fun x31 w14 =>
      m R (o_fieldAddr 155 x31 2) w14 fun x32 w15 =>
      m R (o_load 3 x32) w15 fun x33 w16 =>
      m R (o_bin .rem 3 true x33 (.int .i64 64)) w16 fun x34 w17 =>
      m R (o_bin .eql 3 true x34 (.int .i64 0)) w17 fun x35 w18 =>
      mif x35 (
        m R (o_call (fv 146) [x0]) w18 fun x37 w19 =>
        next0 x21 w19) (
        next0 x21 w18)) (
      R (.returned (.tuple #[])) w3)
def A_sha_state_put : Ann := ⟨[(0, [1], 274877906930)], [], [(1, [⟨0, .q none, 1, 0, 256⟩, ⟨1, .q none, 256, 1, 512⟩, ⟨2, .q none, 512, 3, 1024⟩, ⟨3, .q none, 1, 0, 2048⟩, ⟨4, .q none, 2048, 8, 4096⟩, ⟨5, .q none, 4096, 24, 8192⟩, ⟨6, .q (some 0), 8192, 56, 16384⟩, ⟨7, .q none, 16384, 120, 32768⟩, ⟨8, .q none, 33792, 255, 65536⟩, ⟨9, .q none, 2, 0, 131072⟩, ⟨10, .f 0 false, 196608, 1023, 262144⟩, ⟨11, .q none, 262144, 2047, 16⟩])], [], []⟩
theorem E_sha_state_put (x0 x1 : Value) (w : World) (R : Ending → World → Prop) : cwp Try.prog A_sha_state_put (Try.f116.body.getD .skip) (retPost Try.prog Try.f116.results.toList R) (argE [x0, x1]) w = F_sha_state_put x0 x1 w R := by kernel_rfl
theorem C_sha_state_put {x0 x1 : Value} {w : World} {R : Ending → World → Prop} (h : F_sha_state_put x0 x1 w R) : Calls Try.prog 116 #[x0, x1] w R :=
  calls_cwp (A := A_sha_state_put) (args := [x0, x1]) mixed Try.func116 (c := Try.f116.body.getD .skip) (by kernel_rfl) (by kernel_rfl) (by kernel_rfl) ((E_sha_state_put x0 x1 w R).mpr h)

/-- bevy/bevyref02.word -/
def F_bevyref02_word (x0 x1 : Value) (w : World) (R : Ending → World → Prop) : Prop :=
  dp Try.prog (o_indexAddr 86 x0 x1) fun x7 =>
  dq Try.prog w (o_load 5 x7) fun x8 =>
  dp Try.prog (o_conv 5 149 x8) fun x9 =>
  dp Try.prog (o_bin .shl 149 true x9 (.int .u64 24)) fun x10 =>
  dp Try.prog (o_bin .add 3 true x1 (.int .i64 1)) fun x13 =>
  dp Try.prog (o_indexAddr 86 x0 x13) fun x14 =>
  dq Try.prog w (o_load 5 x14) fun x15 =>
  dp Try.prog (o_conv 5 149 x15) fun x16 =>
  dp Try.prog (o_bin .shl 149 true x16 (.int .u64 16)) fun x17 =>
  dp Try.prog (o_bin .or 149 false x10 x17) fun x18 =>
  dp Try.prog (o_bin .add 3 true x1 (.int .i64 2)) fun x21 =>
  dp Try.prog (o_indexAddr 86 x0 x21) fun x22 =>
  dq Try.prog w (o_load 5 x22) fun x23 =>
  dp Try.prog (o_conv 5 149 x23) fun x24 =>
  dp Try.prog (o_bin .shl 149 true x24 (.int .u64 8)) fun x25 =>
  dp Try.prog (o_bin .or 149 false x18 x25) fun x26 =>
  dp Try.prog (o_bin .add 3 true x1 (.int .i64 3)) fun x29 =>
  dp Try.prog (o_indexAddr 86 x0 x29) fun x30 =>
  dq Try.prog w (o_load 5 x30) fun x31 =>
  dp Try.prog (o_conv 5 149 x31) fun x32 =>
  dp Try.prog (o_bin .or 149 false x26 x32) fun x33 =>
  dend w fun w1 =>
  R (.returned x33) w1
def A_bevyref02_word : Ann := ⟨[], [], [(1, [⟨0, .q none, 1, 0, 32⟩, ⟨1, .q none, 2, 0, 64⟩, ⟨2, .q none, 96, 3, 128⟩, ⟨3, .q (some 0), 128, 7, 256⟩, ⟨4, .q none, 256, 15, 512⟩, ⟨5, .q none, 512, 31, 1024⟩, ⟨6, .q none, 1, 0, 2048⟩, ⟨7, .q none, 2, 0, 4096⟩, ⟨8, .q none, 4096, 128, 8192⟩, ⟨9, .q none, 10240, 448, 16384⟩, ⟨10, .q (some 0), 16384, 960, 32768⟩, ⟨11, .q none, 32768, 1984, 65536⟩, ⟨12, .q none, 65536, 4032, 131072⟩, ⟨13, .q none, 132096, 8191, 262144⟩, ⟨14, .q none, 1, 0, 524288⟩, ⟨15, .q none, 2, 0, 1048576⟩, ⟨16, .q none, 1048576, 32768, 2097152⟩, ⟨17, .q none, 2621440, 114688, 4194304⟩, ⟨18, .q (some 0), 4194304, 245760, 8388608⟩, ⟨19, .q none, 8388608, 507904, 16777216⟩, ⟨20, .q none, 16777216, 1032192, 33554432⟩, ⟨21, .q none, 33816576, 2097151, 67108864⟩, ⟨22, .q none, 1, 0, 134217728⟩, ⟨23, .q none, 2, 0, 268435456⟩, ⟨24, .q none, 268435456, 8388608, 536870912⟩, ⟨25, .q none, 671088640, 29360128, 1073741824⟩, ⟨26, .q (some 0), 1073741824, 62914560, 2147483648⟩, ⟨27, .q none, 2147483648, 130023424, 4294967296⟩, ⟨28, .q none, 4362076160, 268435455, 8589934592⟩, ⟨29, .q none, 8589934592, 536870911, 16⟩])], [], []⟩
theorem E_bevyref02_word (x0 x1 : Value) (w : World) (R : Ending → World → Prop) : cwp Try.prog A_bevyref02_word (Try.f117.body.getD .skip) (retPost Try.prog Try.f117.results.toList R) (argE [x0, x1]) w = F_bevyref02_word x0 x1 w R := by kernel_rfl
theorem C_bevyref02_word {x0 x1 : Value} {w : World} {R : Ending → World → Prop} (h : F_bevyref02_word x0 x1 w R) : Calls Try.prog 117 #[x0, x1] w R :=
  calls_cwp (A := A_bevyref02_word) (args := [x0, x1]) mixed Try.func117 (c := Try.f117.body.getD .skip) (by kernel_rfl) (by kernel_rfl) (by kernel_rfl) ((E_bevyref02_word x0 x1 w R).mpr h)

/-- bevy/bevyref02.turned -/
def F_bevyref02_turned (x0 x1 : Value) (w : World) (R : Ending → World → Prop) : Prop :=
  m R (o_bin .shr 149 false x0 x1) w fun x7 w1 =>
  m R (o_bin .sub 143 true (.int .u64 32) x1) w1 fun x10 w2 =>
  m R (o_bin .shl 149 false x0 x10) w2 fun x11 w3 =>
  m R (o_bin .or 149 false x7 x11) w3 fun x12 w4 =>
  R (.returned x12) w4
def A_bevyref02_turned : Ann := ⟨[], [], [], [], []⟩
theorem E_bevyref02_turned (x0 x1 : Value) (w : World) (R : Ending → World → Prop) : cwp Try.prog A_bevyref02_turned (Try.f118.body.getD .skip) (retPost Try.prog Try.f118.results.toList R) (argE [x0, x1]) w = F_bevyref02_turned x0 x1 w R := by kernel_rfl
theorem C_bevyref02_turned {x0 x1 : Value} {w : World} {R : Ending → World → Prop} (h : F_bevyref02_turned x0 x1 w R) : Calls Try.prog 118 #[x0, x1] w R :=
  calls_cwp (A := A_bevyref02_turned) (args := [x0, x1]) mixed Try.func118 (c := Try.f118.body.getD .skip) (by kernel_rfl) (by kernel_rfl) (by kernel_rfl) ((E_bevyref02_turned x0 x1 w R).mpr h)

/-- bevy/mac.Code -/
def F_mac_Code (x0 x1 : Value) (w : World) (R : Ending → World → Prop) : Prop :=
  m R (o_alloc 23) w fun x4 w1 =>
  mj1 (fun j4 =>
    m R (o_builtin .len #[9] 3 [false] [x0]) w1 fun x11 w2 =>
    m R (o_bin .gtr 3 true x11 (.int .i64 64)) w2 fun x12 w3 =>
    mif x12 (
      m R (o_buildSlice 147 1 [(0, x0)]) w3 fun x14 w4 =>
      m R (o_call (fv 68) [x14]) w4 fun x15 w5 =>
      m R (o_alloc 23) w5 fun x5 w6 =>
      m R (o_store 23 x5 x15) w6 fun _ w7 =>
      m R (o_slice 23 x5 none none none) w7 fun x16 w8 =>
      m R (o_conv 86 9 x16) w8 fun x17 w9 =>
      j4 x17 w9) (
      j4 x0 w3)) fun x0 u4 w10 =>
  m R (o_alloc 153) w10 fun x6 w11 =>
  m R (o_alloc 153) w11 fun x7 w12 =>
  m R (o_slice 153 x6 none none none) w12 fun x18 w13 =>
  m R (o_builtin .copy #[86, 9] 3 [false, false] [x18, x0]) w13 fun x20 w14 =>
  m R (o_slice 153 x7 none none none) w14 fun x21 w15 =>
  m R (o_builtin .copy #[86, 9] 3 [false, false] [x21, x0]) w15 fun x23 w16 =>
  ml1 (.int .i64 0) w16 fun x24 u8 w17 next8 =>
    m R (o_bin .lss 3 true x24 (.int .i64 64)) w17 fun x25 w18 =>
    mif x25 (
      m R (o_indexAddr 153 x6 x24) w18 fun x28 w19 =>
      m R (o_load 5 x28) w19 fun x29 w20 =>
      m R (o_bin .xor 5 true x29 (.int .u8 54)) w20 fun x30 w21 =>
      m R (o_indexAddr 153 x6 x24) w21 fun x31 w22 =>
      m R (o_store 5 x31 x30) w22 fun _ w23 =>
      m R (o_indexAddr 153 x7 x24) w23 fun x33 w24 =>
      m R (o_load 5 x33) w24 fun x34 w25 =>
      m R (o_bin .xor 5 true x34 (.int .u8 92)) w25 fun x35 w26 =>
      m R (o_indexAddr 153 x7 x24) w26 fun x36 w27 =>
      m R (o_store 5 x36 x35) w27 fun _ w28 =>
      m R (o_bin .add 3 true x24 (.int .i64 1)) w28 fun x37 w29 =>
      next8 x37 w29) (
      m R (o_slice 153 x6 none none none) w18 fun x38 w30 =>
      m R (o_conv 86 9 x38) w30 fun x39 w31 =>
      m R (o_buildSlice 147 1 [(0, x39)]) w31 fun x40 w32 =>
      m R (o_builtin .append #[147, 147] 147 [false, false] [x40, x1]) w32 fun x42 w33 =>
      m R (o_call (fv 68) [x42]) w33 fun x43 w34 =>
      m R (o_alloc 23) w34 fun x9 w35 =>
      m R (o_store 23 x9 x43) w35 fun _ w36 =>
      dp Try.prog (o_slice 153 x7 none none none) fun x44 =>
      dq Try.prog w36 (o_conv 86 9 x44) fun x45 =>
      dp Try.prog (o_slice 23 x9 none none none) fun x46 =>
      dq Try.prog w36 (o_conv 86 9 x46) fun x47 =>
      df Try.prog w36 (o_buildSlice 147 2 [(0, x45), (1, x47)]) false fun x48 w37 =>
      df Try.prog w37 (o_call (fv 68) [x48]) false fun x49 w38 =>
      df Try.prog w38 (o_store 23 x4 x49) false fun _ w39 =>
      dend w39 fun w40 =>
      rcell Try.prog 23 x4 w40 fun r4 =>
      R (.returned r4) w40)
def A_mac_Code : Ann := ⟨[(8, [24], 274861129984)], [(4, [0], 261153)], [(14, [⟨0, .q none, 128, 0, 17592186044416⟩, ⟨1, .q (some 0), 17592186044416, 1, 35184372088832⟩, ⟨2, .q none, 512, 0, 70368744177664⟩, ⟨3, .q (some 0), 70368744177664, 4, 140737488355328⟩, ⟨4, .f 0 false, 175921860444160, 15, 281474976710656⟩, ⟨5, .f 1 false, 281474976710656, 31, 562949953421312⟩, ⟨6, .f 2 false, 562949953421328, 63, 0⟩])], [], []⟩
theorem E_mac_Code (x0 x1 : Value) (w : World) (R : Ending → World → Prop) : cwp Try.prog A_mac_Code (Try.f144.body.getD .skip) (retPost Try.prog Try.f144.results.toList R) (argE [x0, x1]) w = F_mac_Code x0 x1 w R := by kernel_rfl
theorem C_mac_Code {x0 x1 : Value} {w : World} {R : Ending → World → Prop} (h : F_mac_Code x0 x1 w R) : Calls Try.prog 144 #[x0, x1] w R :=
  calls_cwp (A := A_mac_Code) (args := [x0, x1]) mixed Try.func144 (c := Try.f144.body.getD .skip) (by kernel_rfl) (by kernel_rfl) (by kernel_rfl) ((E_mac_Code x0 x1 w R).mpr h)

/-- (*bevy/bevyref01.Reader).Raw -/
def F_bevyref01_Reader_Raw (x0 x1 : Value) (w : World) (R : Ending → World → Prop) : Prop :=
  m R (o_nilCheck x0) w fun x7 w1 =>
  m R (o_fieldAddr 97 x7 1) w1 fun x8 w2 =>
  m R (o_load 3 x8) w2 fun x9 w3 =>
  m R (o_bin .neq 3 true x9 (.int .i64 0)) w3 fun x10 w4 =>
  mif x10 (
    R (.returned (.string (ByteArray.mk #[]))) w4) (
    m R (o_nilCheck x0) w4 fun x12 w5 =>
    m R (o_fieldAddr 97 x12 0) w5 fun x13 w6 =>
    m R (o_load 9 x13) w6 fun x14 w7 =>
    m R (o_builtin .len #[9] 3 [false] [x14]) w7 fun x15 w8 =>
    m R (o_bin .lss 3 false x15 x1) w8 fun x17 w9 =>
    mif x17 (
      m R (o_nilCheck x0) w9 fun x19 w10 =>
      m R (o_fieldAddr 97 x19 1) w10 fun x20 w11 =>
      m R (o_store 3 x20 (.int .i64 2)) w11 fun _ w12 =>
      R (.returned (.string (ByteArray.mk #[]))) w12) (
      m R (o_nilCheck x0) w9 fun x22 w13 =>
      m R (o_fieldAddr 97 x22 0) w13 fun x23 w14 =>
      m R (o_load 9 x23) w14 fun x24 w15 =>
      m R (o_slice 9 x24 none (some x1) none) w15 fun x26 w16 =>
      m R (o_nilCheck x0) w16 fun x29 w17 =>
      m R (o_fieldAddr 97 x29 0) w17 fun x30 w18 =>
      m R (o_load 9 x30) w18 fun x31 w19 =>
      m R (o_slice 9 x31 (some x1) none none) w19 fun x33 w20 =>
      m R (o_nilCheck x0) w20 fun x34 w21 =>
      m R (o_fieldAddr 97 x34 0) w21 fun x35 w22 =>
      m R (o_store 9 x35 x33) w22 fun _ w23 =>
      R (.returned x26) w23))
def A_bevyref01_Reader_Raw : Ann := ⟨[], [], [], [], []⟩
theorem E_bevyref01_Reader_Raw (x0 x1 : Value) (w : World) (R : Ending → World → Prop) : cwp Try.prog A_bevyref01_Reader_Raw (Try.f145.body.getD .skip) (retPost Try.prog Try.f145.results.toList R) (argE [x0, x1]) w = F_bevyref01_Reader_Raw x0 x1 w R := by kernel_rfl
theorem C_bevyref01_Reader_Raw {x0 x1 : Value} {w : World} {R : Ending → World → Prop} (h : F_bevyref01_Reader_Raw x0 x1 w R) : Calls Try.prog 145 #[x0, x1] w R :=
  calls_cwp (A := A_bevyref01_Reader_Raw) (args := [x0, x1]) mixed Try.func145 (c := Try.f145.body.getD .skip) (by kernel_rfl) (by kernel_rfl) (by kernel_rfl) ((E_bevyref01_Reader_Raw x0 x1 w R).mpr h)

/-- (*bevy/sha.state).turn -/
def F_sha_state_turn (x0 : Value) (w : World) (R : Ending → World → Prop) : Prop :=
  m R (o_alloc 151) w fun x2 w1 =>
  ml1 (.int .i64 0) w1 fun x21 u2 w2 next2 =>
    m R (o_bin .lss 3 true x21 (.int .i64 16)) w2 fun x22 w3 =>
    mif x22 (
      m R (o_nilCheck x0) w3 fun x25 w4 =>
      m R (o_fieldAddr 155 x25 1) w4 fun x26 w5 =>
      m R (o_bin .mul 3 true (.int .i64 4) x21) w5 fun x28 w6 =>
      m R (o_slice 153 x26 (some x28) none none) w6 fun x29 w7 =>
      dp Try.prog (o_indexAddr 86 x29 (.int .i64 0)) fun x32 =>
      dq Try.prog w7 (o_load 5 x32) fun x33 =>
      dp Try.prog (o_conv 5 149 x33) fun x34 =>
      dp Try.prog (o_bin .shl 149 true x34 (.int .u64 24)) fun x35 =>
      dp Try.prog (o_indexAddr 86 x29 (.int .i64 1)) fun x37 =>
      dq Try.prog w7 (o_load 5 x37) fun x38 =>
      dp Try.prog (o_conv 5 149 x38) fun x39 =>
      dp Try.prog (o_bin .shl 149 true x39 (.int .u64 16)) fun x40 =>
      dp Try.prog (o_bin .or 149 false x35 x40) fun x41 =>
      dp Try.prog (o_indexAddr 86 x29 (.int .i64 2)) fun x43 =>
      dq Try.prog w7 (o_load 5 x43) fun x44 =>
      dp Try.prog (o_conv 5 149 x44) fun x45 =>
      dp Try.prog (o_bin .shl 149 true x45 (.int .u64 8)) fun x46 =>
      dp Try.prog (o_bin .or 149 false x41 x46) fun x47 =>
      dp Try.prog (o_indexAddr 86 x29 (.int .i64 3)) fun x49 =>
      dq Try.prog w7 (o_load 5 x49) fun x50 =>
      dp Try.prog (o_conv 5 149 x50) fun x51 =>
      dp Try.prog (o_bin .or 149 false x47 x51) fun x52 =>
      dp Try.prog (o_indexAddr 151 x2 x21) fun x53 =>
      df Try.prog w7 (o_store 149 x53 x52) false fun _ w8 =>
      dend w8 fun w9 =>
      m R (o_bin .add 3 true x21 (.int .i64 1)) w9 fun x54 w10 =>
      next2 x54 w10) (
      ml1 (.int .i64 16) w3 fun x5 u8 w11 next8 =>
        m R (o_bin .lss 3 true x5 (.int .i64 64)) w11 fun x56 w12 =>
        mif x56 (
          dp Try.prog (o_bin .sub 3 true x5 (.int .i64 15)) fun x60 =>
          dp Try.prog (o_indexAddr 151 x2 x60) fun x61 =>
          dq Try.prog w12 (o_load 149 x61) fun x62 =>
          dp Try.prog (o_bin .sub 3 true x5 (.int .i64 2)) fun x64 =>
          dp Try.prog (o_indexAddr 151 x2 x64) fun x65 =>
          dq Try.prog w12 (o_load 149 x65) fun x66 =>
          dend w12 fun w13 =>
          dp Try.prog (o_bin .sub 3 true x5 (.int .i64 16)) fun x69 =>
          dp Try.prog (o_indexAddr 151 x2 x69) fun x70 =>
          dq Try.prog w13 (o_load 149 x70) fun x71 =>
          dp Try.prog (o_bin .sub 3 true x5 (.int .i64 7)) fun x73 =>
          dp Try.prog (o_indexAddr 151 x2 x73) fun x74 =>
          dq Try.prog w13 (o_load 149 x74) fun x75 =>
          dp Try.prog (o_bin .add 149 false x71 x75) fun x76 =>
          df Try.prog w13 (o_call (fv 152) [x62, (.int .i64 (-7))]) true fun x78 w14 =>
          df Try.prog w14 (o_call (fv 152) [x62, (.int .i64 (-18))]) true fun x80 w15 =>
          dp Try.prog (o_bin .xor 149 false x78 x80) fun x81 =>
          dp Try.prog (o_bin .shr 149 true x62 (.int .u64 3)) fun x83 =>
          dp Try.prog (o_bin .xor 149 false x81 x83) fun x84 =>
          dp Try.prog (o_bin .add 149 false x76 x84) fun x85 =>
          df Try.prog w15 (o_call (fv 152) [x66, (.int .i64 (-17))]) true fun x87 w16 =>
          df Try.prog w16 (o_call (fv 152) [x66, (.int .i64 (-19))]) true fun x89 w17 =>
          dp Try.prog (o_bin .xor 149 false x87 x89) fun x90 =>
          dp Try.prog (o_bin .shr 149 true x66 (.int .u64 10)) fun x92 =>
          dp Try.prog (o_bin .xor 149 false x90 x92) fun x93 =>
          dp Try.prog (o_bin .add 149 false x85 x93) fun x94 =>
          dp Try.prog (o_indexAddr 151 x2 x5) fun x95 =>
          df Try.prog w17 (o_store 149 x95 x94) false fun _ w18 =>
          dend w18 fun w19 =>
          m R (o_bin .add 3 true x5 (.int .i64 1)) w19 fun x58 w20 =>
          next8 x58 w20) (
          dp Try.prog (o_nilCheck x0) fun x97 =>
          dp Try.prog (o_fieldAddr 155 x97 0) fun x98 =>
          dp Try.prog (o_indexAddr 150 x98 (.int .i64 0)) fun x99 =>
          dq Try.prog w12 (o_load 149 x99) fun x100 =>
          dp Try.prog (o_nilCheck x0) fun x102 =>
          dp Try.prog (o_fieldAddr 155 x102 0) fun x103 =>
          dp Try.prog (o_indexAddr 150 x103 (.int .i64 1)) fun x104 =>
          dq Try.prog w12 (o_load 149 x104) fun x105 =>
          dp Try.prog (o_nilCheck x0) fun x107 =>
          dp Try.prog (o_fieldAddr 155 x107 0) fun x108 =>
          dp Try.prog (o_indexAddr 150 x108 (.int .i64 2)) fun x109 =>
          dq Try.prog w12 (o_load 149 x109) fun x110 =>
          dp Try.prog (o_nilCheck x0) fun x112 =>
          dp Try.prog (o_fieldAddr 155 x112 0) fun x113 =>
          dp Try.prog (o_indexAddr 150 x113 (.int .i64 3)) fun x114 =>
          dq Try.prog w12 (o_load 149 x114) fun x115 =>
          dp Try.prog (o_nilCheck x0) fun x117 =>
          dp Try.prog (o_fieldAddr 155 x117 0) fun x118 =>
          dp Try.prog (o_indexAddr 150 x118 (.int .i64 4)) fun x119 =>
          dq Try.prog w12 (o_load 149 x119) fun x120 =>
          dp Try.prog (o_nilCheck x0) fun x122 =>
          dp Try.prog (o_fieldAddr 155 x122 0) fun x123 =>
          dp Try.prog (o_indexAddr 150 x123 (.int .i64 5)) fun x124 =>
          dq Try.prog w12 (o_load 149 x124) fun x125 =>
          dp Try.prog (o_nilCheck x0) fun x127 =>
          dp Try.prog (o_fieldAddr 155 x127 0) fun x128 =>
          dp Try.prog (o_indexAddr 150 x128 (.int .i64 6)) fun x129 =>
          dq Try.prog w12 (o_load 149 x129) fun x130 =>
          dp Try.prog (o_nilCheck x0) fun x132 =>
          dp Try.prog (o_fieldAddr 155 x132 0) fun x133 =>
          dp Try.prog (o_indexAddr 150 x133 (.int .i64 7)) fun x134 =>
          dq Try.prog w12 (o_load 149 x134) fun x135 =>
          dend w12 fun w21 =>
          ml9 x100 x105 x110 x115 x120 x125 x130 x135 (.int .i64 0) w21 fun x8 x9 x10 x11 x12 x13 x14 x15 x136 u14 w22 next14 =>
            m R (o_bin .lss 3 true x136 (.int .i64 64)) w22 fun x137 w23 =>
            mif x137 (
              df Try.prog w23 (o_call (fv 152) [x12, (.int .i64 (-6))]) true fun x141 w24 =>
              df Try.prog w24 (o_call (fv 152) [x12, (.int .i64 (-11))]) true fun x143 w25 =>
              dp Try.prog (o_bin .xor 149 false x141 x143) fun x144 =>
              df Try.prog w25 (o_call (fv 152) [x12, (.int .i64 (-25))]) true fun x146 w26 =>
              dp Try.prog (o_bin .xor 149 false x144 x146) fun x147 =>
              dp Try.prog (o_bin .add 149 false x15 x147) fun x148 =>
              dp Try.prog (o_bin .and 149 false x12 x13) fun x151 =>
              dp Try.prog (o_un .xor x12) fun x153 =>
              dp Try.prog (o_bin .and 149 false x153 x14) fun x155 =>
              dp Try.prog (o_bin .xor 149 false x151 x155) fun x156 =>
              dp Try.prog (o_bin .add 149 false x148 x156) fun x157 =>
              dp Try.prog (o_nilCheck x0) fun x160 =>
              dp Try.prog (o_fieldAddr 155 x160 3) fun x161 =>
              dp Try.prog (o_indexAddr 151 x161 x136) fun x162 =>
              dq Try.prog w23 (o_load 149 x162) fun x163 =>
              dp Try.prog (o_bin .add 149 false x157 x163) fun x164 =>
              dp Try.prog (o_indexAddr 151 x2 x136) fun x166 =>
              dq Try.prog w23 (o_load 149 x166) fun x167 =>
              dp Try.prog (o_bin .add 149 false x164 x167) fun x168 =>
              dend w26 fun w27 =>
              m R (o_call (fv 152) [x8, (.int .i64 (-2))]) w27 fun x170 w28 =>
              m R (o_call (fv 152) [x8, (.int .i64 (-13))]) w28 fun x172 w29 =>
              m R (o_bin .xor 149 false x170 x172) w29 fun x173 w30 =>
              m R (o_call (fv 152) [x8, (.int .i64 (-22))]) w30 fun x175 w31 =>
              m R (o_bin .xor 149 false x173 x175) w31 fun x176 w32 =>
              m R (o_bin .and 149 false x8 x9) w32 fun x179 w33 =>
              m R (o_bin .and 149 false x8 x10) w33 fun x182 w34 =>
              m R (o_bin .xor 149 false x179 x182) w34 fun x183 w35 =>
              m R (o_bin .and 149 false x9 x10) w35 fun x186 w36 =>
              m R (o_bin .xor 149 false x183 x186) w36 fun x187 w37 =>
              m R (o_bin .add 149 false x176 x187) w37 fun x188 w38 =>
              m R (o_bin .add 149 false x11 x168) w38 fun x194 w39 =>
              m R (o_bin .add 149 false x168 x188) w39 fun x200 w40 =>
              m R (o_bin .add 3 true x136 (.int .i64 1)) w40 fun x201 w41 =>
              next14 x200 x8 x9 x10 x194 x12 x13 x14 x201 w41) (
              m R (o_build 150 [(0, x8), (1, x9), (2, x10), (3, x11), (4, x12), (5, x13), (6, x14), (7, x15)]) w23 fun x210 w42 =>
              ml1 (.int .i64 0) w42 fun x211 u21 w43 next21 =>
                m R (o_bin .lss 3 true x211 (.int .i64 8)) w43 fun x212 w44 =>
                mif x212 (
                  m R (o_index 150 x210 x211) w44 fun x214 w45 =>
                  dp Try.prog (o_nilCheck x0) fun x217 =>
                  dp Try.prog (o_fieldAddr 155 x217 0) fun x218 =>
                  dp Try.prog (o_indexAddr 150 x218 x211) fun x219 =>
                  dq Try.prog w45 (o_load 149 x219) fun x220 =>
                  dp Try.prog (o_bin .add 149 false x220 x214) fun x222 =>
                  dp Try.prog (o_nilCheck x0) fun x223 =>
                  dp Try.prog (o_fieldAddr 155 x223 0) fun x224 =>
                  dp Try.prog (o_indexAddr 150 x224 x211) fun x225 =>
                  df Try.prog w45 (o_store 149 x225 x222) false fun _ w46 =>
                  dend w46 fun w47 =>
                  m R (o_bin .add 3 true x211 (.int .i64 1)) w47 fun x226 w48 =>
                  next21 x226 w48) (
                  R (.returned (.tuple #[])) w44))))
def A_sha_state_turn : Ann := ⟨[(2, [21], 36028797016866840), (8, [5], 79228162514228308796524986592), (14, [8, 9, 10, 11, 12, 13, 14, 15, 136], 6427752177035961102080736083432890163442188075628638679596800), (21, [211], 215676282328090475945251810757791930688087189908593312689102186348544)], [], [(5, [⟨0, .q none, 8, 0, 1073741824⟩, ⟨1, .q none, 16, 0, 2147483648⟩, ⟨2, .q none, 2147483648, 2, 4294967296⟩, ⟨3, .q (some 0), 4294967296, 6, 8589934592⟩, ⟨4, .q none, 8589934592, 14, 17179869184⟩, ⟨5, .q none, 17179869184, 30, 34359738368⟩, ⟨6, .q none, 16, 0, 68719476736⟩, ⟨7, .q none, 68719476736, 64, 137438953472⟩, ⟨8, .q (some 0), 137438953472, 192, 274877906944⟩, ⟨9, .q none, 274877906944, 448, 549755813888⟩, ⟨10, .q none, 549755813888, 960, 1099511627776⟩, ⟨11, .q none, 1133871366144, 2046, 2199023255552⟩, ⟨12, .q none, 16, 0, 4398046511104⟩, ⟨13, .q none, 4398046511104, 4096, 8796093022208⟩, ⟨14, .q (some 0), 8796093022208, 12288, 17592186044416⟩, ⟨15, .q none, 17592186044416, 28672, 35184372088832⟩, ⟨16, .q none, 35184372088832, 61440, 70368744177664⟩, ⟨17, .q none, 72567767433216, 131070, 140737488355328⟩, ⟨18, .q none, 16, 0, 281474976710656⟩, ⟨19, .q none, 281474976710656, 262144, 562949953421312⟩, ⟨20, .q (some 0), 562949953421312, 786432, 1125899906842624⟩, ⟨21, .q none, 1125899906842624, 1835008, 2251799813685248⟩, ⟨22, .q none, 2392537302040576, 4194302, 4503599627370496⟩, ⟨23, .q none, 1073741828, 8388607, 9007199254740992⟩, ⟨24, .f 0 false, 13510798882111488, 16777215, 0⟩]), (10, [⟨0, .q none, 32, 0, 576460752303423488⟩, ⟨1, .q none, 576460752303423488, 1, 1152921504606846976⟩, ⟨2, .q none, 1152921504606846980, 3, 2305843009213693952⟩, ⟨3, .q (some 0), 2305843009213693952, 7, 4611686018427387904⟩, ⟨4, .q none, 32, 0, 9223372036854775808⟩, ⟨5, .q none, 9223372036854775808, 16, 18446744073709551616⟩, ⟨6, .q none, 18446744073709551620, 48, 36893488147419103232⟩, ⟨7, .q (some 0), 36893488147419103232, 112, 73786976294838206464⟩, ⟨8, .q none, 4611686018427387904, 15, 64⟩, ⟨9, .q none, 73786976294838206464, 511, 128⟩]), (11, [⟨0, .q none, 32, 0, 147573952589676412928⟩, ⟨1, .q none, 32, 0, 295147905179352825856⟩, ⟨2, .q none, 295147905179352825856, 2, 590295810358705651712⟩, ⟨3, .q none, 590295810358705651716, 6, 1180591620717411303424⟩, ⟨4, .q (some 0), 1180591620717411303424, 14, 2361183241434822606848⟩, ⟨5, .q none, 32, 0, 4722366482869645213696⟩, ⟨6, .q none, 4722366482869645213696, 32, 9444732965739290427392⟩, ⟨7, .q none, 9444732965739290427396, 96, 18889465931478580854784⟩, ⟨8, .q (some 0), 18889465931478580854784, 224, 37778931862957161709568⟩, ⟨9, .q none, 40140115104391984316416, 510, 75557863725914323419136⟩, ⟨10, .q none, 64, 0, 151115727451828646838272⟩, ⟨11, .f 0 true, 151115727451828646838272, 1024, 302231454903657293676544⟩, ⟨12, .q none, 64, 0, 604462909807314587353088⟩, ⟨13, .f 1 true, 604462909807314587353088, 7168, 1208925819614629174706176⟩, ⟨14, .q none, 1511157274518286468382720, 15360, 2417851639229258349412352⟩, ⟨15, .q none, 64, 0, 4835703278458516698824704⟩, ⟨16, .q none, 4835703278458516698824704, 32768, 9671406556917033397649408⟩, ⟨17, .q none, 12089258196146291747061760, 130048, 19342813113834066795298816⟩, ⟨18, .q none, 19418370977559981118717952, 262142, 38685626227668133590597632⟩, ⟨19, .q none, 128, 0, 77371252455336267181195264⟩, ⟨20, .f 2 true, 77371252455336267181195264, 539648, 154742504910672534362390528⟩, ⟨21, .q none, 128, 0, 309485009821345068724781056⟩, ⟨22, .f 3 true, 309485009821345068724781056, 3685376, 618970019642690137449562112⟩, ⟨23, .q none, 773712524553362671811952640, 7879680, 1237940039285380274899124224⟩, ⟨24, .q none, 128, 0, 2475880078570760549798248448⟩, ⟨25, .q none, 2475880078570760549798248448, 16777216, 4951760157141521099596496896⟩, ⟨26, .q none, 6189700196426901374495621120, 66599936, 9903520314283042199192993792⟩, ⟨27, .q none, 9942205940510710332783591424, 134217726, 19807040628566084398385987584⟩, ⟨28, .q none, 147573952589676412932, 268435455, 39614081257132168796771975168⟩, ⟨29, .f 4 false, 59421121885698253195157962752, 536870911, 0⟩]), (12, [⟨0, .q none, 1, 0, 79228162514264337593543950336⟩, ⟨1, .q none, 79228162514264337593543950336, 1, 158456325028528675187087900672⟩, ⟨2, .q none, 158456325028528675187087900672, 3, 316912650057057350374175801344⟩, ⟨3, .q none, 316912650057057350374175801344, 7, 633825300114114700748351602688⟩, ⟨4, .q (some 0), 633825300114114700748351602688, 15, 1267650600228229401496703205376⟩, ⟨5, .q none, 1, 0, 2535301200456458802993406410752⟩, ⟨6, .q none, 2535301200456458802993406410752, 32, 5070602400912917605986812821504⟩, ⟨7, .q none, 5070602400912917605986812821504, 96, 10141204801825835211973625643008⟩, ⟨8, .q none, 10141204801825835211973625643008, 224, 20282409603651670423947251286016⟩, ⟨9, .q (some 0), 20282409603651670423947251286016, 480, 40564819207303340847894502572032⟩, ⟨10, .q none, 1, 0, 81129638414606681695789005144064⟩, ⟨11, .q none, 81129638414606681695789005144064, 1024, 162259276829213363391578010288128⟩, ⟨12, .q none, 162259276829213363391578010288128, 3072, 324518553658426726783156020576256⟩, ⟨13, .q none, 324518553658426726783156020576256, 7168, 649037107316853453566312041152512⟩, ⟨14, .q (some 0), 649037107316853453566312041152512, 15360, 1298074214633706907132624082305024⟩, ⟨15, .q none, 1, 0, 2596148429267413814265248164610048⟩, ⟨16, .q none, 2596148429267413814265248164610048, 32768, 5192296858534827628530496329220096⟩, ⟨17, .q none, 5192296858534827628530496329220096, 98304, 10384593717069655257060992658440192⟩, ⟨18, .q none, 10384593717069655257060992658440192, 229376, 20769187434139310514121985316880384⟩, ⟨19, .q (some 0), 20769187434139310514121985316880384, 491520, 41538374868278621028243970633760768⟩, ⟨20, .q none, 1, 0, 83076749736557242056487941267521536⟩, ⟨21, .q none, 83076749736557242056487941267521536, 1048576, 166153499473114484112975882535043072⟩, ⟨22, .q none, 166153499473114484112975882535043072, 3145728, 332306998946228968225951765070086144⟩, ⟨23, .q none, 332306998946228968225951765070086144, 7340032, 664613997892457936451903530140172288⟩, ⟨24, .q (some 0), 664613997892457936451903530140172288, 15728640, 1329227995784915872903807060280344576⟩, ⟨25, .q none, 1, 0, 2658455991569831745807614120560689152⟩, ⟨26, .q none, 2658455991569831745807614120560689152, 33554432, 5316911983139663491615228241121378304⟩, ⟨27, .q none, 5316911983139663491615228241121378304, 100663296, 10633823966279326983230456482242756608⟩, ⟨28, .q none, 10633823966279326983230456482242756608, 234881024, 21267647932558653966460912964485513216⟩, ⟨29, .q (some 0), 21267647932558653966460912964485513216, 503316480, 42535295865117307932921825928971026432⟩, ⟨30, .q none, 1, 0, 85070591730234615865843651857942052864⟩, ⟨31, .q none, 85070591730234615865843651857942052864, 1073741824, 170141183460469231731687303715884105728⟩, ⟨32, .q none, 170141183460469231731687303715884105728, 3221225472, 340282366920938463463374607431768211456⟩, ⟨33, .q none, 340282366920938463463374607431768211456, 7516192768, 680564733841876926926749214863536422912⟩, ⟨34, .q (some 0), 680564733841876926926749214863536422912, 16106127360, 1361129467683753853853498429727072845824⟩, ⟨35, .q none, 1, 0, 2722258935367507707706996859454145691648⟩, ⟨36, .q none, 2722258935367507707706996859454145691648, 34359738368, 5444517870735015415413993718908291383296⟩, ⟨37, .q none, 5444517870735015415413993718908291383296, 103079215104, 10889035741470030830827987437816582766592⟩, ⟨38, .q none, 10889035741470030830827987437816582766592, 240518168576, 21778071482940061661655974875633165533184⟩, ⟨39, .q (some 0), 21778071482940061661655974875633165533184, 515396075520, 43556142965880123323311949751266331066368⟩, ⟨40, .q none, 1267650600228229401496703205376, 31, 256⟩, ⟨41, .q none, 40564819207303340847894502572032, 1099511628799, 512⟩, ⟨42, .q none, 1298074214633706907132624082305024, 3298534916095, 1024⟩, ⟨43, .q none, 41538374868278621028243970633760768, 7696582443007, 2048⟩, ⟨44, .q none, 1329227995784915872903807060280344576, 16492707971071, 4096⟩, ⟨45, .q none, 42535295865117307932921825928971026432, 34085934202879, 8192⟩, ⟨46, .q none, 1361129467683753853853498429727072845824, 69303592288255, 16384⟩, ⟨47, .q none, 43556142965880123323311949751266331066368, 140737488355327, 32768⟩]), (16, [⟨0, .q none, 32768, 0, 696898287454081973172991196020261297061888⟩, ⟨1, .q none, 4096, 0, 1393796574908163946345982392040522594123776⟩, ⟨2, .f 0 true, 1393796574908163946345982392040522594123776, 2, 2787593149816327892691964784081045188247552⟩, ⟨3, .q none, 4096, 0, 5575186299632655785383929568162090376495104⟩, ⟨4, .f 1 true, 5575186299632655785383929568162090376495104, 14, 11150372599265311570767859136324180752990208⟩, ⟨5, .q none, 13937965749081639463459823920405225941237760, 30, 22300745198530623141535718272648361505980416⟩, ⟨6, .q none, 4096, 0, 44601490397061246283071436545296723011960832⟩, ⟨7, .f 2 true, 44601490397061246283071436545296723011960832, 94, 89202980794122492566142873090593446023921664⟩, ⟨8, .q none, 111503725992653115707678591363241807529902080, 254, 178405961588244985132285746181186892047843328⟩, ⟨9, .q none, 179102859875699067105458737377207153344905216, 511, 356811923176489970264571492362373784095686656⟩, ⟨10, .q none, 4096, 0, 713623846352979940529142984724747568191373312⟩, ⟨11, .q none, 8192, 0, 1427247692705959881058285969449495136382746624⟩, ⟨12, .q none, 2140871539058939821587428954174242704574119936, 3072, 2854495385411919762116571938898990272765493248⟩, ⟨13, .q none, 4096, 0, 5708990770823839524233143877797980545530986496⟩, ⟨14, .q none, 5708990770823839524233143877797980545530986496, 8192, 11417981541647679048466287755595961091061972992⟩, ⟨15, .q none, 16384, 0, 22835963083295358096932575511191922182123945984⟩, ⟨16, .q none, 34253944624943037145398863266787883273185918976, 57344, 45671926166590716193865151022383844364247891968⟩, ⟨17, .q none, 48526421552002635955981722961282834637013385216, 130048, 91343852333181432387730302044767688728495783936⟩, ⟨18, .q none, 91700664256357922357994873537130062512591470592, 262143, 182687704666362864775460604089535377456991567872⟩, ⟨19, .q none, 1, 0, 365375409332725729550921208179070754913983135744⟩, ⟨20, .q none, 65536, 0, 730750818665451459101842416358141509827966271488⟩, ⟨21, .q none, 365375409332725729550921208179070754913983135744, 524288, 1461501637330902918203684832716283019655932542976⟩, ⟨22, .q none, 1461501637330902918203684832716283019655932542976, 2621440, 2923003274661805836407369665432566039311865085952⟩, ⟨23, .q none, 3653754093327257295509212081790707549139831357440, 7864320, 5846006549323611672814739330865132078623730171904⟩, ⟨24, .q (some 0), 5846006549323611672814739330865132078623730171904, 16252928, 11692013098647223345629478661730264157247460343808⟩, ⟨25, .q none, 11874700803313586210404939265819799534704451911680, 33554431, 23384026197294446691258957323460528314494920687616⟩, ⟨26, .q none, 65536, 0, 46768052394588893382517914646921056628989841375232⟩, ⟨27, .q none, 46768052394588893382517914646921056628989841375236, 67108864, 93536104789177786765035829293842113257979682750464⟩, ⟨28, .q (some 0), 93536104789177786765035829293842113257979682750464, 201326592, 187072209578355573530071658587684226515959365500928⟩, ⟨29, .q none, 210456235775650020221330615911144754830454286188544, 536870911, 374144419156711147060143317175368453031918731001856⟩, ⟨30, .q none, 374144419156711147060143317175368453031918731001856, 1073741823, 131072⟩]), (23, [⟨0, .q none, 1, 0, 52656145834278593348959013841835216159447547700274555627155488768⟩, ⟨1, .q none, 524288, 0, 105312291668557186697918027683670432318895095400549111254310977536⟩, ⟨2, .q none, 52656145834278593348959013841835216159447547700274555627155488768, 1, 210624583337114373395836055367340864637790190801098222508621955072⟩, ⟨3, .q none, 210624583337114373395836055367340864637790190801098222508621955072, 5, 421249166674228746791672110734681729275580381602196445017243910144⟩, ⟨4, .q none, 526561458342785933489590138418352161594475477002745556271554887680, 15, 842498333348457493583344221469363458551160763204392890034487820288⟩, ⟨5, .q (some 0), 842498333348457493583344221469363458551160763204392890034487820288, 31, 1684996666696914987166688442938726917102321526408785780068975640576⟩, ⟨6, .q none, 1048576, 0, 3369993333393829974333376885877453834204643052817571560137951281152⟩, ⟨7, .q none, 5054990000090744961500065328816180751306964579226357340206926921728, 127, 6739986666787659948666753771754907668409286105635143120275902562304⟩, ⟨8, .q none, 52656145834278593348959013841835216159447547700274555627155488768, 1, 13479973333575319897333507543509815336818572211270286240551805124608⟩, ⟨9, .q none, 13479973333575319897333507543509815336818572211270286240551805124608, 257, 26959946667150639794667015087019630673637144422540572481103610249216⟩, ⟨10, .q none, 27065258958819196981364933114703301105956039517941121592357921226752, 1023, 53919893334301279589334030174039261347274288845081144962207220498432⟩, ⟨11, .f 0 false, 60659880001088939538000783945794169015683574950716288082483123060736, 2047, 0⟩])], [], []⟩
theorem E_sha_state_turn (x0 : Value) (w : World) (R : Ending → World → Prop) : cwp Try.prog A_sha_state_turn (Try.f146.body.getD .skip) (retPost Try.prog Try.f146.results.toList R) (argE [x0]) w = F_sha_state_turn x0 w R := by kernel_rfl
theorem C_sha_state_turn {x0 : Value} {w : World} {R : Ending → World → Prop} (h : F_sha_state_turn x0 w R) : Calls Try.prog 146 #[x0] w R :=
  calls_cwp (A := A_sha_state_turn) (args := [x0]) mixed Try.func146 (c := Try.f146.body.getD .skip) (by kernel_rfl) (by kernel_rfl) (by kernel_rfl) ((E_sha_state_turn x0 w R).mpr h)

/-- (*bevy/wire.Writer).Flag -/
def F_wire_Writer_Flag (x0 x1 : Value) (w : World) (R : Ending → World → Prop) : Prop :=
  m R (o_bin .eql 131 true x0 (.pointer none)) w fun x5 w1 =>
  mif x5 (
    R (.returned (.tuple #[])) w1) (
    mif x1 (
      m R (o_nilCheck x0) w1 fun x9 w2 =>
      m R (o_fieldAddr 178 x9 0) w2 fun x10 w3 =>
      m R (o_load 86 x10) w3 fun x11 w4 =>
      m R (o_buildSlice 86 1 [(0, (.int .u8 1))]) w4 fun x12 w5 =>
      m R (o_builtin .append #[86, 86] 86 [false, false] [x11, x12]) w5 fun x13 w6 =>
      m R (o_nilCheck x0) w6 fun x14 w7 =>
      m R (o_fieldAddr 178 x14 0) w7 fun x15 w8 =>
      m R (o_store 86 x15 x13) w8 fun _ w9 =>
      R (.returned (.tuple #[])) w9) (
      m R (o_nilCheck x0) w1 fun x18 w10 =>
      m R (o_fieldAddr 178 x18 0) w10 fun x19 w11 =>
      m R (o_load 86 x19) w11 fun x20 w12 =>
      m R (o_buildSlice 86 1 [(0, (.int .u8 0))]) w12 fun x21 w13 =>
      m R (o_builtin .append #[86, 86] 86 [false, false] [x20, x21]) w13 fun x22 w14 =>
      m R (o_nilCheck x0) w14 fun x23 w15 =>
      m R (o_fieldAddr 178 x23 0) w15 fun x24 w16 =>
      m R (o_store 86 x24 x22) w16 fun _ w17 =>
      R (.returned (.tuple #[])) w17))
def A_wire_Writer_Flag : Ann := ⟨[], [], [], [], []⟩
theorem E_wire_Writer_Flag (x0 x1 : Value) (w : World) (R : Ending → World → Prop) : cwp Try.prog A_wire_Writer_Flag (Try.f150.body.getD .skip) (retPost Try.prog Try.f150.results.toList R) (argE [x0, x1]) w = F_wire_Writer_Flag x0 x1 w R := by kernel_rfl
theorem C_wire_Writer_Flag {x0 x1 : Value} {w : World} {R : Ending → World → Prop} (h : F_wire_Writer_Flag x0 x1 w R) : Calls Try.prog 150 #[x0, x1] w R :=
  calls_cwp (A := A_wire_Writer_Flag) (args := [x0, x1]) mixed Try.func150 (c := Try.f150.body.getD .skip) (by kernel_rfl) (by kernel_rfl) (by kernel_rfl) ((E_wire_Writer_Flag x0 x1 w R).mpr h)

/-- bevy/bevyref01.Flag -/
def F_bevyref01_Flag (x0 : Value) (w : World) (R : Ending → World → Prop) : Prop :=
  mif x0 (
    R (.returned (.string (ByteArray.mk #[1]))) w) (
    R (.returned (.string (ByteArray.mk #[0]))) w)
def A_bevyref01_Flag : Ann := ⟨[], [], [], [], []⟩
theorem E_bevyref01_Flag (x0 : Value) (w : World) (R : Ending → World → Prop) : cwp Try.prog A_bevyref01_Flag (Try.f151.body.getD .skip) (retPost Try.prog Try.f151.results.toList R) (argE [x0]) w = F_bevyref01_Flag x0 w R := by kernel_rfl
theorem C_bevyref01_Flag {x0 : Value} {w : World} {R : Ending → World → Prop} (h : F_bevyref01_Flag x0 w R) : Calls Try.prog 151 #[x0] w R :=
  calls_cwp (A := A_bevyref01_Flag) (args := [x0]) mixed Try.func151 (c := Try.f151.body.getD .skip) (by kernel_rfl) (by kernel_rfl) (by kernel_rfl) ((E_bevyref01_Flag x0 w R).mpr h)

/-- math/bits.RotateLeft32 -/
def F_math_bits_RotateLeft32 (x0 x1 : Value) (w : World) (R : Ending → World → Prop) : Prop :=
  m R (o_conv 3 143 x1) w fun x7 w1 =>
  m R (o_bin .and 143 true x7 (.int .u64 31)) w1 fun x8 w2 =>
  m R (o_bin .shl 149 false x0 x8) w2 fun x11 w3 =>
  m R (o_bin .sub 143 true (.int .u64 32) x8) w3 fun x14 w4 =>
  m R (o_bin .shr 149 false x0 x14) w4 fun x15 w5 =>
  m R (o_bin .or 149 false x11 x15) w5 fun x16 w6 =>
  R (.returned x16) w6
def A_math_bits_RotateLeft32 : Ann := ⟨[], [], [], [], []⟩
theorem E_math_bits_RotateLeft32 (x0 x1 : Value) (w : World) (R : Ending → World → Prop) : cwp Try.prog A_math_bits_RotateLeft32 (Try.f152.body.getD .skip) (retPost Try.prog Try.f152.results.toList R) (argE [x0, x1]) w = F_math_bits_RotateLeft32 x0 x1 w R := by kernel_rfl
theorem C_math_bits_RotateLeft32 {x0 x1 : Value} {w : World} {R : Ending → World → Prop} (h : F_math_bits_RotateLeft32 x0 x1 w R) : Calls Try.prog 152 #[x0, x1] w R :=
  calls_cwp (A := A_math_bits_RotateLeft32) (args := [x0, x1]) mixed Try.func152 (c := Try.f152.body.getD .skip) (by kernel_rfl) (by kernel_rfl) (by kernel_rfl) ((E_math_bits_RotateLeft32 x0 x1 w R).mpr h)
end Go.Proofs.Ytmjpbomonhjebaa
