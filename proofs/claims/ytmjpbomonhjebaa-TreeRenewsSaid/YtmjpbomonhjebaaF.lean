/- The formulas of the bodies, printed by wip/hoas.py out of the loaded program; each is held against the body by the kernel. -/
import Derived.Test.YtmjpbomonhjebaaFBase
set_option linter.unusedVariables false
namespace Go.Proofs.Ytmjpbomonhjebaa

/-- bevy/bevylaw08.TreeRights -/
def F_bevylaw08_TreeRights (x0 : Value) (w : World) (R : Ending → World → Prop) : Prop :=
  m R (o_box 49 x0) w fun x1 w1 =>
  dq Try.prog w1 (o_load 49 x1) fun x3 =>
  df Try.prog w1 (o_call (fv 31) [x3]) false fun x4 w2 =>
  dp Try.prog (o_un .not x4) fun x5 =>
  mguard x5 false (fun k => df Try.prog w2 (o_call (fv 32) []) false k) w2 fun x7 w3 =>
  qguard x5 false (fun k => dp Try.prog (o_move x7) k) fun x8 =>
  qguard x8 true (fun k => dq Try.prog w3 (o_load 49 x1) k) fun x9 =>
  mguard x8 true (fun k => df Try.prog w3 (o_call (fv 33) [x9]) true k) w3 fun x10 w4 =>
  qguard x8 true (fun k => dq Try.prog w3 (o_load 49 x1) k) fun x11 =>
  mguard x8 true (fun k => df Try.prog w4 (o_call (fv 34) [x11]) false k) w4 fun x12 w5 =>
  qguard x8 true (fun k => dp Try.prog (o_bin .eql 4 false x10 x12) k) fun x13 =>
  qguard x5 false (fun k => dp Try.prog (o_pick x8 x13 (.bool false)) k) fun x14 =>
  dp Try.prog (o_pick x5 (.bool true) x14) fun x15 =>
  dend w5 fun w6 =>
  R (.returned x15) w6
def A_bevylaw08_TreeRights : Ann := ⟨[], [], [(1, [⟨0, .q (some 0), 2, 0, 8⟩, ⟨1, .f 0 false, 8, 1, 16⟩, ⟨2, .q none, 16, 3, 32⟩, ⟨3, .q none, 32, 7, 64⟩, ⟨4, .f 1 false, 64, 15, 128⟩, ⟨5, .q none, 192, 31, 256⟩, ⟨6, .q (some 2), 258, 63, 512⟩, ⟨7, .f 2 true, 768, 127, 1024⟩, ⟨8, .q (some 2), 258, 63, 2048⟩, ⟨9, .f 3 false, 2304, 511, 4096⟩, ⟨10, .q none, 5376, 1023, 8192⟩, ⟨11, .q none, 8512, 2047, 16384⟩, ⟨12, .q none, 16448, 4095, 32768⟩, ⟨13, .q none, 32768, 8191, 4⟩])], [], []⟩
theorem E_bevylaw08_TreeRights (x0 : Value) (w : World) (R : Ending → World → Prop) : cwp Try.prog A_bevylaw08_TreeRights (Try.f8.body.getD .skip) (retPost Try.prog Try.f8.results.toList R) (argE [x0]) w = F_bevylaw08_TreeRights x0 w R := by kernel_rfl
theorem C_bevylaw08_TreeRights {x0 : Value} {w : World} {R : Ending → World → Prop} (h : F_bevylaw08_TreeRights x0 w R) : Calls Try.prog 8 #[x0] w R :=
  calls_cwp (A := A_bevylaw08_TreeRights) (args := [x0]) mixed Try.func8 (c := Try.f8.body.getD .skip) (by kernel_rfl) (by kernel_rfl) (by kernel_rfl) ((E_bevylaw08_TreeRights x0 w R).mpr h)

/-- bevy/bevylaw08.TreeAdds -/
def F_bevylaw08_TreeAdds (x0 x1 : Value) (w : World) (R : Ending → World → Prop) : Prop :=
  m R (o_box 49 x0) w fun x2 w1 =>
  m R (o_box 52 x1) w1 fun x3 w2 =>
  mj1 (fun j2 =>
    m R (o_load 49 x2) w2 fun x11 w3 =>
    m R (o_call (fv 31) [x11]) w3 fun x12 w4 =>
    m R (o_un .not x12) w4 fun x13 w5 =>
    mguard x13 false (fun k => m R (o_load 49 x2) w5 k) w5 fun x15 w6 =>
    mguard x13 false (fun k => m R (o_call (fv 34) [x15]) w6 k) w6 fun x16 w7 =>
    mguard x13 false (fun k => m R (o_un .not x16) w7 k) w7 fun x17 w8 =>
    m R (o_pick x13 (.bool true) x17) w8 fun x18 w9 =>
    j2 x18 w9) fun x18 u2 w10 =>
  mif x18 (
    m R (o_call (fv 32) []) w10 fun x19 w11 =>
    R (.returned x19) w11) (
    m R (o_load 49 x2) w10 fun x21 w12 =>
    m R (o_load 52 x3) w12 fun x22 w13 =>
    m R (o_call (fv 35) [x21, x22]) w13 fun x23 w14 =>
    m R (o_extract x23 0) w14 fun x24 w15 =>
    m R (o_extract x23 1) w15 fun x25 w16 =>
    m R (o_extract x23 2) w16 fun x26 w17 =>
    m R (o_alloc 49) w17 fun x5 w18 =>
    m R (o_store 49 x5 x24) w18 fun _ w19 =>
    m R (o_load 49 x2) w19 fun x28 w20 =>
    m R (o_load 52 x3) w20 fun x29 w21 =>
    m R (o_call (fv 36) [x28, x29]) w21 fun x30 w22 =>
    m R (o_extract x30 0) w22 fun x31 w23 =>
    m R (o_extract x30 1) w23 fun x32 w24 =>
    m R (o_extract x30 2) w24 fun x33 w25 =>
    m R (o_alloc 49) w25 fun x8 w26 =>
    m R (o_store 49 x8 x31) w26 fun _ w27 =>
    m R (o_call (fv 32) []) w27 fun x34 w28 =>
    mguard x34 true (fun k => m R (o_move x26) w28 k) w28 fun x36 w29 =>
    mguard x34 true (fun k => m R (o_move x33) w29 k) w29 fun x37 w30 =>
    mguard x34 true (fun k => m R (o_bin .eql 3 false x36 x37) w30 k) w30 fun x38 w31 =>
    m R (o_pick x34 x38 (.bool false)) w31 fun x39 w32 =>
    mguard x39 true (fun k => m R (o_move x25) w32 k) w32 fun x41 w33 =>
    mguard x39 true (fun k => m R (o_move x32) w33 k) w33 fun x42 w34 =>
    mguard x39 true (fun k => m R (o_bin .eql 3 false x41 x42) w34 k) w34 fun x43 w35 =>
    m R (o_pick x39 x43 (.bool false)) w35 fun x44 w36 =>
    mguard x44 true (fun k => m R (o_load 49 x5) w36 k) w36 fun x46 w37 =>
    mguard x44 true (fun k => m R (o_load 49 x8) w37 k) w37 fun x47 w38 =>
    mguard x44 true (fun k => m R (o_call (fv 37) [x46, x47]) w38 k) w38 fun x48 w39 =>
    m R (o_pick x44 x48 (.bool false)) w39 fun x49 w40 =>
    R (.returned x49) w40)
def A_bevylaw08_TreeAdds : Ann := ⟨[], [(2, [18], 522240)], [], [], []⟩
theorem E_bevylaw08_TreeAdds (x0 x1 : Value) (w : World) (R : Ending → World → Prop) : cwp Try.prog A_bevylaw08_TreeAdds (Try.f9.body.getD .skip) (retPost Try.prog Try.f9.results.toList R) (argE [x0, x1]) w = F_bevylaw08_TreeAdds x0 x1 w R := by kernel_rfl
theorem C_bevylaw08_TreeAdds {x0 x1 : Value} {w : World} {R : Ending → World → Prop} (h : F_bevylaw08_TreeAdds x0 x1 w R) : Calls Try.prog 9 #[x0, x1] w R :=
  calls_cwp (A := A_bevylaw08_TreeAdds) (args := [x0, x1]) mixed Try.func9 (c := Try.f9.body.getD .skip) (by kernel_rfl) (by kernel_rfl) (by kernel_rfl) ((E_bevylaw08_TreeAdds x0 x1 w R).mpr h)

/-- bevy/bevylaw08.TreeRemoves -/
def F_bevylaw08_TreeRemoves (x0 x1 : Value) (w : World) (R : Ending → World → Prop) : Prop :=
  m R (o_box 49 x0) w fun x2 w1 =>
  mj1 (fun j2 =>
    m R (o_load 49 x2) w1 fun x9 w2 =>
    m R (o_call (fv 31) [x9]) w2 fun x10 w3 =>
    m R (o_un .not x10) w3 fun x11 w4 =>
    mguard x11 false (fun k => m R (o_load 49 x2) w4 k) w4 fun x13 w5 =>
    mguard x11 false (fun k => m R (o_call (fv 34) [x13]) w5 k) w5 fun x14 w6 =>
    mguard x11 false (fun k => m R (o_un .not x14) w6 k) w6 fun x15 w7 =>
    m R (o_pick x11 (.bool true) x15) w7 fun x16 w8 =>
    j2 x16 w8) fun x16 u2 w9 =>
  mif x16 (
    m R (o_call (fv 32) []) w9 fun x17 w10 =>
    R (.returned x17) w10) (
    m R (o_load 49 x2) w9 fun x19 w11 =>
    m R (o_call (fv 38) [x19, x1]) w11 fun x21 w12 =>
    m R (o_extract x21 0) w12 fun x22 w13 =>
    m R (o_extract x21 1) w13 fun x23 w14 =>
    m R (o_alloc 49) w14 fun x5 w15 =>
    m R (o_store 49 x5 x22) w15 fun _ w16 =>
    m R (o_load 49 x2) w16 fun x25 w17 =>
    m R (o_call (fv 39) [x25, x1]) w17 fun x27 w18 =>
    m R (o_extract x27 0) w18 fun x28 w19 =>
    m R (o_extract x27 1) w19 fun x29 w20 =>
    m R (o_alloc 49) w20 fun x7 w21 =>
    m R (o_store 49 x7 x28) w21 fun _ w22 =>
    m R (o_call (fv 32) []) w22 fun x30 w23 =>
    mguard x30 true (fun k => m R (o_move x23) w23 k) w23 fun x32 w24 =>
    mguard x30 true (fun k => m R (o_move x29) w24 k) w24 fun x33 w25 =>
    mguard x30 true (fun k => m R (o_bin .eql 3 false x32 x33) w25 k) w25 fun x34 w26 =>
    m R (o_pick x30 x34 (.bool false)) w26 fun x35 w27 =>
    mguard x35 true (fun k => m R (o_load 49 x5) w27 k) w27 fun x37 w28 =>
    mguard x35 true (fun k => m R (o_load 49 x7) w28 k) w28 fun x38 w29 =>
    mguard x35 true (fun k => m R (o_call (fv 37) [x37, x38]) w29 k) w29 fun x39 w30 =>
    m R (o_pick x35 x39 (.bool false)) w30 fun x40 w31 =>
    R (.returned x40) w31)
def A_bevylaw08_TreeRemoves : Ann := ⟨[], [(2, [16], 130560)], [], [], []⟩
theorem E_bevylaw08_TreeRemoves (x0 x1 : Value) (w : World) (R : Ending → World → Prop) : cwp Try.prog A_bevylaw08_TreeRemoves (Try.f10.body.getD .skip) (retPost Try.prog Try.f10.results.toList R) (argE [x0, x1]) w = F_bevylaw08_TreeRemoves x0 x1 w R := by kernel_rfl
theorem C_bevylaw08_TreeRemoves {x0 x1 : Value} {w : World} {R : Ending → World → Prop} (h : F_bevylaw08_TreeRemoves x0 x1 w R) : Calls Try.prog 10 #[x0, x1] w R :=
  calls_cwp (A := A_bevylaw08_TreeRemoves) (args := [x0, x1]) mixed Try.func10 (c := Try.f10.body.getD .skip) (by kernel_rfl) (by kernel_rfl) (by kernel_rfl) ((E_bevylaw08_TreeRemoves x0 x1 w R).mpr h)

/-- bevy/bevylaw08.TreeRenews -/
def F_bevylaw08_TreeRenews (x0 x1 x2 : Value) (w : World) (R : Ending → World → Prop) : Prop :=
  m R (o_box 49 x0) w fun x3 w1 =>
  m R (o_box 23 x2) w1 fun x5 w2 =>
  mj1 (fun j2 =>
    m R (o_load 49 x3) w2 fun x11 w3 =>
    m R (o_call (fv 31) [x11]) w3 fun x12 w4 =>
    m R (o_un .not x12) w4 fun x13 w5 =>
    mguard x13 false (fun k => m R (o_load 49 x3) w5 k) w5 fun x15 w6 =>
    mguard x13 false (fun k => m R (o_call (fv 34) [x15]) w6 k) w6 fun x16 w7 =>
    mguard x13 false (fun k => m R (o_un .not x16) w7 k) w7 fun x17 w8 =>
    m R (o_pick x13 (.bool true) x17) w8 fun x18 w9 =>
    j2 x18 w9) fun x18 u2 w10 =>
  mif x18 (
    m R (o_call (fv 32) []) w10 fun x19 w11 =>
    R (.returned x19) w11) (
    m R (o_load 49 x3) w10 fun x21 w12 =>
    m R (o_load 23 x5) w12 fun x23 w13 =>
    m R (o_call (fv 40) [x21, x1, x23]) w13 fun x24 w14 =>
    m R (o_extract x24 0) w14 fun x25 w15 =>
    m R (o_extract x24 1) w15 fun x26 w16 =>
    m R (o_alloc 49) w16 fun x7 w17 =>
    m R (o_store 49 x7 x25) w17 fun _ w18 =>
    m R (o_load 49 x3) w18 fun x28 w19 =>
    m R (o_load 23 x5) w19 fun x30 w20 =>
    m R (o_call (fv 41) [x28, x1, x30]) w20 fun x31 w21 =>
    m R (o_extract x31 0) w21 fun x32 w22 =>
    m R (o_extract x31 1) w22 fun x33 w23 =>
    m R (o_alloc 49) w23 fun x9 w24 =>
    m R (o_store 49 x9 x32) w24 fun _ w25 =>
    m R (o_call (fv 32) []) w25 fun x34 w26 =>
    mguard x34 true (fun k => m R (o_move x26) w26 k) w26 fun x36 w27 =>
    mguard x34 true (fun k => m R (o_move x33) w27 k) w27 fun x37 w28 =>
    mguard x34 true (fun k => m R (o_bin .eql 3 false x36 x37) w28 k) w28 fun x38 w29 =>
    m R (o_pick x34 x38 (.bool false)) w29 fun x39 w30 =>
    mguard x39 true (fun k => m R (o_load 49 x7) w30 k) w30 fun x41 w31 =>
    mguard x39 true (fun k => m R (o_load 49 x9) w31 k) w31 fun x42 w32 =>
    mguard x39 true (fun k => m R (o_call (fv 37) [x41, x42]) w32 k) w32 fun x43 w33 =>
    m R (o_pick x39 x43 (.bool false)) w33 fun x44 w34 =>
    R (.returned x44) w34)
def A_bevylaw08_TreeRenews : Ann := ⟨[], [(2, [18], 522240)], [], [], []⟩
theorem E_bevylaw08_TreeRenews (x0 x1 x2 : Value) (w : World) (R : Ending → World → Prop) : cwp Try.prog A_bevylaw08_TreeRenews (Try.f11.body.getD .skip) (retPost Try.prog Try.f11.results.toList R) (argE [x0, x1, x2]) w = F_bevylaw08_TreeRenews x0 x1 x2 w R := by kernel_rfl
theorem C_bevylaw08_TreeRenews {x0 x1 x2 : Value} {w : World} {R : Ending → World → Prop} (h : F_bevylaw08_TreeRenews x0 x1 x2 w R) : Calls Try.prog 11 #[x0, x1, x2] w R :=
  calls_cwp (A := A_bevylaw08_TreeRenews) (args := [x0, x1, x2]) mixed Try.func11 (c := Try.f11.body.getD .skip) (by kernel_rfl) (by kernel_rfl) (by kernel_rfl) ((E_bevylaw08_TreeRenews x0 x1 x2 w R).mpr h)

/-- bevy/bevylaw08.few -/
def F_bevylaw08_few (x0 : Value) (w : World) (R : Ending → World → Prop) : Prop :=
  m R (o_box 49 x0) w fun x1 w1 =>
  mj1 (fun j2 =>
    m R (o_fieldAddr 49 x1 0) w1 fun x4 w2 =>
    m R (o_load 46 x4) w2 fun x5 w3 =>
    m R (o_builtin .len #[46] 3 [false] [x5]) w3 fun x6 w4 =>
    m R (o_bin .gtr 3 true x6 (.int .i64 100)) w4 fun x7 w5 =>
    mguard x7 false (fun k => m R (o_fieldAddr 49 x1 1) w5 k) w5 fun x9 w6 =>
    mguard x7 false (fun k => m R (o_load 47 x9) w6 k) w6 fun x10 w7 =>
    mguard x7 false (fun k => m R (o_builtin .len #[47] 3 [false] [x10]) w7 k) w7 fun x11 w8 =>
    mguard x7 false (fun k => m R (o_bin .gtr 3 true x11 (.int .i64 100)) w8 k) w8 fun x12 w9 =>
    m R (o_pick x7 (.bool true) x12) w9 fun x13 w10 =>
    j2 x13 w10) fun x13 u2 w11 =>
  mif x13 (
    R (.returned (.bool false)) w11) (
    ml1 (.int .i64 0) w11 fun x3 u4 w12 next4 =>
      m R (o_fieldAddr 49 x1 1) w12 fun x15 w13 =>
      m R (o_load 47 x15) w13 fun x16 w14 =>
      m R (o_builtin .len #[47] 3 [false] [x16]) w14 fun x17 w15 =>
      m R (o_bin .lss 3 false x3 x17) w15 fun x18 w16 =>
      mif x18 (
        m R (o_fieldAddr 49 x1 1) w16 fun x21 w17 =>
        m R (o_load 47 x21) w17 fun x22 w18 =>
        m R (o_indexAddr 47 x22 x3) w18 fun x24 w19 =>
        m R (o_fieldAddr 104 x24 3) w19 fun x25 w20 =>
        m R (o_load 69 x25) w20 fun x26 w21 =>
        m R (o_builtin .len #[69] 3 [false] [x26]) w21 fun x27 w22 =>
        m R (o_bin .gtr 3 true x27 (.int .i64 100)) w22 fun x28 w23 =>
        mif x28 (
          R (.returned (.bool false)) w23) (
          m R (o_bin .add 3 true x3 (.int .i64 1)) w23 fun x20 w24 =>
          next4 x20 w24)) (
        R (.returned (.bool true)) w16))
def A_bevylaw08_few : Ann := ⟨[(4, [3], 536854540)], [(2, [13], 16368)], [], [], []⟩
theorem E_bevylaw08_few (x0 : Value) (w : World) (R : Ending → World → Prop) : cwp Try.prog A_bevylaw08_few (Try.f31.body.getD .skip) (retPost Try.prog Try.f31.results.toList R) (argE [x0]) w = F_bevylaw08_few x0 w R := by kernel_rfl
theorem C_bevylaw08_few {x0 : Value} {w : World} {R : Ending → World → Prop} (h : F_bevylaw08_few x0 w R) : Calls Try.prog 31 #[x0] w R :=
  calls_cwp (A := A_bevylaw08_few) (args := [x0]) mixed Try.func31 (c := Try.f31.body.getD .skip) (by kernel_rfl) (by kernel_rfl) (by kernel_rfl) ((E_bevylaw08_few x0 w R).mpr h)

/-- bevy/bevylaw08.awake -/
def F_bevylaw08_awake (w : World) (R : Ending → World → Prop) : Prop :=
  m R (o_alloc 49) w fun x1 w1 =>
  m R (o_build 105 [(0, (.int .i64 5)), (1, (.int .i64 2)), (2, (.int .i64 9))]) w1 fun x11 w2 =>
  ml1 (.int .i64 0) w2 fun x12 u4 w3 next4 =>
    m R (o_bin .lss 3 true x12 (.int .i64 3)) w3 fun x13 w4 =>
    mif x13 (
      m R (o_index 105 x11 x12) w4 fun x15 w5 =>
      m R (o_load 49 x1) w5 fun x17 w6 =>
      m R (o_build 52 [(0, x15)]) w6 fun x19 w7 =>
      m R (o_call (fv 35) [x17, x19]) w7 fun x20 w8 =>
      m R (o_extract x20 0) w8 fun x21 w9 =>
      m R (o_extract x20 1) w9 fun x22 w10 =>
      m R (o_extract x20 2) w10 fun x23 w11 =>
      m R (o_store 49 x1 x21) w11 fun _ w12 =>
      mj1 (fun j9 =>
        m R (o_bin .neq 37 true x23 (.int .i64 0)) w12 fun x25 w13 =>
        mguard x25 false (fun k => m R (o_move x22) w13 k) w13 fun x27 w14 =>
        mguard x25 false (fun k => m R (o_move x12) w14 k) w14 fun x28 w15 =>
        mguard x25 false (fun k => m R (o_bin .neq 3 false x27 x28) w15 k) w15 fun x29 w16 =>
        m R (o_pick x25 (.bool true) x29) w16 fun x30 w17 =>
        j9 x30 w17) fun x30 u9 w18 =>
      mif x30 (
        R (.returned (.bool false)) w18) (
        m R (o_bin .add 3 true x12 (.int .i64 1)) w18 fun x31 w19 =>
        next4 x31 w19)) (
      m R (o_load 49 x1) w4 fun x33 w20 =>
      m R (o_call (fv 38) [x33, (.int .i64 1)]) w20 fun x34 w21 =>
      m R (o_extract x34 0) w21 fun x35 w22 =>
      m R (o_extract x34 1) w22 fun x36 w23 =>
      m R (o_store 49 x1 x35) w23 fun _ w24 =>
      m R (o_load 49 x1) w24 fun x38 w25 =>
      m R (o_build 52 [(0, (.int .i64 7))]) w25 fun x39 w26 =>
      m R (o_call (fv 35) [x38, x39]) w26 fun x40 w27 =>
      m R (o_extract x40 0) w27 fun x41 w28 =>
      m R (o_extract x40 1) w28 fun x42 w29 =>
      m R (o_extract x40 2) w29 fun x43 w30 =>
      m R (o_alloc 49) w30 fun x6 w31 =>
      m R (o_store 49 x6 x41) w31 fun _ w32 =>
      m R (o_load 49 x6) w32 fun x45 w33 =>
      m R (o_call (fv 38) [x45, (.int .i64 2)]) w33 fun x46 w34 =>
      m R (o_extract x46 0) w34 fun x47 w35 =>
      m R (o_extract x46 1) w35 fun x48 w36 =>
      m R (o_alloc 49) w36 fun x9 w37 =>
      m R (o_store 49 x9 x47) w37 fun _ w38 =>
      m R (o_bin .eql 37 true x36 (.int .i64 0)) w38 fun x50 w39 =>
      mguard x50 true (fun k => m R (o_move x43) w39 k) w39 fun x52 w40 =>
      mguard x50 true (fun k => m R (o_bin .eql 37 true x52 (.int .i64 0)) w40 k) w40 fun x53 w41 =>
      m R (o_pick x50 x53 (.bool false)) w41 fun x54 w42 =>
      mguard x54 true (fun k => m R (o_move x42) w42 k) w42 fun x56 w43 =>
      mguard x54 true (fun k => m R (o_bin .eql 3 true x56 (.int .i64 1)) w43 k) w43 fun x57 w44 =>
      m R (o_pick x54 x57 (.bool false)) w44 fun x58 w45 =>
      mguard x58 true (fun k => m R (o_move x48) w45 k) w45 fun x60 w46 =>
      mguard x58 true (fun k => m R (o_bin .eql 37 true x60 (.int .i64 0)) w46 k) w46 fun x61 w47 =>
      m R (o_pick x58 x61 (.bool false)) w47 fun x62 w48 =>
      mguard x62 true (fun k => m R (o_fieldAddr 49 x9 0) w48 k) w48 fun x64 w49 =>
      mguard x62 true (fun k => m R (o_load 46 x64) w49 k) w49 fun x65 w50 =>
      mguard x62 true (fun k => m R (o_builtin .len #[46] 3 [false] [x65]) w50 k) w50 fun x66 w51 =>
      mguard x62 true (fun k => m R (o_bin .eql 3 true x66 (.int .i64 2)) w51 k) w51 fun x67 w52 =>
      m R (o_pick x62 x67 (.bool false)) w52 fun x68 w53 =>
      mguard x68 true (fun k => m R (o_load 49 x9) w53 k) w53 fun x70 w54 =>
      mguard x68 true (fun k => m R (o_call (fv 33) [x70]) w54 k) w54 fun x71 w55 =>
      m R (o_pick x68 x71 (.bool false)) w55 fun x72 w56 =>
      R (.returned x72) w56)
def A_bevylaw08_awake : Ann := ⟨[(4, [12], 4294963261)], [(9, [30], 2130706432)], [], [], []⟩
theorem E_bevylaw08_awake (w : World) (R : Ending → World → Prop) : cwp Try.prog A_bevylaw08_awake (Try.f32.body.getD .skip) (retPost Try.prog Try.f32.results.toList R) (argE []) w = F_bevylaw08_awake w R := by kernel_rfl
theorem C_bevylaw08_awake {w : World} {R : Ending → World → Prop} (h : F_bevylaw08_awake w R) : Calls Try.prog 32 #[] w R :=
  calls_cwp (A := A_bevylaw08_awake) (args := []) mixed Try.func32 (c := Try.f32.body.getD .skip) (by kernel_rfl) (by kernel_rfl) (by kernel_rfl) ((E_bevylaw08_awake w R).mpr h)

/-- bevy/tree.Right -/
def F_tree_Right (x0 : Value) (w : World) (R : Ending → World → Prop) : Prop :=
  m R (o_box 49 x0) w fun x1 w1 =>
  m R (o_fieldAddr 49 x1 0) w1 fun x11 w2 =>
  m R (o_load 46 x11) w2 fun x12 w3 =>
  m R (o_builtin .len #[46] 3 [false] [x12]) w3 fun x13 w4 =>
  mj1 (fun j3 =>
    m R (o_bin .gtr 3 true x13 (.int .i64 64)) w4 fun x15 w5 =>
    mguard x15 false (fun k => m R (o_fieldAddr 49 x1 1) w5 k) w5 fun x17 w6 =>
    mguard x15 false (fun k => m R (o_load 47 x17) w6 k) w6 fun x18 w7 =>
    mguard x15 false (fun k => m R (o_builtin .len #[47] 3 [false] [x18]) w7 k) w7 fun x19 w8 =>
    mguard x15 false (fun k => m R (o_move x13) w8 k) w8 fun x20 w9 =>
    mguard x15 false (fun k => m R (o_bin .sub 3 true x20 (.int .i64 1)) w9 k) w9 fun x21 w10 =>
    mguard x15 false (fun k => m R (o_builtin .max #[3, 3] 3 [false, true] [x21, (.int .i64 0)]) w10 k) w10 fun x22 w11 =>
    mguard x15 false (fun k => m R (o_bin .neq 3 false x19 x22) w11 k) w11 fun x23 w12 =>
    m R (o_pick x15 (.bool true) x23) w12 fun x24 w13 =>
    j3 x24 w13) fun x24 u3 w14 =>
  mif x24 (
    R (.returned (.bool false)) w14) (
    m R (o_alloc 106) w14 fun x4 w15 =>
    m R (o_fieldAddr 49 x1 0) w15 fun x25 w16 =>
    m R (o_load 46 x25) w16 fun x26 w17 =>
    m R (o_builtin .len #[46] 3 [false] [x26]) w17 fun x27 w18 =>
    ml1 (.int .i64 0) w18 fun x28 u6 w19 next6 =>
      m R (o_bin .lss 3 false x28 x27) w19 fun x29 w20 =>
      mif x29 (
        mj0 (fun j12 =>
          m R (o_indexAddr 46 x26 x28) w20 fun x30 w21 =>
          m R (o_load 52 x30) w21 fun x31 w22 =>
          m R (o_alloc 52) w22 fun x6 w23 =>
          m R (o_store 52 x6 x31) w23 fun _ w24 =>
          m R (o_load 52 x6) w24 fun x33 w25 =>
          m R (o_build 52 []) w25 fun x34 w26 =>
          m R (o_bin .eql 52 false x33 x34) w26 fun x35 w27 =>
          mif x35 (
            j12 w27) (
            mj1 (fun j10 =>
              m R (o_fieldAddr 52 x6 0) w27 fun x37 w28 =>
              m R (o_load 3 x37) w28 fun x38 w29 =>
              m R (o_bin .lss 3 true x38 (.int .i64 1)) w29 fun x39 w30 =>
              mguard x39 false (fun k => m R (o_fieldAddr 52 x6 0) w30 k) w30 fun x41 w31 =>
              mguard x39 false (fun k => m R (o_load 3 x41) w31 k) w31 fun x42 w32 =>
              mguard x39 false (fun k => m R (o_bin .gtr 3 true x42 (.int .i64 64)) w32 k) w32 fun x43 w33 =>
              m R (o_pick x39 (.bool true) x43) w33 fun x44 w34 =>
              mguard x44 false (fun k => m R (o_fieldAddr 52 x6 0) w34 k) w34 fun x46 w35 =>
              mguard x44 false (fun k => m R (o_load 3 x46) w35 k) w35 fun x47 w36 =>
              mguard x44 false (fun k => m R (o_indexAddr 106 x4 x47) w36 k) w36 fun x48 w37 =>
              mguard x44 false (fun k => m R (o_load 4 x48) w37 k) w37 fun x49 w38 =>
              m R (o_pick x44 (.bool true) x49) w38 fun x50 w39 =>
              j10 x50 w39) fun x36 u10 w40 =>
            mif x36 (
              R (.returned (.bool false)) w40) (
              m R (o_fieldAddr 52 x6 0) w40 fun x51 w41 =>
              m R (o_load 3 x51) w41 fun x52 w42 =>
              m R (o_indexAddr 106 x4 x52) w42 fun x53 w43 =>
              m R (o_store 4 x53 (.bool true)) w43 fun _ w44 =>
              j12 w44))) fun u12 w45 =>
        m R (o_bin .add 3 true x28 (.int .i64 1)) w45 fun x54 w46 =>
        next6 x54 w46) (
        m R (o_fieldAddr 49 x1 1) w20 fun x55 w47 =>
        m R (o_load 47 x55) w47 fun x56 w48 =>
        m R (o_builtin .len #[47] 3 [false] [x56]) w48 fun x57 w49 =>
        ml1 (.int .i64 0) w49 fun x58 u14 w50 next14 =>
          m R (o_bin .lss 3 false x58 x57) w50 fun x59 w51 =>
          mif x59 (
            m R (o_indexAddr 47 x56 x58) w51 fun x61 w52 =>
            m R (o_load 104 x61) w52 fun x62 w53 =>
            m R (o_alloc 104) w53 fun x8 w54 =>
            m R (o_store 104 x8 x62) w54 fun _ w55 =>
            mj1 (fun j17 =>
              m R (o_fieldAddr 104 x8 0) w55 fun x63 w56 =>
              m R (o_load 4 x63) w56 fun x64 w57 =>
              m R (o_un .not x64) w57 fun x65 w58 =>
              mguard x65 true (fun k => m R (o_load 104 x8) w58 k) w58 fun x67 w59 =>
              mguard x65 true (fun k => m R (o_call (fv 70) [x67]) w59 k) w59 fun x68 w60 =>
              mguard x65 true (fun k => m R (o_un .not x68) w60 k) w60 fun x69 w61 =>
              m R (o_pick x65 x69 (.bool false)) w61 fun x70 w62 =>
              j17 x70 w62) fun x70 u17 w63 =>
            mif x70 (
              R (.returned (.bool false)) w63) (
              m R (o_fieldAddr 104 x8 3) w63 fun x71 w64 =>
              m R (o_load 69 x71) w64 fun x72 w65 =>
              m R (o_builtin .len #[69] 3 [false] [x72]) w65 fun x73 w66 =>
              ml1 (.int .i64 0) w66 fun x74 u19 w67 next19 =>
                m R (o_bin .lss 3 false x74 x73) w67 fun x75 w68 =>
                mif x75 (
                  m R (o_indexAddr 69 x72 x74) w68 fun x77 w69 =>
                  m R (o_load 3 x77) w69 fun x78 w70 =>
                  mj1 (fun j22 =>
                    m R (o_bin .mul 3 true (.int .i64 2) x58) w70 fun x81 w71 =>
                    m R (o_bin .add 3 true x81 (.int .i64 1)) w71 fun x82 w72 =>
                    m R (o_call (fv 71) [x13, x82, x78]) w72 fun x84 w73 =>
                    m R (o_un .not x84) w73 fun x85 w74 =>
                    mguard x85 false (fun k => m R (o_fieldAddr 49 x1 0) w74 k) w74 fun x87 w75 =>
                    mguard x85 false (fun k => m R (o_load 46 x87) w75 k) w75 fun x88 w76 =>
                    mguard x85 false (fun k => m R (o_move x78) w76 k) w76 fun x89 w77 =>
                    mguard x85 false (fun k => m R (o_indexAddr 46 x88 x89) w77 k) w77 fun x90 w78 =>
                    mguard x85 false (fun k => m R (o_fieldAddr 52 x90 0) w78 k) w78 fun x91 w79 =>
                    mguard x85 false (fun k => m R (o_load 3 x91) w79 k) w79 fun x92 w80 =>
                    mguard x85 false (fun k => m R (o_bin .eql 3 true x92 (.int .i64 0)) w80 k) w80 fun x93 w81 =>
                    m R (o_pick x85 (.bool true) x93) w81 fun x94 w82 =>
                    mguard x94 false (fun k => m R (o_move x74) w82 k) w82 fun x96 w83 =>
                    mguard x94 false (fun k => m R (o_bin .gtr 3 true x96 (.int .i64 0)) w83 k) w83 fun x97 w84 =>
                    mguard x94 false (fun k => m R (o_move x97) w84 k) w84 fun x98 w85 =>
                    mguard x98 true (fun k => m R (o_move x78) w85 k) w85 fun x99 w86 =>
                    mguard x98 true (fun k => m R (o_fieldAddr 104 x8 3) w86 k) w86 fun x100 w87 =>
                    mguard x98 true (fun k => m R (o_load 69 x100) w87 k) w87 fun x101 w88 =>
                    mguard x98 true (fun k => m R (o_move x74) w88 k) w88 fun x102 w89 =>
                    mguard x98 true (fun k => m R (o_bin .sub 3 true x102 (.int .i64 1)) w89 k) w89 fun x103 w90 =>
                    mguard x98 true (fun k => m R (o_indexAddr 69 x101 x103) w90 k) w90 fun x104 w91 =>
                    mguard x98 true (fun k => m R (o_load 3 x104) w91 k) w91 fun x105 w92 =>
                    mguard x98 true (fun k => m R (o_bin .leq 3 false x99 x105) w92 k) w92 fun x106 w93 =>
                    mguard x94 false (fun k => m R (o_pick x98 x106 (.bool false)) w93 k) w93 fun x107 w94 =>
                    m R (o_pick x94 (.bool true) x107) w94 fun x108 w95 =>
                    j22 x108 w95) fun x108 u22 w96 =>
                  mif x108 (
                    R (.returned (.bool false)) w96) (
                    m R (o_bin .add 3 true x74 (.int .i64 1)) w96 fun x109 w97 =>
                    next19 x109 w97)) (
                  m R (o_bin .add 3 true x58 (.int .i64 1)) w68 fun x110 w98 =>
                  next14 x110 w98))) (
            m R (o_bin .eql 3 true x13 (.int .i64 0)) w51 fun x112 w99 =>
            mguard x112 false (fun k => m R (o_fieldAddr 49 x1 0) w99 k) w99 fun x114 w100 =>
            mguard x112 false (fun k => m R (o_load 46 x114) w100 k) w100 fun x115 w101 =>
            mguard x112 false (fun k => m R (o_move x13) w101 k) w101 fun x116 w102 =>
            mguard x112 false (fun k => m R (o_bin .sub 3 true x116 (.int .i64 1)) w102 k) w102 fun x117 w103 =>
            mguard x112 false (fun k => m R (o_indexAddr 46 x115 x117) w103 k) w103 fun x118 w104 =>
            mguard x112 false (fun k => m R (o_fieldAddr 52 x118 0) w104 k) w104 fun x119 w105 =>
            mguard x112 false (fun k => m R (o_load 3 x119) w105 k) w105 fun x120 w106 =>
            mguard x112 false (fun k => m R (o_bin .gtr 3 true x120 (.int .i64 0)) w106 k) w106 fun x121 w107 =>
            m R (o_pick x112 (.bool true) x121) w107 fun x122 w108 =>
            R (.returned x122) w108)))
def A_tree_Right : Ann := ⟨[(6, [28], 36028796750528580), (14, [58], 2596148429267413526034872012900228), (19, [74], 1298074214614817441201145501451780)], [(3, [24], 33538048), (12, [], 18014397435740228), (10, [36], 2251731094208512), (17, [70], 2351959869397967831040), (22, [108], 649037106712390543758997453799424)], [], [], []⟩
theorem E_tree_Right (x0 : Value) (w : World) (R : Ending → World → Prop) : cwp Try.prog A_tree_Right (Try.f33.body.getD .skip) (retPost Try.prog Try.f33.results.toList R) (argE [x0]) w = F_tree_Right x0 w R := by kernel_rfl
theorem C_tree_Right {x0 : Value} {w : World} {R : Ending → World → Prop} (h : F_tree_Right x0 w R) : Calls Try.prog 33 #[x0] w R :=
  calls_cwp (A := A_tree_Right) (args := [x0]) mixed Try.func33 (c := Try.f33.body.getD .skip) (by kernel_rfl) (by kernel_rfl) (by kernel_rfl) ((E_tree_Right x0 w R).mpr h)

/-- bevy/bevyref08.Right -/
def F_bevyref08_Right (x0 : Value) (w : World) (R : Ending → World → Prop) : Prop :=
  m R (o_box 49 x0) w fun x1 w1 =>
  m R (o_fieldAddr 49 x1 0) w1 fun x11 w2 =>
  m R (o_load 46 x11) w2 fun x12 w3 =>
  m R (o_builtin .len #[46] 3 [false] [x12]) w3 fun x13 w4 =>
  mj1 (fun j3 =>
    m R (o_bin .gtr 3 true x13 (.int .i64 64)) w4 fun x15 w5 =>
    mguard x15 false (fun k => m R (o_move x13) w5 k) w5 fun x17 w6 =>
    mguard x15 false (fun k => m R (o_bin .gtr 3 true x17 (.int .i64 0)) w6 k) w6 fun x18 w7 =>
    mguard x15 false (fun k => m R (o_move x18) w7 k) w7 fun x19 w8 =>
    mguard x19 true (fun k => m R (o_fieldAddr 49 x1 1) w8 k) w8 fun x20 w9 =>
    mguard x19 true (fun k => m R (o_load 47 x20) w9 k) w9 fun x21 w10 =>
    mguard x19 true (fun k => m R (o_builtin .len #[47] 3 [false] [x21]) w10 k) w10 fun x22 w11 =>
    mguard x19 true (fun k => m R (o_move x13) w11 k) w11 fun x23 w12 =>
    mguard x19 true (fun k => m R (o_bin .sub 3 true x23 (.int .i64 1)) w12 k) w12 fun x24 w13 =>
    mguard x19 true (fun k => m R (o_bin .neq 3 false x22 x24) w13 k) w13 fun x25 w14 =>
    mguard x15 false (fun k => m R (o_pick x19 x25 (.bool false)) w14 k) w14 fun x26 w15 =>
    m R (o_pick x15 (.bool true) x26) w15 fun x27 w16 =>
    mguard x27 false (fun k => m R (o_move x13) w16 k) w16 fun x29 w17 =>
    mguard x27 false (fun k => m R (o_bin .eql 3 true x29 (.int .i64 0)) w17 k) w17 fun x30 w18 =>
    mguard x27 false (fun k => m R (o_move x30) w18 k) w18 fun x31 w19 =>
    mguard x31 true (fun k => m R (o_fieldAddr 49 x1 1) w19 k) w19 fun x32 w20 =>
    mguard x31 true (fun k => m R (o_load 47 x32) w20 k) w20 fun x33 w21 =>
    mguard x31 true (fun k => m R (o_builtin .len #[47] 3 [false] [x33]) w21 k) w21 fun x34 w22 =>
    mguard x31 true (fun k => m R (o_bin .gtr 3 true x34 (.int .i64 0)) w22 k) w22 fun x35 w23 =>
    mguard x27 false (fun k => m R (o_pick x31 x35 (.bool false)) w23 k) w23 fun x36 w24 =>
    m R (o_pick x27 (.bool true) x36) w24 fun x37 w25 =>
    j3 x37 w25) fun x37 u3 w26 =>
  mif x37 (
    R (.returned (.bool false)) w26) (
    ml1 (.int .i64 0) w26 fun x4 u5 w27 next5 =>
      m R (o_bin .lss 3 false x4 x13) w27 fun x40 w28 =>
      mif x40 (
        mj0 (fun j6 =>
          m R (o_fieldAddr 49 x1 0) w28 fun x43 w29 =>
          m R (o_load 46 x43) w29 fun x44 w30 =>
          m R (o_indexAddr 46 x44 x4) w30 fun x46 w31 =>
          m R (o_load 52 x46) w31 fun x47 w32 =>
          m R (o_alloc 52) w32 fun x5 w33 =>
          m R (o_store 52 x5 x47) w33 fun _ w34 =>
          m R (o_load 52 x5) w34 fun x48 w35 =>
          m R (o_build 52 []) w35 fun x49 w36 =>
          m R (o_bin .eql 52 false x48 x49) w36 fun x50 w37 =>
          mif x50 (
            j6 w37) (
            mj1 (fun j10 =>
              m R (o_fieldAddr 52 x5 0) w37 fun x51 w38 =>
              m R (o_load 3 x51) w38 fun x52 w39 =>
              m R (o_bin .lss 3 true x52 (.int .i64 1)) w39 fun x53 w40 =>
              mguard x53 false (fun k => m R (o_fieldAddr 52 x5 0) w40 k) w40 fun x55 w41 =>
              mguard x53 false (fun k => m R (o_load 3 x55) w41 k) w41 fun x56 w42 =>
              mguard x53 false (fun k => m R (o_bin .gtr 3 true x56 (.int .i64 64)) w42 k) w42 fun x57 w43 =>
              m R (o_pick x53 (.bool true) x57) w43 fun x58 w44 =>
              j10 x58 w44) fun x58 u10 w45 =>
            mif x58 (
              R (.returned (.bool false)) w45) (
              ml1 (.int .i64 0) w45 fun x6 u12 w46 next12 =>
                m R (o_bin .lss 3 false x6 x4) w46 fun x61 w47 =>
                mif x61 (
                  dp Try.prog (o_fieldAddr 49 x1 0) fun x64 =>
                  dq Try.prog w47 (o_load 46 x64) fun x65 =>
                  dp Try.prog (o_indexAddr 46 x65 x6) fun x67 =>
                  dp Try.prog (o_fieldAddr 52 x67 0) fun x68 =>
                  dq Try.prog w47 (o_load 3 x68) fun x69 =>
                  dp Try.prog (o_fieldAddr 52 x5 0) fun x70 =>
                  dq Try.prog w47 (o_load 3 x70) fun x71 =>
                  dp Try.prog (o_bin .eql 3 false x69 x71) fun x72 =>
                  dend w47 fun w48 =>
                  mif x72 (
                    R (.returned (.bool false)) w48) (
                    m R (o_bin .add 3 true x6 (.int .i64 1)) w48 fun x63 w49 =>
                    next12 x63 w49)) (
                  j6 w47)))) fun u6 w50 =>
        m R (o_bin .add 3 true x4 (.int .i64 1)) w50 fun x42 w51 =>
        next5 x42 w51) (
        ml1 (.int .i64 0) w28 fun x7 u17 w52 next17 =>
          m R (o_fieldAddr 49 x1 1) w52 fun x74 w53 =>
          m R (o_load 47 x74) w53 fun x75 w54 =>
          m R (o_builtin .len #[47] 3 [false] [x75]) w54 fun x76 w55 =>
          m R (o_bin .lss 3 false x7 x76) w55 fun x77 w56 =>
          mif x77 (
            m R (o_fieldAddr 49 x1 1) w56 fun x80 w57 =>
            m R (o_load 47 x80) w57 fun x81 w58 =>
            m R (o_indexAddr 47 x81 x7) w58 fun x83 w59 =>
            m R (o_load 104 x83) w59 fun x84 w60 =>
            m R (o_alloc 104) w60 fun x8 w61 =>
            m R (o_store 104 x8 x84) w61 fun _ w62 =>
            mj1 (fun j21 =>
              m R (o_fieldAddr 104 x8 0) w62 fun x85 w63 =>
              m R (o_load 4 x85) w63 fun x86 w64 =>
              m R (o_un .not x86) w64 fun x87 w65 =>
              mguard x87 true (fun k => m R (o_fieldAddr 104 x8 1) w65 k) w65 fun x89 w66 =>
              mguard x87 true (fun k => m R (o_load 23 x89) w66 k) w66 fun x90 w67 =>
              mguard x87 true (fun k => m R (o_build 23 []) w67 k) w67 fun x91 w68 =>
              mguard x87 true (fun k => m R (o_bin .neq 23 false x90 x91) w68 k) w68 fun x92 w69 =>
              mguard x87 true (fun k => m R (o_move x92) w69 k) w69 fun x93 w70 =>
              mguard x93 false (fun k => m R (o_fieldAddr 104 x8 2) w70 k) w70 fun x94 w71 =>
              mguard x93 false (fun k => m R (o_load 23 x94) w71 k) w71 fun x95 w72 =>
              mguard x93 false (fun k => m R (o_build 23 []) w72 k) w72 fun x96 w73 =>
              mguard x93 false (fun k => m R (o_bin .neq 23 false x95 x96) w73 k) w73 fun x97 w74 =>
              mguard x87 true (fun k => m R (o_pick x93 (.bool true) x97) w74 k) w74 fun x98 w75 =>
              mguard x87 true (fun k => m R (o_move x98) w75 k) w75 fun x99 w76 =>
              mguard x99 false (fun k => m R (o_fieldAddr 104 x8 3) w76 k) w76 fun x100 w77 =>
              mguard x99 false (fun k => m R (o_load 69 x100) w77 k) w77 fun x101 w78 =>
              mguard x99 false (fun k => m R (o_builtin .len #[69] 3 [false] [x101]) w78 k) w78 fun x102 w79 =>
              mguard x99 false (fun k => m R (o_bin .gtr 3 true x102 (.int .i64 0)) w79 k) w79 fun x103 w80 =>
              mguard x87 true (fun k => m R (o_pick x99 (.bool true) x103) w80 k) w80 fun x104 w81 =>
              m R (o_pick x87 x104 (.bool false)) w81 fun x105 w82 =>
              j21 x105 w82) fun x105 u21 w83 =>
            mif x105 (
              R (.returned (.bool false)) w83) (
              ml1 (.int .i64 0) w83 fun x9 u23 w84 next23 =>
                m R (o_fieldAddr 104 x8 3) w84 fun x107 w85 =>
                m R (o_load 69 x107) w85 fun x108 w86 =>
                m R (o_builtin .len #[69] 3 [false] [x108]) w86 fun x109 w87 =>
                m R (o_bin .lss 3 false x9 x109) w87 fun x110 w88 =>
                mif x110 (
                  m R (o_fieldAddr 104 x8 3) w88 fun x113 w89 =>
                  m R (o_load 69 x113) w89 fun x114 w90 =>
                  m R (o_indexAddr 69 x114 x9) w90 fun x116 w91 =>
                  m R (o_load 3 x116) w91 fun x117 w92 =>
                  mj1 (fun j27 =>
                    m R (o_bin .mul 3 true (.int .i64 2) x7) w92 fun x120 w93 =>
                    m R (o_bin .add 3 true x120 (.int .i64 1)) w93 fun x121 w94 =>
                    m R (o_call (fv 45) [x13, x121, x117]) w94 fun x123 w95 =>
                    m R (o_un .not x123) w95 fun x124 w96 =>
                    mguard x124 false (fun k => m R (o_fieldAddr 49 x1 0) w96 k) w96 fun x126 w97 =>
                    mguard x124 false (fun k => m R (o_load 46 x126) w97 k) w97 fun x127 w98 =>
                    mguard x124 false (fun k => m R (o_move x117) w98 k) w98 fun x128 w99 =>
                    mguard x124 false (fun k => m R (o_indexAddr 46 x127 x128) w99 k) w99 fun x129 w100 =>
                    mguard x124 false (fun k => m R (o_fieldAddr 52 x129 0) w100 k) w100 fun x130 w101 =>
                    mguard x124 false (fun k => m R (o_load 3 x130) w101 k) w101 fun x131 w102 =>
                    mguard x124 false (fun k => m R (o_bin .eql 3 true x131 (.int .i64 0)) w102 k) w102 fun x132 w103 =>
                    m R (o_pick x124 (.bool true) x132) w103 fun x133 w104 =>
                    mguard x133 false (fun k => m R (o_move x9) w104 k) w104 fun x135 w105 =>
                    mguard x133 false (fun k => m R (o_bin .gtr 3 true x135 (.int .i64 0)) w105 k) w105 fun x136 w106 =>
                    mguard x133 false (fun k => m R (o_move x136) w106 k) w106 fun x137 w107 =>
                    mguard x137 true (fun k => m R (o_fieldAddr 104 x8 3) w107 k) w107 fun x138 w108 =>
                    mguard x137 true (fun k => m R (o_load 69 x138) w108 k) w108 fun x139 w109 =>
                    mguard x137 true (fun k => m R (o_move x9) w109 k) w109 fun x140 w110 =>
                    mguard x137 true (fun k => m R (o_bin .sub 3 true x140 (.int .i64 1)) w110 k) w110 fun x141 w111 =>
                    mguard x137 true (fun k => m R (o_indexAddr 69 x139 x141) w111 k) w111 fun x142 w112 =>
                    mguard x137 true (fun k => m R (o_load 3 x142) w112 k) w112 fun x143 w113 =>
                    mguard x137 true (fun k => m R (o_move x117) w113 k) w113 fun x144 w114 =>
                    mguard x137 true (fun k => m R (o_bin .geq 3 false x143 x144) w114 k) w114 fun x145 w115 =>
                    mguard x133 false (fun k => m R (o_pick x137 x145 (.bool false)) w115 k) w115 fun x146 w116 =>
                    m R (o_pick x133 (.bool true) x146) w116 fun x147 w117 =>
                    j27 x147 w117) fun x147 u27 w118 =>
                  mif x147 (
                    R (.returned (.bool false)) w118) (
                    m R (o_bin .add 3 true x9 (.int .i64 1)) w118 fun x112 w119 =>
                    next23 x112 w119)) (
                  m R (o_bin .add 3 true x7 (.int .i64 1)) w88 fun x79 w120 =>
                  next17 x79 w120))) (
            m R (o_bin .eql 3 true x13 (.int .i64 0)) w56 fun x149 w121 =>
            mguard x149 false (fun k => m R (o_fieldAddr 49 x1 0) w121 k) w121 fun x151 w122 =>
            mguard x149 false (fun k => m R (o_load 46 x151) w122 k) w122 fun x152 w123 =>
            mguard x149 false (fun k => m R (o_move x13) w123 k) w123 fun x153 w124 =>
            mguard x149 false (fun k => m R (o_bin .sub 3 true x153 (.int .i64 1)) w124 k) w124 fun x154 w125 =>
            mguard x149 false (fun k => m R (o_indexAddr 46 x152 x154) w125 k) w125 fun x155 w126 =>
            mguard x149 false (fun k => m R (o_fieldAddr 52 x155 0) w126 k) w126 fun x156 w127 =>
            mguard x149 false (fun k => m R (o_load 3 x156) w127 k) w127 fun x157 w128 =>
            mguard x149 false (fun k => m R (o_bin .neq 3 true x157 (.int .i64 0)) w128 k) w128 fun x158 w129 =>
            m R (o_pick x149 (.bool true) x158) w129 fun x159 w130 =>
            R (.returned x159) w130)))
def A_bevyref08_Right : Ann := ⟨[(5, [4], 9444732965464412520564), (12, [6], 9444156504986987003972), (17, [7], 356811923176489970264562047629408044805261188), (23, [9], 356811923176408840626156885680677995090544132)], [(3, [37], 274877890560), (6, [], 9444732956943197405284), (10, [58], 574208952489738240), (21, [105], 81129599728980454027655414546432), (27, [147], 356811922844182971318342524136422019025600512)], [(14, [⟨0, .q none, 2, 0, 18446744073709551616⟩, ⟨1, .q (some 0), 18446744073709551616, 1, 36893488147419103232⟩, ⟨2, .q none, 64, 0, 73786976294838206464⟩, ⟨3, .q none, 110680464442257309696, 7, 147573952589676412928⟩, ⟨4, .q none, 147573952589676412928, 15, 295147905179352825856⟩, ⟨5, .q (some 0), 295147905179352825856, 31, 590295810358705651712⟩, ⟨6, .q none, 32, 0, 1180591620717411303424⟩, ⟨7, .q (some 0), 1180591620717411303424, 64, 2361183241434822606848⟩, ⟨8, .q none, 2951479051793528258560, 255, 4722366482869645213696⟩])], [], []⟩
theorem E_bevyref08_Right (x0 : Value) (w : World) (R : Ending → World → Prop) : cwp Try.prog A_bevyref08_Right (Try.f34.body.getD .skip) (retPost Try.prog Try.f34.results.toList R) (argE [x0]) w = F_bevyref08_Right x0 w R := by kernel_rfl
theorem C_bevyref08_Right {x0 : Value} {w : World} {R : Ending → World → Prop} (h : F_bevyref08_Right x0 w R) : Calls Try.prog 34 #[x0] w R :=
  calls_cwp (A := A_bevyref08_Right) (args := [x0]) mixed Try.func34 (c := Try.f34.body.getD .skip) (by kernel_rfl) (by kernel_rfl) (by kernel_rfl) ((E_bevyref08_Right x0 w R).mpr h)

/-- bevy/tree.Add -/
def F_tree_Add (x0 x1 : Value) (w : World) (R : Ending → World → Prop) : Prop :=
  m R (o_box 49 x0) w fun x2 w1 =>
  m R (o_box 52 x1) w1 fun x3 w2 =>
  m R (o_alloc 49) w2 fun x4 w3 =>
  mj1 (fun j2 =>
    m R (o_load 49 x2) w3 fun x14 w4 =>
    m R (o_call (fv 33) [x14]) w4 fun x15 w5 =>
    m R (o_un .not x15) w5 fun x16 w6 =>
    mguard x16 false (fun k => m R (o_fieldAddr 52 x3 0) w6 k) w6 fun x18 w7 =>
    mguard x16 false (fun k => m R (o_load 3 x18) w7 k) w7 fun x19 w8 =>
    mguard x16 false (fun k => m R (o_bin .lss 3 true x19 (.int .i64 1)) w8 k) w8 fun x20 w9 =>
    m R (o_pick x16 (.bool true) x20) w9 fun x21 w10 =>
    mguard x21 false (fun k => m R (o_fieldAddr 52 x3 0) w10 k) w10 fun x23 w11 =>
    mguard x21 false (fun k => m R (o_load 3 x23) w11 k) w11 fun x24 w12 =>
    mguard x21 false (fun k => m R (o_bin .gtr 3 true x24 (.int .i64 64)) w12 k) w12 fun x25 w13 =>
    m R (o_pick x21 (.bool true) x25) w13 fun x26 w14 =>
    j2 x26 w14) fun x13 u2 w15 =>
  mif x13 (
    m R (o_build 49 []) w15 fun x27 w16 =>
    m R (o_store 49 x4 x27) w16 fun _ w17 =>
    rcell Try.prog 49 x4 w17 fun r4 =>
    R (.returned (.tuple #[r4, (.int .i64 0), (.int .i64 1)])) w17) (
    m R (o_load 49 x2) w15 fun x29 w18 =>
    m R (o_fieldAddr 52 x3 0) w18 fun x30 w19 =>
    m R (o_load 3 x30) w19 fun x31 w20 =>
    m R (o_call (fv 72) [x29, x31]) w20 fun x32 w21 =>
    m R (o_bin .geq 3 true x32 (.int .i64 0)) w21 fun x33 w22 =>
    mif x33 (
      m R (o_build 49 []) w22 fun x34 w23 =>
      m R (o_store 49 x4 x34) w23 fun _ w24 =>
      rcell Try.prog 49 x4 w24 fun r4 =>
      R (.returned (.tuple #[r4, (.int .i64 0), (.int .i64 8)])) w24) (
      m R (o_load 49 x2) w22 fun x35 w25 =>
      m R (o_call (fv 73) [x35]) w25 fun x36 w26 =>
      m R (o_store 49 x2 x36) w26 fun _ w27 =>
      m R (o_fieldAddr 49 x2 0) w27 fun x37 w28 =>
      m R (o_load 46 x37) w28 fun x38 w29 =>
      m R (o_build 52 []) w29 fun x39 w30 =>
      m R (o_call (fv 74) [x38, x39]) w30 fun x40 w31 =>
      mj1 (fun j14 =>
        m R (o_bin .lss 3 true x40 (.int .i64 0)) w31 fun x42 w32 =>
        mif x42 (
          m R (o_fieldAddr 49 x2 0) w32 fun x43 w33 =>
          m R (o_load 46 x43) w33 fun x44 w34 =>
          m R (o_builtin .len #[46] 3 [false] [x44]) w34 fun x45 w35 =>
          m R (o_bin .eql 3 true x45 (.int .i64 64)) w35 fun x47 w36 =>
          mif x47 (
            m R (o_build 49 []) w36 fun x48 w37 =>
            m R (o_store 49 x4 x48) w37 fun _ w38 =>
            rcell Try.prog 49 x4 w38 fun r4 =>
            R (.returned (.tuple #[r4, (.int .i64 0), (.int .i64 9)])) w38) (
            mj0 (fun j13 =>
              m R (o_bin .gtr 3 true x45 (.int .i64 0)) w36 fun x50 w39 =>
              mif x50 (
                m R (o_fieldAddr 49 x2 1) w39 fun x51 w40 =>
                m R (o_load 47 x51) w40 fun x52 w41 =>
                m R (o_build 104 []) w41 fun x53 w42 =>
                m R (o_buildSlice 47 1 [(0, x53)]) w42 fun x54 w43 =>
                m R (o_builtin .append #[47, 47] 47 [false, false] [x52, x54]) w43 fun x55 w44 =>
                m R (o_fieldAddr 49 x2 1) w44 fun x56 w45 =>
                m R (o_store 47 x56 x55) w45 fun _ w46 =>
                j13 w46) (
                j13 w39)) fun u13 w47 =>
            m R (o_fieldAddr 49 x2 0) w47 fun x57 w48 =>
            m R (o_load 46 x57) w48 fun x58 w49 =>
            m R (o_build 52 []) w49 fun x59 w50 =>
            m R (o_buildSlice 46 1 [(0, x59)]) w50 fun x60 w51 =>
            m R (o_builtin .append #[46, 46] 46 [false, false] [x58, x60]) w51 fun x61 w52 =>
            m R (o_fieldAddr 49 x2 0) w52 fun x62 w53 =>
            m R (o_store 46 x62 x61) w53 fun _ w54 =>
            j14 x45 w54)) (
          j14 x40 w32)) fun x7 u14 w55 =>
      m R (o_fieldAddr 49 x2 0) w55 fun x63 w56 =>
      m R (o_load 46 x63) w56 fun x64 w57 =>
      m R (o_load 52 x3) w57 fun x66 w58 =>
      m R (o_indexAddr 46 x64 x7) w58 fun x67 w59 =>
      m R (o_store 52 x67 x66) w59 fun _ w60 =>
      m R (o_fieldAddr 49 x2 0) w60 fun x68 w61 =>
      m R (o_load 46 x68) w61 fun x69 w62 =>
      m R (o_builtin .len #[46] 3 [false] [x69]) w62 fun x70 w63 =>
      m R (o_call (fv 75) [x70, x7]) w63 fun x72 w64 =>
      m R (o_builtin .len #[69] 3 [false] [x72]) w64 fun x73 w65 =>
      ml1 (.int .i64 0) w65 fun x74 u16 w66 next16 =>
        m R (o_bin .lss 3 false x74 x73) w66 fun x75 w67 =>
        mif x75 (
          mj0 (fun j22 =>
            m R (o_indexAddr 69 x72 x74) w67 fun x76 w68 =>
            m R (o_load 3 x76) w68 fun x77 w69 =>
            m R (o_fieldAddr 49 x2 1) w69 fun x78 w70 =>
            m R (o_load 47 x78) w70 fun x79 w71 =>
            m R (o_bin .quo 3 true x77 (.int .i64 2)) w71 fun x81 w72 =>
            m R (o_indexAddr 47 x79 x81) w72 fun x82 w73 =>
            m R (o_nilCheck x82) w73 fun x84 w74 =>
            m R (o_fieldAddr 104 x84 0) w74 fun x85 w75 =>
            m R (o_load 4 x85) w75 fun x86 w76 =>
            mif x86 (
              m R (o_nilCheck x82) w76 fun x89 w77 =>
              m R (o_fieldAddr 104 x89 3) w77 fun x90 w78 =>
              m R (o_load 69 x90) w78 fun x91 w79 =>
              m R (o_call (fv 76) [x91, x7]) w79 fun x93 w80 =>
              m R (o_extract x93 0) w80 fun x94 w81 =>
              m R (o_extract x93 1) w81 fun x95 w82 =>
              m R (o_nilCheck x82) w82 fun x98 w83 =>
              m R (o_fieldAddr 104 x98 3) w83 fun x99 w84 =>
              m R (o_load 69 x99) w84 fun x100 w85 =>
              m R (o_buildSlice 69 1 [(0, x7)]) w85 fun x103 w86 =>
              m R (o_call (fv 77) [x100, x94, x103]) w86 fun x104 w87 =>
              m R (o_nilCheck x82) w87 fun x105 w88 =>
              m R (o_fieldAddr 104 x105 3) w88 fun x106 w89 =>
              m R (o_store 69 x106 x104) w89 fun _ w90 =>
              j22 w90) (
              j22 w76)) fun u22 w91 =>
          m R (o_bin .add 3 true x74 (.int .i64 1)) w91 fun x107 w92 =>
          next16 x107 w92) (
          m R (o_load 49 x2) w67 fun x108 w93 =>
          m R (o_store 49 x4 x108) w93 fun _ w94 =>
          rcell Try.prog 49 x4 w94 fun r4 =>
          R (.returned (.tuple #[r4, x7, (.int .i64 0)])) w94)))
def A_tree_Add : Ann := ⟨[(16, [74], 324518553639537260851677439729152)], [(2, [13], 134209536), (14, [7], 9223369837831520480), (13, [], 143552238122434560), (22, [], 162259276753655499665663686876672)], [], [], []⟩
theorem E_tree_Add (x0 x1 : Value) (w : World) (R : Ending → World → Prop) : cwp Try.prog A_tree_Add (Try.f35.body.getD .skip) (retPost Try.prog Try.f35.results.toList R) (argE [x0, x1]) w = F_tree_Add x0 x1 w R := by kernel_rfl
theorem C_tree_Add {x0 x1 : Value} {w : World} {R : Ending → World → Prop} (h : F_tree_Add x0 x1 w R) : Calls Try.prog 35 #[x0, x1] w R :=
  calls_cwp (A := A_tree_Add) (args := [x0, x1]) mixed Try.func35 (c := Try.f35.body.getD .skip) (by kernel_rfl) (by kernel_rfl) (by kernel_rfl) ((E_tree_Add x0 x1 w R).mpr h)

/-- bevy/bevyref08.Add -/
def F_bevyref08_Add (x0 x1 : Value) (w : World) (R : Ending → World → Prop) : Prop :=
  m R (o_box 49 x0) w fun x2 w1 =>
  m R (o_box 52 x1) w1 fun x3 w2 =>
  m R (o_alloc 49) w2 fun x4 w3 =>
  mj1 (fun j2 =>
    m R (o_fieldAddr 52 x3 0) w3 fun x9 w4 =>
    m R (o_load 3 x9) w4 fun x10 w5 =>
    m R (o_bin .lss 3 true x10 (.int .i64 1)) w5 fun x11 w6 =>
    mguard x11 false (fun k => m R (o_fieldAddr 52 x3 0) w6 k) w6 fun x13 w7 =>
    mguard x11 false (fun k => m R (o_load 3 x13) w7 k) w7 fun x14 w8 =>
    mguard x11 false (fun k => m R (o_bin .gtr 3 true x14 (.int .i64 64)) w8 k) w8 fun x15 w9 =>
    m R (o_pick x11 (.bool true) x15) w9 fun x16 w10 =>
    j2 x16 w10) fun x16 u2 w11 =>
  mif x16 (
    m R (o_build 49 []) w11 fun x17 w12 =>
    m R (o_store 49 x4 x17) w12 fun _ w13 =>
    rcell Try.prog 49 x4 w13 fun r4 =>
    R (.returned (.tuple #[r4, (.int .i64 0), (.int .i64 1)])) w13) (
    m R (o_load 49 x2) w11 fun x18 w14 =>
    m R (o_fieldAddr 52 x3 0) w14 fun x19 w15 =>
    m R (o_load 3 x19) w15 fun x20 w16 =>
    m R (o_call (fv 78) [x18, x20]) w16 fun x21 w17 =>
    m R (o_bin .geq 3 true x21 (.int .i64 0)) w17 fun x22 w18 =>
    mif x22 (
      m R (o_build 49 []) w18 fun x23 w19 =>
      m R (o_store 49 x4 x23) w19 fun _ w20 =>
      rcell Try.prog 49 x4 w20 fun r4 =>
      R (.returned (.tuple #[r4, (.int .i64 0), (.int .i64 8)])) w20) (
      m R (o_load 49 x2) w18 fun x24 w21 =>
      m R (o_call (fv 79) [x24]) w21 fun x25 w22 =>
      m R (o_store 49 x2 x25) w22 fun _ w23 =>
      ml1 (.int .i64 0) w23 fun x7 u7 w24 next7 =>
        mj0 (fun j8 =>
          m R (o_fieldAddr 49 x2 0) w24 fun x27 w25 =>
          m R (o_load 46 x27) w25 fun x28 w26 =>
          m R (o_builtin .len #[46] 3 [false] [x28]) w26 fun x29 w27 =>
          m R (o_bin .lss 3 false x7 x29) w27 fun x30 w28 =>
          mguard x30 true (fun k => m R (o_fieldAddr 49 x2 0) w28 k) w28 fun x32 w29 =>
          mguard x30 true (fun k => m R (o_load 46 x32) w29 k) w29 fun x33 w30 =>
          mguard x30 true (fun k => m R (o_move x7) w30 k) w30 fun x34 w31 =>
          mguard x30 true (fun k => m R (o_indexAddr 46 x33 x34) w31 k) w31 fun x35 w32 =>
          mguard x30 true (fun k => m R (o_fieldAddr 52 x35 0) w32 k) w32 fun x36 w33 =>
          mguard x30 true (fun k => m R (o_load 3 x36) w33 k) w33 fun x37 w34 =>
          mguard x30 true (fun k => m R (o_bin .neq 3 true x37 (.int .i64 0)) w34 k) w34 fun x38 w35 =>
          m R (o_pick x30 x38 (.bool false)) w35 fun x39 w36 =>
          mif x39 (
            j8 w36) (
            m R (o_bin .eql 3 true x7 (.int .i64 64)) w36 fun x43 w37 =>
            mif x43 (
              m R (o_build 49 []) w37 fun x44 w38 =>
              m R (o_store 49 x4 x44) w38 fun _ w39 =>
              rcell Try.prog 49 x4 w39 fun r4 =>
              R (.returned (.tuple #[r4, (.int .i64 0), (.int .i64 9)])) w39) (
              mj0 (fun j15 =>
                m R (o_fieldAddr 49 x2 0) w37 fun x46 w40 =>
                m R (o_load 46 x46) w40 fun x47 w41 =>
                m R (o_builtin .len #[46] 3 [false] [x47]) w41 fun x48 w42 =>
                m R (o_bin .eql 3 false x7 x48) w42 fun x49 w43 =>
                mif x49 (
                  mj0 (fun j14 =>
                    m R (o_bin .gtr 3 true x7 (.int .i64 0)) w43 fun x51 w44 =>
                    mif x51 (
                      m R (o_fieldAddr 49 x2 1) w44 fun x52 w45 =>
                      m R (o_load 47 x52) w45 fun x53 w46 =>
                      m R (o_build 104 []) w46 fun x54 w47 =>
                      m R (o_buildSlice 47 1 [(0, x54)]) w47 fun x55 w48 =>
                      m R (o_builtin .append #[47, 47] 47 [false, false] [x53, x55]) w48 fun x56 w49 =>
                      m R (o_fieldAddr 49 x2 1) w49 fun x57 w50 =>
                      m R (o_store 47 x57 x56) w50 fun _ w51 =>
                      j14 w51) (
                      j14 w44)) fun u14 w52 =>
                  m R (o_fieldAddr 49 x2 0) w52 fun x58 w53 =>
                  m R (o_load 46 x58) w53 fun x59 w54 =>
                  m R (o_load 52 x3) w54 fun x60 w55 =>
                  m R (o_buildSlice 46 1 [(0, x60)]) w55 fun x61 w56 =>
                  m R (o_builtin .append #[46, 46] 46 [false, false] [x59, x61]) w56 fun x62 w57 =>
                  m R (o_fieldAddr 49 x2 0) w57 fun x63 w58 =>
                  m R (o_store 46 x63 x62) w58 fun _ w59 =>
                  j15 w59) (
                  j15 w43)) fun u15 w60 =>
              m R (o_fieldAddr 49 x2 0) w60 fun x64 w61 =>
              m R (o_load 46 x64) w61 fun x65 w62 =>
              m R (o_load 52 x3) w62 fun x67 w63 =>
              m R (o_indexAddr 46 x65 x7) w63 fun x68 w64 =>
              m R (o_store 52 x68 x67) w64 fun _ w65 =>
              ml1 (.int .i64 0) w65 fun x8 u17 w66 next17 =>
                m R (o_fieldAddr 49 x2 1) w66 fun x70 w67 =>
                m R (o_load 47 x70) w67 fun x71 w68 =>
                m R (o_builtin .len #[47] 3 [false] [x71]) w68 fun x72 w69 =>
                m R (o_bin .lss 3 false x8 x72) w69 fun x73 w70 =>
                mif x73 (
                  mj0 (fun j18 =>
                    mj1 (fun j20 =>
                      m R (o_fieldAddr 49 x2 1) w70 fun x76 w71 =>
                      m R (o_load 47 x76) w71 fun x77 w72 =>
                      m R (o_indexAddr 47 x77 x8) w72 fun x79 w73 =>
                      m R (o_fieldAddr 104 x79 0) w73 fun x80 w74 =>
                      m R (o_load 4 x80) w74 fun x81 w75 =>
                      mguard x81 true (fun k => m R (o_fieldAddr 49 x2 0) w75 k) w75 fun x83 w76 =>
                      mguard x81 true (fun k => m R (o_load 46 x83) w76 k) w76 fun x84 w77 =>
                      mguard x81 true (fun k => m R (o_builtin .len #[46] 3 [false] [x84]) w77 k) w77 fun x85 w78 =>
                      mguard x81 true (fun k => m R (o_move x8) w78 k) w78 fun x86 w79 =>
                      mguard x81 true (fun k => m R (o_bin .mul 3 true (.int .i64 2) x86) w79 k) w79 fun x87 w80 =>
                      mguard x81 true (fun k => m R (o_bin .add 3 true x87 (.int .i64 1)) w80 k) w80 fun x88 w81 =>
                      mguard x81 true (fun k => m R (o_move x7) w81 k) w81 fun x89 w82 =>
                      mguard x81 true (fun k => m R (o_call (fv 45) [x85, x88, x89]) w82 k) w82 fun x90 w83 =>
                      m R (o_pick x81 x90 (.bool false)) w83 fun x91 w84 =>
                      j20 x91 w84) fun x91 u20 w85 =>
                    mif x91 (
                      dp Try.prog (o_fieldAddr 49 x2 1) fun x92 =>
                      dq Try.prog w85 (o_load 47 x92) fun x93 =>
                      dp Try.prog (o_fieldAddr 49 x2 1) fun x95 =>
                      dq Try.prog w85 (o_load 47 x95) fun x96 =>
                      dp Try.prog (o_indexAddr 47 x96 x8) fun x98 =>
                      dp Try.prog (o_fieldAddr 104 x98 3) fun x99 =>
                      dq Try.prog w85 (o_load 69 x99) fun x100 =>
                      df Try.prog w85 (o_call (fv 80) [x100, x7]) true fun x102 w86 =>
                      dp Try.prog (o_indexAddr 47 x93 x8) fun x103 =>
                      dp Try.prog (o_fieldAddr 104 x103 3) fun x104 =>
                      df Try.prog w86 (o_store 69 x104 x102) false fun _ w87 =>
                      dend w87 fun w88 =>
                      j18 w88) (
                      j18 w85)) fun u18 w89 =>
                  m R (o_bin .add 3 true x8 (.int .i64 1)) w89 fun x75 w90 =>
                  next17 x75 w90) (
                  m R (o_load 49 x2) w70 fun x105 w91 =>
                  m R (o_store 49 x4 x105) w91 fun _ w92 =>
                  rcell Try.prog 49 x4 w92 fun r4 =>
                  R (.returned (.tuple #[r4, x7, (.int .i64 0)])) w92)))) fun u8 w93 =>
        m R (o_bin .add 3 true x7 (.int .i64 1)) w93 fun x41 w94 =>
        next7 x41 w94))
def A_bevyref08_Add : Ann := ⟨[(7, [7], 4397979402368), (17, [8], 40564819206713045037535796920576)], [(2, [16], 130560), (8, [], 1099444518912), (15, [], 18446708889337462784), (14, [], 287104476244869120), (18, [], 40564819131745477121980179152896), (20, [91], 4951684599277795185273077760)], [(20, [⟨0, .q none, 4, 0, 4951760157141521099596496896⟩, ⟨1, .q (some 0), 4951760157141521099596496896, 1, 9903520314283042199192993792⟩, ⟨2, .q none, 256, 0, 19807040628566084398385987584⟩, ⟨3, .q none, 4, 0, 39614081257132168796771975168⟩, ⟨4, .q (some 0), 39614081257132168796771975168, 8, 79228162514264337593543950336⟩, ⟨5, .q none, 256, 0, 158456325028528675187087900672⟩, ⟨6, .q none, 237684487542793012780631851008, 56, 316912650057057350374175801344⟩, ⟨7, .q none, 316912650057057350374175801344, 120, 633825300114114700748351602688⟩, ⟨8, .q (some 0), 633825300114114700748351602688, 248, 1267650600228229401496703205376⟩, ⟨9, .q none, 128, 0, 2535301200456458802993406410752⟩, ⟨10, .f 0 true, 3802951800684688204490109616128, 1016, 5070602400912917605986812821504⟩, ⟨11, .q none, 29710560942849126597578981376, 2047, 10141204801825835211973625643008⟩, ⟨12, .q none, 10141204801825835211973625643008, 4095, 20282409603651670423947251286016⟩, ⟨13, .f 1 false, 25353012004564588029934064107520, 8191, 0⟩])], [], []⟩
theorem E_bevyref08_Add (x0 x1 : Value) (w : World) (R : Ending → World → Prop) : cwp Try.prog A_bevyref08_Add (Try.f36.body.getD .skip) (retPost Try.prog Try.f36.results.toList R) (argE [x0, x1]) w = F_bevyref08_Add x0 x1 w R := by kernel_rfl
theorem C_bevyref08_Add {x0 x1 : Value} {w : World} {R : Ending → World → Prop} (h : F_bevyref08_Add x0 x1 w R) : Calls Try.prog 36 #[x0, x1] w R :=
  calls_cwp (A := A_bevyref08_Add) (args := [x0, x1]) mixed Try.func36 (c := Try.f36.body.getD .skip) (by kernel_rfl) (by kernel_rfl) (by kernel_rfl) ((E_bevyref08_Add x0 x1 w R).mpr h)

/-- bevy/bevyref08.Same -/
def F_bevyref08_Same (x0 x1 : Value) (w : World) (R : Ending → World → Prop) : Prop :=
  m R (o_box 49 x0) w fun x2 w1 =>
  m R (o_box 49 x1) w1 fun x3 w2 =>
  mj1 (fun j2 =>
    m R (o_fieldAddr 49 x2 0) w2 fun x9 w3 =>
    m R (o_load 46 x9) w3 fun x10 w4 =>
    m R (o_builtin .len #[46] 3 [false] [x10]) w4 fun x11 w5 =>
    m R (o_fieldAddr 49 x3 0) w5 fun x12 w6 =>
    m R (o_load 46 x12) w6 fun x13 w7 =>
    m R (o_builtin .len #[46] 3 [false] [x13]) w7 fun x14 w8 =>
    m R (o_bin .neq 3 false x11 x14) w8 fun x15 w9 =>
    mguard x15 false (fun k => m R (o_fieldAddr 49 x2 1) w9 k) w9 fun x17 w10 =>
    mguard x15 false (fun k => m R (o_load 47 x17) w10 k) w10 fun x18 w11 =>
    mguard x15 false (fun k => m R (o_builtin .len #[47] 3 [false] [x18]) w11 k) w11 fun x19 w12 =>
    mguard x15 false (fun k => m R (o_fieldAddr 49 x3 1) w12 k) w12 fun x20 w13 =>
    mguard x15 false (fun k => m R (o_load 47 x20) w13 k) w13 fun x21 w14 =>
    mguard x15 false (fun k => m R (o_builtin .len #[47] 3 [false] [x21]) w14 k) w14 fun x22 w15 =>
    mguard x15 false (fun k => m R (o_bin .neq 3 false x19 x22) w15 k) w15 fun x23 w16 =>
    m R (o_pick x15 (.bool true) x23) w16 fun x24 w17 =>
    j2 x24 w17) fun x24 u2 w18 =>
  mif x24 (
    R (.returned (.bool false)) w18) (
    ml1 (.int .i64 0) w18 fun x5 u4 w19 next4 =>
      m R (o_fieldAddr 49 x2 0) w19 fun x26 w20 =>
      m R (o_load 46 x26) w20 fun x27 w21 =>
      m R (o_builtin .len #[46] 3 [false] [x27]) w21 fun x28 w22 =>
      m R (o_bin .lss 3 false x5 x28) w22 fun x29 w23 =>
      mif x29 (
        dp Try.prog (o_fieldAddr 49 x2 0) fun x32 =>
        dq Try.prog w23 (o_load 46 x32) fun x33 =>
        dp Try.prog (o_indexAddr 46 x33 x5) fun x35 =>
        dq Try.prog w23 (o_load 52 x35) fun x36 =>
        dp Try.prog (o_fieldAddr 49 x3 0) fun x37 =>
        dq Try.prog w23 (o_load 46 x37) fun x38 =>
        dp Try.prog (o_indexAddr 46 x38 x5) fun x40 =>
        dq Try.prog w23 (o_load 52 x40) fun x41 =>
        dp Try.prog (o_bin .neq 52 false x36 x41) fun x42 =>
        dend w23 fun w24 =>
        mif x42 (
          R (.returned (.bool false)) w24) (
          m R (o_bin .add 3 true x5 (.int .i64 1)) w24 fun x31 w25 =>
          next4 x31 w25)) (
        ml1 (.int .i64 0) w23 fun x6 u9 w26 next9 =>
          m R (o_fieldAddr 49 x2 1) w26 fun x44 w27 =>
          m R (o_load 47 x44) w27 fun x45 w28 =>
          m R (o_builtin .len #[47] 3 [false] [x45]) w28 fun x46 w29 =>
          m R (o_bin .lss 3 false x6 x46) w29 fun x47 w30 =>
          mif x47 (
            m R (o_fieldAddr 49 x2 1) w30 fun x50 w31 =>
            m R (o_load 47 x50) w31 fun x51 w32 =>
            m R (o_indexAddr 47 x51 x6) w32 fun x53 w33 =>
            m R (o_load 104 x53) w33 fun x54 w34 =>
            m R (o_alloc 104) w34 fun x7 w35 =>
            m R (o_store 104 x7 x54) w35 fun _ w36 =>
            m R (o_fieldAddr 49 x3 1) w36 fun x55 w37 =>
            m R (o_load 47 x55) w37 fun x56 w38 =>
            m R (o_indexAddr 47 x56 x6) w38 fun x58 w39 =>
            m R (o_load 104 x58) w39 fun x59 w40 =>
            m R (o_alloc 104) w40 fun x8 w41 =>
            m R (o_store 104 x8 x59) w41 fun _ w42 =>
            mj1 (fun j14 =>
              m R (o_fieldAddr 104 x7 0) w42 fun x60 w43 =>
              m R (o_load 4 x60) w43 fun x61 w44 =>
              m R (o_fieldAddr 104 x8 0) w44 fun x62 w45 =>
              m R (o_load 4 x62) w45 fun x63 w46 =>
              m R (o_bin .neq 4 false x61 x63) w46 fun x64 w47 =>
              mguard x64 false (fun k => m R (o_fieldAddr 104 x7 1) w47 k) w47 fun x66 w48 =>
              mguard x64 false (fun k => m R (o_load 23 x66) w48 k) w48 fun x67 w49 =>
              mguard x64 false (fun k => m R (o_fieldAddr 104 x8 1) w49 k) w49 fun x68 w50 =>
              mguard x64 false (fun k => m R (o_load 23 x68) w50 k) w50 fun x69 w51 =>
              mguard x64 false (fun k => m R (o_bin .neq 23 false x67 x69) w51 k) w51 fun x70 w52 =>
              m R (o_pick x64 (.bool true) x70) w52 fun x71 w53 =>
              mguard x71 false (fun k => m R (o_fieldAddr 104 x7 2) w53 k) w53 fun x73 w54 =>
              mguard x71 false (fun k => m R (o_load 23 x73) w54 k) w54 fun x74 w55 =>
              mguard x71 false (fun k => m R (o_fieldAddr 104 x8 2) w55 k) w55 fun x75 w56 =>
              mguard x71 false (fun k => m R (o_load 23 x75) w56 k) w56 fun x76 w57 =>
              mguard x71 false (fun k => m R (o_bin .neq 23 false x74 x76) w57 k) w57 fun x77 w58 =>
              m R (o_pick x71 (.bool true) x77) w58 fun x78 w59 =>
              mguard x78 false (fun k => m R (o_fieldAddr 104 x7 3) w59 k) w59 fun x80 w60 =>
              mguard x78 false (fun k => m R (o_load 69 x80) w60 k) w60 fun x81 w61 =>
              mguard x78 false (fun k => m R (o_fieldAddr 104 x8 3) w61 k) w61 fun x82 w62 =>
              mguard x78 false (fun k => m R (o_load 69 x82) w62 k) w62 fun x83 w63 =>
              mguard x78 false (fun k => m R (o_call (fv 81) [x81, x83]) w63 k) w63 fun x84 w64 =>
              mguard x78 false (fun k => m R (o_un .not x84) w64 k) w64 fun x85 w65 =>
              m R (o_pick x78 (.bool true) x85) w65 fun x86 w66 =>
              j14 x86 w66) fun x86 u14 w67 =>
            mif x86 (
              R (.returned (.bool false)) w67) (
              m R (o_bin .add 3 true x6 (.int .i64 1)) w67 fun x49 w68 =>
              next9 x49 w68)) (
            R (.returned (.bool true)) w30)))
def A_bevyref08_Same : Ann := ⟨[(4, [5], 8796059467824), (9, [6], 154742504910663738269368784)], [(2, [24], 33553920), (14, [86], 154742503757751029755543552)], [(6, [⟨0, .q none, 4, 0, 4294967296⟩, ⟨1, .q (some 0), 4294967296, 1, 8589934592⟩, ⟨2, .q none, 32, 0, 17179869184⟩, ⟨3, .q none, 25769803776, 7, 34359738368⟩, ⟨4, .q (some 0), 34359738368, 15, 68719476736⟩, ⟨5, .q none, 8, 0, 137438953472⟩, ⟨6, .q (some 0), 137438953472, 32, 274877906944⟩, ⟨7, .q none, 32, 0, 549755813888⟩, ⟨8, .q none, 824633720832, 224, 1099511627776⟩, ⟨9, .q (some 0), 1099511627776, 480, 2199023255552⟩, ⟨10, .q none, 2267742732288, 1023, 4398046511104⟩])], [], []⟩
theorem E_bevyref08_Same (x0 x1 : Value) (w : World) (R : Ending → World → Prop) : cwp Try.prog A_bevyref08_Same (Try.f37.body.getD .skip) (retPost Try.prog Try.f37.results.toList R) (argE [x0, x1]) w = F_bevyref08_Same x0 x1 w R := by kernel_rfl
theorem C_bevyref08_Same {x0 x1 : Value} {w : World} {R : Ending → World → Prop} (h : F_bevyref08_Same x0 x1 w R) : Calls Try.prog 37 #[x0, x1] w R :=
  calls_cwp (A := A_bevyref08_Same) (args := [x0, x1]) mixed Try.func37 (c := Try.f37.body.getD .skip) (by kernel_rfl) (by kernel_rfl) (by kernel_rfl) ((E_bevyref08_Same x0 x1 w R).mpr h)

/-- bevy/tree.Remove -/
def F_tree_Remove (x0 x1 : Value) (w : World) (R : Ending → World → Prop) : Prop :=
  m R (o_box 49 x0) w fun x2 w1 =>
  m R (o_alloc 49) w1 fun x4 w2 =>
  m R (o_load 49 x2) w2 fun x8 w3 =>
  m R (o_call (fv 33) [x8]) w3 fun x9 w4 =>
  m R (o_un .not x9) w4 fun x10 w5 =>
  mif x10 (
    m R (o_build 49 []) w5 fun x11 w6 =>
    m R (o_store 49 x4 x11) w6 fun _ w7 =>
    rcell Try.prog 49 x4 w7 fun r4 =>
    R (.returned (.tuple #[r4, (.int .i64 1)])) w7) (
    m R (o_load 49 x2) w5 fun x13 w8 =>
    m R (o_call (fv 82) [x13, x1]) w8 fun x15 w9 =>
    mif x15 (
      m R (o_build 49 []) w9 fun x16 w10 =>
      m R (o_store 49 x4 x16) w10 fun _ w11 =>
      rcell Try.prog 49 x4 w11 fun r4 =>
      R (.returned (.tuple #[r4, (.int .i64 7)])) w11) (
      m R (o_load 49 x2) w9 fun x17 w12 =>
      m R (o_call (fv 73) [x17]) w12 fun x18 w13 =>
      m R (o_store 49 x2 x18) w13 fun _ w14 =>
      m R (o_fieldAddr 49 x2 0) w14 fun x19 w15 =>
      m R (o_load 46 x19) w15 fun x20 w16 =>
      m R (o_build 52 []) w16 fun x22 w17 =>
      m R (o_indexAddr 46 x20 x1) w17 fun x23 w18 =>
      m R (o_store 52 x23 x22) w18 fun _ w19 =>
      m R (o_load 49 x2) w19 fun x24 w20 =>
      m R (o_call (fv 83) [x24, x1]) w20 fun x26 w21 =>
      m R (o_fieldAddr 49 x2 0) w21 fun x27 w22 =>
      m R (o_load 46 x27) w22 fun x28 w23 =>
      m R (o_builtin .len #[46] 3 [false] [x28]) w23 fun x29 w24 =>
      ml1 x29 w24 fun x6 u9 w25 next9 =>
        mj0 (fun j10 =>
          m R (o_bin .gtr 3 true x6 (.int .i64 0)) w25 fun x31 w26 =>
          mguard x31 true (fun k => m R (o_fieldAddr 49 x2 0) w26 k) w26 fun x33 w27 =>
          mguard x31 true (fun k => m R (o_load 46 x33) w27 k) w27 fun x34 w28 =>
          mguard x31 true (fun k => m R (o_move x6) w28 k) w28 fun x35 w29 =>
          mguard x31 true (fun k => m R (o_bin .sub 3 true x35 (.int .i64 1)) w29 k) w29 fun x36 w30 =>
          mguard x31 true (fun k => m R (o_indexAddr 46 x34 x36) w30 k) w30 fun x37 w31 =>
          mguard x31 true (fun k => m R (o_fieldAddr 52 x37 0) w31 k) w31 fun x38 w32 =>
          mguard x31 true (fun k => m R (o_load 3 x38) w32 k) w32 fun x39 w33 =>
          mguard x31 true (fun k => m R (o_bin .eql 3 true x39 (.int .i64 0)) w33 k) w33 fun x40 w34 =>
          m R (o_pick x31 x40 (.bool false)) w34 fun x41 w35 =>
          mif x41 (
            j10 w35) (
            dp Try.prog (o_fieldAddr 49 x2 0) fun x44 =>
            dq Try.prog w35 (o_load 46 x44) fun x45 =>
            dp Try.prog (o_slice 46 x45 none (some x6) none) fun x47 =>
            dp Try.prog (o_fieldAddr 49 x2 1) fun x48 =>
            dq Try.prog w35 (o_load 47 x48) fun x49 =>
            dp Try.prog (o_bin .sub 3 true x6 (.int .i64 1)) fun x51 =>
            dp Try.prog (o_builtin .max #[3, 3] 3 [false, true] [x51, (.int .i64 0)]) fun x52 =>
            dp Try.prog (o_slice 47 x49 none (some x52) none) fun x53 =>
            dp Try.prog (o_fieldAddr 49 x2 0) fun x54 =>
            df Try.prog w35 (o_store 46 x54 x47) false fun _ w36 =>
            dp Try.prog (o_fieldAddr 49 x2 1) fun x55 =>
            df Try.prog w36 (o_store 47 x55 x53) false fun _ w37 =>
            dend w37 fun w38 =>
            m R (o_load 49 x2) w38 fun x56 w39 =>
            m R (o_store 49 x4 x56) w39 fun _ w40 =>
            rcell Try.prog 49 x4 w40 fun r4 =>
            R (.returned (.tuple #[r4, (.int .i64 0)])) w40)) fun u10 w41 =>
        m R (o_bin .sub 3 true x6 (.int .i64 1)) w41 fun x43 w42 =>
        next9 x43 w42))
def A_tree_Remove : Ann := ⟨[(9, [6], 17591112302656)], [(10, [], 4396972769280)], [(11, [⟨0, .q none, 4, 0, 17592186044416⟩, ⟨1, .q (some 0), 17592186044416, 1, 35184372088832⟩, ⟨2, .q none, 64, 0, 70368744177664⟩, ⟨3, .q none, 105553116266496, 7, 140737488355328⟩, ⟨4, .q none, 4, 0, 281474976710656⟩, ⟨5, .q (some 0), 281474976710656, 16, 562949953421312⟩, ⟨6, .q none, 64, 0, 1125899906842624⟩, ⟨7, .q none, 1125899906842624, 64, 2251799813685248⟩, ⟨8, .q none, 2251799813685248, 192, 4503599627370496⟩, ⟨9, .q none, 5066549580791808, 496, 9007199254740992⟩, ⟨10, .q none, 4, 63, 18014398509481984⟩, ⟨11, .f 0 false, 18155135997837312, 1087, 0⟩, ⟨12, .q none, 4, 4095, 36028797018963968⟩, ⟨13, .f 1 false, 45035996273704960, 8191, 0⟩])], [], []⟩
theorem E_tree_Remove (x0 x1 : Value) (w : World) (R : Ending → World → Prop) : cwp Try.prog A_tree_Remove (Try.f38.body.getD .skip) (retPost Try.prog Try.f38.results.toList R) (argE [x0, x1]) w = F_tree_Remove x0 x1 w R := by kernel_rfl
theorem C_tree_Remove {x0 x1 : Value} {w : World} {R : Ending → World → Prop} (h : F_tree_Remove x0 x1 w R) : Calls Try.prog 38 #[x0, x1] w R :=
  calls_cwp (A := A_tree_Remove) (args := [x0, x1]) mixed Try.func38 (c := Try.f38.body.getD .skip) (by kernel_rfl) (by kernel_rfl) (by kernel_rfl) ((E_tree_Remove x0 x1 w R).mpr h)

/-- bevy/bevyref08.Remove -/
def F_bevyref08_Remove (x0 x1 : Value) (w : World) (R : Ending → World → Prop) : Prop :=
  m R (o_box 49 x0) w fun x2 w1 =>
  m R (o_alloc 49) w1 fun x4 w2 =>
  m R (o_load 49 x2) w2 fun x6 w3 =>
  m R (o_call (fv 84) [x6, x1]) w3 fun x8 w4 =>
  mif x8 (
    m R (o_build 49 []) w4 fun x9 w5 =>
    m R (o_store 49 x4 x9) w5 fun _ w6 =>
    rcell Try.prog 49 x4 w6 fun r4 =>
    R (.returned (.tuple #[r4, (.int .i64 7)])) w6) (
    m R (o_load 49 x2) w4 fun x10 w7 =>
    m R (o_call (fv 85) [x10, x1]) w7 fun x12 w8 =>
    m R (o_store 49 x2 x12) w8 fun _ w9 =>
    m R (o_fieldAddr 49 x2 0) w9 fun x13 w10 =>
    m R (o_load 46 x13) w10 fun x14 w11 =>
    m R (o_build 52 []) w11 fun x16 w12 =>
    m R (o_indexAddr 46 x14 x1) w12 fun x17 w13 =>
    m R (o_store 52 x17 x16) w13 fun _ w14 =>
    ml0 w14 fun u5 w15 next5 =>
      mj0 (fun j6 =>
        m R (o_fieldAddr 49 x2 0) w15 fun x18 w16 =>
        m R (o_load 46 x18) w16 fun x19 w17 =>
        m R (o_builtin .len #[46] 3 [false] [x19]) w17 fun x20 w18 =>
        m R (o_bin .gtr 3 true x20 (.int .i64 0)) w18 fun x21 w19 =>
        mguard x21 true (fun k => m R (o_fieldAddr 49 x2 0) w19 k) w19 fun x23 w20 =>
        mguard x21 true (fun k => m R (o_load 46 x23) w20 k) w20 fun x24 w21 =>
        mguard x21 true (fun k => m R (o_fieldAddr 49 x2 0) w21 k) w21 fun x25 w22 =>
        mguard x21 true (fun k => m R (o_load 46 x25) w22 k) w22 fun x26 w23 =>
        mguard x21 true (fun k => m R (o_builtin .len #[46] 3 [false] [x26]) w23 k) w23 fun x27 w24 =>
        mguard x21 true (fun k => m R (o_bin .sub 3 true x27 (.int .i64 1)) w24 k) w24 fun x28 w25 =>
        mguard x21 true (fun k => m R (o_indexAddr 46 x24 x28) w25 k) w25 fun x29 w26 =>
        mguard x21 true (fun k => m R (o_fieldAddr 52 x29 0) w26 k) w26 fun x30 w27 =>
        mguard x21 true (fun k => m R (o_load 3 x30) w27 k) w27 fun x31 w28 =>
        mguard x21 true (fun k => m R (o_bin .eql 3 true x31 (.int .i64 0)) w28 k) w28 fun x32 w29 =>
        m R (o_pick x21 x32 (.bool false)) w29 fun x33 w30 =>
        mif x33 (
          j6 w30) (
          m R (o_load 49 x2) w30 fun x54 w31 =>
          m R (o_store 49 x4 x54) w31 fun _ w32 =>
          rcell Try.prog 49 x4 w32 fun r4 =>
          R (.returned (.tuple #[r4, (.int .i64 0)])) w32)) fun u6 w33 =>
      m R (o_fieldAddr 49 x2 0) w33 fun x34 w34 =>
      m R (o_load 46 x34) w34 fun x35 w35 =>
      m R (o_fieldAddr 49 x2 0) w35 fun x36 w36 =>
      m R (o_load 46 x36) w36 fun x37 w37 =>
      m R (o_builtin .len #[46] 3 [false] [x37]) w37 fun x38 w38 =>
      m R (o_bin .sub 3 true x38 (.int .i64 1)) w38 fun x39 w39 =>
      m R (o_slice 46 x35 none (some x39) none) w39 fun x40 w40 =>
      m R (o_fieldAddr 49 x2 0) w40 fun x41 w41 =>
      m R (o_store 46 x41 x40) w41 fun _ w42 =>
      m R (o_fieldAddr 49 x2 1) w42 fun x42 w43 =>
      m R (o_load 47 x42) w43 fun x43 w44 =>
      m R (o_builtin .len #[47] 3 [false] [x43]) w44 fun x44 w45 =>
      m R (o_bin .gtr 3 true x44 (.int .i64 0)) w45 fun x45 w46 =>
      mif x45 (
        m R (o_fieldAddr 49 x2 1) w46 fun x46 w47 =>
        m R (o_load 47 x46) w47 fun x47 w48 =>
        m R (o_fieldAddr 49 x2 1) w48 fun x48 w49 =>
        m R (o_load 47 x48) w49 fun x49 w50 =>
        m R (o_builtin .len #[47] 3 [false] [x49]) w50 fun x50 w51 =>
        m R (o_bin .sub 3 true x50 (.int .i64 1)) w51 fun x51 w52 =>
        m R (o_slice 47 x47 none (some x51) none) w52 fun x52 w53 =>
        m R (o_fieldAddr 49 x2 1) w53 fun x53 w54 =>
        m R (o_store 47 x53 x52) w54 fun _ w55 =>
        next5 w55) (
        next5 w46))
def A_bevyref08_Remove : Ann := ⟨[(5, [], 18014398509219840)], [(6, [], 17179607040)], [], [], []⟩
theorem E_bevyref08_Remove (x0 x1 : Value) (w : World) (R : Ending → World → Prop) : cwp Try.prog A_bevyref08_Remove (Try.f39.body.getD .skip) (retPost Try.prog Try.f39.results.toList R) (argE [x0, x1]) w = F_bevyref08_Remove x0 x1 w R := by kernel_rfl
theorem C_bevyref08_Remove {x0 x1 : Value} {w : World} {R : Ending → World → Prop} (h : F_bevyref08_Remove x0 x1 w R) : Calls Try.prog 39 #[x0, x1] w R :=
  calls_cwp (A := A_bevyref08_Remove) (args := [x0, x1]) mixed Try.func39 (c := Try.f39.body.getD .skip) (by kernel_rfl) (by kernel_rfl) (by kernel_rfl) ((E_bevyref08_Remove x0 x1 w R).mpr h)

/-- bevy/tree.Renew -/
def F_tree_Renew (x0 x1 x2 : Value) (w : World) (R : Ending → World → Prop) : Prop :=
  m R (o_box 49 x0) w fun x3 w1 =>
  m R (o_box 23 x2) w1 fun x5 w2 =>
  m R (o_alloc 49) w2 fun x6 w3 =>
  m R (o_load 49 x3) w3 fun x9 w4 =>
  m R (o_call (fv 33) [x9]) w4 fun x10 w5 =>
  m R (o_un .not x10) w5 fun x11 w6 =>
  mif x11 (
    m R (o_build 49 []) w6 fun x12 w7 =>
    m R (o_store 49 x6 x12) w7 fun _ w8 =>
    rcell Try.prog 49 x6 w8 fun r6 =>
    R (.returned (.tuple #[r6, (.int .i64 1)])) w8) (
    m R (o_load 49 x3) w6 fun x14 w9 =>
    m R (o_call (fv 82) [x14, x1]) w9 fun x16 w10 =>
    mif x16 (
      m R (o_build 49 []) w10 fun x17 w11 =>
      m R (o_store 49 x6 x17) w11 fun _ w12 =>
      rcell Try.prog 49 x6 w12 fun r6 =>
      R (.returned (.tuple #[r6, (.int .i64 7)])) w12) (
      m R (o_load 49 x3) w10 fun x18 w13 =>
      m R (o_call (fv 73) [x18]) w13 fun x19 w14 =>
      m R (o_store 49 x3 x19) w14 fun _ w15 =>
      m R (o_fieldAddr 49 x3 0) w15 fun x20 w16 =>
      m R (o_load 46 x20) w16 fun x21 w17 =>
      m R (o_load 23 x5) w17 fun x23 w18 =>
      m R (o_indexAddr 46 x21 x1) w18 fun x24 w19 =>
      m R (o_fieldAddr 52 x24 1) w19 fun x25 w20 =>
      m R (o_store 23 x25 x23) w20 fun _ w21 =>
      m R (o_fieldAddr 49 x3 0) w21 fun x26 w22 =>
      m R (o_load 46 x26) w22 fun x27 w23 =>
      m R (o_build 23 []) w23 fun x29 w24 =>
      m R (o_indexAddr 46 x27 x1) w24 fun x30 w25 =>
      m R (o_fieldAddr 52 x30 3) w25 fun x31 w26 =>
      m R (o_store 23 x31 x29) w26 fun _ w27 =>
      m R (o_load 49 x3) w27 fun x32 w28 =>
      m R (o_call (fv 83) [x32, x1]) w28 fun x34 w29 =>
      m R (o_load 49 x3) w29 fun x35 w30 =>
      m R (o_store 49 x6 x35) w30 fun _ w31 =>
      rcell Try.prog 49 x6 w31 fun r6 =>
      R (.returned (.tuple #[r6, (.int .i64 0)])) w31))
def A_tree_Renew : Ann := ⟨[], [], [], [], []⟩
theorem E_tree_Renew (x0 x1 x2 : Value) (w : World) (R : Ending → World → Prop) : cwp Try.prog A_tree_Renew (Try.f40.body.getD .skip) (retPost Try.prog Try.f40.results.toList R) (argE [x0, x1, x2]) w = F_tree_Renew x0 x1 x2 w R := by kernel_rfl
theorem C_tree_Renew {x0 x1 x2 : Value} {w : World} {R : Ending → World → Prop} (h : F_tree_Renew x0 x1 x2 w R) : Calls Try.prog 40 #[x0, x1, x2] w R :=
  calls_cwp (A := A_tree_Renew) (args := [x0, x1, x2]) mixed Try.func40 (c := Try.f40.body.getD .skip) (by kernel_rfl) (by kernel_rfl) (by kernel_rfl) ((E_tree_Renew x0 x1 x2 w R).mpr h)

/-- bevy/bevyref08.Renew -/
def F_bevyref08_Renew (x0 x1 x2 : Value) (w : World) (R : Ending → World → Prop) : Prop :=
  m R (o_box 49 x0) w fun x3 w1 =>
  m R (o_box 23 x2) w1 fun x5 w2 =>
  m R (o_alloc 49) w2 fun x6 w3 =>
  m R (o_load 49 x3) w3 fun x8 w4 =>
  m R (o_call (fv 84) [x8, x1]) w4 fun x10 w5 =>
  mif x10 (
    m R (o_build 49 []) w5 fun x11 w6 =>
    m R (o_store 49 x6 x11) w6 fun _ w7 =>
    rcell Try.prog 49 x6 w7 fun r6 =>
    R (.returned (.tuple #[r6, (.int .i64 7)])) w7) (
    m R (o_load 49 x3) w5 fun x12 w8 =>
    m R (o_call (fv 85) [x12, x1]) w8 fun x14 w9 =>
    m R (o_store 49 x3 x14) w9 fun _ w10 =>
    m R (o_fieldAddr 49 x3 0) w10 fun x15 w11 =>
    m R (o_load 46 x15) w11 fun x16 w12 =>
    m R (o_load 23 x5) w12 fun x18 w13 =>
    m R (o_indexAddr 46 x16 x1) w13 fun x19 w14 =>
    m R (o_fieldAddr 52 x19 1) w14 fun x20 w15 =>
    m R (o_store 23 x20 x18) w15 fun _ w16 =>
    m R (o_fieldAddr 49 x3 0) w16 fun x21 w17 =>
    m R (o_load 46 x21) w17 fun x22 w18 =>
    m R (o_build 23 []) w18 fun x24 w19 =>
    m R (o_indexAddr 46 x22 x1) w19 fun x25 w20 =>
    m R (o_fieldAddr 52 x25 3) w20 fun x26 w21 =>
    m R (o_store 23 x26 x24) w21 fun _ w22 =>
    m R (o_load 49 x3) w22 fun x27 w23 =>
    m R (o_store 49 x6 x27) w23 fun _ w24 =>
    rcell Try.prog 49 x6 w24 fun r6 =>
    R (.returned (.tuple #[r6, (.int .i64 0)])) w24)
def A_bevyref08_Renew : Ann := ⟨[], [], [], [], []⟩
theorem E_bevyref08_Renew (x0 x1 x2 : Value) (w : World) (R : Ending → World → Prop) : cwp Try.prog A_bevyref08_Renew (Try.f41.body.getD .skip) (retPost Try.prog Try.f41.results.toList R) (argE [x0, x1, x2]) w = F_bevyref08_Renew x0 x1 x2 w R := by kernel_rfl
theorem C_bevyref08_Renew {x0 x1 x2 : Value} {w : World} {R : Ending → World → Prop} (h : F_bevyref08_Renew x0 x1 x2 w R) : Calls Try.prog 41 #[x0, x1, x2] w R :=
  calls_cwp (A := A_bevyref08_Renew) (args := [x0, x1, x2]) mixed Try.func41 (c := Try.f41.body.getD .skip) (by kernel_rfl) (by kernel_rfl) (by kernel_rfl) ((E_bevyref08_Renew x0 x1 x2 w R).mpr h)

/-- bevy/bevyref07.Root -/
def F_bevyref07_Root (x0 : Value) (w : World) (R : Ending → World → Prop) : Prop :=
  m R (o_call (fv 91) [x0, (.int .i64 0)]) w fun x4 w1 =>
  m R (o_un .not x4) w1 fun x5 w2 =>
  mif x5 (
    R (.returned (.int .i64 (-1))) w2) (
    m R (o_call (fv 92) [(.int .i64 0), x0]) w2 fun x7 w3 =>
    R (.returned x7) w3)
def A_bevyref07_Root : Ann := ⟨[], [], [], [], []⟩
theorem E_bevyref07_Root (x0 : Value) (w : World) (R : Ending → World → Prop) : cwp Try.prog A_bevyref07_Root (Try.f44.body.getD .skip) (retPost Try.prog Try.f44.results.toList R) (argE [x0]) w = F_bevyref07_Root x0 w R := by kernel_rfl
theorem C_bevyref07_Root {x0 : Value} {w : World} {R : Ending → World → Prop} (h : F_bevyref07_Root x0 w R) : Calls Try.prog 44 #[x0] w R :=
  calls_cwp (A := A_bevyref07_Root) (args := [x0]) mixed Try.func44 (c := Try.f44.body.getD .skip) (by kernel_rfl) (by kernel_rfl) (by kernel_rfl) ((E_bevyref07_Root x0 w R).mpr h)

/-- bevy/bevyref07.Holds -/
def F_bevyref07_Holds (x0 x1 x2 : Value) (w : World) (R : Ending → World → Prop) : Prop :=
  m R (o_call (fv 93) [x0, x1]) w fun x12 w1 =>
  m R (o_extract x12 0) w1 fun x13 w2 =>
  m R (o_extract x12 1) w2 fun x14 w3 =>
  m R (o_bin .geq 3 false x2 x13) w3 fun x17 w4 =>
  mguard x17 true (fun k => m R (o_move x2) w4 k) w4 fun x19 w5 =>
  mguard x17 true (fun k => m R (o_move x14) w5 k) w5 fun x20 w6 =>
  mguard x17 true (fun k => m R (o_bin .lss 3 false x19 x20) w6 k) w6 fun x21 w7 =>
  m R (o_pick x17 x21 (.bool false)) w7 fun x22 w8 =>
  R (.returned x22) w8
def A_bevyref07_Holds : Ann := ⟨[], [], [], [], []⟩
theorem E_bevyref07_Holds (x0 x1 x2 : Value) (w : World) (R : Ending → World → Prop) : cwp Try.prog A_bevyref07_Holds (Try.f45.body.getD .skip) (retPost Try.prog Try.f45.results.toList R) (argE [x0, x1, x2]) w = F_bevyref07_Holds x0 x1 x2 w R := by kernel_rfl
theorem C_bevyref07_Holds {x0 x1 x2 : Value} {w : World} {R : Ending → World → Prop} (h : F_bevyref07_Holds x0 x1 x2 w R) : Calls Try.prog 45 #[x0, x1, x2] w R :=
  calls_cwp (A := A_bevyref07_Holds) (args := [x0, x1, x2]) mixed Try.func45 (c := Try.f45.body.getD .skip) (by kernel_rfl) (by kernel_rfl) (by kernel_rfl) ((E_bevyref07_Holds x0 x1 x2 w R).mpr h)

/-- bevy/tree.zero -/
def F_tree_zero (x0 : Value) (w : World) (R : Ending → World → Prop) : Prop :=
  m R (o_box 104 x0) w fun x1 w1 =>
  m R (o_fieldAddr 104 x1 0) w1 fun x3 w2 =>
  m R (o_load 4 x3) w2 fun x4 w3 =>
  m R (o_un .not x4) w3 fun x5 w4 =>
  mguard x5 true (fun k => m R (o_fieldAddr 104 x1 1) w4 k) w4 fun x7 w5 =>
  mguard x5 true (fun k => m R (o_load 23 x7) w5 k) w5 fun x8 w6 =>
  mguard x5 true (fun k => m R (o_build 23 []) w6 k) w6 fun x9 w7 =>
  mguard x5 true (fun k => m R (o_bin .eql 23 false x8 x9) w7 k) w7 fun x10 w8 =>
  m R (o_pick x5 x10 (.bool false)) w8 fun x11 w9 =>
  mguard x11 true (fun k => m R (o_fieldAddr 104 x1 2) w9 k) w9 fun x13 w10 =>
  mguard x11 true (fun k => m R (o_load 23 x13) w10 k) w10 fun x14 w11 =>
  mguard x11 true (fun k => m R (o_build 23 []) w11 k) w11 fun x15 w12 =>
  mguard x11 true (fun k => m R (o_bin .eql 23 false x14 x15) w12 k) w12 fun x16 w13 =>
  m R (o_pick x11 x16 (.bool false)) w13 fun x17 w14 =>
  mguard x17 true (fun k => m R (o_fieldAddr 104 x1 3) w14 k) w14 fun x19 w15 =>
  mguard x17 true (fun k => m R (o_load 69 x19) w15 k) w15 fun x20 w16 =>
  mguard x17 true (fun k => m R (o_builtin .len #[69] 3 [false] [x20]) w16 k) w16 fun x21 w17 =>
  mguard x17 true (fun k => m R (o_bin .eql 3 true x21 (.int .i64 0)) w17 k) w17 fun x22 w18 =>
  m R (o_pick x17 x22 (.bool false)) w18 fun x23 w19 =>
  R (.returned x23) w19
def A_tree_zero : Ann := ⟨[], [], [], [], []⟩
theorem E_tree_zero (x0 : Value) (w : World) (R : Ending → World → Prop) : cwp Try.prog A_tree_zero (Try.f70.body.getD .skip) (retPost Try.prog Try.f70.results.toList R) (argE [x0]) w = F_tree_zero x0 w R := by kernel_rfl
theorem C_tree_zero {x0 : Value} {w : World} {R : Ending → World → Prop} (h : F_tree_zero x0 w R) : Calls Try.prog 70 #[x0] w R :=
  calls_cwp (A := A_tree_zero) (args := [x0]) mixed Try.func70 (c := Try.f70.body.getD .skip) (by kernel_rfl) (by kernel_rfl) (by kernel_rfl) ((E_tree_zero x0 w R).mpr h)

/-- bevy/bough.Holds -/
def F_bough_Holds (x0 x1 x2 : Value) (w : World) (R : Ending → World → Prop) : Prop :=
  m R (o_call (fv 119) [x0, x1]) w fun x12 w1 =>
  m R (o_extract x12 0) w1 fun x13 w2 =>
  m R (o_extract x12 1) w2 fun x14 w3 =>
  m R (o_bin .geq 3 false x2 x13) w3 fun x17 w4 =>
  mguard x17 true (fun k => m R (o_move x2) w4 k) w4 fun x19 w5 =>
  mguard x17 true (fun k => m R (o_move x14) w5 k) w5 fun x20 w6 =>
  mguard x17 true (fun k => m R (o_bin .lss 3 false x19 x20) w6 k) w6 fun x21 w7 =>
  m R (o_pick x17 x21 (.bool false)) w7 fun x22 w8 =>
  R (.returned x22) w8
def A_bough_Holds : Ann := ⟨[], [], [], [], []⟩
theorem E_bough_Holds (x0 x1 x2 : Value) (w : World) (R : Ending → World → Prop) : cwp Try.prog A_bough_Holds (Try.f71.body.getD .skip) (retPost Try.prog Try.f71.results.toList R) (argE [x0, x1, x2]) w = F_bough_Holds x0 x1 x2 w R := by kernel_rfl
theorem C_bough_Holds {x0 x1 x2 : Value} {w : World} {R : Ending → World → Prop} (h : F_bough_Holds x0 x1 x2 w R) : Calls Try.prog 71 #[x0, x1, x2] w R :=
  calls_cwp (A := A_bough_Holds) (args := [x0, x1, x2]) mixed Try.func71 (c := Try.f71.body.getD .skip) (by kernel_rfl) (by kernel_rfl) (by kernel_rfl) ((E_bough_Holds x0 x1 x2 w R).mpr h)

/-- bevy/tree.Place -/
def F_tree_Place (x0 x1 : Value) (w : World) (R : Ending → World → Prop) : Prop :=
  m R (o_box 49 x0) w fun x2 w1 =>
  m R (o_box 3 x1) w1 fun x3 w2 =>
  m R (o_load 3 x3) w2 fun x5 w3 =>
  m R (o_bin .lss 3 true x5 (.int .i64 1)) w3 fun x6 w4 =>
  mif x6 (
    R (.returned (.int .i64 (-1))) w4) (
    m R (o_load 49 x2) w4 fun x7 w5 =>
    m R (o_call (fv 87) [x7]) w5 fun x8 w6 =>
    m R (o_field 49 x8 0) w6 fun x9 w7 =>
    m R (o_func (.func 121) [] [x3]) w7 fun x10 w8 =>
    m R (o_call (fv 120) [x9, x10]) w8 fun x11 w9 =>
    R (.returned x11) w9)
def A_tree_Place : Ann := ⟨[], [], [], [], []⟩
theorem E_tree_Place (x0 x1 : Value) (w : World) (R : Ending → World → Prop) : cwp Try.prog A_tree_Place (Try.f72.body.getD .skip) (retPost Try.prog Try.f72.results.toList R) (argE [x0, x1]) w = F_tree_Place x0 x1 w R := by kernel_rfl
theorem C_tree_Place {x0 x1 : Value} {w : World} {R : Ending → World → Prop} (h : F_tree_Place x0 x1 w R) : Calls Try.prog 72 #[x0, x1] w R :=
  calls_cwp (A := A_tree_Place) (args := [x0, x1]) mixed Try.func72 (c := Try.f72.body.getD .skip) (by kernel_rfl) (by kernel_rfl) (by kernel_rfl) ((E_tree_Place x0 x1 w R).mpr h)

/-- bevy/tree.clone -/
def F_tree_clone (x0 : Value) (w : World) (R : Ending → World → Prop) : Prop :=
  m R (o_box 49 x0) w fun x1 w1 =>
  m R (o_alloc 49) w1 fun x2 w2 =>
  mj1 (fun j2 =>
    ((
      dp Try.prog (o_fieldAddr 49 x1 0) fun x5 =>
      dq Try.prog w2 (o_load 46 x5) fun x6 =>
      dp Try.prog (o_fieldAddr 49 x1 1) fun x8 =>
      dq Try.prog w2 (o_load 47 x8) fun x9 =>
      df Try.prog w2 (o_call (fv 122) [x6]) true fun x7 w3 =>
      df Try.prog w3 (o_call (fv 123) [x9]) false fun x10 w4 =>
      dp Try.prog (o_build 49 [(0, x7), (1, x10)]) fun x11 =>
      df Try.prog w4 (o_alloc 49) true fun x3 w5 =>
      df Try.prog w5 (o_store 49 x3 x11) false fun _ w6 =>
      dend w6 fun w7 =>
      j2 x3 w7) ∧ (
      dp Try.prog (o_fieldAddr 49 x1 0) fun x5 =>
      dq Try.prog w2 (o_load 46 x5) fun x6 =>
      dp Try.prog (o_fieldAddr 49 x1 1) fun x8 =>
      dq Try.prog w2 (o_load 47 x8) fun x9 =>
      df Try.prog w2 (o_call (fv 122) [x6]) true fun x7 w8 =>
      df Try.prog w8 (o_alloc 49) true fun x3 w9 =>
      df Try.prog w9 (o_call (fv 123) [x9]) false fun x10 w10 =>
      dp Try.prog (o_build 49 [(0, x7), (1, x10)]) fun x11 =>
      df Try.prog w10 (o_store 49 x3 x11) false fun _ w11 =>
      dend w11 fun w12 =>
      j2 x3 w12) ∧ (
      dp Try.prog (o_fieldAddr 49 x1 0) fun x5 =>
      dq Try.prog w2 (o_load 46 x5) fun x6 =>
      dp Try.prog (o_fieldAddr 49 x1 1) fun x8 =>
      dq Try.prog w2 (o_load 47 x8) fun x9 =>
      df Try.prog w2 (o_alloc 49) true fun x3 w13 =>
      df Try.prog w13 (o_call (fv 122) [x6]) true fun x7 w14 =>
      df Try.prog w14 (o_call (fv 123) [x9]) false fun x10 w15 =>
      dp Try.prog (o_build 49 [(0, x7), (1, x10)]) fun x11 =>
      df Try.prog w15 (o_store 49 x3 x11) false fun _ w16 =>
      dend w16 fun w17 =>
      j2 x3 w17))) fun x3 u2 w18 =>
  m R (o_fieldAddr 49 x3 1) w18 fun x12 w19 =>
  m R (o_load 47 x12) w19 fun x13 w20 =>
  m R (o_builtin .len #[47] 3 [false] [x13]) w20 fun x14 w21 =>
  ml1 (.int .i64 0) w21 fun x15 u3 w22 next3 =>
    m R (o_bin .lss 3 false x15 x14) w22 fun x16 w23 =>
    mif x16 (
      dp Try.prog (o_fieldAddr 49 x3 1) fun x18 =>
      dq Try.prog w23 (o_load 47 x18) fun x19 =>
      dp Try.prog (o_fieldAddr 49 x3 1) fun x21 =>
      dq Try.prog w23 (o_load 47 x21) fun x22 =>
      dp Try.prog (o_indexAddr 47 x22 x15) fun x24 =>
      dp Try.prog (o_fieldAddr 104 x24 3) fun x25 =>
      dq Try.prog w23 (o_load 69 x25) fun x26 =>
      df Try.prog w23 (o_call (fv 124) [x26]) true fun x27 w24 =>
      dp Try.prog (o_indexAddr 47 x19 x15) fun x28 =>
      dp Try.prog (o_fieldAddr 104 x28 3) fun x29 =>
      df Try.prog w24 (o_store 69 x29 x27) false fun _ w25 =>
      dend w25 fun w26 =>
      m R (o_bin .add 3 true x15 (.int .i64 1)) w26 fun x30 w27 =>
      next3 x30 w27) (
      m R (o_load 49 x3) w23 fun x31 w28 =>
      m R (o_store 49 x2 x31) w28 fun _ w29 =>
      rcell Try.prog 49 x2 w29 fun r2 =>
      R (.returned r2) w29)
def A_tree_clone : Ann := ⟨[(3, [15], 2147450896)], [(2, [3], 4072)], [(5, [⟨0, .q none, 8, 0, 262144⟩, ⟨1, .q (some 0), 262144, 1, 524288⟩, ⟨2, .q none, 16, 0, 1048576⟩, ⟨3, .q none, 8, 0, 2097152⟩, ⟨4, .q (some 0), 2097152, 8, 4194304⟩, ⟨5, .q none, 16, 0, 8388608⟩, ⟨6, .q none, 12582912, 56, 16777216⟩, ⟨7, .q none, 16777216, 120, 33554432⟩, ⟨8, .q (some 0), 33554432, 248, 67108864⟩, ⟨9, .f 0 true, 67108864, 504, 134217728⟩, ⟨10, .q none, 1572864, 1023, 268435456⟩, ⟨11, .q none, 268435456, 2047, 536870912⟩, ⟨12, .f 1 false, 671088640, 4095, 0⟩])], [(1, [⟨[0, 1, 3, 4, 2, 5, 6, 7, 8], [⟨0, .q none, 2, 0, 32⟩, ⟨1, .q (some 0), 32, 1, 64⟩, ⟨2, .f 0 true, 64, 3, 128⟩, ⟨3, .q none, 2, 0, 256⟩, ⟨4, .q (some 0), 256, 8, 512⟩, ⟨5, .f 1 false, 512, 31, 1024⟩, ⟨6, .q none, 1152, 63, 2048⟩, ⟨7, .f 2 true, 0, 0, 8⟩, ⟨8, .f 3 false, 2056, 255, 0⟩]⟩, ⟨[0, 1, 3, 4, 2, 7, 5, 6, 8], [⟨0, .q none, 2, 0, 32⟩, ⟨1, .q (some 0), 32, 1, 64⟩, ⟨2, .f 0 true, 64, 3, 128⟩, ⟨3, .q none, 2, 0, 256⟩, ⟨4, .q (some 0), 256, 8, 512⟩, ⟨5, .f 2 false, 512, 31, 1024⟩, ⟨6, .q none, 1152, 63, 2048⟩, ⟨7, .f 1 true, 0, 0, 8⟩, ⟨8, .f 3 false, 2056, 255, 0⟩]⟩, ⟨[0, 1, 3, 4, 7, 2, 5, 6, 8], [⟨0, .q none, 2, 0, 32⟩, ⟨1, .q (some 0), 32, 1, 64⟩, ⟨2, .f 1 true, 64, 3, 128⟩, ⟨3, .q none, 2, 0, 256⟩, ⟨4, .q (some 0), 256, 8, 512⟩, ⟨5, .f 2 false, 512, 31, 1024⟩, ⟨6, .q none, 1152, 63, 2048⟩, ⟨7, .f 0 true, 0, 0, 8⟩, ⟨8, .f 3 false, 2056, 255, 0⟩]⟩])], []⟩
theorem E_tree_clone (x0 : Value) (w : World) (R : Ending → World → Prop) : cwp Try.prog A_tree_clone (Try.f73.body.getD .skip) (retPost Try.prog Try.f73.results.toList R) (argE [x0]) w = F_tree_clone x0 w R := by kernel_rfl
theorem C_tree_clone {x0 : Value} {w : World} {R : Ending → World → Prop} (h : F_tree_clone x0 w R) : Calls Try.prog 73 #[x0] w R :=
  calls_cwp (A := A_tree_clone) (args := [x0]) mixed Try.func73 (c := Try.f73.body.getD .skip) (by kernel_rfl) (by kernel_rfl) (by kernel_rfl) ((E_tree_clone x0 w R).mpr h)

/-- slices.Index[[]bevy/api.Leaf,bevy/api.Leaf] -/
def F_slices_Index_api_Leaf_api_Leaf (x0 x1 : Value) (w : World) (R : Ending → World → Prop) : Prop :=
  m R (o_box 52 x1) w fun x3 w1 =>
  m R (o_builtin .len #[46] 3 [false] [x0]) w1 fun x7 w2 =>
  ml1 (.int .i64 0) w2 fun x8 u2 w3 next2 =>
    m R (o_bin .lss 3 false x8 x7) w3 fun x9 w4 =>
    mif x9 (
      dq Try.prog w4 (o_load 52 x3) fun x11 =>
      dp Try.prog (o_indexAddr 46 x0 x8) fun x14 =>
      dq Try.prog w4 (o_load 52 x14) fun x15 =>
      dp Try.prog (o_bin .eql 52 false x11 x15) fun x16 =>
      dend w4 fun w5 =>
      mif x16 (
        R (.returned x8) w5) (
        m R (o_bin .add 3 true x8 (.int .i64 1)) w5 fun x18 w6 =>
        next2 x18 w6)) (
      R (.returned (.int .i64 (-1))) w4)
def A_slices_Index_api_Leaf_api_Leaf : Ann := ⟨[(2, [8], 524080)], [], [(4, [⟨0, .q (some 0), 8, 0, 2048⟩, ⟨1, .q none, 1, 0, 4096⟩, ⟨2, .q none, 32, 0, 8192⟩, ⟨3, .q none, 12288, 6, 16384⟩, ⟨4, .q (some 0), 16384, 14, 32768⟩, ⟨5, .q none, 34816, 31, 65536⟩])], [], []⟩
theorem E_slices_Index_api_Leaf_api_Leaf (x0 x1 : Value) (w : World) (R : Ending → World → Prop) : cwp Try.prog A_slices_Index_api_Leaf_api_Leaf (Try.f74.body.getD .skip) (retPost Try.prog Try.f74.results.toList R) (argE [x0, x1]) w = F_slices_Index_api_Leaf_api_Leaf x0 x1 w R := by kernel_rfl
theorem C_slices_Index_api_Leaf_api_Leaf {x0 x1 : Value} {w : World} {R : Ending → World → Prop} (h : F_slices_Index_api_Leaf_api_Leaf x0 x1 w R) : Calls Try.prog 74 #[x0, x1] w R :=
  calls_cwp (A := A_slices_Index_api_Leaf_api_Leaf) (args := [x0, x1]) mixed Try.func74 (c := Try.f74.body.getD .skip) (by kernel_rfl) (by kernel_rfl) (by kernel_rfl) ((E_slices_Index_api_Leaf_api_Leaf x0 x1 w R).mpr h)

/-- slices.BinarySearch[[]int,int] -/
def F_slices_BinarySearch_int_int (x0 x1 : Value) (w : World) (R : Ending → World → Prop) : Prop :=
  m R (o_builtin .len #[69] 3 [false] [x0]) w fun x11 w1 =>
  ml2 (.int .i64 0) x11 w1 fun x7 x8 u3 w2 next3 =>
    m R (o_bin .lss 3 false x7 x8) w2 fun x15 w3 =>
    mif x15 (
      m R (o_bin .add 3 false x7 x8) w3 fun x18 w4 =>
      m R (o_conv 3 143 x18) w4 fun x19 w5 =>
      m R (o_bin .shr 143 true x19 (.int .u64 1)) w5 fun x20 w6 =>
      m R (o_conv 143 3 x20) w6 fun x21 w7 =>
      m R (o_indexAddr 69 x0 x21) w7 fun x24 w8 =>
      m R (o_load 3 x24) w8 fun x25 w9 =>
      m R (o_call (fv 126) [x25, x1]) w9 fun x27 w10 =>
      mif x27 (
        m R (o_bin .add 3 true x21 (.int .i64 1)) w10 fun x29 w11 =>
        next3 x29 x8 w11) (
        next3 x7 x21 w10)) (
      m R (o_bin .lss 3 false x7 x11) w3 fun x34 w12 =>
      mguard x34 true (fun k => m R (o_move x0) w12 k) w12 fun x36 w13 =>
      mguard x34 true (fun k => m R (o_move x7) w13 k) w13 fun x37 w14 =>
      mguard x34 true (fun k => m R (o_indexAddr 69 x36 x37) w14 k) w14 fun x38 w15 =>
      mguard x34 true (fun k => m R (o_load 3 x38) w15 k) w15 fun x39 w16 =>
      mguard x34 true (fun k => m R (o_move x1) w16 k) w16 fun x40 w17 =>
      mguard x34 true (fun k => m R (o_bin .eql 3 false x39 x40) w17 k) w17 fun x41 w18 =>
      mguard x34 true (fun k => m R (o_move x41) w18 k) w18 fun x42 w19 =>
      mguard x42 false (fun k => m R (o_move x0) w19 k) w19 fun x43 w20 =>
      mguard x42 false (fun k => m R (o_move x7) w20 k) w20 fun x44 w21 =>
      mguard x42 false (fun k => m R (o_indexAddr 69 x43 x44) w21 k) w21 fun x45 w22 =>
      mguard x42 false (fun k => m R (o_load 3 x45) w22 k) w22 fun x46 w23 =>
      mguard x42 false (fun k => m R (o_call (fv 127) [x46]) w23 k) w23 fun x47 w24 =>
      mguard x42 false (fun k => m R (o_move x47) w24 k) w24 fun x48 w25 =>
      mguard x48 true (fun k => m R (o_move x1) w25 k) w25 fun x49 w26 =>
      mguard x48 true (fun k => m R (o_call (fv 127) [x49]) w26 k) w26 fun x50 w27 =>
      mguard x42 false (fun k => m R (o_pick x48 x50 (.bool false)) w27 k) w27 fun x51 w28 =>
      mguard x34 true (fun k => m R (o_pick x42 (.bool true) x51) w28 k) w28 fun x52 w29 =>
      m R (o_pick x34 x52 (.bool false)) w29 fun x53 w30 =>
      R (.returned (.tuple #[x7, x53])) w30)
def A_slices_BinarySearch_int_int : Ann := ⟨[(3, [7, 8], 2147476352)], [], [], [], []⟩
theorem E_slices_BinarySearch_int_int (x0 x1 : Value) (w : World) (R : Ending → World → Prop) : cwp Try.prog A_slices_BinarySearch_int_int (Try.f76.body.getD .skip) (retPost Try.prog Try.f76.results.toList R) (argE [x0, x1]) w = F_slices_BinarySearch_int_int x0 x1 w R := by kernel_rfl
theorem C_slices_BinarySearch_int_int {x0 x1 : Value} {w : World} {R : Ending → World → Prop} (h : F_slices_BinarySearch_int_int x0 x1 w R) : Calls Try.prog 76 #[x0, x1] w R :=
  calls_cwp (A := A_slices_BinarySearch_int_int) (args := [x0, x1]) mixed Try.func76 (c := Try.f76.body.getD .skip) (by kernel_rfl) (by kernel_rfl) (by kernel_rfl) ((E_slices_BinarySearch_int_int x0 x1 w R).mpr h)

/-- slices.Insert[[]int,int] -/
def F_slices_Insert_int_int (x0 x1 x2 : Value) (w : World) (R : Ending → World → Prop) : Prop :=
  m R (o_slice 69 x0 (some x1) none none) w fun x12 w1 =>
  m R (o_builtin .len #[69] 3 [false] [x2]) w1 fun x14 w2 =>
  m R (o_bin .eql 3 true x14 (.int .i64 0)) w2 fun x16 w3 =>
  mif x16 (
    R (.returned x0) w3) (
    m R (o_builtin .len #[69] 3 [false] [x0]) w3 fun x19 w4 =>
    m R (o_bin .eql 3 false x1 x19) w4 fun x22 w5 =>
    mif x22 (
      m R (o_builtin .append #[69, 69] 69 [false, false] [x0, x2]) w5 fun x25 w6 =>
      R (.returned x25) w6) (
      m R (o_bin .add 3 false x19 x14) w5 fun x28 w7 =>
      m R (o_builtin .cap #[69] 3 [false] [x0]) w7 fun x30 w8 =>
      m R (o_bin .gtr 3 false x28 x30) w8 fun x31 w9 =>
      mif x31 (
        m R (o_slice 69 x0 none (some x1) none) w9 fun x34 w10 =>
        m R (o_bin .add 3 false x19 x14) w10 fun x37 w11 =>
        m R (o_bin .sub 3 false x37 x1) w11 fun x39 w12 =>
        m R (o_builtin .append #[69, 3] 69 [false, false] [x34, x39]) w12 fun x40 w13 =>
        m R (o_slice 69 x40 (some x1) none none) w13 fun x43 w14 =>
        m R (o_builtin .copy #[69, 69] 3 [false, false] [x43, x2]) w14 fun x45 w15 =>
        dp Try.prog (o_bin .add 3 false x1 x14) fun x49 =>
        dp Try.prog (o_slice 69 x40 (some x49) none none) fun x50 =>
        dp Try.prog (o_slice 69 x0 (some x1) none none) fun x53 =>
        df Try.prog w15 (o_builtin .copy #[69, 69] 3 [false, false] [x50, x53]) false fun x54 w16 =>
        dend w16 fun w17 =>
        R (.returned x40) w17) (
        m R (o_bin .add 3 false x19 x14) w9 fun x59 w18 =>
        m R (o_slice 69 x0 none (some x59) none) w18 fun x60 w19 =>
        m R (o_bin .add 3 false x1 x14) w19 fun x65 w20 =>
        m R (o_slice 69 x60 (some x65) none none) w20 fun x66 w21 =>
        m R (o_call (fv 128) [x2, x66]) w21 fun x67 w22 =>
        m R (o_un .not x67) w22 fun x68 w23 =>
        mif x68 (
          dp Try.prog (o_bin .add 3 false x1 x14) fun x72 =>
          dp Try.prog (o_slice 69 x60 (some x72) none none) fun x73 =>
          dp Try.prog (o_slice 69 x60 (some x1) none none) fun x76 =>
          df Try.prog w23 (o_builtin .copy #[69, 69] 3 [false, false] [x73, x76]) false fun x77 w24 =>
          dend w24 fun w25 =>
          m R (o_slice 69 x60 (some x1) none none) w25 fun x80 w26 =>
          m R (o_builtin .copy #[69, 69] 3 [false, false] [x80, x2]) w26 fun x82 w27 =>
          R (.returned x60) w27) (
          m R (o_slice 69 x60 (some x19) none none) w23 fun x86 w28 =>
          m R (o_builtin .copy #[69, 69] 3 [false, false] [x86, x2]) w28 fun x88 w29 =>
          m R (o_slice 69 x60 (some x1) none none) w29 fun x91 w30 =>
          m R (o_call (fv 129) [x91, x14]) w30 fun x93 w31 =>
          R (.returned x60) w31))))
def A_slices_Insert_int_int : Ann := ⟨[], [], [(11, [⟨0, .q none, 512, 0, 70368744177664⟩, ⟨1, .q none, 2, 0, 140737488355328⟩, ⟨2, .q none, 128, 0, 281474976710656⟩, ⟨3, .q none, 422212465065984, 6, 562949953421312⟩, ⟨4, .q none, 633318697598976, 15, 1125899906842624⟩, ⟨5, .q none, 1, 0, 2251799813685248⟩, ⟨6, .q none, 2, 0, 4503599627370496⟩, ⟨7, .q none, 6755399441055744, 96, 9007199254740992⟩, ⟨8, .f 0 false, 10133099161583616, 255, 18014398509481984⟩]), (15, [⟨0, .q none, 1, 0, 590295810358705651712⟩, ⟨1, .q none, 2, 0, 1180591620717411303424⟩, ⟨2, .q none, 128, 0, 2361183241434822606848⟩, ⟨3, .q none, 3541774862152233910272, 6, 4722366482869645213696⟩, ⟨4, .q none, 5312662293228350865408, 15, 9444732965739290427392⟩, ⟨5, .q none, 1, 0, 18889465931478580854784⟩, ⟨6, .q none, 2, 0, 37778931862957161709568⟩, ⟨7, .q none, 56668397794435742564352, 96, 75557863725914323419136⟩, ⟨8, .f 0 false, 85002596691653613846528, 255, 151115727451828646838272⟩])], [], []⟩
theorem E_slices_Insert_int_int (x0 x1 x2 : Value) (w : World) (R : Ending → World → Prop) : cwp Try.prog A_slices_Insert_int_int (Try.f77.body.getD .skip) (retPost Try.prog Try.f77.results.toList R) (argE [x0, x1, x2]) w = F_slices_Insert_int_int x0 x1 x2 w R := by kernel_rfl
theorem C_slices_Insert_int_int {x0 x1 x2 : Value} {w : World} {R : Ending → World → Prop} (h : F_slices_Insert_int_int x0 x1 x2 w R) : Calls Try.prog 77 #[x0, x1, x2] w R :=
  calls_cwp (A := A_slices_Insert_int_int) (args := [x0, x1, x2]) mixed Try.func77 (c := Try.f77.body.getD .skip) (by kernel_rfl) (by kernel_rfl) (by kernel_rfl) ((E_slices_Insert_int_int x0 x1 x2 w R).mpr h)

/-- bevy/bevyref08.Place -/
def F_bevyref08_Place (x0 x1 : Value) (w : World) (R : Ending → World → Prop) : Prop :=
  m R (o_box 49 x0) w fun x2 w1 =>
  ml1 (.int .i64 0) w1 fun x5 u2 w2 next2 =>
    mj0 (fun j4 =>
      m R (o_fieldAddr 49 x2 0) w2 fun x7 w3 =>
      m R (o_load 46 x7) w3 fun x8 w4 =>
      m R (o_builtin .len #[46] 3 [false] [x8]) w4 fun x9 w5 =>
      m R (o_bin .lss 3 false x5 x9) w5 fun x10 w6 =>
      mguard x10 true (fun k => m R (o_move x1) w6 k) w6 fun x12 w7 =>
      mguard x10 true (fun k => m R (o_bin .gtr 3 true x12 (.int .i64 0)) w7 k) w7 fun x13 w8 =>
      m R (o_pick x10 x13 (.bool false)) w8 fun x14 w9 =>
      mif x14 (
        j4 w9) (
        R (.returned (.int .i64 (-1))) w9)) fun u4 w10 =>
    m R (o_fieldAddr 49 x2 0) w10 fun x17 w11 =>
    m R (o_load 46 x17) w11 fun x18 w12 =>
    m R (o_indexAddr 46 x18 x5) w12 fun x20 w13 =>
    m R (o_fieldAddr 52 x20 0) w13 fun x21 w14 =>
    m R (o_load 3 x21) w14 fun x22 w15 =>
    m R (o_bin .eql 3 false x22 x1) w15 fun x24 w16 =>
    mif x24 (
      R (.returned x5) w16) (
      m R (o_bin .add 3 true x5 (.int .i64 1)) w16 fun x16 w17 =>
      next2 x16 w17)
def A_bevyref08_Place : Ann := ⟨[(2, [5], 67108848)], [(4, [], 32704)], [], [], []⟩
theorem E_bevyref08_Place (x0 x1 : Value) (w : World) (R : Ending → World → Prop) : cwp Try.prog A_bevyref08_Place (Try.f78.body.getD .skip) (retPost Try.prog Try.f78.results.toList R) (argE [x0, x1]) w = F_bevyref08_Place x0 x1 w R := by kernel_rfl
theorem C_bevyref08_Place {x0 x1 : Value} {w : World} {R : Ending → World → Prop} (h : F_bevyref08_Place x0 x1 w R) : Calls Try.prog 78 #[x0, x1] w R :=
  calls_cwp (A := A_bevyref08_Place) (args := [x0, x1]) mixed Try.func78 (c := Try.f78.body.getD .skip) (by kernel_rfl) (by kernel_rfl) (by kernel_rfl) ((E_bevyref08_Place x0 x1 w R).mpr h)

/-- bevy/bevyref08.Copy -/
def F_bevyref08_Copy (x0 : Value) (w : World) (R : Ending → World → Prop) : Prop :=
  m R (o_box 49 x0) w fun x1 w1 =>
  m R (o_alloc 49) w1 fun x2 w2 =>
  m R (o_build 49 []) w2 fun x9 w3 =>
  m R (o_alloc 49) w3 fun x3 w4 =>
  m R (o_store 49 x3 x9) w4 fun _ w5 =>
  ml1 (.int .i64 0) w5 fun x4 u3 w6 next3 =>
    m R (o_fieldAddr 49 x1 0) w6 fun x11 w7 =>
    m R (o_load 46 x11) w7 fun x12 w8 =>
    m R (o_builtin .len #[46] 3 [false] [x12]) w8 fun x13 w9 =>
    m R (o_bin .lss 3 false x4 x13) w9 fun x14 w10 =>
    mif x14 (
      dp Try.prog (o_fieldAddr 49 x3 0) fun x17 =>
      dq Try.prog w10 (o_load 46 x17) fun x18 =>
      dp Try.prog (o_fieldAddr 49 x1 0) fun x19 =>
      dq Try.prog w10 (o_load 46 x19) fun x20 =>
      dp Try.prog (o_indexAddr 46 x20 x4) fun x22 =>
      dq Try.prog w10 (o_load 52 x22) fun x23 =>
      df Try.prog w10 (o_buildSlice 46 1 [(0, x23)]) true fun x24 w11 =>
      df Try.prog w11 (o_builtin .append #[46, 46] 46 [false, false] [x18, x24]) false fun x25 w12 =>
      dp Try.prog (o_fieldAddr 49 x3 0) fun x26 =>
      df Try.prog w12 (o_store 46 x26 x25) false fun _ w13 =>
      dend w13 fun w14 =>
      m R (o_bin .add 3 true x4 (.int .i64 1)) w14 fun x16 w15 =>
      next3 x16 w15) (
      ml1 (.int .i64 0) w10 fun x5 u7 w16 next7 =>
        m R (o_fieldAddr 49 x1 1) w16 fun x28 w17 =>
        m R (o_load 47 x28) w17 fun x29 w18 =>
        m R (o_builtin .len #[47] 3 [false] [x29]) w18 fun x30 w19 =>
        m R (o_bin .lss 3 false x5 x30) w19 fun x31 w20 =>
        mif x31 (
          m R (o_fieldAddr 49 x1 1) w20 fun x34 w21 =>
          m R (o_load 47 x34) w21 fun x35 w22 =>
          m R (o_indexAddr 47 x35 x5) w22 fun x37 w23 =>
          m R (o_load 104 x37) w23 fun x38 w24 =>
          m R (o_alloc 104) w24 fun x6 w25 =>
          m R (o_store 104 x6 x38) w25 fun _ w26 =>
          m R (o_fieldAddr 104 x6 3) w26 fun x39 w27 =>
          m R (o_load 69 x39) w27 fun x40 w28 =>
          m R (o_fieldAddr 104 x6 3) w28 fun x41 w29 =>
          m R (o_store 69 x41 (.slice none 0 0)) w29 fun _ w30 =>
          ml1 (.int .i64 0) w30 fun x8 u13 w31 next13 =>
            m R (o_builtin .len #[69] 3 [false] [x40]) w31 fun x44 w32 =>
            m R (o_bin .lss 3 false x8 x44) w32 fun x45 w33 =>
            mif x45 (
              dp Try.prog (o_fieldAddr 104 x6 3) fun x48 =>
              dq Try.prog w33 (o_load 69 x48) fun x49 =>
              dp Try.prog (o_indexAddr 69 x40 x8) fun x52 =>
              dq Try.prog w33 (o_load 3 x52) fun x53 =>
              df Try.prog w33 (o_buildSlice 69 1 [(0, x53)]) true fun x54 w34 =>
              df Try.prog w34 (o_builtin .append #[69, 69] 69 [false, false] [x49, x54]) false fun x55 w35 =>
              dp Try.prog (o_fieldAddr 104 x6 3) fun x56 =>
              df Try.prog w35 (o_store 69 x56 x55) false fun _ w36 =>
              dend w36 fun w37 =>
              m R (o_bin .add 3 true x8 (.int .i64 1)) w37 fun x47 w38 =>
              next13 x47 w38) (
              m R (o_fieldAddr 49 x3 1) w33 fun x57 w39 =>
              m R (o_load 47 x57) w39 fun x58 w40 =>
              m R (o_load 104 x6) w40 fun x59 w41 =>
              m R (o_buildSlice 47 1 [(0, x59)]) w41 fun x60 w42 =>
              m R (o_builtin .append #[47, 47] 47 [false, false] [x58, x60]) w42 fun x61 w43 =>
              m R (o_fieldAddr 49 x3 1) w43 fun x62 w44 =>
              m R (o_store 47 x62 x61) w44 fun _ w45 =>
              m R (o_bin .add 3 true x5 (.int .i64 1)) w45 fun x33 w46 =>
              next7 x33 w46)) (
          m R (o_load 49 x3) w20 fun x63 w47 =>
          m R (o_store 49 x2 x63) w47 fun _ w48 =>
          rcell Try.prog 49 x2 w48 fun r2 =>
          R (.returned r2) w48))
def A_bevyref08_Copy : Ann := ⟨[(3, [4], 134216720), (7, [5], 9223372036720558560), (13, [8], 144110790029345024)], [], [(5, [⟨0, .q none, 8, 0, 131072⟩, ⟨1, .q (some 0), 131072, 1, 262144⟩, ⟨2, .q none, 2, 0, 524288⟩, ⟨3, .q (some 0), 524288, 4, 1048576⟩, ⟨4, .q none, 16, 0, 2097152⟩, ⟨5, .q none, 3145728, 28, 4194304⟩, ⟨6, .q (some 0), 4194304, 60, 8388608⟩, ⟨7, .f 0 true, 8388608, 124, 16777216⟩, ⟨8, .f 1 false, 17039360, 255, 33554432⟩, ⟨9, .q none, 8, 511, 67108864⟩, ⟨10, .f 2 false, 100663296, 1023, 0⟩]), (15, [⟨0, .q none, 64, 0, 281474976710656⟩, ⟨1, .q (some 0), 281474976710656, 1, 562949953421312⟩, ⟨2, .q none, 128, 0, 1125899906842624⟩, ⟨3, .q none, 256, 0, 2251799813685248⟩, ⟨4, .q none, 3377699720527872, 12, 4503599627370496⟩, ⟨5, .q (some 0), 4503599627370496, 28, 9007199254740992⟩, ⟨6, .f 0 true, 9007199254740992, 60, 18014398509481984⟩, ⟨7, .f 1 false, 18577348462903296, 127, 36028797018963968⟩, ⟨8, .q none, 64, 255, 72057594037927936⟩, ⟨9, .f 2 false, 108086391056891904, 511, 0⟩])], [], []⟩
theorem E_bevyref08_Copy (x0 : Value) (w : World) (R : Ending → World → Prop) : cwp Try.prog A_bevyref08_Copy (Try.f79.body.getD .skip) (retPost Try.prog Try.f79.results.toList R) (argE [x0]) w = F_bevyref08_Copy x0 w R := by kernel_rfl
theorem C_bevyref08_Copy {x0 : Value} {w : World} {R : Ending → World → Prop} (h : F_bevyref08_Copy x0 w R) : Calls Try.prog 79 #[x0] w R :=
  calls_cwp (A := A_bevyref08_Copy) (args := [x0]) mixed Try.func79 (c := Try.f79.body.getD .skip) (by kernel_rfl) (by kernel_rfl) (by kernel_rfl) ((E_bevyref08_Copy x0 w R).mpr h)

/-- bevy/bevyref08.put -/
def F_bevyref08_put (x0 x1 : Value) (w : World) (R : Ending → World → Prop) : Prop :=
  ml3 (.slice none 0 0) (.bool false) (.int .i64 0) w fun x5 x6 x7 u4 w1 next4 =>
    m R (o_builtin .len #[69] 3 [false] [x0]) w1 fun x10 w2 =>
    m R (o_bin .lss 3 false x7 x10) w2 fun x11 w3 =>
    mif x11 (
      mj2 (fun j9 =>
        mj1 (fun j7 =>
          m R (o_un .not x6) w3 fun x15 w4 =>
          mguard x15 true (fun k => m R (o_move x0) w4 k) w4 fun x17 w5 =>
          mguard x15 true (fun k => m R (o_move x7) w5 k) w5 fun x18 w6 =>
          mguard x15 true (fun k => m R (o_indexAddr 69 x17 x18) w6 k) w6 fun x19 w7 =>
          mguard x15 true (fun k => m R (o_load 3 x19) w7 k) w7 fun x20 w8 =>
          mguard x15 true (fun k => m R (o_move x1) w8 k) w8 fun x21 w9 =>
          mguard x15 true (fun k => m R (o_bin .gtr 3 false x20 x21) w9 k) w9 fun x22 w10 =>
          m R (o_pick x15 x22 (.bool false)) w10 fun x23 w11 =>
          j7 x23 w11) fun x23 u7 w12 =>
        mif x23 (
          m R (o_buildSlice 69 1 [(0, x1)]) w12 fun x26 w13 =>
          m R (o_builtin .append #[69, 69] 69 [false, false] [x5, x26]) w13 fun x27 w14 =>
          j9 x27 (.bool true) w14) (
          j9 x5 x6 w12)) fun x5 x6 u9 w15 =>
      m R (o_indexAddr 69 x0 x7) w15 fun x31 w16 =>
      m R (o_load 3 x31) w16 fun x32 w17 =>
      m R (o_buildSlice 69 1 [(0, x32)]) w17 fun x33 w18 =>
      m R (o_builtin .append #[69, 69] 69 [false, false] [x5, x33]) w18 fun x34 w19 =>
      m R (o_bin .add 3 true x7 (.int .i64 1)) w19 fun x13 w20 =>
      next4 x34 x6 x13 w20) (
      mj1 (fun j12 =>
        m R (o_un .not x6) w3 fun x36 w21 =>
        mif x36 (
          m R (o_buildSlice 69 1 [(0, x1)]) w21 fun x39 w22 =>
          m R (o_builtin .append #[69, 69] 69 [false, false] [x5, x39]) w22 fun x40 w23 =>
          j12 x40 w23) (
          j12 x5 w21)) fun x5 u12 w24 =>
      R (.returned x5) w24)
def A_bevyref08_put : Ann := ⟨[(4, [5, 6, 7], 34359738336)], [(9, [5, 6], 268419168), (7, [23], 16760832), (12, [5], 2164663517216)], [], [], []⟩
theorem E_bevyref08_put (x0 x1 : Value) (w : World) (R : Ending → World → Prop) : cwp Try.prog A_bevyref08_put (Try.f80.body.getD .skip) (retPost Try.prog Try.f80.results.toList R) (argE [x0, x1]) w = F_bevyref08_put x0 x1 w R := by kernel_rfl
theorem C_bevyref08_put {x0 x1 : Value} {w : World} {R : Ending → World → Prop} (h : F_bevyref08_put x0 x1 w R) : Calls Try.prog 80 #[x0, x1] w R :=
  calls_cwp (A := A_bevyref08_put) (args := [x0, x1]) mixed Try.func80 (c := Try.f80.body.getD .skip) (by kernel_rfl) (by kernel_rfl) (by kernel_rfl) ((E_bevyref08_put x0 x1 w R).mpr h)

/-- bevy/bevyref07.Same -/
def F_bevyref07_Same (x0 x1 : Value) (w : World) (R : Ending → World → Prop) : Prop :=
  m R (o_builtin .len #[69] 3 [false] [x0]) w fun x7 w1 =>
  m R (o_builtin .len #[69] 3 [false] [x1]) w1 fun x9 w2 =>
  m R (o_bin .neq 3 false x7 x9) w2 fun x10 w3 =>
  mif x10 (
    R (.returned (.bool false)) w3) (
    ml1 (.int .i64 0) w3 fun x5 u4 w4 next4 =>
      m R (o_builtin .len #[69] 3 [false] [x0]) w4 fun x13 w5 =>
      m R (o_bin .lss 3 false x5 x13) w5 fun x14 w6 =>
      mif x14 (
        dp Try.prog (o_indexAddr 69 x0 x5) fun x19 =>
        dq Try.prog w6 (o_load 3 x19) fun x20 =>
        dp Try.prog (o_indexAddr 69 x1 x5) fun x23 =>
        dq Try.prog w6 (o_load 3 x23) fun x24 =>
        dp Try.prog (o_bin .neq 3 false x20 x24) fun x25 =>
        dend w6 fun w7 =>
        mif x25 (
          R (.returned (.bool false)) w7) (
          m R (o_bin .add 3 true x5 (.int .i64 1)) w7 fun x16 w8 =>
          next4 x16 w8)) (
        R (.returned (.bool true)) w6))
def A_bevyref07_Same : Ann := ⟨[(4, [5], 67106864)], [], [(6, [⟨0, .q none, 1, 0, 131072⟩, ⟨1, .q none, 32, 0, 262144⟩, ⟨2, .q none, 393216, 3, 524288⟩, ⟨3, .q (some 0), 524288, 7, 1048576⟩, ⟨4, .q none, 2, 0, 2097152⟩, ⟨5, .q none, 32, 0, 4194304⟩, ⟨6, .q none, 6291456, 48, 8388608⟩, ⟨7, .q (some 0), 8388608, 112, 16777216⟩, ⟨8, .q none, 17825792, 255, 33554432⟩])], [], []⟩
theorem E_bevyref07_Same (x0 x1 : Value) (w : World) (R : Ending → World → Prop) : cwp Try.prog A_bevyref07_Same (Try.f81.body.getD .skip) (retPost Try.prog Try.f81.results.toList R) (argE [x0, x1]) w = F_bevyref07_Same x0 x1 w R := by kernel_rfl
theorem C_bevyref07_Same {x0 x1 : Value} {w : World} {R : Ending → World → Prop} (h : F_bevyref07_Same x0 x1 w R) : Calls Try.prog 81 #[x0, x1] w R :=
  calls_cwp (A := A_bevyref07_Same) (args := [x0, x1]) mixed Try.func81 (c := Try.f81.body.getD .skip) (by kernel_rfl) (by kernel_rfl) (by kernel_rfl) ((E_bevyref07_Same x0 x1 w R).mpr h)

/-- bevy/tree.none -/
def F_tree_none (x0 x1 : Value) (w : World) (R : Ending → World → Prop) : Prop :=
  m R (o_box 49 x0) w fun x2 w1 =>
  m R (o_bin .lss 3 true x1 (.int .i64 0)) w1 fun x6 w2 =>
  mguard x6 false (fun k => m R (o_move x1) w2 k) w2 fun x8 w3 =>
  mguard x6 false (fun k => m R (o_fieldAddr 49 x2 0) w3 k) w3 fun x9 w4 =>
  mguard x6 false (fun k => m R (o_load 46 x9) w4 k) w4 fun x10 w5 =>
  mguard x6 false (fun k => m R (o_builtin .len #[46] 3 [false] [x10]) w5 k) w5 fun x11 w6 =>
  mguard x6 false (fun k => m R (o_bin .geq 3 false x8 x11) w6 k) w6 fun x12 w7 =>
  m R (o_pick x6 (.bool true) x12) w7 fun x13 w8 =>
  mguard x13 false (fun k => m R (o_fieldAddr 49 x2 0) w8 k) w8 fun x15 w9 =>
  mguard x13 false (fun k => m R (o_load 46 x15) w9 k) w9 fun x16 w10 =>
  mguard x13 false (fun k => m R (o_move x1) w10 k) w10 fun x17 w11 =>
  mguard x13 false (fun k => m R (o_indexAddr 46 x16 x17) w11 k) w11 fun x18 w12 =>
  mguard x13 false (fun k => m R (o_fieldAddr 52 x18 0) w12 k) w12 fun x19 w13 =>
  mguard x13 false (fun k => m R (o_load 3 x19) w13 k) w13 fun x20 w14 =>
  mguard x13 false (fun k => m R (o_bin .eql 3 true x20 (.int .i64 0)) w14 k) w14 fun x21 w15 =>
  m R (o_pick x13 (.bool true) x21) w15 fun x22 w16 =>
  R (.returned x22) w16
def A_tree_none : Ann := ⟨[], [], [], [], []⟩
theorem E_tree_none (x0 x1 : Value) (w : World) (R : Ending → World → Prop) : cwp Try.prog A_tree_none (Try.f82.body.getD .skip) (retPost Try.prog Try.f82.results.toList R) (argE [x0, x1]) w = F_tree_none x0 x1 w R := by kernel_rfl
theorem C_tree_none {x0 x1 : Value} {w : World} {R : Ending → World → Prop} (h : F_tree_none x0 x1 w R) : Calls Try.prog 82 #[x0, x1] w R :=
  calls_cwp (A := A_tree_none) (args := [x0, x1]) mixed Try.func82 (c := Try.f82.body.getD .skip) (by kernel_rfl) (by kernel_rfl) (by kernel_rfl) ((E_tree_none x0 x1 w R).mpr h)

/-- bevy/tree.blank -/
def F_tree_blank (x0 x1 : Value) (w : World) (R : Ending → World → Prop) : Prop :=
  m R (o_box 49 x0) w fun x2 w1 =>
  m R (o_fieldAddr 49 x2 0) w1 fun x6 w2 =>
  m R (o_load 46 x6) w2 fun x7 w3 =>
  m R (o_builtin .len #[46] 3 [false] [x7]) w3 fun x8 w4 =>
  m R (o_call (fv 75) [x8, x1]) w4 fun x10 w5 =>
  m R (o_builtin .len #[69] 3 [false] [x10]) w5 fun x11 w6 =>
  ml1 (.int .i64 0) w6 fun x12 u2 w7 next2 =>
    m R (o_bin .lss 3 false x12 x11) w7 fun x13 w8 =>
    mif x13 (
      m R (o_indexAddr 69 x10 x12) w8 fun x14 w9 =>
      m R (o_load 3 x14) w9 fun x15 w10 =>
      m R (o_fieldAddr 49 x2 1) w10 fun x16 w11 =>
      m R (o_load 47 x16) w11 fun x17 w12 =>
      m R (o_bin .quo 3 true x15 (.int .i64 2)) w12 fun x19 w13 =>
      m R (o_build 104 []) w13 fun x20 w14 =>
      m R (o_indexAddr 47 x17 x19) w14 fun x21 w15 =>
      m R (o_store 104 x21 x20) w15 fun _ w16 =>
      m R (o_bin .add 3 true x12 (.int .i64 1)) w16 fun x22 w17 =>
      next2 x22 w17) (
      R (.returned (.tuple #[])) w8)
def A_tree_blank : Ann := ⟨[(2, [12], 8384544)], [], [], [], []⟩
theorem E_tree_blank (x0 x1 : Value) (w : World) (R : Ending → World → Prop) : cwp Try.prog A_tree_blank (Try.f83.body.getD .skip) (retPost Try.prog Try.f83.results.toList R) (argE [x0, x1]) w = F_tree_blank x0 x1 w R := by kernel_rfl
theorem C_tree_blank {x0 x1 : Value} {w : World} {R : Ending → World → Prop} (h : F_tree_blank x0 x1 w R) : Calls Try.prog 83 #[x0, x1] w R :=
  calls_cwp (A := A_tree_blank) (args := [x0, x1]) mixed Try.func83 (c := Try.f83.body.getD .skip) (by kernel_rfl) (by kernel_rfl) (by kernel_rfl) ((E_tree_blank x0 x1 w R).mpr h)

/-- bevy/bevyref08.None -/
def F_bevyref08_None (x0 x1 : Value) (w : World) (R : Ending → World → Prop) : Prop :=
  m R (o_box 49 x0) w fun x2 w1 =>
  m R (o_bin .lss 3 true x1 (.int .i64 0)) w1 fun x6 w2 =>
  mguard x6 false (fun k => m R (o_move x1) w2 k) w2 fun x8 w3 =>
  mguard x6 false (fun k => m R (o_fieldAddr 49 x2 0) w3 k) w3 fun x9 w4 =>
  mguard x6 false (fun k => m R (o_load 46 x9) w4 k) w4 fun x10 w5 =>
  mguard x6 false (fun k => m R (o_builtin .len #[46] 3 [false] [x10]) w5 k) w5 fun x11 w6 =>
  mguard x6 false (fun k => m R (o_bin .geq 3 false x8 x11) w6 k) w6 fun x12 w7 =>
  m R (o_pick x6 (.bool true) x12) w7 fun x13 w8 =>
  mguard x13 false (fun k => m R (o_fieldAddr 49 x2 0) w8 k) w8 fun x15 w9 =>
  mguard x13 false (fun k => m R (o_load 46 x15) w9 k) w9 fun x16 w10 =>
  mguard x13 false (fun k => m R (o_move x1) w10 k) w10 fun x17 w11 =>
  mguard x13 false (fun k => m R (o_indexAddr 46 x16 x17) w11 k) w11 fun x18 w12 =>
  mguard x13 false (fun k => m R (o_fieldAddr 52 x18 0) w12 k) w12 fun x19 w13 =>
  mguard x13 false (fun k => m R (o_load 3 x19) w13 k) w13 fun x20 w14 =>
  mguard x13 false (fun k => m R (o_bin .eql 3 true x20 (.int .i64 0)) w14 k) w14 fun x21 w15 =>
  m R (o_pick x13 (.bool true) x21) w15 fun x22 w16 =>
  R (.returned x22) w16
def A_bevyref08_None : Ann := ⟨[], [], [], [], []⟩
theorem E_bevyref08_None (x0 x1 : Value) (w : World) (R : Ending → World → Prop) : cwp Try.prog A_bevyref08_None (Try.f84.body.getD .skip) (retPost Try.prog Try.f84.results.toList R) (argE [x0, x1]) w = F_bevyref08_None x0 x1 w R := by kernel_rfl
theorem C_bevyref08_None {x0 x1 : Value} {w : World} {R : Ending → World → Prop} (h : F_bevyref08_None x0 x1 w R) : Calls Try.prog 84 #[x0, x1] w R :=
  calls_cwp (A := A_bevyref08_None) (args := [x0, x1]) mixed Try.func84 (c := Try.f84.body.getD .skip) (by kernel_rfl) (by kernel_rfl) (by kernel_rfl) ((E_bevyref08_None x0 x1 w R).mpr h)

/-- bevy/bevyref08.blank -/
def F_bevyref08_blank (x0 x1 : Value) (w : World) (R : Ending → World → Prop) : Prop :=
  m R (o_box 49 x0) w fun x2 w1 =>
  m R (o_alloc 49) w1 fun x4 w2 =>
  m R (o_load 49 x2) w2 fun x6 w3 =>
  m R (o_call (fv 79) [x6]) w3 fun x7 w4 =>
  m R (o_store 49 x2 x7) w4 fun _ w5 =>
  ml1 (.int .i64 0) w5 fun x5 u3 w6 next3 =>
    m R (o_fieldAddr 49 x2 1) w6 fun x9 w7 =>
    m R (o_load 47 x9) w7 fun x10 w8 =>
    m R (o_builtin .len #[47] 3 [false] [x10]) w8 fun x11 w9 =>
    m R (o_bin .lss 3 false x5 x11) w9 fun x12 w10 =>
    mif x12 (
      mj0 (fun j4 =>
        m R (o_fieldAddr 49 x2 0) w10 fun x15 w11 =>
        m R (o_load 46 x15) w11 fun x16 w12 =>
        m R (o_builtin .len #[46] 3 [false] [x16]) w12 fun x17 w13 =>
        m R (o_bin .mul 3 true (.int .i64 2) x5) w13 fun x19 w14 =>
        m R (o_bin .add 3 true x19 (.int .i64 1)) w14 fun x20 w15 =>
        m R (o_call (fv 45) [x17, x20, x1]) w15 fun x22 w16 =>
        mif x22 (
          m R (o_fieldAddr 49 x2 1) w16 fun x23 w17 =>
          m R (o_load 47 x23) w17 fun x24 w18 =>
          m R (o_build 104 []) w18 fun x26 w19 =>
          m R (o_indexAddr 47 x24 x5) w19 fun x27 w20 =>
          m R (o_store 104 x27 x26) w20 fun _ w21 =>
          j4 w21) (
          j4 w16)) fun u4 w22 =>
      m R (o_bin .add 3 true x5 (.int .i64 1)) w22 fun x14 w23 =>
      next3 x14 w23) (
      m R (o_load 49 x2) w10 fun x28 w24 =>
      m R (o_store 49 x4 x28) w24 fun _ w25 =>
      rcell Try.prog 49 x4 w25 fun r4 =>
      R (.returned r4) w25)
def A_bevyref08_blank : Ann := ⟨[(3, [5], 268435232)], [(4, [], 268402688)], [], [], []⟩
theorem E_bevyref08_blank (x0 x1 : Value) (w : World) (R : Ending → World → Prop) : cwp Try.prog A_bevyref08_blank (Try.f85.body.getD .skip) (retPost Try.prog Try.f85.results.toList R) (argE [x0, x1]) w = F_bevyref08_blank x0 x1 w R := by kernel_rfl
theorem C_bevyref08_blank {x0 x1 : Value} {w : World} {R : Ending → World → Prop} (h : F_bevyref08_blank x0 x1 w R) : Calls Try.prog 85 #[x0, x1] w R :=
  calls_cwp (A := A_bevyref08_blank) (args := [x0, x1]) mixed Try.func85 (c := Try.f85.body.getD .skip) (by kernel_rfl) (by kernel_rfl) (by kernel_rfl) ((E_bevyref08_blank x0 x1 w R).mpr h)

/-- bevy/tree.sound -/
def F_tree_sound (x0 : Value) (w : World) (R : Ending → World → Prop) : Prop :=
  m R (o_box 49 x0) w fun x1 w1 =>
  m R (o_alloc 49) w1 fun x2 w2 =>
  m R (o_load 49 x1) w2 fun x3 w3 =>
  m R (o_call (fv 33) [x3]) w3 fun x4 w4 =>
  mif x4 (
    m R (o_load 49 x1) w4 fun x5 w5 =>
    m R (o_store 49 x2 x5) w5 fun _ w6 =>
    rcell Try.prog 49 x2 w6 fun r2 =>
    R (.returned r2) w6) (
    m R (o_build 49 []) w4 fun x6 w7 =>
    m R (o_store 49 x2 x6) w7 fun _ w8 =>
    rcell Try.prog 49 x2 w8 fun r2 =>
    R (.returned r2) w8)
def A_tree_sound : Ann := ⟨[], [], [], [], []⟩
theorem E_tree_sound (x0 : Value) (w : World) (R : Ending → World → Prop) : cwp Try.prog A_tree_sound (Try.f87.body.getD .skip) (retPost Try.prog Try.f87.results.toList R) (argE [x0]) w = F_tree_sound x0 w R := by kernel_rfl
theorem C_tree_sound {x0 : Value} {w : World} {R : Ending → World → Prop} (h : F_tree_sound x0 w R) : Calls Try.prog 87 #[x0] w R :=
  calls_cwp (A := A_tree_sound) (args := [x0]) mixed Try.func87 (c := Try.f87.body.getD .skip) (by kernel_rfl) (by kernel_rfl) (by kernel_rfl) ((E_tree_sound x0 w R).mpr h)

/-- bevy/bough.Left -/
def F_bough_Left (x0 x1 : Value) (w : World) (R : Ending → World → Prop) : Prop :=
  mj1 (fun j4 =>
    m R (o_call (fv 130) [x0, x1]) w fun x8 w1 =>
    mif x8 (
      m R (o_call (fv 131) [x1]) w1 fun x10 w2 =>
      j4 x10 w2) (
      j4 (.int .i64 0) w1)) fun x5 u4 w3 =>
  m R (o_bin .eql 3 true x5 (.int .i64 0)) w3 fun x12 w4 =>
  mif x12 (
    R (.returned (.int .i64 (-1))) w4) (
    m R (o_bin .sub 3 true x5 (.int .i64 1)) w4 fun x15 w5 =>
    m R (o_bin .shl 3 true (.int .i64 1) x15) w5 fun x16 w6 =>
    m R (o_bin .sub 3 false x1 x16) w6 fun x17 w7 =>
    R (.returned x17) w7)
def A_bough_Left : Ann := ⟨[], [(4, [5], 2016)], [], [], []⟩
theorem E_bough_Left (x0 x1 : Value) (w : World) (R : Ending → World → Prop) : cwp Try.prog A_bough_Left (Try.f89.body.getD .skip) (retPost Try.prog Try.f89.results.toList R) (argE [x0, x1]) w = F_bough_Left x0 x1 w R := by kernel_rfl
theorem C_bough_Left {x0 x1 : Value} {w : World} {R : Ending → World → Prop} (h : F_bough_Left x0 x1 w R) : Calls Try.prog 89 #[x0, x1] w R :=
  calls_cwp (A := A_bough_Left) (args := [x0, x1]) mixed Try.func89 (c := Try.f89.body.getD .skip) (by kernel_rfl) (by kernel_rfl) (by kernel_rfl) ((E_bough_Left x0 x1 w R).mpr h)

/-- bevy/bough.Right -/
def F_bough_Right (x0 x1 : Value) (w : World) (R : Ending → World → Prop) : Prop :=
  mj1 (fun j4 =>
    m R (o_call (fv 130) [x0, x1]) w fun x8 w1 =>
    mif x8 (
      m R (o_call (fv 131) [x1]) w1 fun x10 w2 =>
      j4 x10 w2) (
      j4 (.int .i64 0) w1)) fun x5 u4 w3 =>
  m R (o_bin .eql 3 true x5 (.int .i64 0)) w3 fun x12 w4 =>
  mif x12 (
    R (.returned (.int .i64 (-1))) w4) (
    m R (o_bin .sub 3 true x5 (.int .i64 1)) w4 fun x15 w5 =>
    m R (o_bin .shl 3 true (.int .i64 1) x15) w5 fun x16 w6 =>
    m R (o_bin .add 3 false x1 x16) w6 fun x17 w7 =>
    ml1 x17 w7 fun x1 u7 w8 next7 =>
      m R (o_call (fv 130) [x0, x1]) w8 fun x20 w9 =>
      m R (o_un .not x20) w9 fun x21 w10 =>
      mif x21 (
        m R (o_call (fv 131) [x1]) w10 fun x24 w11 =>
        m R (o_bin .sub 3 true x24 (.int .i64 1)) w11 fun x25 w12 =>
        m R (o_bin .shl 3 true (.int .i64 1) x25) w12 fun x26 w13 =>
        m R (o_bin .sub 3 false x1 x26) w13 fun x27 w14 =>
        next7 x27 w14) (
        R (.returned x1) w10))
def A_bough_Right : Ann := ⟨[(7, [1], 268173314)], [(4, [5], 2016)], [], [], []⟩
theorem E_bough_Right (x0 x1 : Value) (w : World) (R : Ending → World → Prop) : cwp Try.prog A_bough_Right (Try.f90.body.getD .skip) (retPost Try.prog Try.f90.results.toList R) (argE [x0, x1]) w = F_bough_Right x0 x1 w R := by kernel_rfl
theorem C_bough_Right {x0 x1 : Value} {w : World} {R : Ending → World → Prop} (h : F_bough_Right x0 x1 w R) : Calls Try.prog 90 #[x0, x1] w R :=
  calls_cwp (A := A_bough_Right) (args := [x0, x1]) mixed Try.func90 (c := Try.f90.body.getD .skip) (by kernel_rfl) (by kernel_rfl) (by kernel_rfl) ((E_bough_Right x0 x1 w R).mpr h)

/-- bevy/bevyref07.There -/
def F_bevyref07_There (x0 x1 : Value) (w : World) (R : Ending → World → Prop) : Prop :=
  m R (o_bin .geq 3 true x0 (.int .i64 1)) w fun x6 w1 =>
  mguard x6 true (fun k => m R (o_move x0) w1 k) w1 fun x8 w2 =>
  mguard x6 true (fun k => m R (o_bin .leq 3 true x8 (.int .i64 64)) w2 k) w2 fun x9 w3 =>
  m R (o_pick x6 x9 (.bool false)) w3 fun x10 w4 =>
  mguard x10 true (fun k => m R (o_move x1) w4 k) w4 fun x12 w5 =>
  mguard x10 true (fun k => m R (o_bin .geq 3 true x12 (.int .i64 0)) w5 k) w5 fun x13 w6 =>
  m R (o_pick x10 x13 (.bool false)) w6 fun x14 w7 =>
  mguard x14 true (fun k => m R (o_move x1) w7 k) w7 fun x16 w8 =>
  mguard x14 true (fun k => m R (o_move x0) w8 k) w8 fun x17 w9 =>
  mguard x14 true (fun k => m R (o_bin .mul 3 true (.int .i64 2) x17) w9 k) w9 fun x18 w10 =>
  mguard x14 true (fun k => m R (o_bin .sub 3 true x18 (.int .i64 2)) w10 k) w10 fun x19 w11 =>
  mguard x14 true (fun k => m R (o_bin .leq 3 false x16 x19) w11 k) w11 fun x20 w12 =>
  m R (o_pick x14 x20 (.bool false)) w12 fun x21 w13 =>
  R (.returned x21) w13
def A_bevyref07_There : Ann := ⟨[], [], [], [], []⟩
theorem E_bevyref07_There (x0 x1 : Value) (w : World) (R : Ending → World → Prop) : cwp Try.prog A_bevyref07_There (Try.f91.body.getD .skip) (retPost Try.prog Try.f91.results.toList R) (argE [x0, x1]) w = F_bevyref07_There x0 x1 w R := by kernel_rfl
theorem C_bevyref07_There {x0 x1 : Value} {w : World} {R : Ending → World → Prop} (h : F_bevyref07_There x0 x1 w R) : Calls Try.prog 91 #[x0, x1] w R :=
  calls_cwp (A := A_bevyref07_There) (args := [x0, x1]) mixed Try.func91 (c := Try.f91.body.getD .skip) (by kernel_rfl) (by kernel_rfl) (by kernel_rfl) ((E_bevyref07_There x0 x1 w R).mpr h)

/-- bevy/bevyref07.root -/
def F_bevyref07_root (x0 x1 : Value) (w : World) (R : Ending → World → Prop) : Prop :=
  m R (o_bin .eql 3 true x1 (.int .i64 1)) w fun x6 w1 =>
  mif x6 (
    m R (o_bin .mul 3 true (.int .i64 2) x0) w1 fun x8 w2 =>
    R (.returned x8) w2) (
    m R (o_call (fv 132) [x1]) w1 fun x11 w3 =>
    m R (o_bin .add 3 false x0 x11) w3 fun x12 w4 =>
    m R (o_bin .mul 3 true (.int .i64 2) x12) w4 fun x13 w5 =>
    m R (o_bin .sub 3 true x13 (.int .i64 1)) w5 fun x14 w6 =>
    R (.returned x14) w6)
def A_bevyref07_root : Ann := ⟨[], [], [], [], []⟩
theorem E_bevyref07_root (x0 x1 : Value) (w : World) (R : Ending → World → Prop) : cwp Try.prog A_bevyref07_root (Try.f92.body.getD .skip) (retPost Try.prog Try.f92.results.toList R) (argE [x0, x1]) w = F_bevyref07_root x0 x1 w R := by kernel_rfl
theorem C_bevyref07_root {x0 x1 : Value} {w : World} {R : Ending → World → Prop} (h : F_bevyref07_root x0 x1 w R) : Calls Try.prog 92 #[x0, x1] w R :=
  calls_cwp (A := A_bevyref07_root) (args := [x0, x1]) mixed Try.func92 (c := Try.f92.body.getD .skip) (by kernel_rfl) (by kernel_rfl) (by kernel_rfl) ((E_bevyref07_root x0 x1 w R).mpr h)

/-- bevy/bevyref07.Leaves -/
def F_bevyref07_Leaves (x0 x1 : Value) (w : World) (R : Ending → World → Prop) : Prop :=
  m R (o_call (fv 91) [x0, x1]) w fun x12 w1 =>
  m R (o_un .not x12) w1 fun x13 w2 =>
  mif x13 (
    R (.returned (.tuple #[(.int .i64 0), (.int .i64 0)])) w2) (
    m R (o_call (fv 133) [(.int .i64 0), x0, x1, (.int .i64 (-1)), (.int .i64 (-1))]) w2 fun x17 w3 =>
    m R (o_extract x17 0) w3 fun x18 w4 =>
    m R (o_extract x17 1) w4 fun x19 w5 =>
    m R (o_extract x17 2) w5 fun x20 w6 =>
    m R (o_extract x17 3) w6 fun x21 w7 =>
    m R (o_bin .add 3 false x18 x19) w7 fun x25 w8 =>
    R (.returned (.tuple #[x18, x25])) w8)
def A_bevyref07_Leaves : Ann := ⟨[], [], [], [], []⟩
theorem E_bevyref07_Leaves (x0 x1 : Value) (w : World) (R : Ending → World → Prop) : cwp Try.prog A_bevyref07_Leaves (Try.f93.body.getD .skip) (retPost Try.prog Try.f93.results.toList R) (argE [x0, x1]) w = F_bevyref07_Leaves x0 x1 w R := by kernel_rfl
theorem C_bevyref07_Leaves {x0 x1 : Value} {w : World} {R : Ending → World → Prop} (h : F_bevyref07_Leaves x0 x1 w R) : Calls Try.prog 93 #[x0, x1] w R :=
  calls_cwp (A := A_bevyref07_Leaves) (args := [x0, x1]) mixed Try.func93 (c := Try.f93.body.getD .skip) (by kernel_rfl) (by kernel_rfl) (by kernel_rfl) ((E_bevyref07_Leaves x0 x1 w R).mpr h)

/-- bevy/bough.Root -/
def F_bough_Root (x0 : Value) (w : World) (R : Ending → World → Prop) : Prop :=
  m R (o_call (fv 130) [x0, (.int .i64 0)]) w fun x5 w1 =>
  m R (o_un .not x5) w1 fun x6 w2 =>
  mif x6 (
    R (.returned (.int .i64 (-1))) w2) (
    ml1 (.int .i64 1) w2 fun x3 u4 w3 next4 =>
      m R (o_bin .lss 3 false x3 x0) w3 fun x9 w4 =>
      mif x9 (
        m R (o_bin .mul 3 true x3 (.int .i64 2)) w4 fun x11 w5 =>
        next4 x11 w5) (
        m R (o_bin .sub 3 true x3 (.int .i64 1)) w4 fun x13 w6 =>
        R (.returned x13) w6))
def A_bough_Root : Ann := ⟨[(4, [3], 3976)], [], [], [], []⟩
theorem E_bough_Root (x0 : Value) (w : World) (R : Ending → World → Prop) : cwp Try.prog A_bough_Root (Try.f95.body.getD .skip) (retPost Try.prog Try.f95.results.toList R) (argE [x0]) w = F_bough_Root x0 w R := by kernel_rfl
theorem C_bough_Root {x0 : Value} {w : World} {R : Ending → World → Prop} (h : F_bough_Root x0 w R) : Calls Try.prog 95 #[x0] w R :=
  calls_cwp (A := A_bough_Root) (args := [x0]) mixed Try.func95 (c := Try.f95.body.getD .skip) (by kernel_rfl) (by kernel_rfl) (by kernel_rfl) ((E_bough_Root x0 w R).mpr h)

/-- bevy/bevyref07.Direct -/
def F_bevyref07_Direct (x0 x1 : Value) (w : World) (R : Ending → World → Prop) : Prop :=
  mj1 (fun j3 =>
    m R (o_bin .lss 3 true x1 (.int .i64 0)) w fun x8 w1 =>
    mguard x8 false (fun k => m R (o_move x1) w1 k) w1 fun x10 w2 =>
    mguard x8 false (fun k => m R (o_move x0) w2 k) w2 fun x11 w3 =>
    mguard x8 false (fun k => m R (o_bin .geq 3 false x10 x11) w3 k) w3 fun x12 w4 =>
    m R (o_pick x8 (.bool true) x12) w4 fun x13 w5 =>
    mguard x13 false (fun k => m R (o_move x0) w5 k) w5 fun x15 w6 =>
    mguard x13 false (fun k => m R (o_call (fv 91) [x15, (.int .i64 0)]) w6 k) w6 fun x16 w7 =>
    mguard x13 false (fun k => m R (o_un .not x16) w7 k) w7 fun x17 w8 =>
    m R (o_pick x13 (.bool true) x17) w8 fun x18 w9 =>
    j3 x18 w9) fun x18 u3 w10 =>
  mif x18 (
    R (.returned (.slice none 0 0)) w10) (
    m R (o_bin .mul 3 true (.int .i64 2) x1) w10 fun x22 w11 =>
    m R (o_call (fv 141) [x0, x22]) w11 fun x23 w12 =>
    ml2 (.slice none 0 0) x23 w12 fun x5 x6 u5 w13 next5 =>
      m R (o_bin .geq 3 true x6 (.int .i64 0)) w13 fun x25 w14 =>
      mif x25 (
        m R (o_buildSlice 69 1 [(0, x6)]) w14 fun x31 w15 =>
        m R (o_builtin .append #[69, 69] 69 [false, false] [x5, x31]) w15 fun x32 w16 =>
        m R (o_call (fv 141) [x0, x6]) w16 fun x28 w17 =>
        next5 x32 x28 w17) (
        R (.returned x5) w14))
def A_bevyref07_Direct : Ann := ⟨[(5, [5, 6], 8573157472)], [(3, [18], 524160)], [], [], []⟩
theorem E_bevyref07_Direct (x0 x1 : Value) (w : World) (R : Ending → World → Prop) : cwp Try.prog A_bevyref07_Direct (Try.f97.body.getD .skip) (retPost Try.prog Try.f97.results.toList R) (argE [x0, x1]) w = F_bevyref07_Direct x0 x1 w R := by kernel_rfl
theorem C_bevyref07_Direct {x0 x1 : Value} {w : World} {R : Ending → World → Prop} (h : F_bevyref07_Direct x0 x1 w R) : Calls Try.prog 97 #[x0, x1] w R :=
  calls_cwp (A := A_bevyref07_Direct) (args := [x0, x1]) mixed Try.func97 (c := Try.f97.body.getD .skip) (by kernel_rfl) (by kernel_rfl) (by kernel_rfl) ((E_bevyref07_Direct x0 x1 w R).mpr h)

/-- bevy/bough.Beside -/
def F_bough_Beside (x0 x1 : Value) (w : World) (R : Ending → World → Prop) : Prop :=
  m R (o_call (fv 142) [x0, x1]) w fun x8 w1 =>
  m R (o_bin .lss 3 true x8 (.int .i64 0)) w1 fun x11 w2 =>
  mif x11 (
    R (.returned (.int .i64 (-1))) w2) (
    m R (o_bin .lss 3 false x1 x8) w2 fun x15 w3 =>
    mif x15 (
      m R (o_call (fv 90) [x0, x8]) w3 fun x18 w4 =>
      R (.returned x18) w4) (
      m R (o_call (fv 89) [x0, x8]) w3 fun x21 w5 =>
      R (.returned x21) w5))
def A_bough_Beside : Ann := ⟨[], [], [], [], []⟩
theorem E_bough_Beside (x0 x1 : Value) (w : World) (R : Ending → World → Prop) : cwp Try.prog A_bough_Beside (Try.f99.body.getD .skip) (retPost Try.prog Try.f99.results.toList R) (argE [x0, x1]) w = F_bough_Beside x0 x1 w R := by kernel_rfl
theorem C_bough_Beside {x0 x1 : Value} {w : World} {R : Ending → World → Prop} (h : F_bough_Beside x0 x1 w R) : Calls Try.prog 99 #[x0, x1] w R :=
  calls_cwp (A := A_bough_Beside) (args := [x0, x1]) mixed Try.func99 (c := Try.f99.body.getD .skip) (by kernel_rfl) (by kernel_rfl) (by kernel_rfl) ((E_bough_Beside x0 x1 w R).mpr h)

/-- bevy/bough.Leaves -/
def F_bough_Leaves (x0 x1 : Value) (w : World) (R : Ending → World → Prop) : Prop :=
  m R (o_call (fv 130) [x0, x1]) w fun x9 w1 =>
  m R (o_un .not x9) w1 fun x10 w2 =>
  mif x10 (
    R (.returned (.tuple #[(.int .i64 0), (.int .i64 0)])) w2) (
    m R (o_call (fv 131) [x1]) w2 fun x12 w3 =>
    m R (o_bin .shl 3 true (.int .i64 1) x12) w3 fun x13 w4 =>
    m R (o_bin .add 3 true x1 (.int .i64 1)) w4 fun x15 w5 =>
    m R (o_bin .sub 3 false x15 x13) w5 fun x17 w6 =>
    m R (o_bin .quo 3 true x17 (.int .i64 2)) w6 fun x18 w7 =>
    m R (o_bin .add 3 true x1 (.int .i64 1)) w7 fun x20 w8 =>
    m R (o_bin .add 3 false x20 x13) w8 fun x22 w9 =>
    m R (o_bin .quo 3 true x22 (.int .i64 2)) w9 fun x23 w10 =>
    m R (o_builtin .min #[3, 3] 3 [false, false] [x23, x0]) w10 fun x25 w11 =>
    R (.returned (.tuple #[x18, x25])) w11)
def A_bough_Leaves : Ann := ⟨[], [], [], [], []⟩
theorem E_bough_Leaves (x0 x1 : Value) (w : World) (R : Ending → World → Prop) : cwp Try.prog A_bough_Leaves (Try.f119.body.getD .skip) (retPost Try.prog Try.f119.results.toList R) (argE [x0, x1]) w = F_bough_Leaves x0 x1 w R := by kernel_rfl
theorem C_bough_Leaves {x0 x1 : Value} {w : World} {R : Ending → World → Prop} (h : F_bough_Leaves x0 x1 w R) : Calls Try.prog 119 #[x0, x1] w R :=
  calls_cwp (A := A_bough_Leaves) (args := [x0, x1]) mixed Try.func119 (c := Try.f119.body.getD .skip) (by kernel_rfl) (by kernel_rfl) (by kernel_rfl) ((E_bough_Leaves x0 x1 w R).mpr h)

/-- slices.IndexFunc[[]bevy/api.Leaf,bevy/api.Leaf] -/
def F_slices_IndexFunc_api_Leaf_api_Leaf (x0 x1 : Value) (w : World) (R : Ending → World → Prop) : Prop :=
  m R (o_builtin .len #[46] 3 [false] [x0]) w fun x7 w1 =>
  ml1 (.int .i64 0) w1 fun x8 u2 w2 next2 =>
    m R (o_bin .lss 3 false x8 x7) w2 fun x9 w3 =>
    mif x9 (
      m R (o_indexAddr 46 x0 x8) w3 fun x14 w4 =>
      m R (o_load 52 x14) w4 fun x15 w5 =>
      m R (o_call x1 [x15]) w5 fun x16 w6 =>
      mif x16 (
        R (.returned x8) w6) (
        m R (o_bin .add 3 true x8 (.int .i64 1)) w6 fun x18 w7 =>
        next2 x18 w7)) (
      R (.returned (.int .i64 (-1))) w3)
def A_slices_IndexFunc_api_Leaf_api_Leaf : Ann := ⟨[(2, [8], 524080)], [], [], [], []⟩
theorem E_slices_IndexFunc_api_Leaf_api_Leaf (x0 x1 : Value) (w : World) (R : Ending → World → Prop) : cwp Try.prog A_slices_IndexFunc_api_Leaf_api_Leaf (Try.f120.body.getD .skip) (retPost Try.prog Try.f120.results.toList R) (argE [x0, x1]) w = F_slices_IndexFunc_api_Leaf_api_Leaf x0 x1 w R := by kernel_rfl
theorem C_slices_IndexFunc_api_Leaf_api_Leaf {x0 x1 : Value} {w : World} {R : Ending → World → Prop} (h : F_slices_IndexFunc_api_Leaf_api_Leaf x0 x1 w R) : Calls Try.prog 120 #[x0, x1] w R :=
  calls_cwp (A := A_slices_IndexFunc_api_Leaf_api_Leaf) (args := [x0, x1]) mixed Try.func120 (c := Try.f120.body.getD .skip) (by kernel_rfl) (by kernel_rfl) (by kernel_rfl) ((E_slices_IndexFunc_api_Leaf_api_Leaf x0 x1 w R).mpr h)

/-- bevy/tree.Place$1 -/
def F_tree_Place_1 (x0 x1 : Value) (w : World) (R : Ending → World → Prop) : Prop :=
  m R (o_box 52 x0) w fun x2 w1 =>
  m R (o_fieldAddr 52 x2 0) w1 fun x4 w2 =>
  m R (o_load 3 x4) w2 fun x5 w3 =>
  m R (o_load 3 x1) w3 fun x6 w4 =>
  m R (o_bin .eql 3 false x5 x6) w4 fun x7 w5 =>
  R (.returned x7) w5
def A_tree_Place_1 : Ann := ⟨[], [], [], [], []⟩
theorem E_tree_Place_1 (x0 x1 : Value) (w : World) (R : Ending → World → Prop) : cwp Try.prog A_tree_Place_1 (Try.f121.body.getD .skip) (retPost Try.prog Try.f121.results.toList R) (argE [x0, x1]) w = F_tree_Place_1 x0 x1 w R := by kernel_rfl
theorem C_tree_Place_1 {x0 x1 : Value} {w : World} {R : Ending → World → Prop} (h : F_tree_Place_1 x0 x1 w R) : Calls Try.prog 121 #[x0, x1] w R :=
  calls_cwp (A := A_tree_Place_1) (args := [x0, x1]) mixed Try.func121 (c := Try.f121.body.getD .skip) (by kernel_rfl) (by kernel_rfl) (by kernel_rfl) ((E_tree_Place_1 x0 x1 w R).mpr h)

/-- slices.Clone[[]bevy/api.Leaf,bevy/api.Leaf] -/
def F_slices_Clone_api_Leaf_api_Leaf (x0 : Value) (w : World) (R : Ending → World → Prop) : Prop :=
  m R (o_bin .eql 46 true x0 (.slice none 0 0)) w fun x4 w1 =>
  mif x4 (
    R (.returned (.slice none 0 0)) w1) (
    m R (o_buildSlice 46 0 []) w1 fun x5 w2 =>
    m R (o_builtin .append #[46, 46] 46 [false, false] [x5, x0]) w2 fun x7 w3 =>
    R (.returned x7) w3)
def A_slices_Clone_api_Leaf_api_Leaf : Ann := ⟨[], [], [], [], []⟩
theorem E_slices_Clone_api_Leaf_api_Leaf (x0 : Value) (w : World) (R : Ending → World → Prop) : cwp Try.prog A_slices_Clone_api_Leaf_api_Leaf (Try.f122.body.getD .skip) (retPost Try.prog Try.f122.results.toList R) (argE [x0]) w = F_slices_Clone_api_Leaf_api_Leaf x0 w R := by kernel_rfl
theorem C_slices_Clone_api_Leaf_api_Leaf {x0 : Value} {w : World} {R : Ending → World → Prop} (h : F_slices_Clone_api_Leaf_api_Leaf x0 w R) : Calls Try.prog 122 #[x0] w R :=
  calls_cwp (A := A_slices_Clone_api_Leaf_api_Leaf) (args := [x0]) mixed Try.func122 (c := Try.f122.body.getD .skip) (by kernel_rfl) (by kernel_rfl) (by kernel_rfl) ((E_slices_Clone_api_Leaf_api_Leaf x0 w R).mpr h)

/-- slices.Clone[[]bevy/api.Parent,bevy/api.Parent] -/
def F_slices_Clone_api_Parent_api_Parent (x0 : Value) (w : World) (R : Ending → World → Prop) : Prop :=
  m R (o_bin .eql 47 true x0 (.slice none 0 0)) w fun x4 w1 =>
  mif x4 (
    R (.returned (.slice none 0 0)) w1) (
    m R (o_buildSlice 47 0 []) w1 fun x5 w2 =>
    m R (o_builtin .append #[47, 47] 47 [false, false] [x5, x0]) w2 fun x7 w3 =>
    R (.returned x7) w3)
def A_slices_Clone_api_Parent_api_Parent : Ann := ⟨[], [], [], [], []⟩
theorem E_slices_Clone_api_Parent_api_Parent (x0 : Value) (w : World) (R : Ending → World → Prop) : cwp Try.prog A_slices_Clone_api_Parent_api_Parent (Try.f123.body.getD .skip) (retPost Try.prog Try.f123.results.toList R) (argE [x0]) w = F_slices_Clone_api_Parent_api_Parent x0 w R := by kernel_rfl
theorem C_slices_Clone_api_Parent_api_Parent {x0 : Value} {w : World} {R : Ending → World → Prop} (h : F_slices_Clone_api_Parent_api_Parent x0 w R) : Calls Try.prog 123 #[x0] w R :=
  calls_cwp (A := A_slices_Clone_api_Parent_api_Parent) (args := [x0]) mixed Try.func123 (c := Try.f123.body.getD .skip) (by kernel_rfl) (by kernel_rfl) (by kernel_rfl) ((E_slices_Clone_api_Parent_api_Parent x0 w R).mpr h)

/-- slices.Clone[[]int,int] -/
def F_slices_Clone_int_int (x0 : Value) (w : World) (R : Ending → World → Prop) : Prop :=
  m R (o_bin .eql 69 true x0 (.slice none 0 0)) w fun x4 w1 =>
  mif x4 (
    R (.returned (.slice none 0 0)) w1) (
    m R (o_buildSlice 69 0 []) w1 fun x5 w2 =>
    m R (o_builtin .append #[69, 69] 69 [false, false] [x5, x0]) w2 fun x7 w3 =>
    R (.returned x7) w3)
def A_slices_Clone_int_int : Ann := ⟨[], [], [], [], []⟩
theorem E_slices_Clone_int_int (x0 : Value) (w : World) (R : Ending → World → Prop) : cwp Try.prog A_slices_Clone_int_int (Try.f124.body.getD .skip) (retPost Try.prog Try.f124.results.toList R) (argE [x0]) w = F_slices_Clone_int_int x0 w R := by kernel_rfl
theorem C_slices_Clone_int_int {x0 : Value} {w : World} {R : Ending → World → Prop} (h : F_slices_Clone_int_int x0 w R) : Calls Try.prog 124 #[x0] w R :=
  calls_cwp (A := A_slices_Clone_int_int) (args := [x0]) mixed Try.func124 (c := Try.f124.body.getD .skip) (by kernel_rfl) (by kernel_rfl) (by kernel_rfl) ((E_slices_Clone_int_int x0 w R).mpr h)

/-- bevy/bough.up -/
def F_bough_up (x0 x1 : Value) (w : World) (R : Ending → World → Prop) : Prop :=
  m R (o_box 3 x0) w fun x2 w1 =>
  m R (o_box 3 x1) w1 fun x3 w2 =>
  m R (o_func (.func 147) [] [x2, x3]) w2 fun x5 w3 =>
  R (.returned x5) w3
def A_bough_up : Ann := ⟨[], [], [], [], []⟩
theorem E_bough_up (x0 x1 : Value) (w : World) (R : Ending → World → Prop) : cwp Try.prog A_bough_up (Try.f125.body.getD .skip) (retPost Try.prog Try.f125.results.toList R) (argE [x0, x1]) w = F_bough_up x0 x1 w R := by kernel_rfl
theorem C_bough_up {x0 x1 : Value} {w : World} {R : Ending → World → Prop} (h : F_bough_up x0 x1 w R) : Calls Try.prog 125 #[x0, x1] w R :=
  calls_cwp (A := A_bough_up) (args := [x0, x1]) mixed Try.func125 (c := Try.f125.body.getD .skip) (by kernel_rfl) (by kernel_rfl) (by kernel_rfl) ((E_bough_up x0 x1 w R).mpr h)

/-- cmp.Less[int] -/
def F_cmp_Less_int (x0 x1 : Value) (w : World) (R : Ending → World → Prop) : Prop :=
  m R (o_call (fv 148) [x0]) w fun x6 w1 =>
  mguard x6 true (fun k => m R (o_move x1) w1 k) w1 fun x8 w2 =>
  mguard x6 true (fun k => m R (o_call (fv 148) [x8]) w2 k) w2 fun x9 w3 =>
  mguard x6 true (fun k => m R (o_un .not x9) w3 k) w3 fun x10 w4 =>
  m R (o_pick x6 x10 (.bool false)) w4 fun x11 w5 =>
  mguard x11 false (fun k => m R (o_move x0) w5 k) w5 fun x13 w6 =>
  mguard x11 false (fun k => m R (o_move x1) w6 k) w6 fun x14 w7 =>
  mguard x11 false (fun k => m R (o_bin .lss 3 false x13 x14) w7 k) w7 fun x15 w8 =>
  m R (o_pick x11 (.bool true) x15) w8 fun x16 w9 =>
  R (.returned x16) w9
def A_cmp_Less_int : Ann := ⟨[], [], [], [], []⟩
theorem E_cmp_Less_int (x0 x1 : Value) (w : World) (R : Ending → World → Prop) : cwp Try.prog A_cmp_Less_int (Try.f126.body.getD .skip) (retPost Try.prog Try.f126.results.toList R) (argE [x0, x1]) w = F_cmp_Less_int x0 x1 w R := by kernel_rfl
theorem C_cmp_Less_int {x0 x1 : Value} {w : World} {R : Ending → World → Prop} (h : F_cmp_Less_int x0 x1 w R) : Calls Try.prog 126 #[x0, x1] w R :=
  calls_cwp (A := A_cmp_Less_int) (args := [x0, x1]) mixed Try.func126 (c := Try.f126.body.getD .skip) (by kernel_rfl) (by kernel_rfl) (by kernel_rfl) ((E_cmp_Less_int x0 x1 w R).mpr h)

/-- slices.isNaN[int] -/
def F_slices_isNaN_int (x0 : Value) (w : World) (R : Ending → World → Prop) : Prop :=
  m R (o_bin .neq 3 false x0 x0) w fun x5 w1 =>
  R (.returned x5) w1
def A_slices_isNaN_int : Ann := ⟨[], [], [], [], []⟩
theorem E_slices_isNaN_int (x0 : Value) (w : World) (R : Ending → World → Prop) : cwp Try.prog A_slices_isNaN_int (Try.f127.body.getD .skip) (retPost Try.prog Try.f127.results.toList R) (argE [x0]) w = F_slices_isNaN_int x0 w R := by kernel_rfl
theorem C_slices_isNaN_int {x0 : Value} {w : World} {R : Ending → World → Prop} (h : F_slices_isNaN_int x0 w R) : Calls Try.prog 127 #[x0] w R :=
  calls_cwp (A := A_slices_isNaN_int) (args := [x0]) mixed Try.func127 (c := Try.f127.body.getD .skip) (by kernel_rfl) (by kernel_rfl) (by kernel_rfl) ((E_slices_isNaN_int x0 w R).mpr h)

/-- slices.rotateRight[int] -/
def F_slices_rotateRight_int (x0 x1 : Value) (w : World) (R : Ending → World → Prop) : Prop :=
  m R (o_builtin .len #[69] 3 [false] [x0]) w fun x6 w1 =>
  m R (o_bin .sub 3 false x6 x1) w1 fun x8 w2 =>
  m R (o_call (fv 149) [x0, x8]) w2 fun x9 w3 =>
  R (.returned (.tuple #[])) w3
def A_slices_rotateRight_int : Ann := ⟨[], [], [], [], []⟩
theorem E_slices_rotateRight_int (x0 x1 : Value) (w : World) (R : Ending → World → Prop) : cwp Try.prog A_slices_rotateRight_int (Try.f129.body.getD .skip) (retPost Try.prog Try.f129.results.toList R) (argE [x0, x1]) w = F_slices_rotateRight_int x0 x1 w R := by kernel_rfl
theorem C_slices_rotateRight_int {x0 x1 : Value} {w : World} {R : Ending → World → Prop} (h : F_slices_rotateRight_int x0 x1 w R) : Calls Try.prog 129 #[x0, x1] w R :=
  calls_cwp (A := A_slices_rotateRight_int) (args := [x0, x1]) mixed Try.func129 (c := Try.f129.body.getD .skip) (by kernel_rfl) (by kernel_rfl) (by kernel_rfl) ((E_slices_rotateRight_int x0 x1 w R).mpr h)

/-- bevy/bough.there -/
def F_bough_there (x0 x1 : Value) (w : World) (R : Ending → World → Prop) : Prop :=
  m R (o_bin .geq 3 true x0 (.int .i64 1)) w fun x6 w1 =>
  mguard x6 true (fun k => m R (o_move x0) w1 k) w1 fun x8 w2 =>
  mguard x6 true (fun k => m R (o_bin .leq 3 true x8 (.int .i64 64)) w2 k) w2 fun x9 w3 =>
  m R (o_pick x6 x9 (.bool false)) w3 fun x10 w4 =>
  mguard x10 true (fun k => m R (o_move x1) w4 k) w4 fun x12 w5 =>
  mguard x10 true (fun k => m R (o_bin .geq 3 true x12 (.int .i64 0)) w5 k) w5 fun x13 w6 =>
  m R (o_pick x10 x13 (.bool false)) w6 fun x14 w7 =>
  mguard x14 true (fun k => m R (o_move x1) w7 k) w7 fun x16 w8 =>
  mguard x14 true (fun k => m R (o_move x0) w8 k) w8 fun x17 w9 =>
  mguard x14 true (fun k => m R (o_bin .mul 3 true (.int .i64 2) x17) w9 k) w9 fun x18 w10 =>
  mguard x14 true (fun k => m R (o_bin .sub 3 true x18 (.int .i64 2)) w10 k) w10 fun x19 w11 =>
  mguard x14 true (fun k => m R (o_bin .leq 3 false x16 x19) w11 k) w11 fun x20 w12 =>
  m R (o_pick x14 x20 (.bool false)) w12 fun x21 w13 =>
  R (.returned x21) w13
def A_bough_there : Ann := ⟨[], [], [], [], []⟩
theorem E_bough_there (x0 x1 : Value) (w : World) (R : Ending → World → Prop) : cwp Try.prog A_bough_there (Try.f130.body.getD .skip) (retPost Try.prog Try.f130.results.toList R) (argE [x0, x1]) w = F_bough_there x0 x1 w R := by kernel_rfl
theorem C_bough_there {x0 x1 : Value} {w : World} {R : Ending → World → Prop} (h : F_bough_there x0 x1 w R) : Calls Try.prog 130 #[x0, x1] w R :=
  calls_cwp (A := A_bough_there) (args := [x0, x1]) mixed Try.func130 (c := Try.f130.body.getD .skip) (by kernel_rfl) (by kernel_rfl) (by kernel_rfl) ((E_bough_there x0 x1 w R).mpr h)

/-- bevy/bough.level -/
def F_bough_level (x0 : Value) (w : World) (R : Ending → World → Prop) : Prop :=
  ml2 x0 (.int .i64 0) w fun x0 x3 u2 w1 next2 =>
    m R (o_bin .and 3 true x0 (.int .i64 1)) w1 fun x5 w2 =>
    m R (o_bin .eql 3 true x5 (.int .i64 1)) w2 fun x6 w3 =>
    mif x6 (
      m R (o_bin .shr 3 true x0 (.int .u64 1)) w3 fun x8 w4 =>
      m R (o_bin .add 3 true x3 (.int .i64 1)) w4 fun x10 w5 =>
      next2 x8 x10 w5) (
      R (.returned x3) w3)
def A_bough_level : Ann := ⟨[(2, [0, 3], 2041)], [], [], [], []⟩
theorem E_bough_level (x0 : Value) (w : World) (R : Ending → World → Prop) : cwp Try.prog A_bough_level (Try.f131.body.getD .skip) (retPost Try.prog Try.f131.results.toList R) (argE [x0]) w = F_bough_level x0 w R := by kernel_rfl
theorem C_bough_level {x0 : Value} {w : World} {R : Ending → World → Prop} (h : F_bough_level x0 w R) : Calls Try.prog 131 #[x0] w R :=
  calls_cwp (A := A_bough_level) (args := [x0]) mixed Try.func131 (c := Try.f131.body.getD .skip) (by kernel_rfl) (by kernel_rfl) (by kernel_rfl) ((E_bough_level x0 w R).mpr h)

/-- bevy/bevyref07.half -/
def F_bevyref07_half (x0 : Value) (w : World) (R : Ending → World → Prop) : Prop :=
  ml1 (.int .i64 1) w fun x3 u2 w1 next2 =>
    m R (o_bin .mul 3 true (.int .i64 2) x3) w1 fun x5 w2 =>
    m R (o_bin .lss 3 false x5 x0) w2 fun x7 w3 =>
    mif x7 (
      m R (o_bin .mul 3 true (.int .i64 2) x3) w3 fun x9 w4 =>
      next2 x9 w4) (
      R (.returned x3) w3)
def A_bevyref07_half : Ann := ⟨[(2, [3], 1016)], [], [], [], []⟩
theorem E_bevyref07_half (x0 : Value) (w : World) (R : Ending → World → Prop) : cwp Try.prog A_bevyref07_half (Try.f132.body.getD .skip) (retPost Try.prog Try.f132.results.toList R) (argE [x0]) w = F_bevyref07_half x0 w R := by kernel_rfl
theorem C_bevyref07_half {x0 : Value} {w : World} {R : Ending → World → Prop} (h : F_bevyref07_half x0 w R) : Calls Try.prog 132 #[x0] w R :=
  calls_cwp (A := A_bevyref07_half) (args := [x0]) mixed Try.func132 (c := Try.f132.body.getD .skip) (by kernel_rfl) (by kernel_rfl) (by kernel_rfl) ((E_bevyref07_half x0 w R).mpr h)

/-- bevy/bevyref07.find -/
def F_bevyref07_find (x0 x1 x2 x3 x4 : Value) (w : World) (R : Ending → World → Prop) : Prop :=
  m R (o_call (fv 92) [x0, x1]) w fun x20 w1 =>
  m R (o_bin .eql 3 false x20 x2) w1 fun x23 w2 =>
  mif x23 (
    R (.returned (.tuple #[x0, x1, x3, x4])) w2) (
    m R (o_call (fv 132) [x1]) w2 fun x29 w3 =>
    m R (o_call (fv 92) [x0, x29]) w3 fun x32 w4 =>
    m R (o_bin .add 3 false x0 x29) w4 fun x35 w5 =>
    m R (o_bin .sub 3 false x1 x29) w5 fun x38 w6 =>
    m R (o_call (fv 92) [x35, x38]) w6 fun x39 w7 =>
    m R (o_bin .lss 3 false x2 x20) w7 fun x42 w8 =>
    mif x42 (
      m R (o_call (fv 133) [x0, x29, x2, x20, x39]) w8 fun x48 w9 =>
      m R (o_extract x48 0) w9 fun x49 w10 =>
      m R (o_extract x48 1) w10 fun x50 w11 =>
      m R (o_extract x48 2) w11 fun x51 w12 =>
      m R (o_extract x48 3) w12 fun x52 w13 =>
      R (.returned (.tuple #[x49, x50, x51, x52])) w13) (
      m R (o_bin .add 3 false x0 x29) w8 fun x55 w14 =>
      m R (o_bin .sub 3 false x1 x29) w14 fun x58 w15 =>
      m R (o_call (fv 133) [x55, x58, x2, x20, x32]) w15 fun x62 w16 =>
      m R (o_extract x62 0) w16 fun x63 w17 =>
      m R (o_extract x62 1) w17 fun x64 w18 =>
      m R (o_extract x62 2) w18 fun x65 w19 =>
      m R (o_extract x62 3) w19 fun x66 w20 =>
      R (.returned (.tuple #[x63, x64, x65, x66])) w20))
def A_bevyref07_find : Ann := ⟨[], [], [], [], []⟩
theorem E_bevyref07_find (x0 x1 x2 x3 x4 : Value) (w : World) (R : Ending → World → Prop) : cwp Try.prog A_bevyref07_find (Try.f133.body.getD .skip) (retPost Try.prog Try.f133.results.toList R) (argE [x0, x1, x2, x3, x4]) w = F_bevyref07_find x0 x1 x2 x3 x4 w R := by kernel_rfl
theorem C_bevyref07_find {x0 x1 x2 x3 x4 : Value} {w : World} {R : Ending → World → Prop} (h : F_bevyref07_find x0 x1 x2 x3 x4 w R) : Calls Try.prog 133 #[x0, x1, x2, x3, x4] w R :=
  calls_cwp (A := A_bevyref07_find) (args := [x0, x1, x2, x3, x4]) mixed Try.func133 (c := Try.f133.body.getD .skip) (by kernel_rfl) (by kernel_rfl) (by kernel_rfl) ((E_bevyref07_find x0 x1 x2 x3 x4 w R).mpr h)

/-- bevy/bevyref07.Left -/
def F_bevyref07_Left (x0 x1 : Value) (w : World) (R : Ending → World → Prop) : Prop :=
  m R (o_call (fv 91) [x0, x1]) w fun x11 w1 =>
  m R (o_un .not x11) w1 fun x12 w2 =>
  mif x12 (
    R (.returned (.int .i64 (-1))) w2) (
    m R (o_call (fv 133) [(.int .i64 0), x0, x1, (.int .i64 (-1)), (.int .i64 (-1))]) w2 fun x16 w3 =>
    m R (o_extract x16 0) w3 fun x17 w4 =>
    m R (o_extract x16 1) w4 fun x18 w5 =>
    m R (o_extract x16 2) w5 fun x19 w6 =>
    m R (o_extract x16 3) w6 fun x20 w7 =>
    m R (o_bin .eql 3 true x18 (.int .i64 1)) w7 fun x22 w8 =>
    mif x22 (
      R (.returned (.int .i64 (-1))) w8) (
      m R (o_call (fv 132) [x18]) w8 fun x25 w9 =>
      m R (o_call (fv 92) [x17, x25]) w9 fun x26 w10 =>
      R (.returned x26) w10))
def A_bevyref07_Left : Ann := ⟨[], [], [], [], []⟩
theorem E_bevyref07_Left (x0 x1 : Value) (w : World) (R : Ending → World → Prop) : cwp Try.prog A_bevyref07_Left (Try.f139.body.getD .skip) (retPost Try.prog Try.f139.results.toList R) (argE [x0, x1]) w = F_bevyref07_Left x0 x1 w R := by kernel_rfl
theorem C_bevyref07_Left {x0 x1 : Value} {w : World} {R : Ending → World → Prop} (h : F_bevyref07_Left x0 x1 w R) : Calls Try.prog 139 #[x0, x1] w R :=
  calls_cwp (A := A_bevyref07_Left) (args := [x0, x1]) mixed Try.func139 (c := Try.f139.body.getD .skip) (by kernel_rfl) (by kernel_rfl) (by kernel_rfl) ((E_bevyref07_Left x0 x1 w R).mpr h)

/-- bevy/bevyref07.Right -/
def F_bevyref07_Right (x0 x1 : Value) (w : World) (R : Ending → World → Prop) : Prop :=
  m R (o_call (fv 91) [x0, x1]) w fun x11 w1 =>
  m R (o_un .not x11) w1 fun x12 w2 =>
  mif x12 (
    R (.returned (.int .i64 (-1))) w2) (
    m R (o_call (fv 133) [(.int .i64 0), x0, x1, (.int .i64 (-1)), (.int .i64 (-1))]) w2 fun x16 w3 =>
    m R (o_extract x16 0) w3 fun x17 w4 =>
    m R (o_extract x16 1) w4 fun x18 w5 =>
    m R (o_extract x16 2) w5 fun x19 w6 =>
    m R (o_extract x16 3) w6 fun x20 w7 =>
    m R (o_bin .eql 3 true x18 (.int .i64 1)) w7 fun x22 w8 =>
    mif x22 (
      R (.returned (.int .i64 (-1))) w8) (
      m R (o_call (fv 132) [x18]) w8 fun x25 w9 =>
      m R (o_bin .add 3 false x17 x25) w9 fun x26 w10 =>
      m R (o_call (fv 132) [x18]) w10 fun x29 w11 =>
      m R (o_bin .sub 3 false x18 x29) w11 fun x30 w12 =>
      m R (o_call (fv 92) [x26, x30]) w12 fun x31 w13 =>
      R (.returned x31) w13))
def A_bevyref07_Right : Ann := ⟨[], [], [], [], []⟩
theorem E_bevyref07_Right (x0 x1 : Value) (w : World) (R : Ending → World → Prop) : cwp Try.prog A_bevyref07_Right (Try.f140.body.getD .skip) (retPost Try.prog Try.f140.results.toList R) (argE [x0, x1]) w = F_bevyref07_Right x0 x1 w R := by kernel_rfl
theorem C_bevyref07_Right {x0 x1 : Value} {w : World} {R : Ending → World → Prop} (h : F_bevyref07_Right x0 x1 w R) : Calls Try.prog 140 #[x0, x1] w R :=
  calls_cwp (A := A_bevyref07_Right) (args := [x0, x1]) mixed Try.func140 (c := Try.f140.body.getD .skip) (by kernel_rfl) (by kernel_rfl) (by kernel_rfl) ((E_bevyref07_Right x0 x1 w R).mpr h)

/-- bevy/bevyref07.Above -/
def F_bevyref07_Above (x0 x1 : Value) (w : World) (R : Ending → World → Prop) : Prop :=
  m R (o_call (fv 91) [x0, x1]) w fun x11 w1 =>
  m R (o_un .not x11) w1 fun x12 w2 =>
  mif x12 (
    R (.returned (.int .i64 (-1))) w2) (
    m R (o_call (fv 133) [(.int .i64 0), x0, x1, (.int .i64 (-1)), (.int .i64 (-1))]) w2 fun x16 w3 =>
    m R (o_extract x16 0) w3 fun x17 w4 =>
    m R (o_extract x16 1) w4 fun x18 w5 =>
    m R (o_extract x16 2) w5 fun x19 w6 =>
    m R (o_extract x16 3) w6 fun x20 w7 =>
    R (.returned x19) w7)
def A_bevyref07_Above : Ann := ⟨[], [], [], [], []⟩
theorem E_bevyref07_Above (x0 x1 : Value) (w : World) (R : Ending → World → Prop) : cwp Try.prog A_bevyref07_Above (Try.f141.body.getD .skip) (retPost Try.prog Try.f141.results.toList R) (argE [x0, x1]) w = F_bevyref07_Above x0 x1 w R := by kernel_rfl
theorem C_bevyref07_Above {x0 x1 : Value} {w : World} {R : Ending → World → Prop} (h : F_bevyref07_Above x0 x1 w R) : Calls Try.prog 141 #[x0, x1] w R :=
  calls_cwp (A := A_bevyref07_Above) (args := [x0, x1]) mixed Try.func141 (c := Try.f141.body.getD .skip) (by kernel_rfl) (by kernel_rfl) (by kernel_rfl) ((E_bevyref07_Above x0 x1 w R).mpr h)

/-- bevy/bough.Above -/
def F_bough_Above (x0 x1 : Value) (w : World) (R : Ending → World → Prop) : Prop :=
  mj1 (fun j2 =>
    m R (o_call (fv 130) [x0, x1]) w fun x8 w1 =>
    m R (o_un .not x8) w1 fun x9 w2 =>
    mguard x9 false (fun k => m R (o_move x1) w2 k) w2 fun x11 w3 =>
    mguard x9 false (fun k => m R (o_move x0) w3 k) w3 fun x12 w4 =>
    mguard x9 false (fun k => m R (o_call (fv 95) [x12]) w4 k) w4 fun x13 w5 =>
    mguard x9 false (fun k => m R (o_bin .eql 3 false x11 x13) w5 k) w5 fun x14 w6 =>
    m R (o_pick x9 (.bool true) x14) w6 fun x15 w7 =>
    j2 x15 w7) fun x15 u2 w8 =>
  mif x15 (
    R (.returned (.int .i64 (-1))) w8) (
    ml1 x1 w8 fun x1 u3 w9 next3 =>
      m R (o_call (fv 131) [x1]) w9 fun x17 w10 =>
      dp Try.prog (o_bin .add 3 true x17 (.int .i64 1)) fun x20 =>
      dp Try.prog (o_bin .shl 3 true (.int .i64 1) x20) fun x21 =>
      dp Try.prog (o_bin .andNot 3 false x1 x21) fun x22 =>
      dp Try.prog (o_bin .shl 3 true (.int .i64 1) x17) fun x24 =>
      dp Try.prog (o_bin .or 3 false x22 x24) fun x25 =>
      dend w10 fun w11 =>
      m R (o_call (fv 130) [x0, x25]) w11 fun x28 w12 =>
      mif x28 (
        R (.returned x25) w12) (
        next3 x25 w12))
def A_bough_Above : Ann := ⟨[(3, [1], 1073676338)], [(2, [15], 65472)], [(4, [⟨0, .q none, 2, 0, 262144⟩, ⟨1, .q none, 32, 0, 524288⟩, ⟨2, .q none, 524288, 2, 1048576⟩, ⟨3, .q none, 1048576, 6, 2097152⟩, ⟨4, .q none, 2359296, 15, 4194304⟩, ⟨5, .q none, 32, 0, 8388608⟩, ⟨6, .q none, 8388608, 32, 16777216⟩, ⟨7, .q none, 20971520, 127, 33554432⟩, ⟨8, .q none, 33554432, 255, 2⟩])], [], []⟩
theorem E_bough_Above (x0 x1 : Value) (w : World) (R : Ending → World → Prop) : cwp Try.prog A_bough_Above (Try.f142.body.getD .skip) (retPost Try.prog Try.f142.results.toList R) (argE [x0, x1]) w = F_bough_Above x0 x1 w R := by kernel_rfl
theorem C_bough_Above {x0 x1 : Value} {w : World} {R : Ending → World → Prop} (h : F_bough_Above x0 x1 w R) : Calls Try.prog 142 #[x0, x1] w R :=
  calls_cwp (A := A_bough_Above) (args := [x0, x1]) mixed Try.func142 (c := Try.f142.body.getD .skip) (by kernel_rfl) (by kernel_rfl) (by kernel_rfl) ((E_bough_Above x0 x1 w R).mpr h)

/-- bevy/bevyref07.Beside -/
def F_bevyref07_Beside (x0 x1 : Value) (w : World) (R : Ending → World → Prop) : Prop :=
  m R (o_call (fv 91) [x0, x1]) w fun x11 w1 =>
  m R (o_un .not x11) w1 fun x12 w2 =>
  mif x12 (
    R (.returned (.int .i64 (-1))) w2) (
    m R (o_call (fv 133) [(.int .i64 0), x0, x1, (.int .i64 (-1)), (.int .i64 (-1))]) w2 fun x16 w3 =>
    m R (o_extract x16 0) w3 fun x17 w4 =>
    m R (o_extract x16 1) w4 fun x18 w5 =>
    m R (o_extract x16 2) w5 fun x19 w6 =>
    m R (o_extract x16 3) w6 fun x20 w7 =>
    R (.returned x20) w7)
def A_bevyref07_Beside : Ann := ⟨[], [], [], [], []⟩
theorem E_bevyref07_Beside (x0 x1 : Value) (w : World) (R : Ending → World → Prop) : cwp Try.prog A_bevyref07_Beside (Try.f143.body.getD .skip) (retPost Try.prog Try.f143.results.toList R) (argE [x0, x1]) w = F_bevyref07_Beside x0 x1 w R := by kernel_rfl
theorem C_bevyref07_Beside {x0 x1 : Value} {w : World} {R : Ending → World → Prop} (h : F_bevyref07_Beside x0 x1 w R) : Calls Try.prog 143 #[x0, x1] w R :=
  calls_cwp (A := A_bevyref07_Beside) (args := [x0, x1]) mixed Try.func143 (c := Try.f143.body.getD .skip) (by kernel_rfl) (by kernel_rfl) (by kernel_rfl) ((E_bevyref07_Beside x0 x1 w R).mpr h)

/-- bevy/bough.up$1 -/
def F_bough_up_1 (x0 x1 x2 : Value) (w : World) (R : Ending → World → Prop) : Prop :=
  m R (o_load 3 x1) w fun x5 w1 =>
  m R (o_load 3 x2) w1 fun x6 w2 =>
  m R (o_call (fv 142) [x5, x6]) w2 fun x7 w3 =>
  ml1 x7 w3 fun x4 u1 w4 next1 =>
    mj0 (fun j2 =>
      m R (o_bin .geq 3 true x4 (.int .i64 0)) w4 fun x9 w5 =>
      mguard x9 true (fun k => m R (o_move x0) w5 k) w5 fun x11 w6 =>
      mguard x9 true (fun k => m R (o_move x4) w6 k) w6 fun x12 w7 =>
      mguard x9 true (fun k => m R (o_call x11 [x12]) w7 k) w7 fun x13 w8 =>
      m R (o_pick x9 x13 (.bool false)) w8 fun x14 w9 =>
      mif x14 (
        j2 w9) (
        R (.returned (.tuple #[])) w9)) fun u2 w10 =>
    m R (o_load 3 x1) w10 fun x15 w11 =>
    m R (o_call (fv 142) [x15, x4]) w11 fun x17 w12 =>
    next1 x17 w12
def A_bough_up_1 : Ann := ⟨[(1, [4], 261904)], [(2, [], 32512)], [], [], []⟩
theorem E_bough_up_1 (x0 x1 x2 : Value) (w : World) (R : Ending → World → Prop) : cwp Try.prog A_bough_up_1 (Try.f147.body.getD .skip) (retPost Try.prog Try.f147.results.toList R) (argE [x0, x1, x2]) w = F_bough_up_1 x0 x1 x2 w R := by kernel_rfl
theorem C_bough_up_1 {x0 x1 x2 : Value} {w : World} {R : Ending → World → Prop} (h : F_bough_up_1 x0 x1 x2 w R) : Calls Try.prog 147 #[x0, x1, x2] w R :=
  calls_cwp (A := A_bough_up_1) (args := [x0, x1, x2]) mixed Try.func147 (c := Try.f147.body.getD .skip) (by kernel_rfl) (by kernel_rfl) (by kernel_rfl) ((E_bough_up_1 x0 x1 x2 w R).mpr h)

/-- cmp.isNaN[int] -/
def F_cmp_isNaN_int (x0 : Value) (w : World) (R : Ending → World → Prop) : Prop :=
  m R (o_bin .neq 3 false x0 x0) w fun x5 w1 =>
  R (.returned x5) w1
def A_cmp_isNaN_int : Ann := ⟨[], [], [], [], []⟩
theorem E_cmp_isNaN_int (x0 : Value) (w : World) (R : Ending → World → Prop) : cwp Try.prog A_cmp_isNaN_int (Try.f148.body.getD .skip) (retPost Try.prog Try.f148.results.toList R) (argE [x0]) w = F_cmp_isNaN_int x0 w R := by kernel_rfl
theorem C_cmp_isNaN_int {x0 : Value} {w : World} {R : Ending → World → Prop} (h : F_cmp_isNaN_int x0 w R) : Calls Try.prog 148 #[x0] w R :=
  calls_cwp (A := A_cmp_isNaN_int) (args := [x0]) mixed Try.func148 (c := Try.f148.body.getD .skip) (by kernel_rfl) (by kernel_rfl) (by kernel_rfl) ((E_cmp_isNaN_int x0 w R).mpr h)
end Go.Proofs.Ytmjpbomonhjebaa
