/- Part 3 of the proof. -/
import Derived.Test.YtopcnkejobomaaaGreatPa2
import Derived.LaidEql
import Derived.RangeFuncBox
import Derived.RangeFuncLeaves
import Derived.Shelf.Abstract
import Derived.WalkKit
import Derived.OwnWalkIn
import Derived.TacticsInMore
import Derived.LoopNIn
import Derived.LoopIn
import Derived.Maps.AppendAt
import Derived.Lib.AppendZerosOnto
import Derived.Lib.Overlaps
set_option linter.unusedVariables false
set_option linter.unusedVariables false
namespace Go.Proofs.YtopcnkejobomaaaGreat
def F_slices_Clone_api_Leaf_api_Leaf (x0 : Value) (w : World) (R : Ending → World → Prop) : Prop :=
 m R (o_bin .eql 22 true x0 (.slice none 0 0)) w fun x4 w1 =>
 mif x4 (
 R (.returned (.slice none 0 0)) w1) (
 m R (o_buildSlice 22 0 []) w1 fun x5 w2 =>
 m R (o_builtin .append #[22, 22] 22 [false, false] [x5, x0]) w2 fun x7 w3 =>
 R (.returned x7) w3)
def A_slices_Clone_api_Leaf_api_Leaf : Ann := ⟨[], [], [], [], []⟩
theorem E_slices_Clone_api_Leaf_api_Leaf (x0 : Value) (w : World) (R : Ending → World → Prop) : cwp Tryz.prog A_slices_Clone_api_Leaf_api_Leaf (Tryz.f110.body.getD .skip) (retPost Tryz.prog Tryz.f110.results.toList R) (argE [x0]) w = F_slices_Clone_api_Leaf_api_Leaf x0 w R := by kernel_rfl
theorem C_slices_Clone_api_Leaf_api_Leaf {x0 : Value} {w : World} {R : Ending → World → Prop} (h : F_slices_Clone_api_Leaf_api_Leaf x0 w R) : Calls Tryz.prog 110 #[x0] w R :=
 calls_cwp (A := A_slices_Clone_api_Leaf_api_Leaf) (args := [x0]) mixed Tryz.func110 (c := Tryz.f110.body.getD .skip) (by kernel_rfl) (by kernel_rfl) (by kernel_rfl) ((E_slices_Clone_api_Leaf_api_Leaf x0 w R).mpr h)
def F_slices_Clone_api_Parent_api_Parent (x0 : Value) (w : World) (R : Ending → World → Prop) : Prop :=
 m R (o_bin .eql 23 true x0 (.slice none 0 0)) w fun x4 w1 =>
 mif x4 (
 R (.returned (.slice none 0 0)) w1) (
 m R (o_buildSlice 23 0 []) w1 fun x5 w2 =>
 m R (o_builtin .append #[23, 23] 23 [false, false] [x5, x0]) w2 fun x7 w3 =>
 R (.returned x7) w3)
def A_slices_Clone_api_Parent_api_Parent : Ann := ⟨[], [], [], [], []⟩
theorem E_slices_Clone_api_Parent_api_Parent (x0 : Value) (w : World) (R : Ending → World → Prop) : cwp Tryz.prog A_slices_Clone_api_Parent_api_Parent (Tryz.f111.body.getD .skip) (retPost Tryz.prog Tryz.f111.results.toList R) (argE [x0]) w = F_slices_Clone_api_Parent_api_Parent x0 w R := by kernel_rfl
theorem C_slices_Clone_api_Parent_api_Parent {x0 : Value} {w : World} {R : Ending → World → Prop} (h : F_slices_Clone_api_Parent_api_Parent x0 w R) : Calls Tryz.prog 111 #[x0] w R :=
 calls_cwp (A := A_slices_Clone_api_Parent_api_Parent) (args := [x0]) mixed Tryz.func111 (c := Tryz.f111.body.getD .skip) (by kernel_rfl) (by kernel_rfl) (by kernel_rfl) ((E_slices_Clone_api_Parent_api_Parent x0 w R).mpr h)
def F_slices_Clone_int_int (x0 : Value) (w : World) (R : Ending → World → Prop) : Prop :=
 m R (o_bin .eql 29 true x0 (.slice none 0 0)) w fun x4 w1 =>
 mif x4 (
 R (.returned (.slice none 0 0)) w1) (
 m R (o_buildSlice 29 0 []) w1 fun x5 w2 =>
 m R (o_builtin .append #[29, 29] 29 [false, false] [x5, x0]) w2 fun x7 w3 =>
 R (.returned x7) w3)
def A_slices_Clone_int_int : Ann := ⟨[], [], [], [], []⟩
theorem E_slices_Clone_int_int (x0 : Value) (w : World) (R : Ending → World → Prop) : cwp Tryz.prog A_slices_Clone_int_int (Tryz.f112.body.getD .skip) (retPost Tryz.prog Tryz.f112.results.toList R) (argE [x0]) w = F_slices_Clone_int_int x0 w R := by kernel_rfl
theorem C_slices_Clone_int_int {x0 : Value} {w : World} {R : Ending → World → Prop} (h : F_slices_Clone_int_int x0 w R) : Calls Tryz.prog 112 #[x0] w R :=
 calls_cwp (A := A_slices_Clone_int_int) (args := [x0]) mixed Tryz.func112 (c := Tryz.f112.body.getD .skip) (by kernel_rfl) (by kernel_rfl) (by kernel_rfl) ((E_slices_Clone_int_int x0 w R).mpr h)
def F_bough_up (x0 x1 : Value) (w : World) (R : Ending → World → Prop) : Prop :=
 m R (o_box 3 x0) w fun x2 w1 =>
 m R (o_box 3 x1) w1 fun x3 w2 =>
 m R (o_func (.func 142) [] [x2, x3]) w2 fun x5 w3 =>
 R (.returned x5) w3
def A_bough_up : Ann := ⟨[], [], [], [], []⟩
theorem E_bough_up (x0 x1 : Value) (w : World) (R : Ending → World → Prop) : cwp Tryz.prog A_bough_up (Tryz.f114.body.getD .skip) (retPost Tryz.prog Tryz.f114.results.toList R) (argE [x0, x1]) w = F_bough_up x0 x1 w R := by kernel_rfl
theorem C_bough_up {x0 x1 : Value} {w : World} {R : Ending → World → Prop} (h : F_bough_up x0 x1 w R) : Calls Tryz.prog 114 #[x0, x1] w R :=
 calls_cwp (A := A_bough_up) (args := [x0, x1]) mixed Tryz.func114 (c := Tryz.f114.body.getD .skip) (by kernel_rfl) (by kernel_rfl) (by kernel_rfl) ((E_bough_up x0 x1 w R).mpr h)
def F_cmp_Less_int (x0 x1 : Value) (w : World) (R : Ending → World → Prop) : Prop :=
 m R (o_call (fv 144) [x0]) w fun x6 w1 =>
 mguard x6 true (fun k => m R (o_move x1) w1 k) w1 fun x8 w2 =>
 mguard x6 true (fun k => m R (o_call (fv 144) [x8]) w2 k) w2 fun x9 w3 =>
 mguard x6 true (fun k => m R (o_un .not x9) w3 k) w3 fun x10 w4 =>
 m R (o_pick x6 x10 (.bool false)) w4 fun x11 w5 =>
 mguard x11 false (fun k => m R (o_move x0) w5 k) w5 fun x13 w6 =>
 mguard x11 false (fun k => m R (o_move x1) w6 k) w6 fun x14 w7 =>
 mguard x11 false (fun k => m R (o_bin .lss 3 false x13 x14) w7 k) w7 fun x15 w8 =>
 m R (o_pick x11 (.bool true) x15) w8 fun x16 w9 =>
 R (.returned x16) w9
def A_cmp_Less_int : Ann := ⟨[], [], [], [], []⟩
theorem E_cmp_Less_int (x0 x1 : Value) (w : World) (R : Ending → World → Prop) : cwp Tryz.prog A_cmp_Less_int (Tryz.f115.body.getD .skip) (retPost Tryz.prog Tryz.f115.results.toList R) (argE [x0, x1]) w = F_cmp_Less_int x0 x1 w R := by kernel_rfl
theorem C_cmp_Less_int {x0 x1 : Value} {w : World} {R : Ending → World → Prop} (h : F_cmp_Less_int x0 x1 w R) : Calls Tryz.prog 115 #[x0, x1] w R :=
 calls_cwp (A := A_cmp_Less_int) (args := [x0, x1]) mixed Tryz.func115 (c := Tryz.f115.body.getD .skip) (by kernel_rfl) (by kernel_rfl) (by kernel_rfl) ((E_cmp_Less_int x0 x1 w R).mpr h)
def F_slices_isNaN_int (x0 : Value) (w : World) (R : Ending → World → Prop) : Prop :=
 m R (o_bin .neq 3 false x0 x0) w fun x5 w1 =>
 R (.returned x5) w1
def A_slices_isNaN_int : Ann := ⟨[], [], [], [], []⟩
theorem E_slices_isNaN_int (x0 : Value) (w : World) (R : Ending → World → Prop) : cwp Tryz.prog A_slices_isNaN_int (Tryz.f116.body.getD .skip) (retPost Tryz.prog Tryz.f116.results.toList R) (argE [x0]) w = F_slices_isNaN_int x0 w R := by kernel_rfl
theorem C_slices_isNaN_int {x0 : Value} {w : World} {R : Ending → World → Prop} (h : F_slices_isNaN_int x0 w R) : Calls Tryz.prog 116 #[x0] w R :=
 calls_cwp (A := A_slices_isNaN_int) (args := [x0]) mixed Tryz.func116 (c := Tryz.f116.body.getD .skip) (by kernel_rfl) (by kernel_rfl) (by kernel_rfl) ((E_slices_isNaN_int x0 w R).mpr h)
def F_sha_state_turn (x0 : Value) (w : World) (R : Ending → World → Prop) : Prop :=
 m R (o_alloc 127) w fun x2 w1 =>
 ml1 (.int .i64 0) w1 fun x21 u2 w2 next2 =>
 m R (o_bin .lss 3 true x21 (.int .i64 16)) w2 fun x22 w3 =>
 mif x22 (
 m R (o_nilCheck x0) w3 fun x25 w4 =>
 m R (o_fieldAddr 131 x25 1) w4 fun x26 w5 =>
 m R (o_bin .mul 3 true (.int .i64 4) x21) w5 fun x28 w6 =>
 m R (o_slice 129 x26 (some x28) none none) w6 fun x29 w7 =>
 dp Tryz.prog (o_indexAddr 135 x29 (.int .i64 0)) fun x32 =>
 dq Tryz.prog w7 (o_load 5 x32) fun x33 =>
 dp Tryz.prog (o_conv 5 125 x33) fun x34 =>
 dp Tryz.prog (o_bin .shl 125 true x34 (.int .u64 24)) fun x35 =>
 dp Tryz.prog (o_indexAddr 135 x29 (.int .i64 1)) fun x37 =>
 dq Tryz.prog w7 (o_load 5 x37) fun x38 =>
 dp Tryz.prog (o_conv 5 125 x38) fun x39 =>
 dp Tryz.prog (o_bin .shl 125 true x39 (.int .u64 16)) fun x40 =>
 dp Tryz.prog (o_bin .or 125 false x35 x40) fun x41 =>
 dp Tryz.prog (o_indexAddr 135 x29 (.int .i64 2)) fun x43 =>
 dq Tryz.prog w7 (o_load 5 x43) fun x44 =>
 dp Tryz.prog (o_conv 5 125 x44) fun x45 =>
 dp Tryz.prog (o_bin .shl 125 true x45 (.int .u64 8)) fun x46 =>
 dp Tryz.prog (o_bin .or 125 false x41 x46) fun x47 =>
 dp Tryz.prog (o_indexAddr 135 x29 (.int .i64 3)) fun x49 =>
 dq Tryz.prog w7 (o_load 5 x49) fun x50 =>
 dp Tryz.prog (o_conv 5 125 x50) fun x51 =>
 dp Tryz.prog (o_bin .or 125 false x47 x51) fun x52 =>
 dp Tryz.prog (o_indexAddr 127 x2 x21) fun x53 =>
 df Tryz.prog w7 (o_store 125 x53 x52) false fun _ w8 =>
 dend w8 fun w9 =>
 m R (o_bin .add 3 true x21 (.int .i64 1)) w9 fun x54 w10 =>
 next2 x54 w10) (
 ml1 (.int .i64 16) w3 fun x5 u8 w11 next8 =>
 m R (o_bin .lss 3 true x5 (.int .i64 64)) w11 fun x56 w12 =>
 mif x56 (
 dp Tryz.prog (o_bin .sub 3 true x5 (.int .i64 15)) fun x60 =>
 dp Tryz.prog (o_indexAddr 127 x2 x60) fun x61 =>
 dq Tryz.prog w12 (o_load 125 x61) fun x62 =>
 dp Tryz.prog (o_bin .sub 3 true x5 (.int .i64 2)) fun x64 =>
 dp Tryz.prog (o_indexAddr 127 x2 x64) fun x65 =>
 dq Tryz.prog w12 (o_load 125 x65) fun x66 =>
 dend w12 fun w13 =>
 dp Tryz.prog (o_bin .sub 3 true x5 (.int .i64 16)) fun x69 =>
 dp Tryz.prog (o_indexAddr 127 x2 x69) fun x70 =>
 dq Tryz.prog w13 (o_load 125 x70) fun x71 =>
 dp Tryz.prog (o_bin .sub 3 true x5 (.int .i64 7)) fun x73 =>
 dp Tryz.prog (o_indexAddr 127 x2 x73) fun x74 =>
 dq Tryz.prog w13 (o_load 125 x74) fun x75 =>
 dp Tryz.prog (o_bin .add 125 false x71 x75) fun x76 =>
 df Tryz.prog w13 (o_call (fv 151) [x62, (.int .i64 (-7))]) true fun x78 w14 =>
 df Tryz.prog w14 (o_call (fv 151) [x62, (.int .i64 (-18))]) true fun x80 w15 =>
 dp Tryz.prog (o_bin .xor 125 false x78 x80) fun x81 =>
 dp Tryz.prog (o_bin .shr 125 true x62 (.int .u64 3)) fun x83 =>
 dp Tryz.prog (o_bin .xor 125 false x81 x83) fun x84 =>
 dp Tryz.prog (o_bin .add 125 false x76 x84) fun x85 =>
 df Tryz.prog w15 (o_call (fv 151) [x66, (.int .i64 (-17))]) true fun x87 w16 =>
 df Tryz.prog w16 (o_call (fv 151) [x66, (.int .i64 (-19))]) true fun x89 w17 =>
 dp Tryz.prog (o_bin .xor 125 false x87 x89) fun x90 =>
 dp Tryz.prog (o_bin .shr 125 true x66 (.int .u64 10)) fun x92 =>
 dp Tryz.prog (o_bin .xor 125 false x90 x92) fun x93 =>
 dp Tryz.prog (o_bin .add 125 false x85 x93) fun x94 =>
 dp Tryz.prog (o_indexAddr 127 x2 x5) fun x95 =>
 df Tryz.prog w17 (o_store 125 x95 x94) false fun _ w18 =>
 dend w18 fun w19 =>
 m R (o_bin .add 3 true x5 (.int .i64 1)) w19 fun x58 w20 =>
 next8 x58 w20) (
 dp Tryz.prog (o_nilCheck x0) fun x97 =>
 dp Tryz.prog (o_fieldAddr 131 x97 0) fun x98 =>
 dp Tryz.prog (o_indexAddr 126 x98 (.int .i64 0)) fun x99 =>
 dq Tryz.prog w12 (o_load 125 x99) fun x100 =>
 dp Tryz.prog (o_nilCheck x0) fun x102 =>
 dp Tryz.prog (o_fieldAddr 131 x102 0) fun x103 =>
 dp Tryz.prog (o_indexAddr 126 x103 (.int .i64 1)) fun x104 =>
 dq Tryz.prog w12 (o_load 125 x104) fun x105 =>
 dp Tryz.prog (o_nilCheck x0) fun x107 =>
 dp Tryz.prog (o_fieldAddr 131 x107 0) fun x108 =>
 dp Tryz.prog (o_indexAddr 126 x108 (.int .i64 2)) fun x109 =>
 dq Tryz.prog w12 (o_load 125 x109) fun x110 =>
 dp Tryz.prog (o_nilCheck x0) fun x112 =>
 dp Tryz.prog (o_fieldAddr 131 x112 0) fun x113 =>
 dp Tryz.prog (o_indexAddr 126 x113 (.int .i64 3)) fun x114 =>
 dq Tryz.prog w12 (o_load 125 x114) fun x115 =>
 dp Tryz.prog (o_nilCheck x0) fun x117 =>
 dp Tryz.prog (o_fieldAddr 131 x117 0) fun x118 =>
 dp Tryz.prog (o_indexAddr 126 x118 (.int .i64 4)) fun x119 =>
 dq Tryz.prog w12 (o_load 125 x119) fun x120 =>
 dp Tryz.prog (o_nilCheck x0) fun x122 =>
 dp Tryz.prog (o_fieldAddr 131 x122 0) fun x123 =>
 dp Tryz.prog (o_indexAddr 126 x123 (.int .i64 5)) fun x124 =>
 dq Tryz.prog w12 (o_load 125 x124) fun x125 =>
 dp Tryz.prog (o_nilCheck x0) fun x127 =>
 dp Tryz.prog (o_fieldAddr 131 x127 0) fun x128 =>
 dp Tryz.prog (o_indexAddr 126 x128 (.int .i64 6)) fun x129 =>
 dq Tryz.prog w12 (o_load 125 x129) fun x130 =>
 dp Tryz.prog (o_nilCheck x0) fun x132 =>
 dp Tryz.prog (o_fieldAddr 131 x132 0) fun x133 =>
 dp Tryz.prog (o_indexAddr 126 x133 (.int .i64 7)) fun x134 =>
 dq Tryz.prog w12 (o_load 125 x134) fun x135 =>
 dend w12 fun w21 =>
 ml9 x100 x105 x110 x115 x120 x125 x130 x135 (.int .i64 0) w21 fun x8 x9 x10 x11 x12 x13 x14 x15 x136 u14 w22 next14 =>
 m R (o_bin .lss 3 true x136 (.int .i64 64)) w22 fun x137 w23 =>
 mif x137 (
 df Tryz.prog w23 (o_call (fv 151) [x12, (.int .i64 (-6))]) true fun x141 w24 =>
 df Tryz.prog w24 (o_call (fv 151) [x12, (.int .i64 (-11))]) true fun x143 w25 =>
 dp Tryz.prog (o_bin .xor 125 false x141 x143) fun x144 =>
 df Tryz.prog w25 (o_call (fv 151) [x12, (.int .i64 (-25))]) true fun x146 w26 =>
 dp Tryz.prog (o_bin .xor 125 false x144 x146) fun x147 =>
 dp Tryz.prog (o_bin .add 125 false x15 x147) fun x148 =>
 dp Tryz.prog (o_bin .and 125 false x12 x13) fun x151 =>
 dp Tryz.prog (o_un .xor x12) fun x153 =>
 dp Tryz.prog (o_bin .and 125 false x153 x14) fun x155 =>
 dp Tryz.prog (o_bin .xor 125 false x151 x155) fun x156 =>
 dp Tryz.prog (o_bin .add 125 false x148 x156) fun x157 =>
 dp Tryz.prog (o_nilCheck x0) fun x160 =>
 dp Tryz.prog (o_fieldAddr 131 x160 3) fun x161 =>
 dp Tryz.prog (o_indexAddr 127 x161 x136) fun x162 =>
 dq Tryz.prog w23 (o_load 125 x162) fun x163 =>
 dp Tryz.prog (o_bin .add 125 false x157 x163) fun x164 =>
 dp Tryz.prog (o_indexAddr 127 x2 x136) fun x166 =>
 dq Tryz.prog w23 (o_load 125 x166) fun x167 =>
 dp Tryz.prog (o_bin .add 125 false x164 x167) fun x168 =>
 dend w26 fun w27 =>
 m R (o_call (fv 151) [x8, (.int .i64 (-2))]) w27 fun x170 w28 =>
 m R (o_call (fv 151) [x8, (.int .i64 (-13))]) w28 fun x172 w29 =>
 m R (o_bin .xor 125 false x170 x172) w29 fun x173 w30 =>
 m R (o_call (fv 151) [x8, (.int .i64 (-22))]) w30 fun x175 w31 =>
 m R (o_bin .xor 125 false x173 x175) w31 fun x176 w32 =>
 m R (o_bin .and 125 false x8 x9) w32 fun x179 w33 =>
 m R (o_bin .and 125 false x8 x10) w33 fun x182 w34 =>
 m R (o_bin .xor 125 false x179 x182) w34 fun x183 w35 =>
 m R (o_bin .and 125 false x9 x10) w35 fun x186 w36 =>
 m R (o_bin .xor 125 false x183 x186) w36 fun x187 w37 =>
 m R (o_bin .add 125 false x176 x187) w37 fun x188 w38 =>
 m R (o_bin .add 125 false x11 x168) w38 fun x194 w39 =>
 m R (o_bin .add 125 false x168 x188) w39 fun x200 w40 =>
 m R (o_bin .add 3 true x136 (.int .i64 1)) w40 fun x201 w41 =>
 next14 x200 x8 x9 x10 x194 x12 x13 x14 x201 w41) (
 m R (o_build 126 [(0, x8), (1, x9), (2, x10), (3, x11), (4, x12), (5, x13), (6, x14), (7, x15)]) w23 fun x210 w42 =>
 ml1 (.int .i64 0) w42 fun x211 u21 w43 next21 =>
 m R (o_bin .lss 3 true x211 (.int .i64 8)) w43 fun x212 w44 =>
 mif x212 (
 m R (o_index 126 x210 x211) w44 fun x214 w45 =>
 dp Tryz.prog (o_nilCheck x0) fun x217 =>
 dp Tryz.prog (o_fieldAddr 131 x217 0) fun x218 =>
 dp Tryz.prog (o_indexAddr 126 x218 x211) fun x219 =>
 dq Tryz.prog w45 (o_load 125 x219) fun x220 =>
 dp Tryz.prog (o_bin .add 125 false x220 x214) fun x222 =>
 dp Tryz.prog (o_nilCheck x0) fun x223 =>
 dp Tryz.prog (o_fieldAddr 131 x223 0) fun x224 =>
 dp Tryz.prog (o_indexAddr 126 x224 x211) fun x225 =>
 df Tryz.prog w45 (o_store 125 x225 x222) false fun _ w46 =>
 dend w46 fun w47 =>
 m R (o_bin .add 3 true x211 (.int .i64 1)) w47 fun x226 w48 =>
 next21 x226 w48) (
 R (.returned (.tuple #[])) w44))))
def A_sha_state_turn : Ann := ⟨[(2, [21], 36028797016866840), (8, [5], 79228162514228308796524986592), (14, [8, 9, 10, 11, 12, 13, 14, 15, 136], 6427752177035961102080736083432890163442188075628638679596800), (21, [211], 215676282328090475945251810757791930688087189908593312689102186348544)], [], [(5, [⟨0, .q none, 8, 0, 1073741824⟩, ⟨1, .q none, 16, 0, 2147483648⟩, ⟨2, .q none, 2147483648, 2, 4294967296⟩, ⟨3, .q (some 0), 4294967296, 6, 8589934592⟩, ⟨4, .q none, 8589934592, 14, 17179869184⟩, ⟨5, .q none, 17179869184, 30, 34359738368⟩, ⟨6, .q none, 16, 0, 68719476736⟩, ⟨7, .q none, 68719476736, 64, 137438953472⟩, ⟨8, .q (some 0), 137438953472, 192, 274877906944⟩, ⟨9, .q none, 274877906944, 448, 549755813888⟩, ⟨10, .q none, 549755813888, 960, 1099511627776⟩, ⟨11, .q none, 1133871366144, 2046, 2199023255552⟩, ⟨12, .q none, 16, 0, 4398046511104⟩, ⟨13, .q none, 4398046511104, 4096, 8796093022208⟩, ⟨14, .q (some 0), 8796093022208, 12288, 17592186044416⟩, ⟨15, .q none, 17592186044416, 28672, 35184372088832⟩, ⟨16, .q none, 35184372088832, 61440, 70368744177664⟩, ⟨17, .q none, 72567767433216, 131070, 140737488355328⟩, ⟨18, .q none, 16, 0, 281474976710656⟩, ⟨19, .q none, 281474976710656, 262144, 562949953421312⟩, ⟨20, .q (some 0), 562949953421312, 786432, 1125899906842624⟩, ⟨21, .q none, 1125899906842624, 1835008, 2251799813685248⟩, ⟨22, .q none, 2392537302040576, 4194302, 4503599627370496⟩, ⟨23, .q none, 1073741828, 8388607, 9007199254740992⟩, ⟨24, .f 0 false, 13510798882111488, 16777215, 0⟩]), (10, [⟨0, .q none, 32, 0, 576460752303423488⟩, ⟨1, .q none, 576460752303423488, 1, 1152921504606846976⟩, ⟨2, .q none, 1152921504606846980, 3, 2305843009213693952⟩, ⟨3, .q (some 0), 2305843009213693952, 7, 4611686018427387904⟩, ⟨4, .q none, 32, 0, 9223372036854775808⟩, ⟨5, .q none, 9223372036854775808, 16, 18446744073709551616⟩, ⟨6, .q none, 18446744073709551620, 48, 36893488147419103232⟩, ⟨7, .q (some 0), 36893488147419103232, 112, 73786976294838206464⟩, ⟨8, .q none, 4611686018427387904, 15, 64⟩, ⟨9, .q none, 73786976294838206464, 511, 128⟩]), (11, [⟨0, .q none, 32, 0, 147573952589676412928⟩, ⟨1, .q none, 32, 0, 295147905179352825856⟩, ⟨2, .q none, 295147905179352825856, 2, 590295810358705651712⟩, ⟨3, .q none, 590295810358705651716, 6, 1180591620717411303424⟩, ⟨4, .q (some 0), 1180591620717411303424, 14, 2361183241434822606848⟩, ⟨5, .q none, 32, 0, 4722366482869645213696⟩, ⟨6, .q none, 4722366482869645213696, 32, 9444732965739290427392⟩, ⟨7, .q none, 9444732965739290427396, 96, 18889465931478580854784⟩, ⟨8, .q (some 0), 18889465931478580854784, 224, 37778931862957161709568⟩, ⟨9, .q none, 40140115104391984316416, 510, 75557863725914323419136⟩, ⟨10, .q none, 64, 0, 151115727451828646838272⟩, ⟨11, .f 0 true, 151115727451828646838272, 1024, 302231454903657293676544⟩, ⟨12, .q none, 64, 0, 604462909807314587353088⟩, ⟨13, .f 1 true, 604462909807314587353088, 7168, 1208925819614629174706176⟩, ⟨14, .q none, 1511157274518286468382720, 15360, 2417851639229258349412352⟩, ⟨15, .q none, 64, 0, 4835703278458516698824704⟩, ⟨16, .q none, 4835703278458516698824704, 32768, 9671406556917033397649408⟩, ⟨17, .q none, 12089258196146291747061760, 130048, 19342813113834066795298816⟩, ⟨18, .q none, 19418370977559981118717952, 262142, 38685626227668133590597632⟩, ⟨19, .q none, 128, 0, 77371252455336267181195264⟩, ⟨20, .f 2 true, 77371252455336267181195264, 539648, 154742504910672534362390528⟩, ⟨21, .q none, 128, 0, 309485009821345068724781056⟩, ⟨22, .f 3 true, 309485009821345068724781056, 3685376, 618970019642690137449562112⟩, ⟨23, .q none, 773712524553362671811952640, 7879680, 1237940039285380274899124224⟩, ⟨24, .q none, 128, 0, 2475880078570760549798248448⟩, ⟨25, .q none, 2475880078570760549798248448, 16777216, 4951760157141521099596496896⟩, ⟨26, .q none, 6189700196426901374495621120, 66599936, 9903520314283042199192993792⟩, ⟨27, .q none, 9942205940510710332783591424, 134217726, 19807040628566084398385987584⟩, ⟨28, .q none, 147573952589676412932, 268435455, 39614081257132168796771975168⟩, ⟨29, .f 4 false, 59421121885698253195157962752, 536870911, 0⟩]), (12, [⟨0, .q none, 1, 0, 79228162514264337593543950336⟩, ⟨1, .q none, 79228162514264337593543950336, 1, 158456325028528675187087900672⟩, ⟨2, .q none, 158456325028528675187087900672, 3, 316912650057057350374175801344⟩, ⟨3, .q none, 316912650057057350374175801344, 7, 633825300114114700748351602688⟩, ⟨4, .q (some 0), 633825300114114700748351602688, 15, 1267650600228229401496703205376⟩, ⟨5, .q none, 1, 0, 2535301200456458802993406410752⟩, ⟨6, .q none, 2535301200456458802993406410752, 32, 5070602400912917605986812821504⟩, ⟨7, .q none, 5070602400912917605986812821504, 96, 10141204801825835211973625643008⟩, ⟨8, .q none, 10141204801825835211973625643008, 224, 20282409603651670423947251286016⟩, ⟨9, .q (some 0), 20282409603651670423947251286016, 480, 40564819207303340847894502572032⟩, ⟨10, .q none, 1, 0, 81129638414606681695789005144064⟩, ⟨11, .q none, 81129638414606681695789005144064, 1024, 162259276829213363391578010288128⟩, ⟨12, .q none, 162259276829213363391578010288128, 3072, 324518553658426726783156020576256⟩, ⟨13, .q none, 324518553658426726783156020576256, 7168, 649037107316853453566312041152512⟩, ⟨14, .q (some 0), 649037107316853453566312041152512, 15360, 1298074214633706907132624082305024⟩, ⟨15, .q none, 1, 0, 2596148429267413814265248164610048⟩, ⟨16, .q none, 2596148429267413814265248164610048, 32768, 5192296858534827628530496329220096⟩, ⟨17, .q none, 5192296858534827628530496329220096, 98304, 10384593717069655257060992658440192⟩, ⟨18, .q none, 10384593717069655257060992658440192, 229376, 20769187434139310514121985316880384⟩, ⟨19, .q (some 0), 20769187434139310514121985316880384, 491520, 41538374868278621028243970633760768⟩, ⟨20, .q none, 1, 0, 83076749736557242056487941267521536⟩, ⟨21, .q none, 83076749736557242056487941267521536, 1048576, 166153499473114484112975882535043072⟩, ⟨22, .q none, 166153499473114484112975882535043072, 3145728, 332306998946228968225951765070086144⟩, ⟨23, .q none, 332306998946228968225951765070086144, 7340032, 664613997892457936451903530140172288⟩, ⟨24, .q (some 0), 664613997892457936451903530140172288, 15728640, 1329227995784915872903807060280344576⟩, ⟨25, .q none, 1, 0, 2658455991569831745807614120560689152⟩, ⟨26, .q none, 2658455991569831745807614120560689152, 33554432, 5316911983139663491615228241121378304⟩, ⟨27, .q none, 5316911983139663491615228241121378304, 100663296, 10633823966279326983230456482242756608⟩, ⟨28, .q none, 10633823966279326983230456482242756608, 234881024, 21267647932558653966460912964485513216⟩, ⟨29, .q (some 0), 21267647932558653966460912964485513216, 503316480, 42535295865117307932921825928971026432⟩, ⟨30, .q none, 1, 0, 85070591730234615865843651857942052864⟩, ⟨31, .q none, 85070591730234615865843651857942052864, 1073741824, 170141183460469231731687303715884105728⟩, ⟨32, .q none, 170141183460469231731687303715884105728, 3221225472, 340282366920938463463374607431768211456⟩, ⟨33, .q none, 340282366920938463463374607431768211456, 7516192768, 680564733841876926926749214863536422912⟩, ⟨34, .q (some 0), 680564733841876926926749214863536422912, 16106127360, 1361129467683753853853498429727072845824⟩, ⟨35, .q none, 1, 0, 2722258935367507707706996859454145691648⟩, ⟨36, .q none, 2722258935367507707706996859454145691648, 34359738368, 5444517870735015415413993718908291383296⟩, ⟨37, .q none, 5444517870735015415413993718908291383296, 103079215104, 10889035741470030830827987437816582766592⟩, ⟨38, .q none, 10889035741470030830827987437816582766592, 240518168576, 21778071482940061661655974875633165533184⟩, ⟨39, .q (some 0), 21778071482940061661655974875633165533184, 515396075520, 43556142965880123323311949751266331066368⟩, ⟨40, .q none, 1267650600228229401496703205376, 31, 256⟩, ⟨41, .q none, 40564819207303340847894502572032, 1099511628799, 512⟩, ⟨42, .q none, 1298074214633706907132624082305024, 3298534916095, 1024⟩, ⟨43, .q none, 41538374868278621028243970633760768, 7696582443007, 2048⟩, ⟨44, .q none, 1329227995784915872903807060280344576, 16492707971071, 4096⟩, ⟨45, .q none, 42535295865117307932921825928971026432, 34085934202879, 8192⟩, ⟨46, .q none, 1361129467683753853853498429727072845824, 69303592288255, 16384⟩, ⟨47, .q none, 43556142965880123323311949751266331066368, 140737488355327, 32768⟩]), (16, [⟨0, .q none, 32768, 0, 696898287454081973172991196020261297061888⟩, ⟨1, .q none, 4096, 0, 1393796574908163946345982392040522594123776⟩, ⟨2, .f 0 true, 1393796574908163946345982392040522594123776, 2, 2787593149816327892691964784081045188247552⟩, ⟨3, .q none, 4096, 0, 5575186299632655785383929568162090376495104⟩, ⟨4, .f 1 true, 5575186299632655785383929568162090376495104, 14, 11150372599265311570767859136324180752990208⟩, ⟨5, .q none, 13937965749081639463459823920405225941237760, 30, 22300745198530623141535718272648361505980416⟩, ⟨6, .q none, 4096, 0, 44601490397061246283071436545296723011960832⟩, ⟨7, .f 2 true, 44601490397061246283071436545296723011960832, 94, 89202980794122492566142873090593446023921664⟩, ⟨8, .q none, 111503725992653115707678591363241807529902080, 254, 178405961588244985132285746181186892047843328⟩, ⟨9, .q none, 179102859875699067105458737377207153344905216, 511, 356811923176489970264571492362373784095686656⟩, ⟨10, .q none, 4096, 0, 713623846352979940529142984724747568191373312⟩, ⟨11, .q none, 8192, 0, 1427247692705959881058285969449495136382746624⟩, ⟨12, .q none, 2140871539058939821587428954174242704574119936, 3072, 2854495385411919762116571938898990272765493248⟩, ⟨13, .q none, 4096, 0, 5708990770823839524233143877797980545530986496⟩, ⟨14, .q none, 5708990770823839524233143877797980545530986496, 8192, 11417981541647679048466287755595961091061972992⟩, ⟨15, .q none, 16384, 0, 22835963083295358096932575511191922182123945984⟩, ⟨16, .q none, 34253944624943037145398863266787883273185918976, 57344, 45671926166590716193865151022383844364247891968⟩, ⟨17, .q none, 48526421552002635955981722961282834637013385216, 130048, 91343852333181432387730302044767688728495783936⟩, ⟨18, .q none, 91700664256357922357994873537130062512591470592, 262143, 182687704666362864775460604089535377456991567872⟩, ⟨19, .q none, 1, 0, 365375409332725729550921208179070754913983135744⟩, ⟨20, .q none, 65536, 0, 730750818665451459101842416358141509827966271488⟩, ⟨21, .q none, 365375409332725729550921208179070754913983135744, 524288, 1461501637330902918203684832716283019655932542976⟩, ⟨22, .q none, 1461501637330902918203684832716283019655932542976, 2621440, 2923003274661805836407369665432566039311865085952⟩, ⟨23, .q none, 3653754093327257295509212081790707549139831357440, 7864320, 5846006549323611672814739330865132078623730171904⟩, ⟨24, .q (some 0), 5846006549323611672814739330865132078623730171904, 16252928, 11692013098647223345629478661730264157247460343808⟩, ⟨25, .q none, 11874700803313586210404939265819799534704451911680, 33554431, 23384026197294446691258957323460528314494920687616⟩, ⟨26, .q none, 65536, 0, 46768052394588893382517914646921056628989841375232⟩, ⟨27, .q none, 46768052394588893382517914646921056628989841375236, 67108864, 93536104789177786765035829293842113257979682750464⟩, ⟨28, .q (some 0), 93536104789177786765035829293842113257979682750464, 201326592, 187072209578355573530071658587684226515959365500928⟩, ⟨29, .q none, 210456235775650020221330615911144754830454286188544, 536870911, 374144419156711147060143317175368453031918731001856⟩, ⟨30, .q none, 374144419156711147060143317175368453031918731001856, 1073741823, 131072⟩]), (23, [⟨0, .q none, 1, 0, 52656145834278593348959013841835216159447547700274555627155488768⟩, ⟨1, .q none, 524288, 0, 105312291668557186697918027683670432318895095400549111254310977536⟩, ⟨2, .q none, 52656145834278593348959013841835216159447547700274555627155488768, 1, 210624583337114373395836055367340864637790190801098222508621955072⟩, ⟨3, .q none, 210624583337114373395836055367340864637790190801098222508621955072, 5, 421249166674228746791672110734681729275580381602196445017243910144⟩, ⟨4, .q none, 526561458342785933489590138418352161594475477002745556271554887680, 15, 842498333348457493583344221469363458551160763204392890034487820288⟩, ⟨5, .q (some 0), 842498333348457493583344221469363458551160763204392890034487820288, 31, 1684996666696914987166688442938726917102321526408785780068975640576⟩, ⟨6, .q none, 1048576, 0, 3369993333393829974333376885877453834204643052817571560137951281152⟩, ⟨7, .q none, 5054990000090744961500065328816180751306964579226357340206926921728, 127, 6739986666787659948666753771754907668409286105635143120275902562304⟩, ⟨8, .q none, 52656145834278593348959013841835216159447547700274555627155488768, 1, 13479973333575319897333507543509815336818572211270286240551805124608⟩, ⟨9, .q none, 13479973333575319897333507543509815336818572211270286240551805124608, 257, 26959946667150639794667015087019630673637144422540572481103610249216⟩, ⟨10, .q none, 27065258958819196981364933114703301105956039517941121592357921226752, 1023, 53919893334301279589334030174039261347274288845081144962207220498432⟩, ⟨11, .f 0 false, 60659880001088939538000783945794169015683574950716288082483123060736, 2047, 0⟩])], [], []⟩
theorem E_sha_state_turn (x0 : Value) (w : World) (R : Ending → World → Prop) : cwp Tryz.prog A_sha_state_turn (Tryz.f129.body.getD .skip) (retPost Tryz.prog Tryz.f129.results.toList R) (argE [x0]) w = F_sha_state_turn x0 w R := by kernel_rfl
theorem C_sha_state_turn {x0 : Value} {w : World} {R : Ending → World → Prop} (h : F_sha_state_turn x0 w R) : Calls Tryz.prog 129 #[x0] w R :=
 calls_cwp (A := A_sha_state_turn) (args := [x0]) mixed Tryz.func129 (c := Tryz.f129.body.getD .skip) (by kernel_rfl) (by kernel_rfl) (by kernel_rfl) ((E_sha_state_turn x0 w R).mpr h)
def F_bough_Above (x0 x1 : Value) (w : World) (R : Ending → World → Prop) : Prop :=
 mj1 (fun j2 =>
 m R (o_call (fv 83) [x0, x1]) w fun x8 w1 =>
 m R (o_un .not x8) w1 fun x9 w2 =>
 mguard x9 false (fun k => m R (o_move x1) w2 k) w2 fun x11 w3 =>
 mguard x9 false (fun k => m R (o_move x0) w3 k) w3 fun x12 w4 =>
 mguard x9 false (fun k => m R (o_call (fv 42) [x12]) w4 k) w4 fun x13 w5 =>
 mguard x9 false (fun k => m R (o_bin .eql 3 false x11 x13) w5 k) w5 fun x14 w6 =>
 m R (o_pick x9 (.bool true) x14) w6 fun x15 w7 =>
 j2 x15 w7) fun x15 u2 w8 =>
 mif x15 (
 R (.returned (.int .i64 (-1))) w8) (
 ml1 x1 w8 fun x1 u3 w9 next3 =>
 m R (o_call (fv 84) [x1]) w9 fun x17 w10 =>
 dp Tryz.prog (o_bin .add 3 true x17 (.int .i64 1)) fun x20 =>
 dp Tryz.prog (o_bin .shl 3 true (.int .i64 1) x20) fun x21 =>
 dp Tryz.prog (o_bin .andNot 3 false x1 x21) fun x22 =>
 dp Tryz.prog (o_bin .shl 3 true (.int .i64 1) x17) fun x24 =>
 dp Tryz.prog (o_bin .or 3 false x22 x24) fun x25 =>
 dend w10 fun w11 =>
 m R (o_call (fv 83) [x0, x25]) w11 fun x28 w12 =>
 mif x28 (
 R (.returned x25) w12) (
 next3 x25 w12))
def A_bough_Above : Ann := ⟨[(3, [1], 1073676338)], [(2, [15], 65472)], [(4, [⟨0, .q none, 2, 0, 262144⟩, ⟨1, .q none, 32, 0, 524288⟩, ⟨2, .q none, 524288, 2, 1048576⟩, ⟨3, .q none, 1048576, 6, 2097152⟩, ⟨4, .q none, 2359296, 15, 4194304⟩, ⟨5, .q none, 32, 0, 8388608⟩, ⟨6, .q none, 8388608, 32, 16777216⟩, ⟨7, .q none, 20971520, 127, 33554432⟩, ⟨8, .q none, 33554432, 255, 2⟩])], [], []⟩
theorem E_bough_Above (x0 x1 : Value) (w : World) (R : Ending → World → Prop) : cwp Tryz.prog A_bough_Above (Tryz.f143.body.getD .skip) (retPost Tryz.prog Tryz.f143.results.toList R) (argE [x0, x1]) w = F_bough_Above x0 x1 w R := by kernel_rfl
theorem C_bough_Above {x0 x1 : Value} {w : World} {R : Ending → World → Prop} (h : F_bough_Above x0 x1 w R) : Calls Tryz.prog 143 #[x0, x1] w R :=
 calls_cwp (A := A_bough_Above) (args := [x0, x1]) mixed Tryz.func143 (c := Tryz.f143.body.getD .skip) (by kernel_rfl) (by kernel_rfl) (by kernel_rfl) ((E_bough_Above x0 x1 w R).mpr h)
def F_cmp_isNaN_int (x0 : Value) (w : World) (R : Ending → World → Prop) : Prop :=
 m R (o_bin .neq 3 false x0 x0) w fun x5 w1 =>
 R (.returned x5) w1
def A_cmp_isNaN_int : Ann := ⟨[], [], [], [], []⟩
theorem E_cmp_isNaN_int (x0 : Value) (w : World) (R : Ending → World → Prop) : cwp Tryz.prog A_cmp_isNaN_int (Tryz.f144.body.getD .skip) (retPost Tryz.prog Tryz.f144.results.toList R) (argE [x0]) w = F_cmp_isNaN_int x0 w R := by kernel_rfl
theorem C_cmp_isNaN_int {x0 : Value} {w : World} {R : Ending → World → Prop} (h : F_cmp_isNaN_int x0 w R) : Calls Tryz.prog 144 #[x0] w R :=
 calls_cwp (A := A_cmp_isNaN_int) (args := [x0]) mixed Tryz.func144 (c := Tryz.f144.body.getD .skip) (by kernel_rfl) (by kernel_rfl) (by kernel_rfl) ((E_cmp_isNaN_int x0 w R).mpr h)
def F_math_bits_RotateLeft32 (x0 x1 : Value) (w : World) (R : Ending → World → Prop) : Prop :=
 m R (o_conv 3 121 x1) w fun x7 w1 =>
 m R (o_bin .and 121 true x7 (.int .u64 31)) w1 fun x8 w2 =>
 m R (o_bin .shl 125 false x0 x8) w2 fun x11 w3 =>
 m R (o_bin .sub 121 true (.int .u64 32) x8) w3 fun x14 w4 =>
 m R (o_bin .shr 125 false x0 x14) w4 fun x15 w5 =>
 m R (o_bin .or 125 false x11 x15) w5 fun x16 w6 =>
 R (.returned x16) w6
def A_math_bits_RotateLeft32 : Ann := ⟨[], [], [], [], []⟩
theorem E_math_bits_RotateLeft32 (x0 x1 : Value) (w : World) (R : Ending → World → Prop) : cwp Tryz.prog A_math_bits_RotateLeft32 (Tryz.f151.body.getD .skip) (retPost Tryz.prog Tryz.f151.results.toList R) (argE [x0, x1]) w = F_math_bits_RotateLeft32 x0 x1 w R := by kernel_rfl
theorem C_math_bits_RotateLeft32 {x0 x1 : Value} {w : World} {R : Ending → World → Prop} (h : F_math_bits_RotateLeft32 x0 x1 w R) : Calls Tryz.prog 151 #[x0, x1] w R :=
 calls_cwp (A := A_math_bits_RotateLeft32) (args := [x0, x1]) mixed Tryz.func151 (c := Tryz.f151.body.getD .skip) (by kernel_rfl) (by kernel_rfl) (by kernel_rfl) ((E_math_bits_RotateLeft32 x0 x1 w R).mpr h)
end Go.Proofs.YtopcnkejobomaaaGreat
namespace Go.Proofs.YtopcnkejobomaaaGreat
open Go.RowKit
section
variable {P : Program} {t : TypeId} {q : Bool}
theorem str_beq (x y : ByteArray) : (x.toList == y.toList) = decide (x = y) := by
  rw [Bool.eq_iff_iff]
  simp only [beq_iff_eq, decide_eq_true_eq]
  rw [ByteArray.toList_eq, ByteArray.toList_eq]
  constructor
  · intro e
    obtain ⟨⟨a⟩⟩ := x
    obtain ⟨⟨b⟩⟩ := y
    simpa using e
  · rintro rfl; rfl
instance (priority := 1100) (x y : ByteArray) : StepC P (o_bin .eql t q (.string x) (.string y)) True (.bool (decide (x = y))) := ⟨fun _ => by rw [← str_beq]; exact p_eql_string t q x y⟩
instance (priority := 1100) (x y : ByteArray) : StepC P (o_bin .neq t q (.string x) (.string y)) True (.bool (decide (x ≠ y))) := ⟨fun _ w => by
  have := str_beq x y
  simp [o_bin, sv, eqGuard, binOp, go_sem, Op.stringOp, this]⟩
instance (priority := 1100) : StepC P (o_un .not (.bool true)) True (.bool false) := ⟨fun _ w => by simp [o_un, sv, go_sem]⟩
instance (priority := 1100) : StepC P (o_un .not (.bool false)) True (.bool true) := ⟨fun _ w => by simp [o_un, sv, go_sem]⟩
end
end Go.Proofs.YtopcnkejobomaaaGreat
namespace Go.Proofs.YtopcnkejobomaaaGreat
open Go.RowKit
def exR {α : Type} (R : α → List Res) : Res := fun B => ∃ a, Hl (R a) B
theorem Mem.unex {α : Type} {R : α → List Res} {H : Hp} {w0 w : World} {L : List Res} (h : Mem H w0 (exR R :: L) w) : ∃ a, Mem H w0 (R a ++ L) w := by
  obtain ⟨B, ⟨B1, B2, rfl, ⟨a, h1⟩, h2⟩, hs⟩ := h.own
  exact ⟨a, ⟨B1 ++ B2, Hl.app.2 ⟨B1, B2, rfl, h1, h2⟩, hs⟩, h.fz⟩
theorem Mem.toex {α : Type} {R : α → List Res} {H : Hp} {w0 w : World} {L : List Res} (a : α) (h : Mem H w0 (R a ++ L) w) : Mem H w0 (exR R :: L) w := h.fold fun _ hb => ⟨a, hb⟩
instance (priority := 500) (L L' : List Res) (x : Res) [k : SubL L L'] : SubL (x :: L) L' := ⟨by
  obtain ⟨R, h⟩ := k.ok
  exact ⟨x :: R, h.cons x⟩⟩
def Clo {α : Type} (P : Program) (H : Hp) (w0 : World) (r : Res) (c : Value) (enc : α → Value) (f : α → Bool) : Prop :=
  ∀ (y : α) (R : List Res) (w : World) (K : Value → World → Prop) (X : List PanicEntry → World → Prop), Mem H w0 (r :: R) w → (∀ w', Mem H w0 (r :: R) w' → K (.bool (f y)) w') → mop P (o_call c [enc y]) w K X
section
variable {P : Program} {H : Hp} {w0 w : World} {L : List Res} {n cap e sz by_ : Nat} {t : TypeId} {A : Option Addr} {ps : List (List Fd)} {X X1 X2 X3 : List PanicEntry → World → Prop} {R : Ending → World → Prop}
theorem clone_gen [cc : SliC P t e sz by_] [IsSl P t] (hs : Sl (Hp.of w) sz A ps) (hn : n = ps.length) (hM : Mem H w0 L w) (hb : n ≤ 9223372036854775807 ∧ n * by_ ≤ 140737488355328)
    (hR : ∀ A' cap' w', Ext w w' → Mem H w0 (rowR e sz A' n cap' ps :: L) w' → R (.returned (.slice A' n cap')) w') :
    mop P (o_bin .eql t true (.slice A n cap) (.slice none 0 0)) w (fun x4 w1 => mif x4 (R (.returned (.slice none 0 0)) w1) (mop P (o_buildSlice t 0 []) w1 (fun x5 w2 => mop P (o_builtin .append #[t, t] t [false, false] [x5, .slice A n cap]) w2 (fun x7 w3 => R (.returned x7) w3) X2) X1)) X := by
  refine mop_c trivial ?_
  cases A with
  | none =>
    have : ps = [] := by
      rcases hs.at_ with h | ⟨b, o, c, h, _⟩
      · exact h
      · cases h
    subst this
    subst hn
    exact mif_true (hR none 0 w (Ext.refl w) (hM.row0 e sz))
  | some a =>
    refine mif_false ?_
    have k : Lits P sz 0 [] [] := inferInstance
    have hr := run_buildSlice (P := P) (t := t) (e := e) (sz := sz) (by_ := by_) (w := w) (ps := []) (qs := []) cc k (by simp)
    refine mop_run hr ?_
    have hx : Ext w (w.alloc (.cells (fls []).toArray e)) := (Only.refl _ w).alloc _
    have hM2 : Mem H w0 (rowR e sz (some ⟨w.heap.size, 0, none⟩) 0 0 [] :: L) (w.alloc (.cells (fls []).toArray e)) := by
      obtain ⟨B, hl, hs', hb'⟩ := hM.own
      refine ⟨⟨⟨w.heap.size, e, fls [], true⟩ :: B, ⟨[⟨w.heap.size, e, fls [], true⟩], B, rfl, ⟨Els.nil sz, rfl, .inr ⟨w.heap.size, [], rfl, by simp, by simp [fls], by simp, by simp⟩⟩, hl⟩, hs'.alloc e (fls []), fun b hm => ?_⟩, hM.fz.ext hx⟩
      rcases List.mem_cons.1 hm with rfl | hm
      · refine ⟨rfl, ?_⟩
        cases hh : H w.heap.size with
        | none => rfl
        | some c => have := hM.fz.lt hh; omega
      · exact hb' b hm
    subst hn
    have hsrc : Src P sz t (.slice (some a) ps.length cap) ps.length (fls ps) (w.alloc (.cells (fls []).toArray e)) := hs.src ((Fz.of w).ext hx) cc.und cap
    simp only [List.length_nil]
    refine mm_appX (n := 0) (cap := 0) hM2 ⟨.refl _⟩ hsrc hs.els rfl (by simp only [maxLen]; omega) (by rw [Nat.zero_add]; exact hb.2) fun A' cap' w' ho hM3 => ?_
    rw [Nat.zero_add, List.nil_append] at hM3
    rw [Nat.zero_add]
    have hx2 : Ext w w' := Only.trans hx ho fun i hi hg => by cases hg; omega
    exact hR A' cap' w' hx2 hM3
theorem Mem.setElem {R1 : List Res} {g : Nat} {k : Nat} {p : List Fd} (h : Mem H w0 (rowR e sz (some ⟨g, 0, none⟩) n cap ps :: R1) w) (hk : k < n) (hp : FOk p) (hs : fsz p = sz) : ∃ w', (storeCells ⟨g, 0 + k * sz, none⟩ (fl p) 0).run P w = .ok () w' ∧ Mem H w0 (rowR e sz (some ⟨g, 0, none⟩) n cap (ps.set k p) :: R1) w' := by
  obtain ⟨B, ⟨B1, B2, rfl, ⟨h1, h2, h3⟩, h4⟩, hs', hb⟩ := h.own
  rcases h3 with ⟨hA, _⟩ | ⟨g', sp, hA, rfl, h5, h6⟩
  · cases hA
  · cases hA
    have hs' : St w0 (⟨g, e, fls ps ++ sp, true⟩ :: B2) w := hs'
    have hle : k * sz + sz ≤ n * sz := by rw [← Nat.succ_mul]; exact Nat.mul_le_mul_right _ hk
    have hpl : (fl p).length = sz := by rw [hp.len, hs]
    have hfl : (fls ps).length = n * sz := by rw [h1.len, h2]
    have hst := run_storeCells_blf (P := P) (0 + k * sz) (fl p) 0 (fls ps ++ sp) w hs'.head (by rw [List.length_append, hfl, hpl]; omega) hp.one
    have hlay : lay (fls ps ++ sp) (fl p) (0 + k * sz + 0) = fls (ps.set k p) ++ sp := by
      have hk' : k < ps.length := by omega
      have e1 : ps = ps.take k ++ ps[k] :: ps.drop (k + 1) := by rw [List.getElem_cons_drop, List.take_append_drop]
      have ht : (fls (ps.take k)).length = k * sz := by rw [(h1.take k).len, List.length_take, Nat.min_eq_left (by omega)]
      have hx : (fl ps[k]).length = sz := by
        have := h1.ok ps[k] (List.getElem_mem _)
        rw [this.1.len, this.2]
      rw [List.set_eq_take_append_cons_drop, if_pos hk']
      conv => lhs; rw [e1]
      rw [fls_app, fls_app, fls_cons, fls_cons]
      unfold lay
      rw [Nat.zero_add, Nat.add_zero, hpl]
      rw [List.append_assoc, List.append_assoc, List.append_assoc, List.append_assoc, List.append_assoc]
      rw [List.take_left' ht]
      congr 1
      rw [show k * sz + sz = (fls (ps.take k) ++ fl ps[k]).length by rw [List.length_append, ht, hx], ← List.append_assoc (fls (ps.take k)), List.drop_left' rfl]
    refine ⟨_, hst, ?_⟩
    rw [hlay]
    have hl2 : (fls (ps.set k p) ++ sp).length = (fls ps ++ sp).length := by
      rw [← hlay]
      exact lay_length _ _ _ (by rw [List.length_append, hfl, hpl]; omega)
    have hels : Els sz (ps.set k p) := ⟨fun q hq => by
      rcases List.mem_or_eq_of_mem_set hq with hq | rfl
      · exact h1.ok q hq
      · exact ⟨hp, hs⟩⟩
    have hg := hb ⟨g, e, fls ps ++ sp, true⟩ (by simp)
    refine ⟨⟨⟨g, e, fls (ps.set k p) ++ sp, true⟩ :: B2, ⟨[⟨g, e, fls (ps.set k p) ++ sp, true⟩], B2, rfl, ⟨hels, by simpa using h2, .inr ⟨g, sp, rfl, rfl, by rw [hl2]; exact h5, h6⟩⟩, h4⟩, hs'.setRow hl2, fun b hm => ?_⟩, h.fz.same fun b c hc => setRow_other w g b _ ?_⟩
    · rcases List.mem_cons.1 hm with rfl | hm
      · exact ⟨rfl, hg.2⟩
      · exact hb b (List.mem_append.2 (.inr hm))
    · rintro rfl
      have := hg.2
      simp only [hc] at this
      cases this
theorem mm_str {R1 : List Res} {g k : Nat} {tt : TypeId} {q : Bool} {v : Value} {p : List Fd} {K : Value → World → Prop} {X : List PanicEntry → World → Prop} (h : Mem H w0 L w) [c : ShpC P tt q sz] [a : AtA L (some ⟨g, 0, none⟩) n cap e sz ps R1] [f : Vf v sz p] (hk : k < n)
    (hK : ∀ w', Mem H w0 (rowR e sz (some ⟨g, 0, none⟩) n cap (ps.set k p) :: R1) w' → K undef w') : mop P (o_store tt (.pointer (some ⟨g, 0 + k * sz, none⟩)) v) w K X := by
  obtain ⟨ev, hn, hp⟩ := f.ok
  obtain ⟨w', hr, hm⟩ := (h.perm a.perm).setElem (P := P) hk hp hn
  refine mop_skip ?_ (hK w' hm)
  have e2 : v.cells.size = sz := by rw [← Array.length_toList, ev, hp.len, hn]
  simp [o_store, su, Instr.storeAt, Instr.sureAddr, storeVar, run_size (shp_agg (w := w) c.ok).2, ev, e2]
  rw [Nat.zero_add] at hr
  simp [hr]
end
end Go.Proofs.YtopcnkejobomaaaGreat
namespace Go.Proofs.YtopcnkejobomaaaGreat
open Go.RowKit
def Rl.fz (K : Hp) : Rl := ⟨fun a b => Fz K a → Fz K b, fun _ h => h, fun h k x => k (h x), fun h x => x.ext h.ext⟩
def hadd (H : Hp) (g : Nat) (cs : List Value) : Hp := fun k => if k = g then some cs.toArray else H k
section
variable {P : Program} {H H' K : Hp} {w0 w w' : World} {L L' R R' : List Res} {g i : Nat} {t t' : TypeId} {fs gs fs' : List Fd} {put : Res → List Res} {q : Bool} {n m cap e e' sz by_ : Nat} {v : Value} {Kt : Value → World → Prop} {X : List PanicEntry → World → Prop} {Kq : Value → Prop} {A : Option Addr} {ps qs : List (List Fd)}
theorem Fz.hadd {cs : List Value} (h : Fz H w) (b : Blf w g t cs) : Fz (hadd H g cs) w := fun k c hk => by
  unfold Go.Proofs.YtopcnkejobomaaaGreat.hadd at hk
  split at hk
  · rename_i e
    subst e
    cases hk
    obtain ⟨fr, hb, _⟩ := b
    exact ⟨t, fr, hb⟩
  · exact h k c hk
theorem FbF.add {fs : List Fd} (h : FOk fs) : FbF (hadd K g (fl fs)) g fs := ⟨h, (fl fs).toArray, by simp [hadd], fun j u hu => by simpa using hu⟩
theorem Fz.mono {w : World} (h : Fz H' w) (k : H.le H') : Fz H w := fun b c hb => h b c (k b c hb)
def K2 (H : Hp) (g : Nat) (fs : List Fd) (g2 : Nat) (fs2 : List Fd) : Hp := hadd (hadd H g (fl fs)) g2 (fl fs2)
theorem Mem.refd {fs' : List Fd} (h : Mem H w0 (fb g t fs :: L) w) (he : fl fs = fl fs') (hf : FOk fs') : Mem H w0 (fb g t fs' :: L) w := by
  have : Mem H w0 ([fb g t fs'] ++ L) w := h.imp fun B ⟨_, hb⟩ => ⟨B, [], by simp, ⟨hf, by rw [hb, he]⟩, rfl⟩
  exact this
end
end Go.Proofs.YtopcnkejobomaaaGreat
namespace Go.Proofs.YtopcnkejobomaaaGreat
open Go.RowKit
class PurC (P : Program) (f : Nat) (args : List Value) (c : outParam Prop) (v : outParam Value) : Prop where
  ok : c → ∀ (w : World), Calls P f args.toArray w fun en w' => en = .returned v ∧ St w [] w'
section
variable {P : Program} {H K : Hp} {w0 w : World} {L : List Res} {f : Nat} {args : List Value} {c : Prop} {v : Value} {Kt : Value → World → Prop} {X : List PanicEntry → World → Prop}
theorem mm_purC (h : Mem H w0 L w) [hf : FunC P f] [p : PurC P f args c v] (hc : c) (hk : ∀ w', Mem H w0 L w' → Kt v w') : mop P (o_call (fv f) args) w Kt X := mm_pure h (p.ok hc w) hk
theorem dm_purC {ext : Bool} (h : Mem H w0 L w) [hf : FunC P f] [p : PurC P f args c v] (hc : c) (hk : ∀ w', Ext w w' → Mem H w0 L w' → Kt v w') : df P w (o_call (fv f) args) ext Kt := dm_pure h (fun w _ => p.ok hc w) hk
end
end Go.Proofs.YtopcnkejobomaaaGreat
namespace Go.Proofs.YtopcnkejobomaaaGreat
open Go.RowKit
section
variable {P : Program} {H : Hp} {w0 w : World} {L : List Res} {g n : Nat} {t t' : TypeId} {fs : List Fd} {put : Res → List Res} {v : Value} {K : Value → World → Prop} {X : List PanicEntry → World → Prop}
theorem SubA.set {o j : Nat} {ls : List Value} {putA : List Value → List Fd} (s : SubA fs o n ls putA) (hf : FOk fs) (hj : j < n) (hv : v.oneCell' = true) : FOk (putA (ls.set j v)) ∧ lay (fl fs) [v] (o + j) = fl (putA (ls.set j v)) ∧ o + j + 1 ≤ (fl fs).length := by
  obtain ⟨a, b, rfl, rfl, h3⟩ := s.ok
  have hls : FdOk (.arr n ls) := hf.ok _ (by simp)
  have hl : ls.length = n := hls.len
  have ha := hf.left.left.len
  refine ⟨?_, ?_, ?_⟩
  · rw [h3]
    refine (hf.left.left.app ⟨fun f hm => ?_⟩).app hf.right
    rw [List.mem_singleton.1 hm]
    refine ⟨by simpa [Fd.cells, Fd.size] using hl, fun u hu => ?_⟩
    rcases List.mem_or_eq_of_mem_set hu with hu | rfl
    · exact hls.one u hu
    · exact hv
  · rw [h3]
    unfold lay
    have e1 : fl (a ++ [.arr n ls] ++ b) = fl a ++ (ls ++ fl b) := by simp [fl_append, fl, Fd.cells]
    have e2 : fl (a ++ [.arr n (ls.set j v)] ++ b) = fl a ++ (ls.set j v ++ fl b) := by simp [fl_append, fl, Fd.cells]
    rw [e1, e2, ← ha, List.take_length_add_append, List.take_append_of_le_length (by omega), List.length_singleton, Nat.add_assoc, List.drop_length_add_append, List.drop_append_of_le_length (by omega)]
    rw [List.set_eq_take_append_cons_drop, if_pos (by omega)]
    simp
  · simp [fl_append, fl, Fd.cells]
    omega
theorem run_msta {o j : Nat} {ls : List Value} {putA : List Value → List Fd} (h : Mem H w0 L w) (cc : ShpC P t false 1) (k : AtB L g t' fs put) (s : SubA fs o n ls putA) (hv : One v) (hj : j < n) : ∃ w', (o_store t (.pointer (some ⟨g, o + j, none⟩)) v).run P w = .ok .skip w' ∧ Mem H w0 (put (fb g t' (putA (ls.set j v)))) w' := by
  obtain ⟨hb, hf⟩ := h.blf k
  obtain ⟨h1, h2, h3⟩ := s.set hf hj hv.ok
  have hl : (fl (putA (ls.set j v))).length = (fl fs).length := by rw [← h2]; exact lay_length _ _ _ (by simpa using h3)
  have hst := run_storeCells_blf (P := P) (o + j) [v] 0 (fl fs) w hb (by simpa using h3) (fun u hu => by rw [List.mem_singleton.1 hu]; exact hv.ok)
  refine ⟨_, ?_, h.setRow k h1 hl⟩
  simp only [Nat.add_zero, h2] at hst
  have e : v.cells.toList = [v] := by have := hv.ok; cases v <;> simp_all [Value.cells, Value.oneCell']
  have e2 : v.cells.size = 1 := by rw [← Array.length_toList, e]; rfl
  simp [o_store, su, Instr.storeAt, Instr.sureAddr, storeVar, run_size (shp_agg (w := w) cc.ok).2, e, hst, e2]
theorem mm_sta {o j : Nat} {ls : List Value} {putA : List Value → List Fd} (h : Mem H w0 L w) [cc : ShpC P t false 1] [k : AtB L g t' fs put] [s : SubA fs o n ls putA] [hv : One v] (hj : j < n) (hk : ∀ w', Mem H w0 (put (fb g t' (putA (ls.set j v)))) w' → K undef w') : mop P (o_store t (.pointer (some ⟨g, o + j, none⟩)) v) w K X := by
  obtain ⟨w', h1, h2⟩ := run_msta h cc k s hv hj
  exact mop_skip h1 (hk w' h2)
theorem mm_ldj {o j : Nat} {ls : List Value} {putA : List Value → List Fd} (h : Mem H w0 L w) [cc : ShpC P t false 1] [k : AtB L g t' fs put] [s : SubA fs o n ls putA] (hv : ls[j]? = some v) (hk : K v w) : mop P (o_load t (.pointer (some ⟨g, o + j, none⟩))) w K X := mm_lda h hv hk
end
end Go.Proofs.YtopcnkejobomaaaGreat
namespace Go.Proofs.YtopcnkejobomaaaGreat
open Go.RowKit
theorem mif_nt {F G : Prop} (h : G) : mif (.bool (!true)) F G := mif_false h
theorem mif_nf {F G : Prop} (h : F) : mif (.bool (!false)) F G := mif_true h
end Go.Proofs.YtopcnkejobomaaaGreat
namespace Go.Proofs.YtopcnkejobomaaaGreat
open Go.RowKit Go.Lib
set_option maxRecDepth 100000 in
theorem up_fin : ∀ y : Fin 128, bits .and .i64 y.val 1 = y.val % 2 ∧ bits .or .i64 (bits .andNot .i64 y.val (pw (level y.val + 1))) (pw (level y.val)) = up1 y.val ∧ level (up1 y.val) = level y.val + 1 ∧ pw (level y.val) ≤ y.val + 1 ∧ level y.val ≤ 7 := by decide +kernel
set_option maxRecDepth 100000 in
theorem fd_fin : ∀ n : Fin 65, ∀ x : Fin 127, thr (n.val : Int) (x.val : Int) → 0 ≤ (fd n.val x.val).1 ∧ 1 ≤ (fd n.val x.val).2.1 ∧ (fd n.val x.val).1 + (fd n.val x.val).2.1 ≤ 64 := by decide +kernel
theorem up_eq {x : Int} (h : 0 ≤ x ∧ x < 128) : bits .and .i64 x 1 = x % 2 ∧ bits .or .i64 (bits .andNot .i64 x (pw (level x + 1))) (pw (level x)) = up1 x ∧ level (up1 x) = level x + 1 ∧ pw (level x) ≤ x + 1 ∧ level x ≤ 7 := by
  have := up_fin ⟨x.toNat, by omega⟩
  simpa only [Int.toNat_of_nonneg h.1] using this
theorem fd_eq {n x : Int} (h : thr n x) : 0 ≤ (fd n x).1 ∧ 1 ≤ (fd n x).2.1 ∧ (fd n x).1 + (fd n x).2.1 ≤ 64 := by
  obtain ⟨h1, h2, h3⟩ := id h
  have := fd_fin ⟨n.toNat, by omega⟩ ⟨x.toNat, by omega⟩
  simp only [Int.toNat_of_nonneg h2, Int.toNat_of_nonneg (show 0 ≤ n by omega)] at this
  exact this h
theorem bough_eq {n x : Int} (h : thr n x) : pLeft n x = lf n x ∧ pRight n x = rt n x ∧ pAbove n x = ab n x ∧ pBeside n x = bs n x ∧ pFrom n x = fro n x ∧ pTo n x = til n x ∧
    (level x ≠ 0 → okr 8 n (x + pw (level x - 1)) = true) ∧ (x ≠ root n → oku 8 n x = true) ∧ root n = rRoot n := by
  obtain ⟨h1, h2, h3⟩ := id h
  have := bough_fin ⟨n.toNat, by omega⟩ ⟨x.toNat, by omega⟩
  simp only [Int.toNat_of_nonneg h2, Int.toNat_of_nonneg (show 0 ≤ n by omega)] at this
  exact this h
theorem lev_rng : ∀ (f : Nat) (x : Int), 0 ≤ lev f x ∧ lev f x ≤ f
  | 0, x => by simp [lev]
  | f + 1, x => by
    have := lev_rng f (x / 2)
    unfold lev
    split <;> omega
theorem level_rng (x : Int) : 0 ≤ level x ∧ level x ≤ 8 := lev_rng 8 x
theorem pw_rng {k : Int} (h : k ≤ 9) : 1 ≤ pw k ∧ pw k ≤ 512 := by
  have h2 : (2 : Nat) ^ k.toNat ≤ 2 ^ 9 := Nat.pow_le_pow_right (by decide) (by omega)
  have h3 : 0 < (2 : Nat) ^ k.toNat := Nat.pow_pos (by decide)
  have h4 : pw k = ((2 ^ k.toNat : Nat) : Int) := by unfold pw; push_cast; rfl
  rw [h4]
  omega
instance {P : Program} {t : TypeId} {q : Bool} {k' : IntKind} (b : Int) : StepC P (o_bin .shl t q (.int .i64 1) (.int k' b)) (0 ≤ b ∧ b < 62) (.int .i64 (pw b)) := ⟨fun h => by
  have := p_shl (P := P) t q .i64 k' 1 b h.1 (by show b < 64; omega)
  have h2 : (2 : Nat) ^ b.toNat ≤ 2 ^ 62 := Nat.pow_le_pow_right (by decide) (by omega)
  have h4 : (2 : Int) ^ b.toNat = ((2 ^ b.toNat : Nat) : Int) := by push_cast; rfl
  have h5 : -9223372036854775808 ≤ (2 : Int) ^ b.toNat ∧ (2 : Int) ^ b.toNat < 9223372036854775808 := by
    generalize (2 : Nat) ^ b.toNat = m at h2 h4
    rw [h4]
    omega
  rw [Int.one_mul, wrap_in h5] at this
  exact this⟩
theorem p_andNot {P : Program} (t : TypeId) (c : Bool) (k : IntKind) (a b : Int) : Pur P (o_bin .andNot t c (.int k a) (.int k b)) (.int k (bits .andNot k a b)) := fun w => by
  simp [o_bin, sv, eqGuard, binOp, go_sem]
instance {P : Program} {t : TypeId} {q : Bool} {k : IntKind} (a b : Int) : StepC P (o_bin .andNot t q (.int k a) (.int k b)) True (.int k (bits .andNot k a b)) := ⟨fun _ => p_andNot t q k a b⟩
section
variable {H : Hp} {w0 w : World} {L : List Res}
theorem there_ok (n x : Int) (w : World) : Calls Tryz.prog 83 #[.int .i64 n, .int .i64 x] w fun en w' => en = .returned (.bool (decide (thr n x))) ∧ St w [] w' := by
  have hM := Mem.start (Fz.of w)
  refine C_bough_there ?_
  unfold F_bough_there
  ((with_reducible (refine mop_cS trivial ?_ ?_)))
  · intro h1
    ((with_reducible (refine mguard_yes ?_; refine mop_c trivial ?_; refine mguard_yes ?_)))
    ((with_reducible (refine mop_cS trivial ?_ ?_)))
    · intro h2
      ((with_reducible (refine mop_c trivial ?_; refine mguard_yes ?_; refine mop_c trivial ?_; refine mguard_yes ?_)))
      ((with_reducible (refine mop_cS trivial ?_ ?_)))
      · intro h3
        ((with_reducible (refine mop_c trivial ?_; refine mguard_yes ?_; refine mop_c trivial ?_; refine mguard_yes ?_; refine mop_c trivial ?_; refine mguard_yes ?_; refine mop_c ?_ ?_)); (focus omega); (with_reducible (refine mguard_yes ?_; refine mop_c ?_ ?_)); (focus omega); (with_reducible (refine mguard_yes ?_)))
        ((with_reducible (refine mop_cS trivial ?_ ?_)))
        · intro h4
          ((with_reducible (refine mop_c trivial ?_)))
          exact ⟨by rw [decide_eq_true (show thr n x from ⟨⟨h1, h2⟩, h3, h4⟩)], hM.st⟩
        · intro h4
          ((with_reducible (refine mop_c trivial ?_)))
          exact ⟨by rw [decide_eq_false (show ¬ thr n x from fun h => h4 h.2.2)], hM.st⟩
      · intro h3
        ((with_reducible (refine mop_c trivial ?_; (iterate 5 refine mguard_n2 ?_); refine mop_c trivial ?_)))
        exact ⟨by rw [decide_eq_false (show ¬ thr n x from fun h => h3 h.2.1)], hM.st⟩
    · intro h2
      ((with_reducible (refine mop_c trivial ?_; refine mguard_n2 ?_; refine mguard_n2 ?_; refine mop_c trivial ?_; (iterate 5 refine mguard_n2 ?_); refine mop_c trivial ?_)))
      exact ⟨by rw [decide_eq_false (show ¬ thr n x from fun h => h2 h.1.2)], hM.st⟩
  · intro h1
    ((with_reducible (refine mguard_n2 ?_; refine mguard_n2 ?_; refine mop_c trivial ?_; refine mguard_n2 ?_; refine mguard_n2 ?_; refine mop_c trivial ?_; (iterate 5 refine mguard_n2 ?_); refine mop_c trivial ?_)))
    exact ⟨by rw [decide_eq_false (show ¬ thr n x from fun h => h1 h.1.1)], hM.st⟩
instance (n x : Int) : PurC Tryz.prog 83 [.int .i64 n, .int .i64 x] True (.bool (decide (thr n x))) := ⟨fun _ w => there_ok n x w⟩
theorem rthere_ok (n x : Int) (w : World) : Calls Tryz.prog 90 #[.int .i64 n, .int .i64 x] w fun en w' => en = .returned (.bool (decide (thr n x))) ∧ St w [] w' := by
  have hM := Mem.start (Fz.of w)
  refine C_bevyref07_There ?_
  unfold F_bevyref07_There
  ((with_reducible (refine mop_cS trivial ?_ ?_)))
  · intro h1
    ((with_reducible (refine mguard_yes ?_; refine mop_c trivial ?_; refine mguard_yes ?_)))
    ((with_reducible (refine mop_cS trivial ?_ ?_)))
    · intro h2
      ((with_reducible (refine mop_c trivial ?_; refine mguard_yes ?_; refine mop_c trivial ?_; refine mguard_yes ?_)))
      ((with_reducible (refine mop_cS trivial ?_ ?_)))
      · intro h3
        ((with_reducible (refine mop_c trivial ?_; refine mguard_yes ?_; refine mop_c trivial ?_; refine mguard_yes ?_; refine mop_c trivial ?_; refine mguard_yes ?_; refine mop_c ?_ ?_)); (focus omega); (with_reducible (refine mguard_yes ?_; refine mop_c ?_ ?_)); (focus omega); (with_reducible (refine mguard_yes ?_)))
        ((with_reducible (refine mop_cS trivial ?_ ?_)))
        · intro h4
          ((with_reducible (refine mop_c trivial ?_)))
          exact ⟨by rw [decide_eq_true (show thr n x from ⟨⟨h1, h2⟩, h3, h4⟩)], hM.st⟩
        · intro h4
          ((with_reducible (refine mop_c trivial ?_)))
          exact ⟨by rw [decide_eq_false (show ¬ thr n x from fun h => h4 h.2.2)], hM.st⟩
      · intro h3
        ((with_reducible (refine mop_c trivial ?_; (iterate 5 refine mguard_n2 ?_); refine mop_c trivial ?_)))
        exact ⟨by rw [decide_eq_false (show ¬ thr n x from fun h => h3 h.2.1)], hM.st⟩
    · intro h2
      ((with_reducible (refine mop_c trivial ?_; refine mguard_n2 ?_; refine mguard_n2 ?_; refine mop_c trivial ?_; (iterate 5 refine mguard_n2 ?_); refine mop_c trivial ?_)))
      exact ⟨by rw [decide_eq_false (show ¬ thr n x from fun h => h2 h.1.2)], hM.st⟩
  · intro h1
    ((with_reducible (refine mguard_n2 ?_; refine mguard_n2 ?_; refine mop_c trivial ?_; refine mguard_n2 ?_; refine mguard_n2 ?_; refine mop_c trivial ?_; (iterate 5 refine mguard_n2 ?_); refine mop_c trivial ?_)))
    exact ⟨by rw [decide_eq_false (show ¬ thr n x from fun h => h1 h.1.1)], hM.st⟩
instance (n x : Int) : PurC Tryz.prog 90 [.int .i64 n, .int .i64 x] True (.bool (decide (thr n x))) := ⟨fun _ w => rthere_ok n x w⟩
theorem level_ok (x : Int) (hx : 0 ≤ x ∧ x < 128) (w : World) : Calls Tryz.prog 84 #[.int .i64 x] w fun en w' => en = .returned (.int .i64 (level x)) ∧ St w [] w' := by
  have hM := Mem.start (Fz.of w)
  refine C_bough_level ?_
  unfold F_bough_level
  refine ⟨fun v u w' => ∃ (y k : Int) (f : Nat), v = .int .i64 y ∧ u = .int .i64 k ∧ f ≤ 7 ∧ k = 7 - f ∧ 0 ≤ y ∧ y < 2 ^ f ∧ level x = k + lev (f + 1) y ∧ hM.now w', fun _ u _ => match u with | .int _ k => 7 - k.toNat | _ => 0, ⟨x, 0, 7, rfl, rfl, by omega, by omega, hx.1, hx.2, by unfold level; rw [Int.zero_add], hM⟩, ?_⟩
  rintro v u i w2 ⟨y, k, f, rfl, rfl, hf, hk, hy, hy2, hl, hM⟩
  have h7 : (2 : Int) ^ f ≤ 128 := by
    have h2 : (2 : Nat) ^ f ≤ 2 ^ 7 := Nat.pow_le_pow_right (by decide) hf
    have h4 : (2 : Int) ^ f = ((2 ^ f : Nat) : Int) := by push_cast; rfl
    omega
  obtain ⟨hb, _⟩ := up_eq (x := y) (by omega)
  ((with_reducible (refine mop_c trivial ?_)))
  rw [hb]
  ((with_reducible (refine mop_cS trivial ?_ ?_)))
  · intro ho
    cases f with
    | zero => simp at hy2; omega
    | succ f =>
      ((with_reducible (refine mif_true ?_; refine mop_c ?_ ?_)); (focus omega); (with_reducible (refine mop_c ?_ ?_)); (focus omega))
      have hd : y / 2 ^ (1 : Int).toNat = y / 2 := rfl
      rw [hd]
      have hp : (2 : Int) ^ (f + 1) = 2 ^ f * 2 := Int.pow_succ 2 f
      refine ⟨⟨y / 2, k + 1, f, rfl, rfl, by omega, by omega, by omega, by omega, ?_, hM⟩, ?_⟩
      · rw [hl]
        conv => lhs; rw [lev, if_pos ho]
        omega
      · simp only
        omega
  · intro ho
    ((with_reducible (refine mif_false ?_)))
    refine ⟨?_, hM.st⟩
    rw [hl, lev, if_neg ho]
    simp
instance (x : Int) : PurC Tryz.prog 84 [.int .i64 x] (0 ≤ x ∧ x < 128) (.int .i64 (level x)) := ⟨fun h w => level_ok x h w⟩
theorem broot_ok (n : Int) (w : World) : Calls Tryz.prog 42 #[.int .i64 n] w fun en w' => en = .returned (.int .i64 (root n)) ∧ St w [] w' := by
  have hM := Mem.start (Fz.of w)
  refine C_bough_Root ?_
  unfold F_bough_Root
  by_cases ht : thr n 0
  · rw [show root n = rtN n - 1 from if_pos ht]
    have hn := ht.1
    ((with_reducible (refine mm_purC hM ?_ ?_)); (focus (first | exact trivial | assumption | omega)); (with_reducible (clear hM; intro _ hM; refine mop_c trivial ?_)))
    rw [decide_eq_true ht]
    ((with_reducible (refine mif_nt ?_)))
    refine ⟨fun v w' => ∃ k : Int, v = .int .i64 k ∧ (k = 1 ∨ k = 2 ∨ k = 4 ∨ k = 8 ∨ k = 16 ∨ k = 32 ∨ k = 64) ∧ (k = 1 ∨ k < 2 * n) ∧ hM.now w', fun v _ => match v with | .int _ k => 100 - k.toNat | _ => 0, ⟨1, rfl, .inl rfl, .inl rfl, hM⟩, ?_⟩
    rintro v i w2 ⟨k, rfl, h1, h2, hM⟩
    ((with_reducible (refine mop_cS trivial ?_ ?_)))
    · intro h
      ((with_reducible (refine mif_true ?_; refine mop_c ?_ ?_)); (focus omega))
      exact ⟨⟨k * 2, rfl, by omega, by omega, hM⟩, by simp only; omega⟩
    · intro h
      ((with_reducible (refine mif_false ?_; refine mop_c ?_ ?_)); (focus omega))
      refine ⟨?_, hM.st⟩
      rw [show rtN n = k by unfold rtN; repeat' split
                            all_goals omega]
  · rw [show root n = -1 from if_neg ht]
    ((with_reducible (refine mm_purC hM ?_ ?_)); (focus (first | exact trivial | assumption | omega)); (with_reducible (clear hM; intro _ hM; refine mop_c trivial ?_)))
    rw [decide_eq_false ht]
    ((with_reducible (refine mif_nf ?_)))
    exact ⟨rfl, hM.st⟩
instance (n : Int) : PurC Tryz.prog 42 [.int .i64 n] True (.int .i64 (root n)) := ⟨fun _ w => broot_ok n w⟩
theorem half_ok (n : Int) (hn : 1 ≤ n ∧ n ≤ 64) (w : World) : Calls Tryz.prog 96 #[.int .i64 n] w fun en w' => en = .returned (.int .i64 (halfI n)) ∧ St w [] w' := by
  have hM := Mem.start (Fz.of w)
  refine C_bevyref07_half ?_
  unfold F_bevyref07_half
  refine ⟨fun v w' => ∃ k : Int, v = .int .i64 k ∧ (k = 1 ∨ k = 2 ∨ k = 4 ∨ k = 8 ∨ k = 16 ∨ k = 32) ∧ (k = 1 ∨ k < n) ∧ hM.now w', fun v _ => match v with | .int _ k => 100 - k.toNat | _ => 0, ⟨1, rfl, .inl rfl, .inl rfl, hM⟩, ?_⟩
  rintro v i w2 ⟨k, rfl, h1, h2, hM⟩
  ((with_reducible (refine mop_c ?_ ?_)); (focus omega))
  ((with_reducible (refine mop_cS trivial ?_ ?_)))
  · intro h
    ((with_reducible (refine mif_true ?_; refine mop_c ?_ ?_)); (focus omega))
    exact ⟨⟨2 * k, rfl, by omega, by omega, hM⟩, by simp only; omega⟩
  · intro h
    ((with_reducible (refine mif_false ?_)))
    refine ⟨?_, hM.st⟩
    rw [show halfI n = k by unfold halfI; repeat' split
                            all_goals omega]
instance (n : Int) : PurC Tryz.prog 96 [.int .i64 n] (1 ≤ n ∧ n ≤ 64) (.int .i64 (halfI n)) := ⟨fun h w => half_ok n h w⟩
theorem half_b {n : Int} (h : 1 ≤ n ∧ n ≤ 64) : 1 ≤ halfI n ∧ halfI n ≤ 32 ∧ (2 ≤ n → halfI n < n) ∧ n ≤ 2 * halfI n := by
  unfold halfI
  repeat' split
  all_goals omega
theorem rroot_ok (a n : Int) (h : (0 ≤ a ∧ a ≤ 100) ∧ 1 ≤ n ∧ n ≤ 64) (w : World) : Calls Tryz.prog 91 #[.int .i64 a, .int .i64 n] w fun en w' => en = .returned (.int .i64 (rootI a n)) ∧ St w [] w' := by
  have hM := Mem.start (Fz.of w)
  refine C_bevyref07_root ?_
  unfold F_bevyref07_root rootI
  have hb := half_b h.2
  ((with_reducible (refine mop_cS trivial ?_ ?_)))
  · intro h1
    ((with_reducible (refine mif_true ?_; refine mop_c ?_ ?_)); (focus omega))
    exact ⟨by rw [if_pos h1], hM.st⟩
  · intro h1
    ((with_reducible (refine mif_false ?_; refine mm_purC hM ?_ ?_)); (focus (first | exact trivial | assumption | omega)); (with_reducible (clear hM; intro _ hM; refine mop_c ?_ ?_)); (focus omega); (with_reducible (refine mop_c ?_ ?_)); (focus omega); (with_reducible (refine mop_c ?_ ?_)); (focus omega))
    exact ⟨by rw [if_neg h1], hM.st⟩
instance (a n : Int) : PurC Tryz.prog 91 [.int .i64 a, .int .i64 n] ((0 ≤ a ∧ a ≤ 100) ∧ 1 ≤ n ∧ n ≤ 64) (.int .i64 (rootI a n)) := ⟨fun h w => rroot_ok a n h w⟩
def okf : Nat → Int → Bool
  | 0, n => decide (n = 1)
  | f + 1, n => decide (n = 1) || (okf f (halfI n) && okf f (n - halfI n))
set_option maxRecDepth 100000 in
theorem okf_fin : ∀ n : Fin 65, 1 ≤ n.val → okf 6 n.val = true := by decide +kernel
theorem find_ok : ∀ (f : Nat) (a n x p b : Int), okf f n = true → 0 ≤ a → 1 ≤ n → a + n ≤ 64 → 2 * a ≤ x → x ≤ 2 * (a + n) - 2 → ∀ w, Calls Tryz.prog 95 #[.int .i64 a, .int .i64 n, .int .i64 x, .int .i64 p, .int .i64 b] w fun en w' => en = .returned (.tuple #[.int .i64 (fnd (f + 1) a n x p b).1, .int .i64 (fnd (f + 1) a n x p b).2.1, .int .i64 (fnd (f + 1) a n x p b).2.2.1, .int .i64 (fnd (f + 1) a n x p b).2.2.2]) ∧ St w [] w' := by
  intro f
  induction f with
  | zero =>
    intro a n x p b ho ha hn hs hx hy w
    have hM := Mem.start (Fz.of w)
    have h1 : n = 1 := by simpa [okf] using ho
    subst h1
    have hr : rootI a 1 = x := by unfold rootI; rw [if_pos rfl]; omega
    refine C_bevyref07_find ?_
    unfold F_bevyref07_find
    ((with_reducible (refine mm_purC hM ?_ ?_)); (focus (first | exact trivial | assumption | omega)); (with_reducible (clear hM; intro _ hM; refine mop_cT trivial ?_ ?_)); (focus (first | assumption | omega | with_reducible rfl | exact fun h => Bool.noConfusion h)); (with_reducible (refine mif_true ?_)))
    exact ⟨by simp only [fnd, if_pos hr], hM.st⟩
  | succ f ih =>
    intro a n x p b ho ha hn hs hx hy w
    have hM := Mem.start (Fz.of w)
    refine C_bevyref07_find ?_
    unfold F_bevyref07_find
    by_cases hr : rootI a n = x
    · ((with_reducible (refine mm_purC hM ?_ ?_)); (focus (first | exact trivial | assumption | omega)); (with_reducible (clear hM; intro _ hM; refine mop_cT trivial ?_ ?_)); (focus (first | assumption | omega | with_reducible rfl | exact fun h => Bool.noConfusion h)); (with_reducible (refine mif_true ?_)))
      exact ⟨by simp only [fnd, if_pos hr], hM.st⟩
    · have h1 : n ≠ 1 := by
        rintro rfl
        apply hr
        unfold rootI
        rw [if_pos rfl]
        omega
      have hre : rootI a n = 2 * (a + halfI n) - 1 := by unfold rootI; rw [if_neg h1]
      obtain ⟨b1, b2, b3, b4⟩ := half_b (n := n) (by omega)
      have b3 := b3 (by omega)
      simp only [okf, Bool.or_eq_true, decide_eq_true_eq, Bool.and_eq_true] at ho
      have ho := ho.resolve_left h1
      have e1 : fnd (f + 1 + 1) a n x p b = if x < rootI a n then fnd (f + 1) a (halfI n) x (rootI a n) (rootI (a + halfI n) (n - halfI n)) else fnd (f + 1) (a + halfI n) (n - halfI n) x (rootI a n) (rootI a (halfI n)) := by
        conv => lhs; rw [fnd, if_neg hr]
      ((with_reducible (refine mm_purC hM ?_ ?_)); (focus (first | exact trivial | assumption | omega)); (with_reducible (clear hM; intro _ hM; refine mop_cF trivial ?_ ?_)); (focus (first | assumption | omega | with_reducible rfl | exact fun h => Bool.noConfusion h)); (with_reducible (refine mif_false ?_; refine mm_purC hM ?_ ?_)); (focus (first | exact trivial | assumption | omega)); (with_reducible (clear hM; intro _ hM; refine mm_purC hM ?_ ?_)); (focus (first | exact trivial | assumption | omega)); (with_reducible (clear hM; intro _ hM; refine mop_c ?_ ?_)); (focus omega); (with_reducible (refine mop_c ?_ ?_)); (focus omega); (with_reducible (refine mm_purC hM ?_ ?_)); (focus (first | exact trivial | assumption | omega)); (with_reducible (clear hM; intro _ hM)))
      ((with_reducible (refine mop_cS trivial ?_ ?_)))
      · intro hl
        rw [if_pos hl] at e1
        ((with_reducible (refine mif_true ?_)))
        refine mm_pure hM (ih a (halfI n) x _ _ ho.1 ha b1 (by omega) hx (by omega) _) (fun w hM => ?_)
        skip
        rw [e1]
        exact ⟨rfl, hM.st⟩
      · intro hl
        rw [if_neg hl] at e1
        ((with_reducible (refine mif_false ?_; refine mop_c ?_ ?_)); (focus omega); (with_reducible (refine mop_c ?_ ?_)); (focus omega))
        refine mm_pure hM (ih (a + halfI n) (n - halfI n) x _ _ ho.2 (by omega) (by omega) (by omega) (by omega) (by omega) _) (fun w hM => ?_)
        skip
        rw [e1]
        exact ⟨rfl, hM.st⟩
theorem fd_ok (n x : Int) (h : thr n x) (w : World) : Calls Tryz.prog 95 #[.int .i64 0, .int .i64 n, .int .i64 x, .int .i64 (-1), .int .i64 (-1)] w fun en w' => en = .returned (.tuple #[.int .i64 (fd n x).1, .int .i64 (fd n x).2.1, .int .i64 (fd n x).2.2.1, .int .i64 (fd n x).2.2.2]) ∧ St w [] w' := by
  obtain ⟨h1, h2, h3⟩ := h
  have := okf_fin ⟨n.toNat, by omega⟩ (by simp only; omega)
  simp only [Int.toNat_of_nonneg (show 0 ≤ n by omega)] at this
  exact find_ok 6 0 n x (-1) (-1) this (by omega) (by omega) (by omega) (by omega) (by omega) w
instance (n x : Int) : PurC Tryz.prog 95 [.int .i64 0, .int .i64 n, .int .i64 x, .int .i64 (-1), .int .i64 (-1)] (thr n x) (.tuple #[.int .i64 (fd n x).1, .int .i64 (fd n x).2.1, .int .i64 (fd n x).2.2.1, .int .i64 (fd n x).2.2.2]) := ⟨fun h w => fd_ok n x h w⟩
end
end Go.Proofs.YtopcnkejobomaaaGreat
namespace Go.Proofs.YtopcnkejobomaaaGreat
open Go.RowKit Go.Lib
set_option maxRecDepth 100000 in
theorem ab_fin : ∀ n : Fin 65, ∀ x : Fin 127, thr (n.val : Int) (x.val : Int) → ab n.val x.val < 0 ∨ thr n.val (ab n.val x.val) := by decide +kernel
theorem ab_thr {n x : Int} (h : thr n x) (ha : ¬ ab n x < 0) : thr n (ab n x) := by
  obtain ⟨h1, h2, h3⟩ := id h
  have := ab_fin ⟨n.toNat, by omega⟩ ⟨x.toNat, by omega⟩
  simp only [Int.toNat_of_nonneg h2, Int.toNat_of_nonneg (show 0 ≤ n by omega)] at this
  exact (this h).resolve_left ha
instance {P : Program} (a b c d : Value) : StepC P (o_extract (.tuple #[a, b, c, d]) 0) True a := ⟨fun _ => p_extract [a, b, c, d] 0 a rfl⟩
instance {P : Program} (a b c d : Value) : StepC P (o_extract (.tuple #[a, b, c, d]) 1) True b := ⟨fun _ => p_extract [a, b, c, d] 1 b rfl⟩
instance {P : Program} (a b c d : Value) : StepC P (o_extract (.tuple #[a, b, c, d]) 2) True c := ⟨fun _ => p_extract [a, b, c, d] 2 c rfl⟩
instance {P : Program} (a b c d : Value) : StepC P (o_extract (.tuple #[a, b, c, d]) 3) True d := ⟨fun _ => p_extract [a, b, c, d] 3 d rfl⟩
theorem min_if (a n : Int) : min a n = if n < a then n else a := by split <;> omega
section
variable {H : Hp} {w0 w : World} {L : List Res}
theorem lf_of {n x : Int} (h : ¬ thr n x) : lf n x = -1 := if_neg h
theorem rt_of {n x : Int} (h : ¬ thr n x) : rt n x = -1 := if_neg h
theorem ab_of {n x : Int} (h : ¬ thr n x) : ab n x = -1 := if_neg h
theorem fro_of {n x : Int} (h : ¬ thr n x) : fro n x = 0 := if_neg h
theorem til_of {n x : Int} (h : ¬ thr n x) : til n x = 0 := if_neg h
theorem bleft_ok (n x : Int) (w : World) : Calls Tryz.prog 38 #[.int .i64 n, .int .i64 x] w fun en w' => en = .returned (.int .i64 (lf n x)) ∧ St w [] w' := by
  have hM := Mem.start (Fz.of w)
  refine C_bough_Left ?_
  unfold F_bough_Left
  refine ⟨fun v w' => v = .int .i64 (if thr n x then level x else 0) ∧ hM.now w', ?_, ?_⟩
  · by_cases ht : thr n x
    · obtain ⟨h1, h2, h3⟩ := id ht
      ((with_reducible (refine mm_purC hM ?_ (fun _ hM2 => ?_))); (focus (first | exact trivial | assumption | omega)); (with_reducible (replace hM := hM2; clear hM2)))
      rw [decide_eq_true ht]
      ((with_reducible (refine mif_true ?_; refine mm_purC hM ?_ ?_)); (focus (first | exact trivial | assumption | omega)); (with_reducible (clear hM; intro _ hM)))
      exact ⟨by rw [if_pos ht], hM⟩
    · ((with_reducible (refine mm_purC hM ?_ (fun _ hM2 => ?_))); (focus (first | exact trivial | assumption | omega)); (with_reducible (replace hM := hM2; clear hM2)))
      rw [decide_eq_false ht]
      ((with_reducible (refine mif_false ?_)))
      exact ⟨by rw [if_neg ht], hM⟩
  rintro v u w2 ⟨rfl, hM⟩
  by_cases ht : thr n x
  · obtain ⟨h1, h2, h3⟩ := id ht
    rw [if_pos ht]
    have hl := level_rng x
    rw [← (bough_eq ht).1]
    ((with_reducible (refine mop_cS trivial ?_ ?_)))
    · intro h
      ((with_reducible (refine mif_true ?_)))
      exact ⟨by unfold pLeft; rw [if_neg (fun h' => h'.2 h)], hM.st⟩
    · intro h
      have hp := pw_rng (k := level x - 1) (by omega)
      ((with_reducible (refine mif_false ?_; refine mop_c ?_ ?_)); (focus omega); (with_reducible (refine mop_c ?_ ?_)); (focus omega); (with_reducible (refine mop_c ?_ ?_)); (focus omega))
      exact ⟨by unfold pLeft; rw [if_pos ⟨ht, h⟩], hM.st⟩
  · rw [if_neg ht, lf_of ht]
    ((with_reducible (refine mop_cT trivial ?_ ?_)); (focus (first | assumption | omega | with_reducible rfl | exact fun h => Bool.noConfusion h)); (with_reducible (refine mif_true ?_)))
    exact ⟨rfl, hM.st⟩
instance (n x : Int) : PurC Tryz.prog 38 [.int .i64 n, .int .i64 x] True (.int .i64 (lf n x)) := ⟨fun _ w => bleft_ok n x w⟩
theorem bright_ok (n x : Int) (w : World) : Calls Tryz.prog 39 #[.int .i64 n, .int .i64 x] w fun en w' => en = .returned (.int .i64 (rt n x)) ∧ St w [] w' := by
  have hM := Mem.start (Fz.of w)
  refine C_bough_Right ?_
  unfold F_bough_Right
  refine ⟨fun v w' => v = .int .i64 (if thr n x then level x else 0) ∧ hM.now w', ?_, ?_⟩
  · by_cases ht : thr n x
    · obtain ⟨h1, h2, h3⟩ := id ht
      ((with_reducible (refine mm_purC hM ?_ (fun _ hM2 => ?_))); (focus (first | exact trivial | assumption | omega)); (with_reducible (replace hM := hM2; clear hM2)))
      rw [decide_eq_true ht]
      ((with_reducible (refine mif_true ?_; refine mm_purC hM ?_ ?_)); (focus (first | exact trivial | assumption | omega)); (with_reducible (clear hM; intro _ hM)))
      exact ⟨by rw [if_pos ht], hM⟩
    · ((with_reducible (refine mm_purC hM ?_ (fun _ hM2 => ?_))); (focus (first | exact trivial | assumption | omega)); (with_reducible (replace hM := hM2; clear hM2)))
      rw [decide_eq_false ht]
      ((with_reducible (refine mif_false ?_)))
      exact ⟨by rw [if_neg ht], hM⟩
  rintro v u w2 ⟨rfl, hM⟩
  by_cases ht : thr n x
  · obtain ⟨h1, h2, h3⟩ := id ht
    rw [if_pos ht]
    have hl := level_rng x
    obtain ⟨-, hR, -, -, -, -, hk, -, -⟩ := bough_eq ht
    rw [← hR]
    ((with_reducible (refine mop_cS trivial ?_ ?_)))
    · intro h
      ((with_reducible (refine mif_true ?_)))
      exact ⟨by unfold pRight; rw [if_neg (fun h' => h'.2 h)], hM.st⟩
    · intro h
      have hp := pw_rng (k := level x - 1) (by omega)
      have hk := hk h
      ((with_reducible (refine mif_false ?_; refine mop_c ?_ ?_)); (focus omega); (with_reducible (refine mop_c ?_ ?_)); (focus omega); (with_reducible (refine mop_c ?_ ?_)); (focus omega))
      rw [show pRight n x = rg 8 n (x + pw (level x - 1)) from if_pos ⟨ht, h⟩]
      refine ⟨fun v w' => ∃ (f : Nat) (y : Int), v = .int .i64 y ∧ okr f n y = true ∧ rg 8 n (x + pw (level x - 1)) = rg f n y ∧ hM.now w', fun v _ => match v with | .int _ k => k.toNat | _ => 0, ⟨8, _, rfl, hk, rfl, hM⟩, ?_⟩
      rintro v i w2 ⟨f, y, rfl, ho, he, hM⟩
      cases f with
      | zero => simp [okr] at ho
      | succ f =>
        simp only [okr, Bool.and_eq_true, Bool.or_eq_true, decide_eq_true_eq] at ho
        obtain ⟨hy, ho⟩ := ho
        by_cases hty : thr n y
        · ((with_reducible (refine mm_purC hM ?_ ?_)); (focus (first | exact trivial | assumption | omega)); (with_reducible (clear hM; intro _ hM; refine mop_c trivial ?_)))
          rw [decide_eq_true hty]
          ((with_reducible (refine mif_nt ?_)))
          exact ⟨by rw [he, rg, if_pos hty], hM.st⟩
        · obtain ⟨hl1, ho⟩ := ho.resolve_left hty
          have hl := level_rng y
          have hp := pw_rng (k := level y - 1) (by omega)
          ((with_reducible (refine mm_purC hM ?_ ?_)); (focus (first | exact trivial | assumption | omega)); (with_reducible (clear hM; intro _ hM; refine mop_c trivial ?_)))
          rw [decide_eq_false hty]
          ((with_reducible (refine mif_nf ?_; refine mm_purC hM ?_ ?_)); (focus (first | exact trivial | assumption | omega)); (with_reducible (clear hM; intro _ hM; refine mop_c ?_ ?_)); (focus omega); (with_reducible (refine mop_c ?_ ?_)); (focus omega); (with_reducible (refine mop_c ?_ ?_)); (focus omega))
          refine ⟨⟨f, _, rfl, ho, by rw [he, rg, if_neg hty], hM⟩, ?_⟩
          cases f with
          | zero => simp [okr] at ho
          | succ f =>
            simp only [okr, Bool.and_eq_true, decide_eq_true_eq] at ho
            simp only
            omega
  · rw [if_neg ht, rt_of ht]
    ((with_reducible (refine mop_cT trivial ?_ ?_)); (focus (first | assumption | omega | with_reducible rfl | exact fun h => Bool.noConfusion h)); (with_reducible (refine mif_true ?_)))
    exact ⟨rfl, hM.st⟩
instance (n x : Int) : PurC Tryz.prog 39 [.int .i64 n, .int .i64 x] True (.int .i64 (rt n x)) := ⟨fun _ w => bright_ok n x w⟩
theorem babove_ok (n x : Int) (w : World) : Calls Tryz.prog 143 #[.int .i64 n, .int .i64 x] w fun en w' => en = .returned (.int .i64 (ab n x)) ∧ St w [] w' := by
  have hM := Mem.start (Fz.of w)
  refine C_bough_Above ?_
  unfold F_bough_Above
  refine ⟨fun v w' => v = .bool (decide (¬ thr n x ∨ x = root n)) ∧ hM.now w', ?_, ?_⟩
  · by_cases ht : thr n x
    · ((with_reducible (refine mm_purC hM ?_ (fun _ hM2 => ?_))); (focus (first | exact trivial | assumption | omega)); (with_reducible (replace hM := hM2; clear hM2; refine mop_c trivial ?_)))
      rw [decide_eq_true ht, Bool.not_true]
      ((with_reducible (refine mguard_yes ?_; refine mop_c trivial ?_; refine mguard_yes ?_; refine mop_c trivial ?_; refine mguard_yes ?_; refine mm_purC hM ?_ ?_)); (focus (first | exact trivial | assumption | omega)); (with_reducible (clear hM; intro _ hM; refine mguard_yes ?_)))
      ((with_reducible (refine mop_cS trivial ?_ ?_)))
      · intro h
        ((with_reducible (refine mop_c trivial ?_)))
        exact ⟨by rw [decide_eq_true (.inr h)], hM⟩
      · intro h
        ((with_reducible (refine mop_c trivial ?_)))
        exact ⟨by rw [decide_eq_false (by simp [ht, h])], hM⟩
    · ((with_reducible (refine mm_purC hM ?_ (fun _ hM2 => ?_))); (focus (first | exact trivial | assumption | omega)); (with_reducible (replace hM := hM2; clear hM2; refine mop_c trivial ?_)))
      rw [decide_eq_false ht, Bool.not_false]
      ((with_reducible ((iterate 4 refine mguard_n1 ?_); refine mop_c trivial ?_)))
      exact ⟨by rw [decide_eq_true (.inl ht)], hM⟩
  rintro v u w2 ⟨rfl, hM⟩
  by_cases ht : thr n x
  · obtain ⟨-, -, hA, -, -, -, -, hu, -⟩ := bough_eq ht
    rw [← hA]
    by_cases hr : x = root n
    · rw [decide_eq_true (.inr hr)]
      ((with_reducible (refine mif_true ?_)))
      exact ⟨by unfold pAbove; rw [if_neg (fun h => h.2 hr)], hM.st⟩
    · rw [decide_eq_false (by simp [ht, hr])]
      have hu := hu hr
      ((with_reducible (refine mif_false ?_)))
      rw [show pAbove n x = ug 8 n x from if_pos ⟨ht, hr⟩]
      refine ⟨fun v w' => ∃ (f : Nat) (y : Int), v = .int .i64 y ∧ oku f n y = true ∧ ug 8 n x = ug f n y ∧ hM.now w', fun v _ => match v with | .int _ k => (8 - level k).toNat | _ => 0, ⟨8, _, rfl, hu, rfl, hM⟩, ?_⟩
      rintro v i w2 ⟨f, y, rfl, ho, he, hM⟩
      cases f with
      | zero => simp [oku] at ho
      | succ f =>
        simp only [oku, Bool.and_eq_true, Bool.or_eq_true, decide_eq_true_eq] at ho
        obtain ⟨hy, ho⟩ := ho
        obtain ⟨-, hb, hv, -, h7⟩ := up_eq hy
        have hl := level_rng y
        ((with_reducible (refine mm_purC hM ?_ ?_)); (focus (first | exact trivial | assumption | omega)); (with_reducible (clear hM; intro _ hM; refine dp_c ?_ ?_)); (focus omega); (with_reducible (refine dp_c ?_ ?_)); (focus omega); (with_reducible (refine dp_c trivial ?_; refine dp_c ?_ ?_)); (focus omega); (with_reducible (refine dp_c trivial ?_; refine mm_end hM ?_; clear hM; intro _ hM; refine mm_purC hM ?_ ?_)); (focus (first | exact trivial | assumption | omega)); (with_reducible (clear hM; intro _ hM)))
        rw [hb]
        by_cases hty : thr n (up1 y)
        · skip
          rw [decide_eq_true hty]
          ((with_reducible (refine mif_true ?_)))
          exact ⟨by rw [he, ug, if_pos hty], hM.st⟩
        · have ho := ho.resolve_left hty
          skip
          rw [decide_eq_false hty]
          ((with_reducible (refine mif_false ?_)))
          refine ⟨⟨f, _, rfl, ho, by rw [he, ug, if_neg hty], hM⟩, ?_⟩
          simp only
          omega
  · rw [decide_eq_true (.inl ht), ab_of ht]
    ((with_reducible (refine mif_true ?_)))
    exact ⟨rfl, hM.st⟩
theorem bleaves_ok (n x : Int) (w : World) : Calls Tryz.prog 80 #[.int .i64 n, .int .i64 x] w fun en w' => en = .returned (.tuple #[.int .i64 (fro n x), .int .i64 (til n x)]) ∧ St w [] w' := by
  have hM := Mem.start (Fz.of w)
  refine C_bough_Leaves ?_
  unfold F_bough_Leaves
  by_cases ht : thr n x
  · obtain ⟨h1, h2, h3⟩ := id ht
    obtain ⟨-, -, -, -, hF, hT, -⟩ := bough_eq ht
    obtain ⟨-, -, -, hq, h7⟩ := up_eq (x := x) (by omega)
    have hl := level_rng x
    have hp := pw_rng (k := level x) (by omega)
    rw [← hF, ← hT]
    unfold pFrom pTo
    rw [if_pos ht, if_pos ht, min_if]
    ((with_reducible (refine mm_purC hM ?_ ?_)); (focus (first | exact trivial | assumption | omega)); (with_reducible (clear hM; intro _ hM; refine mop_c trivial ?_)))
    rw [decide_eq_true ht]
    ((with_reducible (refine mif_nt ?_; refine mm_purC hM ?_ ?_)); (focus (first | exact trivial | assumption | omega)); (with_reducible (clear hM; intro _ hM; refine mop_c ?_ ?_)); (focus omega); (with_reducible (refine mop_c ?_ ?_)); (focus omega); (with_reducible (refine mop_c ?_ ?_)); (focus omega); (with_reducible (refine mop_c ?_ ?_)); (focus omega); (with_reducible (refine mop_c ?_ ?_)); (focus omega); (with_reducible (refine mop_c ?_ ?_)); (focus omega); (with_reducible (refine mop_c ?_ ?_)); (focus omega))
    exact ⟨rfl, hM.st⟩
  · rw [fro_of ht, til_of ht]
    ((with_reducible (refine mm_purC hM ?_ ?_)); (focus (first | exact trivial | assumption | omega)); (with_reducible (clear hM; intro _ hM; refine mop_c trivial ?_)))
    rw [decide_eq_false ht]
    ((with_reducible (refine mif_nf ?_)))
    exact ⟨rfl, hM.st⟩
instance (n x : Int) : PurC Tryz.prog 80 [.int .i64 n, .int .i64 x] True (.tuple #[.int .i64 (fro n x), .int .i64 (til n x)]) := ⟨fun _ w => bleaves_ok n x w⟩
theorem bholds_ok (n x p : Int) (w : World) : Calls Tryz.prog 32 #[.int .i64 n, .int .i64 x, .int .i64 p] w fun en w' => en = .returned (.bool (decide (hld n x p))) ∧ St w [] w' := by
  have hM := Mem.start (Fz.of w)
  refine C_bough_Holds ?_
  unfold F_bough_Holds
  ((with_reducible (refine mm_purC hM ?_ ?_)); (focus (first | exact trivial | assumption | omega)); (with_reducible (clear hM; intro _ hM; refine mop_c trivial ?_; refine mop_c trivial ?_)))
  ((with_reducible (refine mop_cS trivial ?_ ?_)))
  · intro h1
    ((with_reducible (refine mguard_yes ?_; refine mop_c trivial ?_; refine mguard_yes ?_; refine mop_c trivial ?_; refine mguard_yes ?_)))
    ((with_reducible (refine mop_cS trivial ?_ ?_)))
    · intro h2
      ((with_reducible (refine mop_c trivial ?_)))
      exact ⟨by rw [decide_eq_true (show hld n x p from ⟨h1, h2⟩)], hM.st⟩
    · intro h2
      ((with_reducible (refine mop_c trivial ?_)))
      exact ⟨by rw [decide_eq_false (show ¬ hld n x p from fun h => h2 h.2)], hM.st⟩
  · intro h1
    ((with_reducible ((iterate 3 refine mguard_n2 ?_); refine mop_c trivial ?_)))
    exact ⟨by rw [decide_eq_false (show ¬ hld n x p from fun h => h1 h.1)], hM.st⟩
instance (n x p : Int) : PurC Tryz.prog 32 [.int .i64 n, .int .i64 x, .int .i64 p] True (.bool (decide (hld n x p))) := ⟨fun _ w => bholds_ok n x p w⟩
theorem rleft_ok (n x : Int) (w : World) : Calls Tryz.prog 53 #[.int .i64 n, .int .i64 x] w fun en w' => en = .returned (.int .i64 (lf n x)) ∧ St w [] w' := by
  have hM := Mem.start (Fz.of w)
  refine C_bevyref07_Left ?_
  unfold F_bevyref07_Left
  by_cases ht : thr n x
  · obtain ⟨b1, b2, b3⟩ := fd_eq ht
    rw [show lf n x = (if (fd n x).2.1 = 1 then -1 else rootI (fd n x).1 (halfI (fd n x).2.1)) from if_pos ht]
    have hh := half_b (n := (fd n x).2.1) (by omega)
    ((with_reducible (refine mm_purC hM ?_ ?_)); (focus (first | exact trivial | assumption | omega)); (with_reducible (clear hM; intro _ hM; refine mop_c trivial ?_)))
    rw [decide_eq_true ht]
    ((with_reducible (refine mif_nt ?_; refine mm_purC hM ?_ ?_)); (focus (first | exact trivial | assumption | omega)); (with_reducible (clear hM; intro _ hM; (iterate 4 refine mop_c trivial ?_))))
    ((with_reducible (refine mop_cS trivial ?_ ?_)))
    · intro h
      ((with_reducible (refine mif_true ?_)))
      exact ⟨by rw [if_pos h], hM.st⟩
    · intro h
      ((with_reducible (refine mif_false ?_; refine mm_purC hM ?_ ?_)); (focus (first | exact trivial | assumption | omega)); (with_reducible (clear hM; intro _ hM; refine mm_purC hM ?_ ?_)); (focus (first | exact trivial | assumption | omega)); (with_reducible (clear hM; intro _ hM)))
      exact ⟨by rw [if_neg h], hM.st⟩
  · rw [lf_of ht]
    ((with_reducible (refine mm_purC hM ?_ ?_)); (focus (first | exact trivial | assumption | omega)); (with_reducible (clear hM; intro _ hM; refine mop_c trivial ?_)))
    rw [decide_eq_false ht]
    ((with_reducible (refine mif_nf ?_)))
    exact ⟨rfl, hM.st⟩
instance (n x : Int) : PurC Tryz.prog 53 [.int .i64 n, .int .i64 x] True (.int .i64 (lf n x)) := ⟨fun _ w => rleft_ok n x w⟩
theorem rright_ok (n x : Int) (w : World) : Calls Tryz.prog 54 #[.int .i64 n, .int .i64 x] w fun en w' => en = .returned (.int .i64 (rt n x)) ∧ St w [] w' := by
  have hM := Mem.start (Fz.of w)
  refine C_bevyref07_Right ?_
  unfold F_bevyref07_Right
  by_cases ht : thr n x
  · obtain ⟨b1, b2, b3⟩ := fd_eq ht
    rw [show rt n x = (if (fd n x).2.1 = 1 then -1 else rootI ((fd n x).1 + halfI (fd n x).2.1) ((fd n x).2.1 - halfI (fd n x).2.1)) from if_pos ht]
    have hh := half_b (n := (fd n x).2.1) (by omega)
    ((with_reducible (refine mm_purC hM ?_ ?_)); (focus (first | exact trivial | assumption | omega)); (with_reducible (clear hM; intro _ hM; refine mop_c trivial ?_)))
    rw [decide_eq_true ht]
    ((with_reducible (refine mif_nt ?_; refine mm_purC hM ?_ ?_)); (focus (first | exact trivial | assumption | omega)); (with_reducible (clear hM; intro _ hM; (iterate 4 refine mop_c trivial ?_))))
    ((with_reducible (refine mop_cS trivial ?_ ?_)))
    · intro h
      ((with_reducible (refine mif_true ?_)))
      exact ⟨by rw [if_pos h], hM.st⟩
    · intro h
      have h3 := hh.2.2.1 (by omega)
      ((with_reducible (refine mif_false ?_; refine mm_purC hM ?_ ?_)); (focus (first | exact trivial | assumption | omega)); (with_reducible (clear hM; intro _ hM; refine mop_c ?_ ?_)); (focus omega); (with_reducible (refine mm_purC hM ?_ ?_)); (focus (first | exact trivial | assumption | omega)); (with_reducible (clear hM; intro _ hM; refine mop_c ?_ ?_)); (focus omega); (with_reducible (refine mm_purC hM ?_ ?_)); (focus (first | exact trivial | assumption | omega)); (with_reducible (clear hM; intro _ hM)))
      exact ⟨by rw [if_neg h], hM.st⟩
  · rw [rt_of ht]
    ((with_reducible (refine mm_purC hM ?_ ?_)); (focus (first | exact trivial | assumption | omega)); (with_reducible (clear hM; intro _ hM; refine mop_c trivial ?_)))
    rw [decide_eq_false ht]
    ((with_reducible (refine mif_nf ?_)))
    exact ⟨rfl, hM.st⟩
instance (n x : Int) : PurC Tryz.prog 54 [.int .i64 n, .int .i64 x] True (.int .i64 (rt n x)) := ⟨fun _ w => rright_ok n x w⟩
theorem rrootN_ok (n : Int) (w : World) : Calls Tryz.prog 44 #[.int .i64 n] w fun en w' => en = .returned (.int .i64 (root n)) ∧ St w [] w' := by
  have hM := Mem.start (Fz.of w)
  refine C_bevyref07_Root ?_
  unfold F_bevyref07_Root
  by_cases ht : thr n 0
  · obtain ⟨h1, h2, h3⟩ := id ht
    rw [(bough_eq ht).2.2.2.2.2.2.2.2, show rRoot n = rootI 0 n from if_pos ht]
    ((with_reducible (refine mm_purC hM ?_ ?_)); (focus (first | exact trivial | assumption | omega)); (with_reducible (clear hM; intro _ hM; refine mop_c trivial ?_)))
    rw [decide_eq_true ht]
    ((with_reducible (refine mif_nt ?_; refine mm_purC hM ?_ ?_)); (focus (first | exact trivial | assumption | omega)); (with_reducible (clear hM; intro _ hM)))
    exact ⟨rfl, hM.st⟩
  · rw [show root n = -1 from if_neg ht]
    ((with_reducible (refine mm_purC hM ?_ ?_)); (focus (first | exact trivial | assumption | omega)); (with_reducible (clear hM; intro _ hM; refine mop_c trivial ?_)))
    rw [decide_eq_false ht]
    ((with_reducible (refine mif_nf ?_)))
    exact ⟨rfl, hM.st⟩
instance (n : Int) : PurC Tryz.prog 44 [.int .i64 n] True (.int .i64 (root n)) := ⟨fun _ w => rrootN_ok n w⟩
theorem rleaves_ok (n x : Int) (w : World) : Calls Tryz.prog 79 #[.int .i64 n, .int .i64 x] w fun en w' => en = .returned (.tuple #[.int .i64 (fro n x), .int .i64 (til n x)]) ∧ St w [] w' := by
  have hM := Mem.start (Fz.of w)
  refine C_bevyref07_Leaves ?_
  unfold F_bevyref07_Leaves
  by_cases ht : thr n x
  · obtain ⟨b1, b2, b3⟩ := fd_eq ht
    rw [show fro n x = (fd n x).1 from if_pos ht, show til n x = (fd n x).1 + (fd n x).2.1 from if_pos ht]
    ((with_reducible (refine mm_purC hM ?_ ?_)); (focus (first | exact trivial | assumption | omega)); (with_reducible (clear hM; intro _ hM; refine mop_c trivial ?_)))
    rw [decide_eq_true ht]
    ((with_reducible (refine mif_nt ?_; refine mm_purC hM ?_ ?_)); (focus (first | exact trivial | assumption | omega)); (with_reducible (clear hM; intro _ hM; (iterate 4 refine mop_c trivial ?_); refine mop_c ?_ ?_)); (focus omega))
    exact ⟨rfl, hM.st⟩
  · rw [fro_of ht, til_of ht]
    ((with_reducible (refine mm_purC hM ?_ ?_)); (focus (first | exact trivial | assumption | omega)); (with_reducible (clear hM; intro _ hM; refine mop_c trivial ?_)))
    rw [decide_eq_false ht]
    ((with_reducible (refine mif_nf ?_)))
    exact ⟨rfl, hM.st⟩
instance (n x : Int) : PurC Tryz.prog 79 [.int .i64 n, .int .i64 x] True (.tuple #[.int .i64 (fro n x), .int .i64 (til n x)]) := ⟨fun _ w => rleaves_ok n x w⟩
theorem rholds_ok (n x p : Int) (w : World) : Calls Tryz.prog 30 #[.int .i64 n, .int .i64 x, .int .i64 p] w fun en w' => en = .returned (.bool (decide (hld n x p))) ∧ St w [] w' := by
  have hM := Mem.start (Fz.of w)
  refine C_bevyref07_Holds ?_
  unfold F_bevyref07_Holds
  ((with_reducible (refine mm_purC hM ?_ ?_)); (focus (first | exact trivial | assumption | omega)); (with_reducible (clear hM; intro _ hM; refine mop_c trivial ?_; refine mop_c trivial ?_)))
  ((with_reducible (refine mop_cS trivial ?_ ?_)))
  · intro h1
    ((with_reducible (refine mguard_yes ?_; refine mop_c trivial ?_; refine mguard_yes ?_; refine mop_c trivial ?_; refine mguard_yes ?_)))
    ((with_reducible (refine mop_cS trivial ?_ ?_)))
    · intro h2
      ((with_reducible (refine mop_c trivial ?_)))
      exact ⟨by rw [decide_eq_true (show hld n x p from ⟨h1, h2⟩)], hM.st⟩
    · intro h2
      ((with_reducible (refine mop_c trivial ?_)))
      exact ⟨by rw [decide_eq_false (show ¬ hld n x p from fun h => h2 h.2)], hM.st⟩
  · intro h1
    ((with_reducible ((iterate 3 refine mguard_n2 ?_); refine mop_c trivial ?_)))
    exact ⟨by rw [decide_eq_false (show ¬ hld n x p from fun h => h1 h.1)], hM.st⟩
instance (n x p : Int) : PurC Tryz.prog 30 [.int .i64 n, .int .i64 x, .int .i64 p] True (.bool (decide (hld n x p))) := ⟨fun _ w => rholds_ok n x p w⟩
end
end Go.Proofs.YtopcnkejobomaaaGreat
namespace Go.Proofs.YtopcnkejobomaaaGreat
open Go.RowKit
def cand (k l : Nat) : Int := (l / 2 ^ k * 2 ^ (k + 1) + 2 ^ k - 1 : Nat)
def cands (n l : Nat) : List Int := ([1, 2, 3, 4, 5, 6].map fun k => cand k l).filter fun x => decide (x ≤ 2 * (n : Int) - 2)
set_option maxRecDepth 100000 in
theorem dir_fin : ∀ n : Fin 65, ∀ l : Fin 64, l.val < n.val → dirL n.val l.val = cands n.val l.val := by decide +kernel
set_option maxRecDepth 100000 in
theorem cand_fin : ∀ k : Fin 7, ∀ l : Fin 64, 1 ≤ k.val → cand k.val l.val % 2 = 1 ∧ 0 ≤ cand k.val l.val ∧ cand k.val l.val < 127 ∧ level (cand k.val l.val) = k.val := by decide +kernel
def okd : Nat → Int → Int → Bool
  | 0, n, x => decide (ab n x < 0)
  | f + 1, n, x => decide (ab n x < 0) || okd f n (ab n x)
set_option maxRecDepth 100000 in
theorem okd_fin : ∀ n : Fin 65, ∀ x : Fin 127, thr (n.val : Int) (x.val : Int) → okd 8 n.val x.val = true := by decide +kernel
set_option maxRecDepth 100000 in
theorem lvl_fin : ∀ n : Fin 65, ∀ x : Fin 127, thr (n.val : Int) (x.val : Int) → ab n.val x.val < 0 ∨ level x.val < level (ab n.val x.val) ∧ level (ab n.val x.val) ≤ 7 := by decide +kernel
end Go.Proofs.YtopcnkejobomaaaGreat
namespace Go.Proofs.YtopcnkejobomaaaGreat
open Go.RowKit Go.Lib
theorem okd_eq (n x : Int) : okd 8 n x = true := by
  by_cases h : thr n x
  · obtain ⟨h1, h2, h3⟩ := id h
    have := okd_fin ⟨n.toNat, by omega⟩ ⟨x.toNat, by omega⟩
    simp only [Int.toNat_of_nonneg h2, Int.toNat_of_nonneg (show 0 ≤ n by omega)] at this
    exact this h
  · simp [okd, ab_of h]
theorem dirF_end {f : Nat} {n x : Int} (h : ab n x < 0) : dirF f n x = [] := by
  cases f with
  | zero => rfl
  | succ f => rw [dirF, if_pos h]
theorem dirF_step {f : Nat} {n x : Int} (h : ¬ ab n x < 0) (ho : okd f n x = true) : ∃ g, f = g + 1 ∧ dirF f n x = ab n x :: dirF g n (ab n x) ∧ okd g n (ab n x) = true := by
  cases f with
  | zero => simp [okd] at ho; omega
  | succ f =>
    simp only [okd, Bool.or_eq_true, decide_eq_true_eq] at ho
    exact ⟨f, rfl, by rw [dirF, if_neg h], ho.resolve_left h⟩
theorem dirF_len : ∀ (f : Nat) (n x : Int), (dirF f n x).length ≤ f
  | 0, n, x => by simp [dirF]
  | f + 1, n, x => by
    rw [dirF]
    split
    · simp
    · have := dirF_len f n (ab n x)
      simp only [List.length_cons]
      omega
theorem dirL_len (n l : Int) : (dirL n l).length ≤ 8 := by
  unfold dirL
  split
  · exact dirF_len 8 n _
  · simp
abbrev ints8 (l : List Int) : List (List Fd) := l.map fun x => [.one (.int .i64 x)]
theorem ints8_app (a b : List Int) : ints8 (a ++ b) = ints8 a ++ ints8 b := by simp [ints8]
theorem els_ints8 (l : List Int) : Els 1 (ints8 l) := Els.map (f := fun x => [.one (.int .i64 x)]) l fun _ => ⟨inferInstance, rfl⟩
theorem ints8_at {l : List Int} {i : Nat} (h : i < l.length) : (ints8 l)[i]? = some [.one (.int .i64 l[i])] := by simp [ints8, h]
section
variable {H : Hp} {w0 w : World} {L : List Res}
theorem rsame_ok {A B : Option Addr} {a b : Nat} (xs ys : List Int) (hx : xs.length ≤ maxLen) (ha : Sl H 1 A (ints8 xs)) (hb : Sl H 1 B (ints8 ys)) (hM : Mem H w0 L w) : Calls Tryz.prog 17 #[.slice A xs.length a, .slice B ys.length b] w fun en w' => en = .returned (.bool (decide (xs = ys))) ∧ Mem H w0 L w' := by
  refine C_bevyref07_Same ?_
  unfold F_bevyref07_Same
  have hx' : xs.length ≤ 9223372036854775807 := hx
  ((with_reducible (refine mop_c trivial ?_; refine mop_c trivial ?_)))
  ((with_reducible (refine mop_cS trivial ?_ ?_)))
  · intro h
    ((with_reducible (refine mif_true ?_)))
    exact ⟨by rw [decide_eq_false (fun e => h (by rw [e]))], hM⟩
  · intro h
    have hl : xs.length = ys.length := by omega
    ((with_reducible (refine mif_false ?_)))
    refine ⟨fun v w' => ∃ i : Nat, v = .int .i64 i ∧ i ≤ xs.length ∧ xs.take i = ys.take i ∧ hM.now w', fun v _ => match v with | .int _ k => xs.length - k.toNat | _ => 0, ⟨0, rfl, by omega, by simp, hM⟩, ?_⟩
    rintro v u w3 ⟨i, rfl, hi, he, hM⟩
    ((with_reducible (refine mop_c trivial ?_)))
    ((with_reducible (refine mop_cS trivial ?_ ?_)))
    · intro h2
      have h3 : i < ys.length := by omega
      have e1 := ints8_at (l := xs) (i := i) (by omega)
      have e2 := ints8_at (l := ys) (i := i) (by omega)
      ((with_reducible (refine mif_true ?_)); (with_reducible refine dp_ixs ‹_› ?_ ?_ ?_); (focus (simp only [List.length_map]; omega)); (focus (simp only [List.length_map]; first | done | omega)); (with_reducible (intro _ _ hA)); (cases hA); (with_reducible refine dm_lds0 hM ‹_› (map_atI ?_) ?_); (focus omega); (with_reducible refine dp_ixs ‹_› ?_ ?_ ?_); (focus (simp only [List.length_map]; omega)); (focus (simp only [List.length_map]; first | done | omega)); (with_reducible (intro _ _ hA)); (cases hA); (with_reducible refine dm_lds0 hM ‹_› (map_atI ?_) ?_); (focus omega))
      ((with_reducible (refine dp_cS trivial ?_ ?_)))
      · intro h4
        ((with_reducible (refine mm_end hM ?_; clear hM; intro _ hM; refine mif_true ?_)))
        refine ⟨?_, hM⟩
        rw [decide_eq_false]
        rintro rfl
        exact h4 rfl
      · intro h4
        ((with_reducible (refine mm_end hM ?_; clear hM; intro _ hM; refine mif_false ?_; refine mop_c ?_ ?_)); (focus omega))
        refine ⟨⟨i + 1, rfl, by omega, ?_, hM⟩, by simp only; omega⟩
        rw [List.take_succ_eq_append_getElem (by omega), List.take_succ_eq_append_getElem h3, he, Decidable.not_not.1 h4]
    · intro h2
      ((with_reducible (refine mif_false ?_)))
      have : xs = ys := by
        have h1 : xs.take xs.length = ys.take xs.length := by
          have : i = xs.length := by omega
          rw [this] at he
          exact he
        rw [List.take_length, hl, List.take_length] at h1
        exact h1
      exact ⟨by rw [decide_eq_true this], hM⟩
end
end Go.Proofs.YtopcnkejobomaaaGreat
namespace Go.Proofs.YtopcnkejobomaaaGreat
open Go.RowKit
structure Lf where
  name : Int
  pub : H32
  ver : H32
  abv : H32
deriving DecidableEq
abbrev Lf.fds (l : Lf) : List Fd := [.one (.int .i64 l.name), .arr 32 (u8s l.pub.1), .arr 32 (u8s l.ver.1), .arr 32 (u8s l.abv.1)]
abbrev lv (l : Lf) : Value := .agg (fl l.fds).toArray
def Lf.zero : Lf := ⟨0, hzero, hzero, hzero⟩
structure Pn where
  set : Bool
  pub : H32
  abv : H32
  loose : List Int
deriving DecidableEq
def Pn.zero : Pn := ⟨false, hzero, hzero, []⟩
structure Tr where
  ls : List Lf
  ps : List Pn
deriving DecidableEq
def Tr.none : Tr := ⟨[], []⟩
def nameAt (ls : List Lf) (p : Int) : Int := match ls[p.toNat]? with
  | some l => l.name
  | none => 0
def leavesB : List Int → List Lf → Bool
  | _, [] => true
  | s, l :: r => if l = Lf.zero then leavesB s r else decide ((1 ≤ l.name ∧ l.name ≤ 64) ∧ l.name ∉ s) && leavesB (l.name :: s) r
def looseB (n : Int) (ls : List Lf) (x : Int) : Option Int → List Int → Bool
  | _, [] => true
  | o, p :: r => decide (hld n x p ∧ nameAt ls p ≠ 0 ∧ ∀ q ∈ o, q < p) && looseB n ls x (some p) r
def Pn.isZero (p : Pn) : Prop := p.set = false ∧ p.pub = hzero ∧ p.abv = hzero ∧ p.loose = []
instance (p : Pn) : Decidable p.isZero := by unfold Pn.isZero; infer_instance
def parB (n : Int) (ls : List Lf) : Int → List Pn → Bool
  | _, [] => true
  | x, p :: r => (p.set || decide p.isZero) && looseB n ls x none p.loose && parB n ls (x + 2) r
abbrev Tr.size (t : Tr) : Int := t.ls.length
def Tr.right (t : Tr) : Bool := decide (t.ls.length ≤ 64 ∧ t.ps.length = t.ls.length - 1) && leavesB [] t.ls && parB t.size t.ls 1 t.ps && decide (t.ls = [] ∨ 0 < nameAt t.ls (t.size - 1))
def Tr.few (t : Tr) : Prop := t.ls.length ≤ 100 ∧ t.ps.length ≤ 100 ∧ ∀ p ∈ t.ps, p.loose.length ≤ 100
instance (t : Tr) : Decidable t.few := by unfold Tr.few; infer_instance
abbrev Pn.row (p : Pn) (C : Option Addr) (c : Nat) : List Fd := [.one (.bool p.set), .arr 32 (u8s p.pub.1), .arr 32 (u8s p.abv.1), .one (.slice C p.loose.length c)]
def PnF (H : Hp) (q : List Fd) (p : Pn) : Prop := ∃ C c, q = p.row C c ∧ Sl H 1 C (ints8 p.loose) ∧ p.loose.length ≤ maxLen
theorem PnF.mono {H H' : Hp} {q : List Fd} {p : Pn} (h : PnF H q p) (k : H.le H') : PnF H' q p := by
  obtain ⟨C, c, h1, h2, h3⟩ := h
  exact ⟨C, c, h1, h2.mono k, h3⟩
theorem All2.mono {α : Type} {r r' : List Fd → α → Prop} (h : ∀ q x, r q x → r' q x) : ∀ {ps : List (List Fd)} {xs : List α}, All2 r ps xs → All2 r' ps xs
  | [], [], _ => trivial
  | _ :: _, _ :: _, k => ⟨h _ _ k.1, k.2.mono h⟩
  | [], _ :: _, k => k.elim
  | _ :: _, [], k => k.elim
theorem All2.at_ {α : Type} {r : List Fd → α → Prop} : ∀ {ps : List (List Fd)} {xs : List α}, All2 r ps xs → ∀ {i : Nat} (h : i < xs.length), ∃ q, ps[i]? = some q ∧ r q xs[i]
  | [], [], _, i, h => by cases h
  | q :: ps, x :: xs, k, 0, _ => ⟨q, rfl, k.1⟩
  | q :: ps, x :: xs, k, i + 1, h => by
    obtain ⟨q', h1, h2⟩ := k.2.at_ (i := i) (by simpa using h)
    exact ⟨q', by simpa using h1, by simpa using h2⟩
  | [], _ :: _, k, _, _ => k.elim
  | _ :: _, [], k, _, _ => k.elim
abbrev tfd (A : Option Addr) (n a : Nat) (B : Option Addr) (m b : Nat) : List Fd := [.one (.slice A n a), .one (.slice B m b)]
abbrev tv (A : Option Addr) (n a : Nat) (B : Option Addr) (m b : Nat) : Value := .agg (fl (tfd A n a B m b)).toArray
theorem lf_zero (l : Lf) : l = Lf.zero ↔ (l.name = 0 ∧ l.pub = hzero ∧ l.ver = hzero ∧ l.abv = hzero) := by
  cases l
  simp [Lf.zero]
structure TrF (H : Hp) (v : Value) (t : Tr) : Prop where
  ex : ∃ A a B b qs, v = tv A t.ls.length a B t.ps.length b ∧ Sl H 97 A (t.ls.map Lf.fds) ∧ Sl H 66 B qs ∧ All2 (PnF H) qs t.ps
  len : t.ls.length ≤ maxLen ∧ t.ps.length ≤ maxLen
theorem TrF.mono {H H' : Hp} {v : Value} {t : Tr} (h : TrF H v t) (k : H.le H') : TrF H' v t := by
  obtain ⟨A, a, B, b, qs, h1, h2, h3, h4⟩ := h.ex
  exact ⟨⟨A, a, B, b, qs, h1, h2.mono k, h3.mono k, h4.mono fun _ _ h => h.mono k⟩, h.len⟩
end Go.Proofs.YtopcnkejobomaaaGreat
namespace Go.Proofs.YtopcnkejobomaaaGreat
open Go.RowKit
theorem rdr_hash : Rdr Tryz.prog 33 32 (fun _ fs (x : H32) => fs = [.arr 32 (u8s x.1)]) := rdr_h32 Tryz.underlying33 Tryz.underlying5 (by kernel_rfl) (by kernel_rfl)
theorem rdr_i64 : Rdr Tryz.prog 3 1 (fun _ fs (x : Int) => fs = [.one (.int .i64 x)] ∧ (Lit.int .i64 x).wf = true) := rdr_int Tryz.underlying3 (by kernel_rfl)
theorem rdr_bo : Rdr Tryz.prog 4 1 (fun _ fs (x : Bool) => fs = [.one (.bool x)]) := rdr_bool Tryz.underlying4 (by kernel_rfl)
theorem rdr_lf : Rdr Tryz.prog 57 97 (fun _ fs (x : Lf) => fs = x.fds ∧ True) :=
  (rdr_struct (sz := 97) Tryz.underlying57 (by kernel_rfl) (Rdf.cons rdr_i64 rfl rfl rfl (Rdf.cons rdr_hash rfl rfl rfl (Rdf.cons rdr_hash rfl rfl rfl (Rdf.cons rdr_hash rfl rfl rfl (Rdf.nil _)))))).map fun _ fs x _ h => by
    obtain ⟨g1, h1, rfl, _, ⟨rfl, _⟩, g2, h2, rfl, _, rfl, g3, h3, rfl, _, rfl, g4, h4, rfl, _, rfl, rfl⟩ := h
    exact ⟨⟨x.1, x.2.1, x.2.2.1, x.2.2.2.1⟩, rfl, trivial⟩
theorem rdr_ints8 : Rdr Tryz.prog 29 1 (fun H fs (xs : List Int) => ∃ A cap, fs = [.one (.slice A xs.length cap)] ∧ xs.length ≤ maxLen ∧ Sl H 1 A (ints8 xs)) :=
  (rdr_slice Tryz.underlying29 (by kernel_rfl) (by omega) rdr_i64).map fun H fs xs _ ⟨A, cap, ps, h1, h2, h3, h4⟩ => by
    obtain ⟨rfl, _⟩ := All2.eq_map h4
    exact ⟨xs, A, cap, h1, h2, h3⟩
theorem rdr_pn : Rdr Tryz.prog 61 66 PnF :=
  (rdr_struct (sz := 66) Tryz.underlying61 (by kernel_rfl) (Rdf.cons rdr_bo rfl rfl rfl (Rdf.cons rdr_hash rfl rfl rfl (Rdf.cons rdr_hash rfl rfl rfl (Rdf.cons rdr_ints8 rfl rfl rfl (Rdf.nil _)))))).map fun _ fs x _ h => by
    obtain ⟨g1, h1, rfl, _, rfl, g2, h2, rfl, _, rfl, g3, h3, rfl, _, rfl, g4, h4, rfl, _, ⟨A, c, rfl, hl, hs⟩, rfl⟩ := h
    exact ⟨⟨x.1, x.2.1, x.2.2.1, x.2.2.2.1⟩, A, c, rfl, hs, hl⟩
theorem rdr_lfs : Rdr Tryz.prog 22 1 (fun H fs (xs : List Lf) => ∃ A cap, fs = [.one (.slice A xs.length cap)] ∧ xs.length ≤ maxLen ∧ Sl H 97 A (xs.map Lf.fds)) :=
  (rdr_slice Tryz.underlying22 (by kernel_rfl) (by omega) rdr_lf).map fun H fs xs _ ⟨A, cap, ps, h1, h2, h3, h4⟩ => by
    obtain ⟨rfl, _⟩ := All2.eq_map h4
    exact ⟨xs, A, cap, h1, h2, h3⟩
theorem rdr_pns : Rdr Tryz.prog 23 1 (fun H fs (xs : List Pn) => ∃ A cap ps, fs = [.one (.slice A xs.length cap)] ∧ xs.length ≤ maxLen ∧ Sl H 66 A ps ∧ All2 (PnF H) ps xs) :=
  rdr_slice Tryz.underlying23 (by kernel_rfl) (by omega) rdr_pn
theorem rdr_tr : Rdr Tryz.prog 25 2 (fun H fs (t : Tr) => TrF H (.agg (fl fs).toArray) t) :=
  (rdr_struct (sz := 2) Tryz.underlying25 (by kernel_rfl) (Rdf.cons rdr_lfs rfl rfl rfl (Rdf.cons rdr_pns rfl rfl rfl (Rdf.nil _)))).map fun _ fs x _ h => by
    obtain ⟨g1, h1, rfl, _, ⟨A, a, rfl, hl, hs⟩, g2, h2, rfl, _, ⟨B, b, q, rfl, hl2, hs2, ha⟩, rfl⟩ := h
    exact ⟨⟨x.1, x.2.1⟩, ⟨A, a, B, b, q, rfl, hs, hs2, ha⟩, hl, hl2⟩
end Go.Proofs.YtopcnkejobomaaaGreat
namespace Go.Proofs.YtopcnkejobomaaaGreat
open Go.RowKit Go.Shelf Go.Lib
attribute [local go_sem] Oper.semAt_some
theorem lvl_eq {n x : Int} (h : thr n x) : ab n x < 0 ∨ level x < level (ab n x) ∧ level (ab n x) ≤ 7 := by
  obtain ⟨h1, h2, h3⟩ := id h
  have := lvl_fin ⟨n.toNat, by omega⟩ ⟨x.toNat, by omega⟩
  simp only [Int.toNat_of_nonneg h2, Int.toNat_of_nonneg (show 0 ≤ n by omega)] at this
  exact this h
theorem ab_pos {n x : Int} (h : ¬ ab n x < 0) : thr n x := Decidable.byContradiction fun hn => h (by rw [ab_of hn]; omega)
theorem Only.grown0 {w w' : World} (h : Only (fun k => ∃ b ∈ ([] : List Bk), b.nw = false ∧ b.g = k) w w') : w.grownBy w' none := ⟨h.os, h.tape, h.output, h.size, fun k hk _ => h.block k hk (by rintro ⟨_, hm, _⟩; cases hm)⟩
theorem bup_ok (n x : Int) (w : World) : Calls Tryz.prog 114 #[.int .i64 n, .int .i64 x] w fun en w' => ∃ b1 b2, en = .returned (.func (.func 142) #[] #[.pointer (some ⟨b1, 0, none⟩), .pointer (some ⟨b2, 0, none⟩)]) ∧ Mem (Hp.of w) w [fb b2 3 [.one (.int .i64 x)], fb b1 3 [.one (.int .i64 n)]] w' := by
  have hM := Mem.start (Fz.of w)
  refine C_bough_up ?_
  unfold F_bough_up
  ((with_reducible (refine mm_box hM ?_; clear hM; intro _ _ hM; refine mm_box hM ?_; clear hM; intro _ _ hM; refine mop_c trivial ?_)))
  exact ⟨_, _, rfl, hM⟩
def mea (v : Value) : Nat := match v with
  | .int _ k => if k < 0 then 0 else (9 - level k).toNat
  | _ => 0
set_option maxRecDepth 100000 in
set_option maxHeartbeats 1000000 in
theorem up1_in (m : Nat) (hm : 2 ≤ m) (l b1 b2 : Nat) (n x : Int) (W0 : Nat) (J Jx : List Int → World → Prop) (hJ : AbidesFrom W0 J)
    (hY : ∀ pre y W, J pre W → pre.length < (dirF 8 n x).length → YieldAt Fence.wide (m - 1) Tryz.prog l #[.int .i64 y] W fun e W' =>
      (e = .returned (.bool true) ∧ J (pre ++ [y]) W' ∧ W'.heap[b1]? = W.heap[b1]?) ∨ (e = .returned (.bool false) ∧ Jx (pre ++ [y]) W'))
    (W : World) (l1 : b1 < W.heap.size) (h1 : W.cell? ⟨b1, 0, none⟩ = some (.int .i64 n)) (h2 : W.cell? ⟨b2, 0, none⟩ = some (.int .i64 x)) (h0 : J [] W) :
    CallsIn Fence.wide m Tryz.prog 142 #[.func (.yield l) #[] #[], .pointer (some ⟨b1, 0, none⟩), .pointer (some ⟨b2, 0, none⟩)] W fun e W' => (∃ v, e = .returned v) ∧
      ((∃ ys, ys = dirF 8 n x ∧ J ys W') ∨ (∃ pre, pre <+: dirF 8 n x ∧ Jx pre W')) := by
  have f1 : Fence.wide.fn 143 := trivial
  have m1 : 1 ≤ m := by omega
  refine callsIn_of_wp Tryz.func142 rfl trivial ?_ rfl
  simp only [Tryz.ntmps142, List.size_toArray, List.length_cons, List.length_nil, Nat.reduceAdd, Nat.reduceSub, Array.replicate_succ, Array.replicate_zero, List.push_toArray, List.append_toArray, List.nil_append, List.cons_append]
  gi_wp2_with (gi_at_call 143; refine (callsIn_wide.2 (babove_ok n x _)).mono ?_; rintro e w1 ⟨rfl, hst⟩)
  have hg := Only.grown0 hst.only
  have hb1 : w1.heap[b1]? = W.heap[b1]? ∧ W.heap.size ≤ w1.heap.size := ⟨hg.block b1 l1 (by simp), hg.size⟩
  have hJ1 : J [] w1 := hJ [] W w1 none h0 hg (fun r e => by cases e)
  gi_loopw [4] (fun p wr => ∃ (f : Nat) (y : Int) (pre : List Int), p = .int .i64 (ab n y) ∧ dirF 8 n x = pre ++ dirF f n y ∧ okd f n y = true ∧ J pre wr ∧ wr.heap[b1]? = W.heap[b1]?) (fun p _ => mea p)
  case atStart =>
    exact ⟨8, x, [], rfl, rfl, okd_eq _ _, hJ1, hb1.1⟩
  case round =>
    obtain ⟨f, y, pre, rfl, hx, ho, hJs, hB⟩ := hrel
    have c1 : wr.cell? ⟨b1, 0, none⟩ = some (.int .i64 n) := (World.cell?_of_block (w := W) (a := ⟨b1, 0, none⟩) hB).trans h1
    by_cases hp : ab n y < 0
    · have hq : ¬ 0 ≤ ab n y := by omega
      gi_wp2
      refine ⟨fun _ h => (by cases h), ?_⟩
      gi_wp2
      go_end0
      exact ⟨⟨_, rfl⟩, .inl ⟨pre, by rw [hx, dirF_end hp, List.append_nil], hJs⟩⟩
    · have hq : 0 ≤ ab n y := by omega
      obtain ⟨g, rfl, e2, ho⟩ := dirF_step hp ho
      obtain ⟨fn, tmps, assign, body, hy, hR⟩ := hY pre (ab n y) wr hJs (by rw [hx, e2]; simp)
      gi_wp2
      refine hR.mono ?_
      rintro e W3 (⟨rfl, hJ3, hk3⟩ | ⟨rfl, hJx3⟩)
      · have c3 : W3.cell? ⟨b1, 0, none⟩ = some (.int .i64 n) := (World.cell?_of_block (w := wr) (a := ⟨b1, 0, none⟩) hk3).trans c1
        gi_wp2_with (gi_at_call 143; refine (callsIn_wide.2 (babove_ok n (ab n y) _)).mono ?_; rintro e w4 ⟨rfl, hst4⟩)
        have hg4 := Only.grown0 hst4.only
        have hB3 := hk3.trans hB
        have hl3 : b1 < W3.heap.size := by
          have e : W3.heap[b1]? = some W.heap[b1] := by rw [hB3]; simp [l1]
          exact (Array.getElem?_eq_some_iff.1 e).1
        have hB4 : w4.heap[b1]? = W3.heap[b1]? := hg4.block b1 hl3 (by simp)
        have hJ4 : J (pre ++ [ab n y]) w4 := hJ _ W3 w4 none hJ3 hg4 (fun r e => by cases e)
        go_roundw
        case rel => exact ⟨g, ab n y, pre ++ [ab n y], rfl, by rw [hx, e2]; simp, ho, hJ4, hB4.trans hB3⟩
        case measure =>
          have hp : ¬ ab n y < 0 := by omega
          have ht := ab_thr (ab_pos hp) hp
          have := lvl_eq ht
          have h8 := level_rng (ab n y)
          have h7 := (lvl_eq (ab_pos hp)).resolve_left hp
          show mea (.int .i64 (ab n (ab n y))) < mea (.int .i64 (ab n y))
          simp only [mea]
          rw [if_neg hp]
          split <;> omega
      · gi_wp2
        go_end0
        exact ⟨⟨_, rfl⟩, .inr ⟨pre ++ [ab n y], ⟨dirF g n (ab n y), by rw [hx, e2]; simp⟩, hJx3⟩⟩
theorem up_stops (m : Nat) (hm : 2 ≤ m) (b1 b2 : Nat) (n x : Int) (w : World) (l1 : b1 < w.heap.size) (l2 : b2 < w.heap.size) (h1 : w.cell? ⟨b1, 0, none⟩ = some (.int .i64 n)) (h2 : w.cell? ⟨b2, 0, none⟩ = some (.int .i64 x)) :
    SeqStopsK Fence.wide m Tryz.prog 142 #[.pointer (some ⟨b1, 0, none⟩), .pointer (some ⟨b2, 0, none⟩)] (fun y : Int => #[Value.int .i64 y]) (fun A B => B.heap[b1]? = A.heap[b1]?) (fun ys => ys = dirF 8 n x) (fun pre => pre <+: dirF 8 n x) (dirF 8 n x).length w := fun l J Jx W hW hJ _ hY h0 =>
  up1_in m hm l b1 b2 n x W.heap.size J Jx hJ hY W (Nat.lt_of_lt_of_le l1 hW.size) ((hW.cell (p := ⟨b1, 0, none⟩) l1).trans h1) ((hW.cell (p := ⟨b2, 0, none⟩) l2).trans h2) h0
theorem Boxed.app2 {W w1 : World} {n₀ n1 B : Nat} {t e : TypeId} {size : Nat} {v v' : Value} {k m : Nat} {xs ys : List Value} {tmp : Obj}
    (hv : Boxed W B t v) (hte : t ≠ e) (hrow : W.ownsRow n₀ e size v k xs) (hn₀ : n₀ ≤ W.heap.size) (hn1 : n1 ≤ n₀) (hB : n1 ≤ B)
    (hown' : w1.ownsRow n₀ e size v' m ys) (hgrow : (W.alloc tmp).grownBy w1 v.ownBlock) :
    Boxed w1 B t v ∧ Boxed (w1.setCell ⟨B, 0, none⟩ v') B t v' ∧ (w1.setCell ⟨B, 0, none⟩ v').ownsRow n₀ e size v' m ys ∧ KeepsOthers W (w1.setCell ⟨B, 0, none⟩ v') ∧ Below n1 W (w1.setCell ⟨B, 0, none⟩ v') ∧ ∀ i, i < n₀ → i ≠ B → (w1.setCell ⟨B, 0, none⟩ v').heap[i]? = W.heap[i]? := by
  have hv1 : Boxed w1 B t v := (hv.alloc tmp).kept hgrow (hv.not_row hte hrow)
  have hge : ∀ j, v.ownBlock = some j → n₀ ≤ j := fun j ej => by
    rcases hrow.2 with ⟨rfl, _⟩ | ⟨g, cap, cur, rfl, hb, _, _⟩
    · simp [Value.ownBlock] at ej
    · obtain rfl : g = j := by simpa [Value.ownBlock] using ej
      exact hb
  refine ⟨hv1, hv1.set v', hown'.kept (grownBy_setCell' w1 B v') (.inr (hv1.not_row hte hown').symm), ?_, ?_, ?_⟩
  · refine ((KeepsOthers.alloc W tmp).trans (KeepsOthers.of_grownBy hgrow fun j o ej hj => ?_)).trans (KeepsOthers.setCell _ _ _)
    rcases (hrow.alloc tmp).2 with ⟨rfl, _⟩ | ⟨g, cap, cur, rfl, _, hgb, _⟩
    · simp [Value.ownBlock] at ej
    · obtain rfl : g = j := by simpa [Value.ownBlock] using ej
      rw [hgb] at hj; cases hj; rfl
  · refine (((Below.refl n1 W).alloc (Nat.le_trans hn1 hn₀) tmp).grown hgrow (by simp; omega) fun j ej => ?_).setCell (p := ⟨B, 0, none⟩) hB v'
    exact Nat.le_trans hn1 (hge j ej)
  · intro i hi hne
    have hs : w1.heap.size ≥ (W.alloc tmp).heap.size := hgrow.size
    rw [World.size_alloc] at hs
    rw [(grownBy_setCell' w1 B v').block i (by omega) (by simpa using hne)]
    rw [hgrow.block i (by rw [World.size_alloc]; omega) (fun e => by have := hge i e.symm; omega)]
    exact Below.heap_alloc W tmp i (by omega)
theorem info3 : (Tryz.prog.info? 3).map (fun i => (i.zero, i.size, i.bytes)) = some (some (.int .i64 0), 1, 8) := by kernel_rfl
set_option maxRecDepth 100000 in
set_option maxHeartbeats 2000000 in
theorem dir_in (n l : Int) (hl : 0 ≤ l ∧ l < n) (hb : l ≤ 1000000) (w : World) :
    Calls Tryz.prog 74 #[.int .i64 n, .int .i64 l] w fun e W' => ∃ v, e = .returned v ∧ W'.ownsRow w.heap.size 3 1 v (dirL n l).length ((dirL n l).map (Value.int .i64)) ∧ Below w.heap.size w W' := by
  have hD : dirL n l = dirF 8 n (2 * l) := if_pos hl
  have hlen := dirL_len n l
  rw [hD] at hlen ⊢
  have hw : IntKind.i64.wrap (2 * l) = 2 * l := wrap_in (by omega)
  obtain ⟨i0, hi, hz0, hz1, hz2⟩ := info_parts info3
  have f1 : Fence.wide.fn 114 := trivial
  have hn1 : ¬ l < 0 := by omega
  have hn2 : ¬ n ≤ l := by omega
  have hmx : 9 ≤ maxLen := by decide
  refine (callsIn_wide (n := 8)).1 ?_
  refine callsIn_of_wp_marks Tryz.func74 rfl trivial ?_ rfl
  simp only [Tryz.ntmps74, List.size_toArray, List.length_cons, List.length_nil, Nat.reduceAdd, Nat.reduceSub, Array.replicate_succ, Array.replicate_zero, List.push_toArray, List.append_toArray, List.nil_append, List.cons_append]
  gi_wp2_with (gi_at_call 114; refine (callsIn_wide.2 (bup_ok n (2 * l) _)).mono ?_; rintro e w2 ⟨b1, b2, rfl, hM⟩)
  have hgr := Only.grown0 hM.st.only
  have bO : Boxed w2 w.heap.size 29 (.slice none 0 0) := (Boxed.new w _ _).kept hgr (by simp)
  have hsz : w.heap.size + 1 ≤ w2.heap.size := by have := hgr.size; rwa [World.size_alloc] at this
  have hB0 : Below w.heap.size w w2 := ((Below.refl _ w).alloc (Nat.le_refl _) _).trans (hM.st.only.below (by simp) (fun i _ h => by obtain ⟨_, hm, _⟩ := h; cases hm))
  obtain ⟨k1, _⟩ := Mem.blf (g := b1) (hM.upB b1) inferInstance
  obtain ⟨k2, _⟩ := Mem.blf (g := b2) (hM.upB b2) inferInstance
  have hne : b1 ≠ w.heap.size := by
    rintro rfl
    obtain ⟨fr, h1, _⟩ := k1
    rw [show w2.heap[w.heap.size]? = _ from bO] at h1
    simp at h1
  refine wpIn_rangeFunc_ownG rfl (by omega) (gf := 142) (lb := #[.pointer (some ⟨b1, 0, none⟩), .pointer (some ⟨b2, 0, none⟩)]) rfl trivial (enters_of Tryz.func142 (by kernel_rfl) rfl)
    (up_stops _ (by omega) b1 b2 n (2 * l) w2 k1.lt k2.lt (by rw [k1.cell]; rfl) (by rw [k2.cell]; rfl)) (fun h k => Eq.trans k h) (fun W j o o' hj _ _ _ => ?kb) (Below.refl _ _) (fun _ => rfl)
    (fun pre W => (∃ v, Boxed W w.heap.size 29 v ∧ W.ownsRow w2.heap.size 3 1 v pre.length (pre.map (Value.int .i64)) ∧ True) ∧ Below w.heap.size w W ∧ w2.heap.size ≤ W.heap.size)
    (fun _ _ _ => False)
    (OwnFrom.and (Own.from (holdsRow_own w2.heap.size w.heap.size 29 3 1 (fun pre : List Int => pre.length) (fun pre => pre.map (Value.int .i64)) (fun _ _ => True)) _) (OwnFrom.and (ownFrom_below (Nat.le_refl _) (by omega)) (fun s A B row hs hg hr => Nat.le_trans hs hg.size)))
    (fun _ _ _ _ _ hs _ _ => hs)
    ⟨⟨_, bO, World.ownsRow_nil _ _ _ _, trivial⟩, hB0, Nat.le_refl _⟩
    (fun x => { tmps := #[.int .i64 n, .int .i64 l, undef, undef, .slice none 0 0, .pointer (some ⟨w.heap.size, 0, none⟩), .int .i64 x, .int .i64 l, .bool false, .bool false, .int .i64 l, .int .i64 n, .bool false, .bool false, .int .i64 n, .int .i64 l, .int .i64 (2 * l), .func (.func 142) #[] #[.pointer (some ⟨b1, 0, none⟩), .pointer (some ⟨b2, 0, none⟩)], .int .i64 x, undef, undef, undef, undef, undef], defers := [] }) ?assign ?body ?done ?stop
  case kb => exact (grownBy_putObj' W j o').block b1 (by have := k1.lt; have := (Array.getElem?_eq_some_iff.1 ‹W.heap[j]? = some o›).1; omega) (by have := k1.lt; simp; omega)
  case assign =>
    intro l x W K hK
    gi_wp2
    exact hK
  case body =>
    rintro l pre x W ⟨⟨v, hv, hrow, -⟩, hB, hsw⟩ hlt
    have hc := hv.cell
    gi_wp2_with (gi_at_builtin; refine wpListIn_append_own _ rfl _ _ 29 rfl w2.heap.size 3 i0 (.int .i64 0) 1 8 (by kernel_rfl) hi hz0 hz1 hz2 rfl (by decide) _ _ _ rfl (hrow.alloc _) ⟨W.heap.size, 0, none⟩ 1 1 [.int .i64 x] rfl rfl (cell_one_new _ _ _) (by simp [Value.oneCell']) (by omega) (by omega) (by simp; omega) ?_; intro v' w1 hown' hgrow _; obtain ⟨g', cap', rfl⟩ := ownsRow_succ hown'; obtain ⟨hv1, hv2, hr2, hk2, hb2, hx2⟩ := Boxed.app2 hv (n1 := w.heap.size) (by decide) hrow hsw (by omega) (Nat.le_refl _) hown' hgrow; have hc1 := hv1.cell; have hf1 := hv1.frozen)
    exact ⟨hk2.from _, hx2 b1 k1.lt hne, ⟨_, hv2, by simpa using hr2, trivial⟩, hB.trans hb2, Nat.le_trans hsw hb2.size⟩
  case done =>
    rintro D ys W hD rfl ⟨⟨v, hv, hrow, -⟩, hB, hsw⟩ hK
    have hc := hv.cell
    gi_wp2
    refine ⟨by simp, .inl ⟨_, _, rfl, run_takeDeferred hK, ?_⟩⟩
    exact ⟨_, results_tmp rfl _ _ _, v, rfl, ⟨(ownsRow_putObj hrow (.deferred none) hK rfl).1, (ownsRow_putObj hrow (.deferred none) hK rfl).2.imp id fun ⟨g, cap, cur, h1, h2, h3⟩ => ⟨g, cap, cur, h1, by omega, h3⟩⟩, hB.trans (belowK_b (w := w) (Nat.le_refl _) W D _ _ (by omega) hK rfl rfl)⟩
  case stop =>
    rintro D c pre W _ _ h _
    exact h.elim
set_option maxRecDepth 100000 in
set_option maxHeartbeats 2000000 in
theorem dir_nil (n l : Int) (hl : l < 0 ∨ n ≤ l) (w : World) : Calls Tryz.prog 74 #[.int .i64 n, .int .i64 l] w fun e W' => e = .returned (.slice none 0 0) ∧ Below w.heap.size w W' := by
  refine (callsIn_wide (n := 8)).1 ?_
  refine callsIn_of_wp_marks Tryz.func74 rfl trivial ?_ rfl
  simp only [Tryz.ntmps74, List.size_toArray, List.length_cons, List.length_nil, Nat.reduceAdd, Nat.reduceSub, Array.replicate_succ, Array.replicate_zero, List.push_toArray, List.append_toArray, List.nil_append, List.cons_append]
  by_cases h1 : l < 0
  · gi_wp2
    exact ⟨_, results_tmp rfl _ _ _, rfl, Below.refl _ _⟩
  · have h2 : n ≤ l := by omega
    gi_wp2
    exact ⟨_, results_tmp rfl _ _ _, rfl, Below.refl _ _⟩
theorem fls_ints8 (l : List Int) : fls (ints8 l) = l.map (Value.int .i64) := by
  induction l with
  | nil => rfl
  | cons x r ih =>
    show fls ([.one (.int .i64 x)] :: ints8 r) = _
    rw [fls_cons, ih]
    rfl
theorem own_out {H : Hp} {w W' : World} {e : TypeId} {v : Value} {D : List Int} (hf : Fz H w) (ho : W'.ownsRow w.heap.size e 1 v D.length (D.map (Value.int .i64))) (hb : Below w.heap.size w W') :
    Outp H w (fun H' v => ∃ A cap, v = .slice A D.length cap ∧ Sl H' 1 A (ints8 D)) (.returned v) W' := by
  have hst : St w [] W' := ⟨(fun _ h => by cases h), .nil, (fun _ h => by cases h), Only.of_below hb fun i hi hge => by omega⟩
  have hF : ∀ b c, H b = some c → ∃ t fr, W'.heap[b]? = some (.cells c t fr) := fun b c hc => by
    obtain ⟨t, fr, h⟩ := hf b c hc
    exact ⟨t, fr, (hb.block b (hf.lt hc)).trans h⟩
  rcases ho.2 with ⟨rfl, hn⟩ | ⟨g, cap, cur, rfl, hge, hgb, hnc, hcm, hsz, htk⟩
  · have hD : D = [] := List.eq_nil_of_length_eq_zero hn
    subst hD
    exact ⟨_, H, rfl, Le.refl _ _, ⟨⟨[], rfl, hst, fun _ h => by cases h⟩, hF⟩, none, 0, rfl, Sl.nil _ _ _⟩
  · have hg0 : H g = none := by
      cases hh : H g with
      | none => rfl
      | some c => have := hf.lt hh; omega
    refine ⟨_, fun k => if k = g then some cur else H k, rfl, ⟨fun b c hc => ?_, fun b hb' hn => ?_⟩, ⟨⟨[], rfl, hst, fun _ h => by cases h⟩, fun b c hc => ?_⟩, some ⟨g, 0, none⟩, cap, rfl, els_ints8 D, .inr ⟨g, 0, cur, rfl, if_pos rfl, fun j u hu => ?_⟩⟩
    · show (if b = g then some cur else H b) = some c
      rw [if_neg (by rintro rfl; rw [hg0] at hc; cases hc)]
      exact hc
    · show (if b = g then some cur else H b) = none
      rw [if_neg (by omega)]
      exact hn
    · have hc : (if b = g then some cur else H b) = some c := hc
      by_cases e : b = g
      · rw [if_pos e] at hc
        cases hc
        exact ⟨_, _, by rw [e]; exact hgb⟩
      · rw [if_neg e] at hc
        exact hF b c hc
    · rw [fls_ints8, ← htk] at hu
      rw [Nat.zero_add, ← Array.getElem?_toList]
      rw [List.getElem?_take] at hu
      split at hu
      · exact hu
      · cases hu
theorem bdirect_ok {H : Hp} {w : World} (n l : Int) (hb : l ≤ 1000000) (hf : Fz H w) : Calls Tryz.prog 74 #[.int .i64 n, .int .i64 l] w (Outp H w (fun H' v => ∃ A cap, v = .slice A (dirL n l).length cap ∧ Sl H' 1 A (ints8 (dirL n l)))) := by
  by_cases hl : 0 ≤ l ∧ l < n
  · refine (dir_in n l hl hb w).mono ?_
    rintro e W' ⟨v, rfl, ho, hB⟩
    exact own_out hf ho hB
  · refine (dir_nil n l (by omega) w).mono ?_
    rintro e W' ⟨rfl, hB⟩
    have : dirL n l = [] := if_neg hl
    rw [this]
    exact own_out (e := 3) (D := []) hf ⟨rfl, .inl ⟨rfl, rfl⟩⟩ hB
end Go.Proofs.YtopcnkejobomaaaGreat
namespace Go.Proofs.YtopcnkejobomaaaGreat
open Go.RowKit
theorem mguard_un {want : Bool} {w : World} {run : (Value → World → Prop) → Prop} {K : Value → World → Prop} (h : K undef w) : mguard undef want run w K := mguard_no (by intro h; cases h) h
theorem lay_in (A X B Y : List Value) (o : Nat) (h : o + Y.length ≤ X.length) : lay (A ++ (X ++ B)) Y (A.length + o) = A ++ (lay X Y o ++ B) := by
  unfold lay
  rw [List.take_length_add_append, Nat.add_assoc, List.drop_length_add_append, List.take_append_of_le_length (by omega), List.drop_append_of_le_length (by omega)]
  simp
section
variable {P : Program} {H : Hp} {w0 w : World} {L : List Res} {n cap e sz by_ : Nat} {t : TypeId} {A : Option Addr} {ps : List (List Fd)} {X : List PanicEntry → World → Prop}
theorem Mem.setFld {R1 : List Res} {g k off : Nat} {fs gs fs' : List Fd} (h : Mem H w0 (rowR e sz (some ⟨g, 0, none⟩) n cap ps :: R1) w) (hk : ps[k]? = some fs) (hp : Put fs off gs fs') (hg : FOk gs) : ∃ w', (storeCells ⟨g, 0 + k * sz + off, none⟩ (fl gs) 0).run P w = .ok () w' ∧ Mem H w0 (rowR e sz (some ⟨g, 0, none⟩) n cap (ps.set k fs') :: R1) w' := by
  obtain ⟨B, ⟨B1, B2, rfl, ⟨h1, h2, h3⟩, h4⟩, hs', hb⟩ := h.own
  obtain ⟨hk', rfl⟩ := List.getElem?_eq_some_iff.1 hk
  rcases h3 with ⟨hA, h3, _⟩ | ⟨g', sp, hA, rfl, h5, h6⟩
  · cases hA
  · cases hA
    have hs' : St w0 (⟨g, e, fls ps ++ sp, true⟩ :: B2) w := hs'
    have hfl : (fls ps).length = n * sz := by rw [h1.len, h2]
    obtain ⟨hxo, hxs⟩ := h1.ok ps[k] (List.getElem_mem _)
    obtain ⟨hf', hly, hle0⟩ := hp.cells hxo hg
    have hxl : (fl ps[k]).length = sz := by rw [hxo.len, hxs]
    have hle : k * sz + sz ≤ n * sz := by rw [← Nat.succ_mul]; exact Nat.mul_le_mul_right _ (by omega)
    have hst := run_storeCells_blf (P := P) (0 + k * sz + off) (fl gs) 0 (fls ps ++ sp) w hs'.head (by rw [List.length_append, hfl]; omega) hg.one
    have ht : (fls (ps.take k)).length = k * sz := by rw [(h1.take k).len, List.length_take, Nat.min_eq_left (by omega)]
    have hlay : lay (fls ps ++ sp) (fl gs) (0 + k * sz + off + 0) = fls (ps.set k fs') ++ sp := by
      have e1 : ps = ps.take k ++ ps[k] :: ps.drop (k + 1) := by rw [List.getElem_cons_drop, List.take_append_drop]
      rw [List.set_eq_take_append_cons_drop, if_pos hk']
      conv => lhs; rw [e1]
      rw [show 0 + k * sz + off + 0 = (fls (ps.take k)).length + off by rw [ht]; omega, fls_app, fls_app, fls_cons, fls_cons, ← hly, List.append_assoc, List.append_assoc, lay_in _ _ _ _ _ hle0]
      simp
    refine ⟨_, hst, ?_⟩
    rw [hlay]
    have hl2 : (fls (ps.set k fs') ++ sp).length = (fls ps ++ sp).length := by
      rw [← hlay]
      exact lay_length _ _ _ (by rw [List.length_append, hfl]; omega)
    have hsz' : fsz fs' = sz := by
      have hh := congrArg List.length hly
      rw [lay_length _ _ _ hle0, hxl, hf'.len] at hh
      omega
    have hels : Els sz (ps.set k fs') := ⟨fun q hq => by
      rcases List.mem_or_eq_of_mem_set hq with hq | rfl
      · exact h1.ok q hq
      · exact ⟨hf', hsz'⟩⟩
    have hgg := hb ⟨g, e, fls ps ++ sp, true⟩ (by simp)
    refine ⟨⟨⟨g, e, fls (ps.set k fs') ++ sp, true⟩ :: B2, ⟨[⟨g, e, fls (ps.set k fs') ++ sp, true⟩], B2, rfl, ⟨hels, by simpa using h2, .inr ⟨g, sp, rfl, rfl, by rw [hl2]; exact h5, h6⟩⟩, h4⟩, hs'.setRow hl2, fun b hm => ?_⟩, h.fz.same fun b c hc => setRow_other w g b _ ?_⟩
    · rcases List.mem_cons.1 hm with rfl | hm
      · exact ⟨rfl, hgg.2⟩
      · exact hb b (List.mem_append.2 (.inr hm))
    · rintro rfl
      have := hgg.2
      simp only [hc] at this
      cases this
theorem run_msf {R1 : List Res} {g k off m : Nat} {tt : TypeId} {q : Bool} {v : Value} {fs gs fs' : List Fd} (h : Mem H w0 L w) (c : ShpC P tt q m) (a : AtA L (some ⟨g, 0, none⟩) n cap e sz ps R1) (hk : ps[k]? = some fs) (f : Vf v m gs) (p : Put fs off gs fs') :
    ∃ w', (o_store tt (.pointer (some ⟨g, 0 + k * sz + off, none⟩)) v).run P w = .ok .skip w' ∧ Mem H w0 (rowR e sz (some ⟨g, 0, none⟩) n cap (ps.set k fs') :: R1) w' := by
  obtain ⟨ev, hn, hp⟩ := f.ok
  obtain ⟨w', hr, hm⟩ := (h.perm a.perm).setFld (P := P) hk p hp
  refine ⟨w', ?_, hm⟩
  have e2 : v.cells.size = m := by rw [← Array.length_toList, ev, hp.len, hn]
  simp [o_store, su, Instr.storeAt, Instr.sureAddr, storeVar, run_size (shp_agg (w := w) c.ok).2, ev, e2]
  simp only [Nat.zero_add] at hr
  simp [hr]
theorem mm_stf {R1 : List Res} {g k off m : Nat} {tt : TypeId} {q : Bool} {v : Value} {fs gs fs' : List Fd} {K : Value → World → Prop} (h : Mem H w0 L w) [c : ShpC P tt q m] [a : AtA L (some ⟨g, 0, none⟩) n cap e sz ps R1] (hk : ps[k]? = some fs) [f : Vf v m gs] [p : Put fs off gs fs']
    (hK : ∀ w', Mem H w0 (rowR e sz (some ⟨g, 0, none⟩) n cap (ps.set k fs') :: R1) w' → K undef w') : mop P (o_store tt (.pointer (some ⟨g, 0 + k * sz + off, none⟩)) v) w K X := by
  obtain ⟨w', hr, hm⟩ := run_msf (P := P) h c a hk f p
  exact mop_skip hr (hK w' hm)
theorem dm_stf {R1 : List Res} {g k off m : Nat} {tt : TypeId} {q : Bool} {v : Value} {fs gs fs' : List Fd} {K : Value → World → Prop} (h : Mem H w0 L w) [c : ShpC P tt q m] [a : AtA L (some ⟨g, 0, none⟩) n cap e sz ps R1] (hk : ps[k]? = some fs) [f : Vf v m gs] [p : Put fs off gs fs']
    (hK : ∀ w', Mem H w0 (rowR e sz (some ⟨g, 0, none⟩) n cap (ps.set k fs') :: R1) w' → K undef w') : df P w (o_store tt (.pointer (some ⟨g, 0 + k * sz + off, none⟩)) v) false K := df_mop fun w1 hd => mop_mono (mm_stf (X := fun _ _ => False) (h.drawn hd) hk hK) (fun v w' h => ⟨(fun e => by cases e), h⟩) (fun _ _ h => h)
end
end Go.Proofs.YtopcnkejobomaaaGreat
namespace Go.Proofs.YtopcnkejobomaaaGreat
open Go.RowKit Go.Lib
instance {P : Program} {ts : Array TypeId} {ty : TypeId} {cs : List Bool} {k k' : IntKind} (x y : Int) : StepC P (o_builtin .max ts ty cs [.int k x, .int k' y]) True (.int k (if x < y then y else x)) := ⟨fun _ w => by simp [o_builtin, invoke, go_sem]⟩
def seenL (s : List Int) : List Value := (List.range 65).map fun (i : Nat) => .bool (decide ((i : Int) ∈ s))
theorem seenL_at (s : List Int) {i : Int} (h : 0 ≤ i ∧ i ≤ 64) : (seenL s)[i.toNat]? = some (.bool (decide (i ∈ s))) := by
  unfold seenL
  have hi : i.toNat < 65 := by omega
  simp [hi, Int.toNat_of_nonneg h.1]
theorem seenL_set (s : List Int) {i : Int} (h : 0 ≤ i ∧ i ≤ 64) : (seenL s).set i.toNat (.bool true) = seenL (i :: s) := by
  unfold seenL
  refine List.ext_getElem (by simp) fun k h1 h2 => ?_
  simp only [List.getElem_set, List.getElem_map, List.getElem_range, List.mem_cons]
  split
  · rename_i e
    have : (k : Int) = i := by omega
    simp [this]
  · rename_i e
    have : (k : Int) ≠ i := by omega
    simp [this]
theorem seenL_ok (s : List Int) : FdOk (.arr 65 (seenL s)) := ⟨by simp [Fd.cells, Fd.size, seenL], fun u hu => by
  simp only [Fd.cells, seenL, List.mem_map] at hu
  obtain ⟨_, _, rfl⟩ := hu
  rfl⟩
theorem seenL_nil : List.replicate 65 (Value.bool false) = seenL [] := rfl
theorem leavesB_drop {s : List Int} {ls : List Lf} {i : Nat} (h : i < ls.length) : leavesB s (ls.drop i) = if ls[i] = Lf.zero then leavesB s (ls.drop (i + 1)) else decide ((1 ≤ ls[i].name ∧ ls[i].name ≤ 64) ∧ ls[i].name ∉ s) && leavesB (ls[i].name :: s) (ls.drop (i + 1)) := by
  rw [List.drop_eq_getElem_cons h, leavesB]
theorem parB_drop {n : Int} {ls : List Lf} {x : Int} {ps : List Pn} {i : Nat} (h : i < ps.length) : parB n ls x (ps.drop i) = ((ps[i].set || decide ps[i].isZero) && looseB n ls x none ps[i].loose && parB n ls (x + 2) (ps.drop (i + 1))) := by
  rw [List.drop_eq_getElem_cons h, parB]
theorem looseB_drop {n : Int} {ls : List Lf} {x : Int} {o : Option Int} {l : List Int} {i : Nat} (h : i < l.length) : looseB n ls x o (l.drop i) = (decide (hld n x l[i] ∧ nameAt ls l[i] ≠ 0 ∧ ∀ q ∈ o, q < l[i]) && looseB n ls x (some l[i]) (l.drop (i + 1))) := by
  rw [List.drop_eq_getElem_cons h, looseB]
def prv (l : List Int) : Nat → Option Int
  | 0 => none
  | k + 1 => l[k]?
theorem nameAt_at {ls : List Lf} {p : Int} (h0 : 0 ≤ p) (h : p.toNat < ls.length) : nameAt ls p = ls[p.toNat].name := by
  unfold nameAt
  rw [List.getElem?_eq_getElem h]
theorem hld_rng {n x p : Int} (h : hld n x p) : 0 ≤ p ∧ p < n ∧ thr n x := by
  by_cases ht : thr n x
  · obtain ⟨-, -, -, -, -, hT, -⟩ := bough_eq ht
    have h1 : fro n x = (fd n x).1 := if_pos ht
    have h2 := (fd_eq ht).1
    have h3 : pTo n x ≤ n := by unfold pTo; rw [if_pos ht]; omega
    obtain ⟨a, b⟩ := h
    exact ⟨by omega, by omega, ht⟩
  · obtain ⟨a, b⟩ := h
    rw [fro_of ht] at a
    rw [til_of ht] at b
    omega
section
variable {H : Hp} {w0 w : World} {L : List Res} {A B : Option Addr} {a b : Nat} {t : Tr} {qs : List (List Fd)}
theorem zero_ok (p : Pn) (C : Option Addr) (c : Nat) (w : World) : Calls Tryz.prog 31 #[.agg (fl (p.row C c)).toArray] w fun en w' => en = .returned (.bool (decide p.isZero)) ∧ St w [] w' := by
  have hM := Mem.start (Fz.of w)
  refine C_tree_zero ?_
  unfold F_tree_zero
  ((with_reducible (refine mm_box hM ?_; clear hM; intro _ _ hM; refine mop_c trivial ?_; refine mm_ld hM ?_; refine mop_c trivial ?_)))
  cases hs : p.set
  · rw [Bool.not_false]
    ((with_reducible (refine mguard_yes ?_; refine mop_c trivial ?_; refine mguard_yes ?_; refine mm_ld hM ?_; refine mguard_yes ?_; refine mop_c trivial ?_; refine mguard_yes ?_)))
    ((with_reducible (refine mop_cS trivial ?_ ?_)))
    · intro h1
      ((with_reducible (refine mop_c trivial ?_; refine mguard_yes ?_; refine mop_c trivial ?_; refine mguard_yes ?_; refine mm_ld hM ?_; refine mguard_yes ?_; refine mop_c trivial ?_; refine mguard_yes ?_)))
      ((with_reducible (refine mop_cS trivial ?_ ?_)))
      · intro h2
        ((with_reducible (refine mop_c trivial ?_; refine mguard_yes ?_; refine mop_c trivial ?_; refine mguard_yes ?_; refine mm_ld hM ?_; refine mguard_yes ?_; refine mop_c trivial ?_; refine mguard_yes ?_)))
        ((with_reducible (refine mop_cS trivial ?_ ?_)))
        · intro h3
          ((with_reducible (refine mop_c trivial ?_)))
          exact ⟨by rw [decide_eq_true (show p.isZero from ⟨hs, h1, h2, List.eq_nil_of_length_eq_zero (by omega)⟩)], hM.st⟩
        · intro h3
          ((with_reducible (refine mop_c trivial ?_)))
          exact ⟨by rw [decide_eq_false (show ¬ p.isZero from fun h => h3 (by rw [h.2.2.2]; rfl))], hM.st⟩
      · intro h2
        ((with_reducible (refine mop_c trivial ?_; (iterate 4 refine mguard_n2 ?_); refine mop_c trivial ?_)))
        exact ⟨by rw [decide_eq_false (show ¬ p.isZero from fun h => h2 h.2.2.1)], hM.st⟩
    · intro h1
      ((with_reducible (refine mop_c trivial ?_; (iterate 4 refine mguard_n2 ?_); refine mop_c trivial ?_; (iterate 4 refine mguard_n2 ?_); refine mop_c trivial ?_)))
      exact ⟨by rw [decide_eq_false (show ¬ p.isZero from fun h => h1 h.2.1)], hM.st⟩
  · rw [Bool.not_true]
    ((with_reducible ((iterate 4 refine mguard_n2 ?_); refine mop_c trivial ?_; (iterate 4 refine mguard_n2 ?_); refine mop_c trivial ?_; (iterate 4 refine mguard_n2 ?_); refine mop_c trivial ?_)))
    exact ⟨by rw [decide_eq_false (show ¬ p.isZero from fun h => by rw [h.1] at hs; cases hs)], hM.st⟩
instance (p : Pn) (C : Option Addr) (c : Nat) : PurC Tryz.prog 31 [.agg (fl (p.row C c)).toArray] True (.bool (decide p.isZero)) := ⟨fun _ w => zero_ok p C c w⟩
theorem right_ok (h1 : Sl H 97 A (t.ls.map Lf.fds)) (h2 : Sl H 66 B qs) (h3 : All2 (PnF H) qs t.ps) (hl : t.ls.length ≤ maxLen) (hp : t.ps.length ≤ maxLen) (hf : Fz H w) :
    Calls Tryz.prog 8 #[tv A t.ls.length a B t.ps.length b] w fun en w' => en = .returned (.bool t.right) ∧ St w [] w' := by
  have hM := Mem.start hf
  refine C_tree_Right ?_
  unfold F_tree_Right
  have hl' : t.ls.length ≤ 9223372036854775807 := hl
  have hp' : t.ps.length ≤ 9223372036854775807 := hp
  have hq : qs.length = t.ps.length := h3.len
  have hts : t.size = t.ls.length := rfl
  ((with_reducible (refine mm_box hM ?_; clear hM; intro _ _ hM; refine mop_c trivial ?_; refine mm_ld hM ?_; refine mop_c trivial ?_)))
  rename_i g1 _
  refine ⟨fun v w' => v = .bool (!decide (t.ls.length ≤ 64 ∧ t.ps.length = t.ls.length - 1)) ∧ hM.now w', ?_, ?_⟩
  · ((with_reducible (refine mop_cS trivial ?_ ?_)))
    · intro h
      ((with_reducible ((iterate 7 refine mguard_n1 ?_); refine mop_c trivial ?_)))
      exact ⟨by rw [decide_eq_false (by omega)]; rfl, hM⟩
    · intro h
      ((with_reducible (refine mguard_yes ?_; refine mop_c trivial ?_; refine mguard_yes ?_; refine mm_ld hM ?_; refine mguard_yes ?_; refine mop_c trivial ?_; refine mguard_yes ?_; refine mop_c trivial ?_; refine mguard_yes ?_; refine mop_c ?_ ?_)); (focus omega); (with_reducible (refine mguard_yes ?_; refine mop_c trivial ?_; refine mguard_yes ?_)))
      rw [show (if (t.ls.length : Int) - 1 < 0 then 0 else (t.ls.length : Int) - 1) = ((t.ls.length - 1 : Nat) : Int) by split <;> omega]
      ((with_reducible (refine mop_cS trivial ?_ ?_)))
      · intro h4
        ((with_reducible (refine mop_c trivial ?_)))
        exact ⟨by rw [decide_eq_false (by omega)]; rfl, hM⟩
      · intro h4
        ((with_reducible (refine mop_c trivial ?_)))
        exact ⟨by rw [decide_eq_true (by omega)]; rfl, hM⟩
  rintro v u w2 ⟨rfl, hM⟩
  by_cases hsz : t.ls.length ≤ 64 ∧ t.ps.length = t.ls.length - 1
  case neg =>
    rw [decide_eq_false hsz]
    ((with_reducible (refine mif_nf ?_)))
    refine ⟨?_, hM.st⟩
    unfold Tr.right
    rw [decide_eq_false hsz]
    rfl
  rw [decide_eq_true hsz]
  ((with_reducible (refine mif_nt ?_; refine mm_new hM ?_; clear hM; intro _ _ hM; refine mop_c trivial ?_; refine mm_ld hM ?_; refine mop_c trivial ?_)))
  rename_i g2 _
  rw [seenL_nil] at hM
  refine ⟨fun v w' => ∃ (i : Nat) (s : List Int), v = .int .i64 i ∧ i ≤ t.ls.length ∧ leavesB [] t.ls = leavesB s (t.ls.drop i) ∧ Mem H w [fb g2 63 [.arr 65 (seenL s)], fb g1 25 (tfd A t.ls.length a B t.ps.length b)] w', fun v _ => match v with | .int _ k => t.ls.length - k.toNat | _ => 0, ⟨0, [], rfl, by omega, rfl, hM⟩, ?_⟩
  clear hM
  rintro v u2 w3 ⟨i, s, rfl, hi, hb, hM⟩
  have hso := seenL_ok s
  ((with_reducible (refine mop_cS trivial ?_ ?_)))
  · intro hlt
    have hdr := leavesB_drop (s := s) (ls := t.ls) (i := i) (by omega)
    ((with_reducible (refine mif_true ?_)))
    refine ⟨fun w' => ∃ s', leavesB [] t.ls = leavesB s' (t.ls.drop (i + 1)) ∧ Mem H w [fb g2 63 [.arr 65 (seenL s')], fb g1 25 (tfd A t.ls.length a B t.ps.length b)] w', ?_, ?_⟩
    · ((with_reducible refine mm_ixs ‹_› ?_ ?_ ?_); (focus (simp only [List.length_map]; omega)); (focus (simp only [List.length_map]; first | done | omega)); (with_reducible (intro _ _ hA)); (cases hA); (with_reducible refine mm_lds0 hM ‹_› (map_atI ?_) ?_); (focus omega); (with_reducible (refine mm_new hM ?_; clear hM; intro _ _ hM; refine mm_st hM ?_; clear hM; intro _ hM; refine mm_ld hM ?_; refine mop_c trivial ?_)))
      ((with_reducible (refine mop_cS trivial ?_ ?_)))
      · intro hz
        ((with_reducible (refine mif_true ?_)))
        exact ⟨s, by rw [hb, hdr, if_pos ((lf_zero _).2 hz)], hM.sub⟩
      · intro hz
        rw [if_neg (fun e => hz ((lf_zero _).1 e))] at hdr
        ((with_reducible (refine mif_false ?_)))
        refine ⟨fun v w' => v = .bool (!decide ((1 ≤ t.ls[i].name ∧ t.ls[i].name ≤ 64) ∧ t.ls[i].name ∉ s)) ∧ hM.now w', ?_, ?_⟩
        · ((with_reducible (refine mop_c trivial ?_; refine mm_ld hM ?_)))
          ((with_reducible (refine mop_cS trivial ?_ ?_)))
          · intro h
            ((with_reducible ((iterate 3 refine mguard_n1 ?_); refine mop_c trivial ?_; (iterate 4 refine mguard_n1 ?_); refine mop_c trivial ?_)))
            exact ⟨by rw [decide_eq_false (by omega)]; rfl, hM⟩
          · intro h
            ((with_reducible (refine mguard_yes ?_; refine mop_c trivial ?_; refine mguard_yes ?_; refine mm_ld hM ?_; refine mguard_yes ?_)))
            ((with_reducible (refine mop_cS trivial ?_ ?_)))
            · intro h4
              ((with_reducible (refine mop_c trivial ?_; (iterate 4 refine mguard_n1 ?_); refine mop_c trivial ?_)))
              exact ⟨by rw [decide_eq_false (by omega)]; rfl, hM⟩
            · intro h4
              have hs := seenL_at s (i := t.ls[i].name) (by omega)
              ((with_reducible (refine mop_c trivial ?_; refine mguard_yes ?_; refine mop_c trivial ?_; refine mguard_yes ?_; refine mm_ld hM ?_; refine mguard_yes ?_; refine mop_c ?_ ?_)); (focus omega); (with_reducible (refine mguard_yes ?_)))
              refine mm_ldj hM hs ?_
              ((with_reducible (refine mop_c trivial ?_)))
              exact ⟨by simp [show 1 ≤ t.ls[i].name by omega, show t.ls[i].name ≤ 64 by omega], hM⟩
        rintro v u4 w5 ⟨rfl, hM⟩
        by_cases hc : (1 ≤ t.ls[i].name ∧ t.ls[i].name ≤ 64) ∧ t.ls[i].name ∉ s
        · rw [decide_eq_true hc]
          ((with_reducible (refine mif_nt ?_; refine mop_c trivial ?_; refine mm_ld hM ?_; refine mop_c ?_ ?_)); (focus omega); (with_reducible (refine mm_sta hM ?_ ?_)); (focus omega); (with_reducible (clear hM; intro _ hM)))
          rw [seenL_set s (by omega)] at hM
          exact ⟨t.ls[i].name :: s, by rw [hb, hdr, decide_eq_true hc, Bool.true_and], hM.sub⟩
        · rw [decide_eq_false hc]
          ((with_reducible (refine mif_nf ?_)))
          refine ⟨?_, hM.st⟩
          unfold Tr.right
          rw [hb, hdr, decide_eq_false hc]
          simp
    · rintro u3 w4 ⟨s', hb', hM⟩
      ((with_reducible (refine mop_c ?_ ?_)); (focus omega))
      exact ⟨⟨i + 1, s', rfl, by omega, hb', hM⟩, by simp only; omega⟩
  · intro hge
    have hls : leavesB [] t.ls = true := by
      rw [hb, List.drop_eq_nil_of_le (by omega)]
      rfl
    ((with_reducible (refine mif_false ?_; refine mop_c trivial ?_; refine mm_ld hM ?_; refine mop_c trivial ?_)))
    have hM := hM.at_ (fb g1 25 (tfd A t.ls.length a B t.ps.length b))
    refine ⟨fun v w' => ∃ i : Nat, v = .int .i64 i ∧ i ≤ t.ps.length ∧ parB t.size t.ls 1 t.ps = parB t.size t.ls (2 * i + 1) (t.ps.drop i) ∧ Mem H w [fb g1 25 (tfd A t.ls.length a B t.ps.length b)] w', fun v _ => match v with | .int _ k => t.ps.length - k.toNat | _ => 0, ⟨0, rfl, by omega, rfl, hM.sub⟩, ?_⟩
    clear hM hi hb hge hso
    rintro v u5 w5 ⟨i, rfl, hi, hb, hM⟩
    ((with_reducible (refine mop_cS trivial ?_ ?_)))
    · intro hlt
      obtain ⟨p, hpe⟩ : ∃ p, t.ps[i] = p := ⟨_, rfl⟩
      obtain ⟨q, hq1, C, c, rfl, hC, hcl⟩ := h3.at_ (i := i) (by omega)
      have hdr := parB_drop (n := t.size) (ls := t.ls) (x := 2 * i + 1) (ps := t.ps) (i := i) (by omega)
      rw [hpe] at hq1 hC hcl hdr
      have hcl' : p.loose.length ≤ 9223372036854775807 := hcl
      ((with_reducible (refine mif_true ?_)))
      refine mm_ixs h2 (by omega) hq.symm (fun bb oo hB => ?_)
      cases hB
      refine mm_lds0 hM h2 hq1 ?_
      ((with_reducible (refine mm_new hM ?_; clear hM; intro _ _ hM; refine mm_st hM ?_; clear hM; intro _ hM)))
      rename_i g3 _ _
      refine ⟨fun v w' => v = .bool (!(p.set || decide p.isZero)) ∧ hM.now w', ?_, ?_⟩
      · ((with_reducible (refine mop_c trivial ?_; refine mm_ld hM ?_; refine mop_c trivial ?_)))
        rcases Bool.eq_false_or_eq_true p.set with hs | hs
        · have e : (!p.set) = false := by rw [hs]; rfl
          rw [e]
          ((with_reducible ((iterate 3 refine mguard_n2 ?_); refine mop_c trivial ?_)))
          exact ⟨by rw [hs, Bool.true_or]; rfl, hM⟩
        · have e : (!p.set) = true := by rw [hs]; rfl
          rw [e]
          ((with_reducible (refine mguard_yes ?_; refine mm_ld hM ?_; refine mguard_yes ?_; refine mm_purC hM ?_ (fun _ hM2 => ?_))); (focus (first | exact trivial | assumption | omega)); (with_reducible (replace hM := hM2; clear hM2; refine mguard_yes ?_; refine mop_c trivial ?_; refine mop_c trivial ?_)))
          exact ⟨by rw [hs, Bool.false_or], hM⟩
      rintro v u6 w6 ⟨rfl, hM⟩
      cases hz : (p.set || decide p.isZero)
      · rw [Bool.not_false]
        ((with_reducible (refine mif_true ?_)))
        refine ⟨?_, hM.st⟩
        unfold Tr.right
        rw [hb, hdr, hz]
        simp
      rw [hz, Bool.true_and] at hdr
      rw [Bool.not_true]
      ((with_reducible (refine mif_false ?_; refine mop_c trivial ?_; refine mm_ld hM ?_; refine mop_c trivial ?_)))
      refine ⟨fun v w' => ∃ k : Nat, v = .int .i64 k ∧ k ≤ p.loose.length ∧ looseB t.size t.ls (2 * i + 1) none p.loose = looseB t.size t.ls (2 * i + 1) (prv p.loose k) (p.loose.drop k) ∧ hM.now w', fun v _ => match v with | .int _ k => p.loose.length - k.toNat | _ => 0, ⟨0, rfl, by omega, rfl, hM⟩, ?_⟩
      rintro v u7 w7 ⟨k, rfl, hk, hlb, hM⟩
      ((with_reducible (refine mop_cS trivial ?_ ?_)))
      · intro hlt2
        obtain ⟨x, hx⟩ : ∃ x, p.loose[k] = x := ⟨_, rfl⟩
        have hdl := looseB_drop (n := t.size) (ls := t.ls) (x := 2 * i + 1) (o := prv p.loose k) (l := p.loose) (i := k) (by omega)
        rw [hx] at hdl
        ((with_reducible (refine mif_true ?_)); (with_reducible refine mm_ixs ‹_› ?_ ?_ ?_); (focus (simp only [List.length_map]; omega)); (focus (simp only [List.length_map]; first | done | omega)); (with_reducible (intro _ _ hA)); (cases hA); (with_reducible refine mm_lds0 hM ‹_› (map_atI ?_) ?_); (focus omega))
        rw [hx]
        refine ⟨fun v w' => v = .bool (!decide (hld t.size (2 * i + 1) x ∧ nameAt t.ls x ≠ 0 ∧ ∀ q ∈ prv p.loose k, q < x)) ∧ hM.now w', ?_, ?_⟩
        · ((with_reducible (refine mop_c ?_ ?_)); (focus omega); (with_reducible (refine mop_c ?_ ?_)); (focus omega); (with_reducible (refine mm_purC hM ?_ (fun _ hM2 => ?_))); (focus (first | exact trivial | assumption | omega)); (with_reducible (replace hM := hM2; clear hM2; refine mop_c trivial ?_)))
          by_cases hh : hld t.size (2 * i + 1) x
          · obtain ⟨r1, r2, -⟩ := hld_rng hh
            have hna := nameAt_at (ls := t.ls) (p := x) r1 (by omega)
            rw [decide_eq_true hh, Bool.not_true]
            ((with_reducible (refine mguard_yes ?_; refine mop_c trivial ?_; refine mguard_yes ?_; refine mm_ld hM ?_; refine mguard_yes ?_; refine mop_c trivial ?_; refine mguard_yes ?_)); (with_reducible refine mm_ixs ‹_› ?_ ?_ ?_); (focus (simp only [List.length_map]; omega)); (focus (simp only [List.length_map]; first | done | omega)); (with_reducible (intro _ _ hA)); (cases hA); (with_reducible (refine mguard_yes ?_; refine mop_c trivial ?_; refine mguard_yes ?_)); (with_reducible refine mm_lds hM ‹_› (map_at ?_) ?_); (focus omega); (with_reducible (refine mguard_yes ?_)))
            rw [← hna]
            ((with_reducible (refine mop_cS trivial ?_ ?_)))
            · intro h5
              ((with_reducible (refine mop_c trivial ?_; (iterate 3 refine mguard_n1 ?_); (iterate 8 refine mguard_un ?_); refine mguard_n1 ?_; refine mop_c trivial ?_)))
              exact ⟨by rw [decide_eq_false (fun h => h.2.1 h5)]; rfl, hM⟩
            · intro h5
              cases k with
              | zero =>
                ((with_reducible (refine mop_c trivial ?_; refine mguard_yes ?_; refine mop_c trivial ?_; refine mguard_yes ?_; refine mop_cF trivial ?_ ?_)); (focus (first | assumption | omega | with_reducible rfl | exact fun h => Bool.noConfusion h)); (with_reducible (refine mguard_yes ?_; refine mop_c trivial ?_; (iterate 8 refine mguard_n2 ?_); refine mguard_yes ?_; refine mop_c trivial ?_; refine mop_c trivial ?_)))
                exact ⟨by rw [decide_eq_true ⟨hh, h5, by simp [prv]⟩]; rfl, hM⟩
              | succ k =>
                have hix : (((k + 1 : Nat) : Int) - 1).toNat = k := by omega
                have hpv : prv p.loose (k + 1) = some p.loose[k] := List.getElem?_eq_getElem (by omega)
                ((with_reducible (refine mop_c trivial ?_; refine mguard_yes ?_; refine mop_c trivial ?_; refine mguard_yes ?_; refine mop_cT trivial ?_ ?_)); (focus (first | assumption | omega | with_reducible rfl | exact fun h => Bool.noConfusion h)); (with_reducible (refine mguard_yes ?_; refine mop_c trivial ?_; refine mguard_yes ?_; refine mop_c trivial ?_; refine mguard_yes ?_; refine mop_c trivial ?_; refine mguard_yes ?_; refine mm_ld hM ?_; refine mguard_yes ?_; refine mop_c trivial ?_; refine mguard_yes ?_; refine mop_c ?_ ?_)); (focus omega); (with_reducible (refine mguard_yes ?_)); (with_reducible refine mm_ixs ‹_› ?_ ?_ ?_); (focus (simp only [List.length_map]; omega)); (focus (simp only [List.length_map]; first | done | omega)); (with_reducible (intro _ _ hA)); (cases hA); (with_reducible (refine mguard_yes ?_)); (with_reducible refine mm_lds0 hM ‹_› (map_at ?_) ?_); (focus omega); (with_reducible (refine mguard_yes ?_)))
                ((with_reducible (refine mop_cS trivial ?_ ?_)))
                · intro h6
                  simp only [hix] at h6
                  ((with_reducible (refine mguard_yes ?_; refine mop_c trivial ?_; refine mop_c trivial ?_)))
                  exact ⟨by rw [decide_eq_false (fun h => by have := h.2.2 _ hpv; omega)]; rfl, hM⟩
                · intro h6
                  simp only [hix] at h6
                  ((with_reducible (refine mguard_yes ?_; refine mop_c trivial ?_; refine mop_c trivial ?_)))
                  exact ⟨by rw [decide_eq_true ⟨hh, h5, fun q hq => by rw [hpv] at hq; cases hq; omega⟩]; rfl, hM⟩
          · rw [decide_eq_false hh, Bool.not_false]
            ((with_reducible ((iterate 7 refine mguard_n1 ?_); refine mop_c trivial ?_; (iterate 3 refine mguard_n1 ?_); (iterate 8 refine mguard_un ?_); refine mguard_n1 ?_; refine mop_c trivial ?_)))
            exact ⟨by rw [decide_eq_false (fun h => hh h.1)]; rfl, hM⟩
        rintro v u8 w8 ⟨rfl, hM⟩
        by_cases hc : hld t.size (2 * i + 1) x ∧ nameAt t.ls x ≠ 0 ∧ ∀ q ∈ prv p.loose k, q < x
        · rw [decide_eq_true hc, Bool.not_true]
          rw [decide_eq_true hc, Bool.true_and] at hdl
          ((with_reducible (refine mif_false ?_; refine mop_c ?_ ?_)); (focus omega))
          refine ⟨⟨k + 1, rfl, by omega, ?_, hM⟩, by simp only; omega⟩
          rw [hlb, hdl, prv, List.getElem?_eq_getElem (by omega), hx]
        · rw [decide_eq_false hc, Bool.not_false]
          ((with_reducible (refine mif_true ?_)))
          refine ⟨?_, hM.st⟩
          unfold Tr.right
          rw [hb, hdr, hlb, hdl, decide_eq_false hc]
          simp
      · intro hge2
        have hl2 : looseB t.size t.ls (2 * i + 1) none p.loose = true := by
          rw [hlb, List.drop_eq_nil_of_le (by omega)]
          rfl
        rw [hl2, Bool.true_and] at hdr
        ((with_reducible (refine mif_false ?_; refine mop_c ?_ ?_)); (focus omega))
        refine ⟨⟨i + 1, rfl, by omega, ?_, hM.sub⟩, by simp only; omega⟩
        rw [hb, hdr]
        congr 1
    · intro hge
      have hps : parB t.size t.ls 1 t.ps = true := by
        rw [hb, List.drop_eq_nil_of_le (by omega)]
        rfl
      have hR : t.right = decide (t.ls = [] ∨ 0 < nameAt t.ls (t.size - 1)) := by
        unfold Tr.right
        rw [hls, hps, decide_eq_true hsz]
        simp
      ((with_reducible (refine mif_false ?_)))
      ((with_reducible (refine mop_cS trivial ?_ ?_)))
      · intro h0
        ((with_reducible ((iterate 8 refine mguard_n1 ?_); refine mop_c trivial ?_)))
        exact ⟨by rw [hR, decide_eq_true (.inl (List.eq_nil_of_length_eq_zero (by omega)))], hM.st⟩
      · intro h0
        ((with_reducible (refine mguard_yes ?_; refine mop_c trivial ?_; refine mguard_yes ?_; refine mm_ld hM ?_; refine mguard_yes ?_; refine mop_c trivial ?_; refine mguard_yes ?_; refine mop_c ?_ ?_)); (focus omega); (with_reducible (refine mguard_yes ?_)); (with_reducible refine mm_ixs ‹_› ?_ ?_ ?_); (focus (simp only [List.length_map]; omega)); (focus (simp only [List.length_map]; first | done | omega)); (with_reducible (intro _ _ hA)); (cases hA); (with_reducible (refine mguard_yes ?_; refine mop_c trivial ?_; refine mguard_yes ?_)); (with_reducible refine mm_lds hM ‹_› (map_at ?_) ?_); (focus omega); (with_reducible (refine mguard_yes ?_)))
        rw [← nameAt_at (ls := t.ls) (p := (t.ls.length : Int) - 1) (by omega) (by omega)]
        ((with_reducible (refine mop_cS trivial ?_ ?_)))
        · intro h9
          ((with_reducible (refine mop_c trivial ?_)))
          exact ⟨by rw [hR, decide_eq_true (.inr h9)], hM.st⟩
        · intro h9
          ((with_reducible (refine mop_c trivial ?_)))
          exact ⟨by rw [hR, decide_eq_false (fun h => h.elim (fun h => h0 (by rw [h]; rfl)) h9)], hM.st⟩
end
end Go.Proofs.YtopcnkejobomaaaGreat
namespace Go.Proofs.YtopcnkejobomaaaGreat
open Go.RowKit
theorem dir_cands {n l : Int} (h : 0 ≤ l ∧ l < n ∧ n ≤ 64) : dirL n l = cands n.toNat l.toNat := by
  have := dir_fin ⟨n.toNat, by omega⟩ ⟨l.toNat, by omega⟩ (by simp only; omega)
  simpa only [Int.toNat_of_nonneg h.1, Int.toNat_of_nonneg (show 0 ≤ n by omega)] using this
theorem mem_cands {n l : Nat} {x : Int} : x ∈ cands n l ↔ ∃ k, (1 ≤ k ∧ k ≤ 6) ∧ cand k l = x ∧ x ≤ 2 * n - 2 := by
  unfold cands
  simp only [List.mem_filter, List.mem_map, decide_eq_true_eq]
  constructor
  · rintro ⟨⟨k, hk, rfl⟩, h⟩
    exact ⟨k, by simp at hk; omega, rfl, h⟩
  · rintro ⟨k, hk, rfl, h⟩
    refine ⟨⟨k, ?_, rfl⟩, h⟩
    simp only [List.mem_cons, List.not_mem_nil, or_false]
    omega
theorem cand_eq {k l : Nat} (hk : 1 ≤ k ∧ k ≤ 6) (hl : l < 64) : cand k l % 2 = 1 ∧ 0 ≤ cand k l ∧ cand k l < 127 ∧ level (cand k l) = k := cand_fin ⟨k, by omega⟩ ⟨l, hl⟩ hk.1
theorem dir_mem {n l x : Int} (h : n ≤ 64) (hx : x ∈ dirL n l) : (0 ≤ l ∧ l < n) ∧ x = 2 * (x / 2) + 1 ∧ 0 ≤ x / 2 ∧ x / 2 + 1 < n := by
  by_cases hl : 0 ≤ l ∧ l < n
  · rw [dir_cands ⟨hl.1, hl.2, h⟩, mem_cands] at hx
    obtain ⟨k, hk, rfl, hle⟩ := hx
    obtain ⟨h1, h2, -⟩ := cand_eq (l := l.toNat) hk (by omega)
    refine ⟨hl, ?_⟩
    have : ((n.toNat : Nat) : Int) = n := Int.toNat_of_nonneg (by omega)
    omega
  · unfold dirL at hx
    rw [if_neg hl] at hx
    cases hx
theorem dir_nodup {n l : Int} (h : n ≤ 64) : (dirL n l).Nodup := by
  by_cases hl : 0 ≤ l ∧ l < n
  · rw [dir_cands ⟨hl.1, hl.2, h⟩]
    unfold cands
    have hc : ∀ k, 1 ≤ k → k ≤ 6 → level (cand k l.toNat) = k := fun k h1 h2 => (cand_eq (l := l.toNat) ⟨h1, h2⟩ (by omega)).2.2.2
    have hne : ∀ a b : Nat, 1 ≤ a → a ≤ 6 → 1 ≤ b → b ≤ 6 → a ≠ b → cand a l.toNat ≠ cand b l.toNat := fun a b h1 h2 h3 h4 hn e => by
      have := hc a h1 h2
      rw [e, hc b h3 h4] at this
      omega
    have hm : ([1, 2, 3, 4, 5, 6].map fun k => cand k l.toNat).Nodup := by
      simp only [List.map_cons, List.map_nil, List.nodup_cons, List.mem_cons, List.not_mem_nil, or_false, not_or, not_false_eq_true, List.nodup_nil, and_true]
      refine ⟨⟨?_, ?_, ?_, ?_, ?_⟩, ⟨?_, ?_, ?_, ?_⟩, ⟨?_, ?_, ?_⟩, ⟨?_, ?_⟩, ?_⟩ <;> exact hne _ _ (by omega) (by omega) (by omega) (by omega) (by omega)
    exact List.Pairwise.filter _ hm
  · unfold dirL
    rw [if_neg hl]
    exact List.nodup_nil
def fix {α : Type} (f : α → Bool) (l : List α) : Int := if l.findIdx f < l.length then (l.findIdx f : Int) else -1
theorem findIdx_at {α : Type} {f : α → Bool} {l : List α} {i : Nat} (h : i < l.length) (hb : ∀ j (hj : j < l.length), j < i → f l[j] = false) (ht : f l[i] = true) : l.findIdx f = i := by
  rw [List.findIdx_eq h]
  exact ⟨ht, fun j hj => by simpa using hb j (by omega) hj⟩
theorem findIdx_none {α : Type} {f : α → Bool} {l : List α} (hb : ∀ j (hj : j < l.length), f l[j] = false) : l.findIdx f = l.length := by
  rw [List.findIdx_eq_length]
  intro x hx
  obtain ⟨j, hj, rfl⟩ := List.getElem_of_mem hx
  simpa using hb j hj
theorem fix_at {α : Type} {f : α → Bool} {l : List α} {i : Nat} (h : i < l.length) (hb : ∀ j (hj : j < l.length), j < i → f l[j] = false) (ht : f l[i] = true) : fix f l = i := by
  unfold fix
  rw [findIdx_at h hb ht, if_pos h]
theorem fix_none {α : Type} {f : α → Bool} {l : List α} (hb : ∀ j (hj : j < l.length), f l[j] = false) : fix f l = -1 := by
  unfold fix
  rw [findIdx_none hb, if_neg (by omega)]
def Tr.place (t : Tr) (name : Int) : Int := if name < 1 then -1 else fix (fun l => decide (l.name = name)) t.ls
def Tr.sound (t : Tr) : Tr := if t.right then t else Tr.none
def bs' (l : List Int) (x : Int) : Nat := l.findIdx (fun y => decide (x ≤ y))
def ins (l : List Int) (x : Int) : List Int := l.take (bs' l x) ++ x :: l.drop (bs' l x)
theorem looseB_spec {n : Int} {ls : List Lf} {x : Int} : ∀ {o : Option Int} {l : List Int}, looseB n ls x o l = true → (∀ p ∈ l, hld n x p ∧ nameAt ls p ≠ 0 ∧ ∀ q ∈ o, q < p) ∧ l.Pairwise (· < ·)
  | _, [], _ => ⟨fun _ h => (by cases h), .nil⟩
  | o, p :: r, h => by
    simp only [looseB, Bool.and_eq_true, decide_eq_true_eq] at h
    obtain ⟨h1, h2⟩ := h
    obtain ⟨h3, h4⟩ := looseB_spec h2
    refine ⟨fun y hy => ?_, .cons (fun y hy => (h3 y hy).2.2 p rfl) h4⟩
    rcases List.mem_cons.1 hy with rfl | hy
    · exact h1
    · obtain ⟨a, b, c⟩ := h3 y hy
      exact ⟨a, b, fun q hq => by have := h1.2.2 q hq; have := c p rfl; omega⟩
theorem parB_spec {n : Int} {ls : List Lf} : ∀ {x : Int} {ps : List Pn}, parB n ls x ps = true → ∀ i (hi : i < ps.length), (ps[i].set = true ∨ ps[i].isZero) ∧ looseB n ls (x + 2 * i) none ps[i].loose = true
  | _, [], _, i, hi => by cases hi
  | x, p :: r, h, i, hi => by
    simp only [parB, Bool.and_eq_true, Bool.or_eq_true, decide_eq_true_eq] at h
    cases i with
    | zero => simpa using h.1
    | succ i =>
      have := parB_spec h.2 i (by simpa using hi)
      have e : x + 2 * ((i + 1 : Nat) : Int) = x + 2 + 2 * (i : Int) := by omega
      rw [e]
      simpa using this
theorem leavesB_spec : ∀ {s : List Int} {ls : List Lf}, leavesB s ls = true → ∀ l ∈ ls, l = Lf.zero ∨ (1 ≤ l.name ∧ l.name ≤ 64)
  | _, [], _, _, h => by cases h
  | s, l :: r, h, x, hx => by
    unfold leavesB at h
    split at h
    · rename_i hz
      rcases List.mem_cons.1 hx with rfl | hx
      · exact .inl hz
      · exact leavesB_spec h x hx
    · simp only [Bool.and_eq_true, decide_eq_true_eq] at h
      rcases List.mem_cons.1 hx with rfl | hx
      · exact .inr h.1.1
      · exact leavesB_spec h.2 x hx
structure Tr.Rt (t : Tr) : Prop where
  len : t.ls.length ≤ 64 ∧ t.ps.length = t.ls.length - 1
  leaves : leavesB [] t.ls = true
  par : parB t.size t.ls 1 t.ps = true
  last : t.ls = [] ∨ 0 < nameAt t.ls (t.size - 1)
theorem Tr.rt {t : Tr} : t.right = true ↔ t.Rt := by
  unfold Tr.right
  simp only [Bool.and_eq_true, decide_eq_true_eq]
  exact ⟨fun ⟨⟨⟨a, b⟩, c⟩, d⟩ => ⟨a, b, c, d⟩, fun ⟨a, b, c, d⟩ => ⟨⟨⟨a, b⟩, c⟩, d⟩⟩
theorem Lf.zero_name {l : Lf} (h : l = Lf.zero ∨ (1 ≤ l.name ∧ l.name ≤ 64)) : l = Lf.zero ↔ l.name = 0 := by
  constructor
  · rintro rfl
    rfl
  · intro e
    exact h.resolve_right (by omega)
def Tr.gap (t : Tr) : Nat := t.ls.findIdx fun l => decide (l.name = 0)
theorem Tr.gap_le (t : Tr) : t.gap ≤ t.ls.length := List.findIdx_le_length
theorem Tr.Rt.gap_eq {t : Tr} (h : t.Rt) : (t.ls.findIdx fun l => decide (l = Lf.zero)) = t.gap := by
  have := leavesB_spec h.leaves
  unfold Tr.gap
  revert this
  generalize t.ls = ls
  intro hl
  induction ls with
  | nil => rfl
  | cons l r ih =>
    rw [List.findIdx_cons, List.findIdx_cons, ih fun x hx => hl x (List.mem_cons_of_mem _ hx)]
    simp only [Lf.zero_name (hl l (List.mem_cons_self ..))]
def addL (t : Tr) (l : Lf) : List Lf := (if t.gap = t.ls.length then t.ls ++ [l] else t.ls).set t.gap l
def addPs (t : Tr) : List Pn := if t.gap = t.ls.length ∧ 0 < t.gap then t.ps ++ [Pn.zero] else t.ps
theorem addL_len (t : Tr) (l : Lf) : (addL t l).length = if t.gap = t.ls.length then t.ls.length + 1 else t.ls.length := by
  unfold addL
  split <;> simp
def updA (x : Int) (p : Pn) : Pn := if p.set = true then { p with loose := ins p.loose x } else p
def onDir (f : Pn → Pn) (D : List Int) (ps : List Pn) : List Pn := D.foldl (fun ps x => ps.modify (x / 2).toNat f) ps
def Tr.addP (t : Tr) (l : Lf) : Tr × Int × Int :=
  if ¬ t.right = true ∨ l.name < 1 ∨ 64 < l.name then (Tr.none, 0, 1) else if 0 ≤ t.place l.name then (Tr.none, 0, 8) else if t.gap = t.ls.length ∧ t.gap = 64 then (Tr.none, 0, 9) else
  (⟨addL t l, onDir (updA t.gap) (dirL (addL t l).length t.gap) (addPs t)⟩, t.gap, 0)
theorem onDir_eq {f : Pn → Pn} : ∀ {D : List Int} {ps : List Pn}, D.Nodup → (∀ x ∈ D, x = 2 * (x / 2) + 1 ∧ 0 ≤ x / 2) → onDir f D ps = ps.mapIdx fun i p => if 2 * (i : Int) + 1 ∈ D then f p else p
  | [], ps, _, _ => by
    unfold onDir
    refine List.ext_getElem (by simp) fun i h1 h2 => ?_
    simp
  | x :: D, ps, hn, hD => by
    have hn' := List.nodup_cons.1 hn
    have ih := onDir_eq (f := f) (D := D) (ps := ps.modify (x / 2).toNat f) hn'.2 fun y hy => hD y (List.mem_cons_of_mem _ hy)
    have hx := hD x (List.mem_cons_self ..)
    unfold onDir at ih ⊢
    rw [List.foldl_cons, ih]
    refine List.ext_getElem (by simp) fun i h1 h2 => ?_
    simp only [List.getElem_mapIdx, List.getElem_modify, List.mem_cons]
    by_cases e : (x / 2).toNat = i
    · have e2 : 2 * (i : Int) + 1 = x := by omega
      rw [if_pos e, if_neg (by rw [e2]; exact hn'.1), if_pos (.inl e2)]
    · have e2 : ¬ 2 * (i : Int) + 1 = x := by omega
      rw [if_neg e]
      simp only [e2, false_or]
theorem addPs_len {t : Tr} (h : t.Rt) (l : Lf) : ((addPs t).length : Int) + 1 = (addL t l).length := by
  have := t.gap_le
  have := h.len
  rw [addL_len]
  unfold addPs
  by_cases h1 : t.gap = t.ls.length
  · rw [if_pos h1]
    by_cases h2 : 0 < t.gap
    · rw [if_pos ⟨h1, h2⟩, List.length_append]
      simp
      omega
    · rw [if_neg (fun h => h2 h.2)]
      omega
  · rw [if_neg h1, if_neg (fun h => h1 h.1)]
    omega
def Tr.nobody (t : Tr) (p : Int) : Prop := (p < 0 ∨ t.size ≤ p) ∨ nameAt t.ls p = 0
instance (t : Tr) (p : Int) : Decidable (t.nobody p) := by unfold Tr.nobody; infer_instance
def blankP (n p : Int) (ps : List Pn) : List Pn := onDir (fun _ => Pn.zero) (dirL n p) ps
def keepN (ls : List Lf) : Nat → Nat
  | 0 => 0
  | n + 1 => if nameAt ls n = 0 then keepN ls n else n + 1
def cut (ls : List Lf) (ps : List Pn) : Tr := ⟨ls.take (keepN ls ls.length), ps.take (keepN ls ls.length - 1)⟩
def Tr.remP (t : Tr) (p : Int) : Tr × Int := if ¬ t.right = true then (Tr.none, 1) else if t.nobody p then (Tr.none, 7) else (cut (t.ls.set p.toNat Lf.zero) (blankP t.size p t.ps), 0)
def Lf.key (l : Lf) (pub abv : H32) : Lf := ⟨l.name, pub, l.ver, abv⟩
end Go.Proofs.YtopcnkejobomaaaGreat
namespace Go.Proofs.YtopcnkejobomaaaGreat
open Go.RowKit Go.Lib
def bk (g e : Nat) (cs : List Value) : Res := fun B => B = [⟨g, e, cs, true⟩]
class AtK (L : List Res) (g : Nat) (e : outParam Nat) (cs : outParam (List Value)) (R : outParam (List Res)) : Prop where
  perm : L.Perm (bk g e cs :: R)
instance (L : List Res) (g e : Nat) (cs : List Value) : AtK (bk g e cs :: L) g e cs L := ⟨.refl _⟩
instance (priority := 900) (L R : List Res) (g e : Nat) (cs : List Value) (x : Res) [h : AtK L g e cs R] : AtK (x :: L) g e cs (x :: R) := ⟨(h.perm.cons x).trans (.swap ..)⟩
section
variable {P : Program} {H : Hp} {w0 w : World} {L R : List Res} {n cap e sz by_ g : Nat} {t : TypeId} {A : Option Addr} {ps : List (List Fd)} {cs : List Value} {X : List PanicEntry → World → Prop} {K : Value → World → Prop}
theorem Mem.raw (h : Mem H w0 L w) [k : AtA L (some ⟨g, 0, none⟩) n cap e sz ps R] : ∃ sp, (fls ps ++ sp).length = cap * sz ∧ n ≤ cap ∧ cap ≤ maxLen ∧ Els sz ps ∧ ps.length = n ∧ Mem H w0 (bk g e (fls ps ++ sp) :: R) w := by
  obtain ⟨B, ⟨B1, B2, rfl, ⟨h1, h2, h3⟩, h4⟩, hs', hb⟩ := (h.perm k.perm).own
  rcases h3 with ⟨hA, _⟩ | ⟨g', sp, hA, rfl, h5, h6, h7⟩
  · cases hA
  · cases hA
    exact ⟨sp, h5, h6, h7, h1, h2, ⟨_, ⟨_, B2, rfl, rfl, h4⟩, hs', hb⟩, h.fz⟩
theorem Mem.unraw {sp : List Value} (h : Mem H w0 (bk g e (fls ps ++ sp) :: R) w) (h1 : Els sz ps) (h2 : ps.length = n) (h5 : (fls ps ++ sp).length = cap * sz) (h6 : n ≤ cap) (h7 : cap ≤ maxLen) : Mem H w0 (rowR e sz (some ⟨g, 0, none⟩) n cap ps :: R) w := by
  obtain ⟨B, ⟨B1, B2, rfl, rfl, h4⟩, hs', hb⟩ := h.own
  exact ⟨⟨_, ⟨_, B2, rfl, ⟨h1, h2, .inr ⟨g, sp, rfl, rfl, h5, h6, h7⟩⟩, h4⟩, hs', hb⟩, h.fz⟩
theorem Mem.bkBlf (h : Mem H w0 L w) [k : AtK L g e cs R] : Blf w g e cs := by
  obtain ⟨B, ⟨B1, B2, rfl, rfl, _⟩, hs, _⟩ := (h.perm k.perm).own
  exact (hs.own ⟨g, e, cs, true⟩ (by simp)).blf
theorem Mem.setBk {cs' : List Value} (h : Mem H w0 (bk g e cs :: R) w) (hl : cs'.length = cs.length) : Mem H w0 (bk g e cs' :: R) (w.setRow g cs'.toArray) := by
  obtain ⟨B, ⟨B1, B2, rfl, rfl, h4⟩, hs, hb⟩ := h.own
  have hs' : St w0 (⟨g, e, cs, true⟩ :: B2) w := hs
  have hgg := hb ⟨g, e, cs, true⟩ (by simp)
  refine ⟨⟨_, ⟨[⟨g, e, cs', true⟩], B2, rfl, rfl, h4⟩, hs'.setRow hl, fun b hm => ?_⟩, h.fz.same fun b c hc => setRow_other w g b _ ?_⟩
  · rcases List.mem_cons.1 hm with rfl | hm
    · exact ⟨rfl, hgg.2⟩
    · exact hb b (List.mem_append.2 (.inr hm))
  · rintro rfl
    have := hgg.2
    simp only [hc] at this
    cases this
theorem Mem.allocBk (h : Mem H w0 L w) (e : TypeId) (cs : List Value) : Mem H w0 (bk w.heap.size e cs :: L) (w.alloc (.cells cs.toArray e)) := by
  obtain ⟨B, hl, hs', hb'⟩ := h.own
  refine ⟨⟨⟨w.heap.size, e, cs, true⟩ :: B, ⟨[⟨w.heap.size, e, cs, true⟩], B, rfl, rfl, hl⟩, hs'.alloc e cs, fun b hm => ?_⟩, h.fz.ext ((Only.refl _ w).alloc _)⟩
  rcases List.mem_cons.1 hm with rfl | hm
  · refine ⟨rfl, ?_⟩
    cases hh : H w.heap.size with
    | none => rfl
    | some c => have := h.fz.lt hh; omega
  · exact hb' b hm
theorem run_copy_blf {o dl dc sl sc : Nat} {a : Addr} {vs : List Value} {dT sT ty e2 : TypeId} {ks : List Bool} (hb : Blf w g e cs) (hu : P.underlying dT = some (.slice e2)) (hs : (P.info? e2).map (·.size) = some 1) (hn : vs.length = min sl dl) (hsrc : ∀ j v, vs[j]? = some v → w.cell? (a.add j) = some v) (hle : o + vs.length ≤ cs.length) (h1 : ∀ v ∈ vs, v.oneCell' = true) :
    (o_builtin .copy #[dT, sT] ty ks [.slice (some ⟨g, o, none⟩) dl dc, .slice (some a) sl sc]).run P w = .ok (.value (.int .i64 vs.length)) (w.setRow g (lay cs vs o).toArray) := by
  have hl := run_loadCells_list (P := P) w a vs hsrc
  have hst := run_storeCells_blf (P := P) o vs 0 cs w hb (by omega) h1
  rw [Nat.add_zero] at hst
  have hn' : Nat.min sl dl = vs.length := hn.symm
  cases hq : P.info? e2 with
  | none => simp [hq] at hs
  | some i =>
    have hi : i.size = 1 := by simpa [hq] using hs
    simp [o_builtin, invoke, builtin, Builtin.copy_, run_underlying hu, Builtin.lenOf, Builtin.firstCells, sizeOf, typeInfo, hq, hi, hn', hl, hst, goInt]
theorem mm_cpk {o dl dc sl sc : Nat} {a : Addr} {vs : List Value} {dT sT ty e2 : TypeId} {ks : List Bool} (h : Mem H w0 L w) [c : SliC P dT e2 1 by_] [k : AtK L g e cs R] (hn : vs.length = min sl dl) (hsrc : ∀ j v, vs[j]? = some v → w.cell? (a.add j) = some v) (hle : o + vs.length ≤ cs.length) (h1 : ∀ v ∈ vs, v.oneCell' = true)
    (hk : ∀ w', Mem H w0 (bk g e (lay cs vs o) :: R) w' → K (.int .i64 vs.length) w') : mop P (o_builtin .copy #[dT, sT] ty ks [.slice (some ⟨g, o, none⟩) dl dc, .slice (some a) sl sc]) w K X := by
  obtain ⟨ht, i, z, hi, -, h3, -⟩ := sli_spec c.ok
  exact mop_run (run_copy_blf h.bkBlf ht (by simp [hi, h3]) hn hsrc hle h1) (hk _ ((h.perm k.perm).setBk (lay_length _ _ _ hle)))
theorem dm_cpk {o dl dc sl sc : Nat} {a : Addr} {vs : List Value} {dT sT ty e2 : TypeId} {ks : List Bool} (h : Mem H w0 L w) [c : SliC P dT e2 1 by_] [k : AtK L g e cs R] (hn : vs.length = min sl dl) (hsrc : ∀ w', Mem H w0 L w' → ∀ j v, vs[j]? = some v → w'.cell? (a.add j) = some v) (hle : o + vs.length ≤ cs.length) (h1 : ∀ v ∈ vs, v.oneCell' = true)
    (hk : ∀ w', Mem H w0 (bk g e (lay cs vs o) :: R) w' → K (.int .i64 vs.length) w') : df P w (o_builtin .copy #[dT, sT] ty ks [.slice (some ⟨g, o, none⟩) dl dc, .slice (some a) sl sc]) false K :=
  df_no h fun w' h' => mm_cpk h' hn (hsrc w' h') hle h1 hk
theorem mm_apz {i k c e2 : Nat} {tn ty : TypeId} {ks : List Bool} {kn : IntKind} {z : Value} (h : Mem H w0 L w) [cc : SliC P t e2 1 by_] (htn : P.underlying tn = some (.int kn)) (hz : ((P.info? e2).bind (·.zero)) = some z) (hz1 : z.cells = #[z]) [a : AtK L g e cs R] (hi : i ≤ cs.length) (hk0 : 0 < k) (hg : c < i + k) (hb : (i + k) ≤ 9223372036854775807 ∧ (i + k) * by_ ≤ 70368744177664)
    (hk : ∀ g' cap' m w', i + k + m = cap' → cap' ≤ maxLen → Mem H w0 (bk g' e2 (cs.take i ++ List.replicate (k + m) z) :: L) w' → K (.slice (some ⟨g', 0, none⟩) (i + k) cap') w') : mop P (o_builtin .append #[t, tn] ty ks [.slice (some ⟨g, 0, none⟩) i c, .int .i64 k]) w K X := by
  obtain ⟨ht, ii, zv, hii, hzz, h3, h4, h5⟩ := sli_spec cc.ok
  obtain rfl : zv = z := by simpa [hii, hzz] using hz
  have hB := h.bkBlf (g := g)
  have hold : (Builtin.firstCells ii.size i (.slice (some ⟨g, 0, none⟩) i c)).run P w.drew = .ok (cs.take i).toArray w.drew := by
    rw [h3]
    exact run_firstCells_some w.drew 1 i ⟨g, 0, none⟩ i c (cs.take i) (by rw [List.length_take]; omega) (fun j v hj => by
      rw [Addr.add_lit, Nat.zero_add]
      show w.cell? ⟨g, j, none⟩ = some v
      rw [hB.cell]
      rw [List.getElem?_take] at hj
      split at hj
      · exact hj
      · cases hj)
  have hr1 := Lib.run_append_grow_zeros w t tn ty e2 ii zv .i64 kn ht htn hii hzz (some ⟨g, 0, none⟩) i c (cs.take i) hold k hk0 (by omega) hg (by omega) (by rw [h4]; have : k * by_ ≤ (i + k) * by_ := Nat.mul_le_mul_right _ (by omega); omega) (by rw [h4]; exact growslice_fits hg (by omega))
  have hge := grownCap_ge w (i + k) c e2
  have hle := grownCap_le_maxLen w (i + k) c e2 (by simp only [maxLen]; omega)
  obtain ⟨m, hm⟩ : ∃ m, i + k + m = grownCap w (i + k) c e2 := ⟨grownCap w (i + k) c e2 - (i + k), by omega⟩
  have hzc : ∀ q, Builtin.zeroCells zv.cells q = (List.replicate q zv).toArray := fun q => by
    rw [hz1]
    refine Array.ext (by simp [Builtin.zeroCells]) fun j h1 h2 => ?_
    simp [Builtin.zeroCells, Nat.mod_one]
  refine mop_run (u := .slice (some ⟨w.heap.size, 0, none⟩) (i + k) (grownCap w (i + k) c e2)) (w' := w.drew.alloc (.cells (cs.take i ++ List.replicate (k + m) zv).toArray e2)) ?_ (hk _ _ m _ hm hle ?_)
  · simp only [o_builtin, invoke, builtin]
    rw [Sem.run_bind, hr1, Result.andThen_ok]
    have e1 : (cs.take i).toArray ++ Builtin.zeroCells zv.cells k ++ Builtin.zeroCells zv.cells (grownCap w (i + k) c e2 - (i + k)) = (cs.take i ++ List.replicate (k + m) zv).toArray := by
      rw [hzc, hzc, ← hm, Nat.add_sub_cancel_left]
      simp
    rw [e1]
    rfl
  · exact (h.drawn ⟨1, rfl⟩).allocBk e2 _
end
end Go.Proofs.YtopcnkejobomaaaGreat
namespace Go.Proofs.YtopcnkejobomaaaGreat
open Go.RowKit Go.Lib
theorem lay_mid (A X B Y : List Value) (h : X.length = Y.length) : lay (A ++ (X ++ B)) Y A.length = A ++ (Y ++ B) := by
  have := lay_in A X B Y 0 (by omega)
  rw [Nat.add_zero] at this
  rw [this]
  congr 2
  unfold lay
  rw [Nat.zero_add, List.take_zero, List.nil_append, List.drop_eq_nil_of_le (by omega), List.append_nil]
theorem lay_midN {A X B Y cs : List Value} {o : Nat} (e : cs = A ++ (X ++ B)) (ho : o = A.length) (h : X.length = Y.length) : lay cs Y o = A ++ (Y ++ B) := by
  subst e ho
  exact lay_mid A X B Y h
theorem split_drop {α : Type} (V : List α) (i : Nat) (h : i < V.length) : V = V.take i ++ ([V[i]] ++ V.drop (i + 1)) := by simp
theorem split_app {α : Type} (V : List α) (i : Nat) (h : i < V.length) : V.take i ++ ([V[i]] ++ V.drop (i + 1)) = V := (split_drop V i h).symm
theorem lay_shift (V sp : List Value) (x : Value) (i : Nat) (hi : i < V.length) (hsp : 0 < sp.length) : lay (lay (V ++ sp) (V.drop i) (i + 1)) [x] i = V.take i ++ ([x] ++ (V.drop i ++ sp.drop 1)) := by
  obtain ⟨u, sp', rfl⟩ : ∃ u r, sp = u :: r := by
    cases sp with
    | nil => simp at hsp
    | cons u r => exact ⟨u, r, rfl⟩
  have ht : (V.take i).length = i := by simp; omega
  have h1 : lay (V ++ u :: sp') (V.drop i) (i + 1) = (V.take i ++ [V[i]]) ++ (V.drop i ++ sp') := lay_midN (X := V.drop (i + 1) ++ [u]) (by
    rw [← List.append_assoc, ← List.append_assoc, List.append_assoc (V.take i), split_app V i hi, List.append_assoc]
    rfl) (by simp; omega) (by simp; omega)
  rw [h1, List.append_assoc]
  exact lay_midN (X := [V[i]]) rfl ht.symm rfl
theorem lay_grow (V : List Value) (x z : Value) (i m : Nat) (hi : i < V.length) : lay (lay (V.take i ++ List.replicate (V.length + 1 - i + m) z) [x] i) (V.drop i) (i + 1) = V.take i ++ ([x] ++ (V.drop i ++ List.replicate m z)) := by
  have ht : (V.take i).length = i := by simp; omega
  have h1 : lay (V.take i ++ List.replicate (V.length + 1 - i + m) z) [x] i = V.take i ++ ([x] ++ List.replicate (V.length - i + m) z) := lay_midN (X := [z]) (by
    rw [show V.length + 1 - i + m = V.length - i + m + 1 by omega, List.replicate_succ]
    rfl) ht.symm rfl
  rw [h1]
  refine (lay_midN (A := V.take i ++ [x]) (X := List.replicate (V.length - i) z) (B := List.replicate m z) ?_ (by simp; omega) (by simp)).trans (by simp)
  rw [List.replicate_append_replicate]
  simp
theorem vals_ints8 (l : List Int) : fls (ints8 l) = l.map (Value.int .i64) := fls_ints8 l
theorem one_vals (l : List Int) : ∀ v ∈ l.map (Value.int .i64), v.oneCell' = true := by
  intro v hv
  obtain ⟨_, _, rfl⟩ := List.mem_map.1 hv
  rfl
theorem p_sliceL {P : Program} {t : TypeId} {sz n cap : Nat} {a : Option Addr} {kk : IntKind} {ll : Int} [cs : SliS P t sz] (h0 : 0 ≤ ll) (h1 : ll ≤ n) : ∃ v, Pur P (o_slice t (.slice a n cap) (some (.int kk ll)) none none) v := ⟨_, fun w => by
  have h2 := run_slice_l (P := P) w t a n cap cs.ok.1 kk ll h0 h1
  have h3 : (sizeOf (P.elem t)).run P w = .ok sz w := run_size cs.ok.2 w
  simp only [o_slice, sv, Sem.run_bind, run_sliceAt_slice w t _ _ _ _ cs.ok.1, h2, h3, Result.andThen_ok]
  rfl⟩
instance {P : Program} (t ty : TypeId) (ks : List Bool) (a : Option Addr) (n cap : Nat) [h : IsSl P t] : StepC P (o_builtin .cap #[t] ty ks [.slice a n cap]) True (.int .i64 cap) := ⟨fun _ w => by
  obtain ⟨e, h⟩ := h.ok
  simp [o_builtin, invoke, Builtin.cap_, run_underlying h, go_sem]⟩
section
variable {H : Hp} {w0 w : World} {L R R2 : List Res} {A : Option Addr} {cap g vb e e2 : Nat} {cs cs2 : List Value} {K : Value → World → Prop} {X : List PanicEntry → World → Prop}
theorem Mem.bkNe (h : Mem H w0 L w) [k : AtK L g e cs R] [k2 : AtK R vb e2 cs2 R2] : g ≠ vb ∧ Blf w g e cs ∧ Blf w vb e2 cs2 := by
  obtain ⟨B, ⟨B1, B2, rfl, rfl, B3, B4, rfl, rfl, _⟩, hs, _⟩ := (h.perm (k.perm.trans (k2.perm.cons _))).own
  refine ⟨?_, (hs.own ⟨g, e, cs, true⟩ (by simp)).blf, (hs.own ⟨vb, e2, cs2, true⟩ (by simp)).blf⟩
  have := (List.pairwise_cons.1 hs.ne).1 ⟨vb, e2, cs2, true⟩ (by simp)
  exact this
theorem Mem.bkCell (h : Mem H w0 L w) [k : AtK L g e cs R] (j : Nat) : w.cell? ⟨g, j, none⟩ = cs[j]? := by
  rw [h.bkBlf.cell]
theorem run_ocall_ext {P : Program} {f : Nat} {w' : World} {args : List Value} {v : Value} (h : (callFunc f args.toArray).run P w = .ok (.value v) w') : (o_call (fv f) args).run P w = .ok (.value v) w' := by
  simp [o_call, fv, Deferred.ofValue, invoke, h]
theorem mm_ovl {o la ca lb cb : Nat} (h : Mem H w0 L w) [k : AtK L g 3 cs R] [k2 : AtK R vb 3 cs2 R2] (hc : cs ≠ []) (hk : K (.bool false) w) : mop Tryz.prog (o_call (fv 117) [.slice (some ⟨vb, 0, none⟩) la ca, .slice (some ⟨g, o, none⟩) lb cb]) w K X := by
  obtain ⟨hne, ⟨fr, hb, h1⟩, ⟨fr2, hb2, h2⟩⟩ := h.bkNe (g := g) (vb := vb)
  obtain rfl : fr = (0, 0) := h1.resolve_right fun h => absurd h.2 (by decide)
  obtain rfl : fr2 = (0, 0) := h2.resolve_right fun h => absurd h.2 (by decide)
  refine mop_run (run_ocall_ext ?_) hk
  rw [run_callFunc_extern Tryz.func117 (by kernel_rfl) (by kernel_rfl) (by kernel_rfl) (e := Extern.SlicesOverlaps.overlaps #[29, 29] #[4]) (by kernel_rfl)]
  show ((Extern.SlicesOverlaps.overlaps #[29, 29] #[4] #[.slice (some ⟨vb, 0, none⟩) la ca, .slice (some ⟨g, o, none⟩) lb cb]).run Tryz.prog w).andThen _ = _
  rw [Lib.run_overlaps_apart w 29 4 3 (by kernel_rfl) 1 (fun w => run_size (by kernel_rfl) w) ⟨vb, 0, none⟩ ⟨g, o, none⟩ la ca lb cb (fun e => hne e.symm) 3 3 cs2.length cs.length (by simp [World.shape?, hb2]) (by simp [World.shape?, hb]) (by cases cs with
    | nil => exact absurd rfl hc
    | cons => simp) (by simp [World.frozen?, hb2]) (by simp [World.frozen?, hb2])]
  rfl
theorem insert_ok (l : List Int) (i : Nat) (x : Int) (hi : i ≤ l.length) (hl : l.length < 1000000) (hM : Mem H w0 (rowR 3 1 A l.length cap (ints8 l) :: rowR 3 1 (some ⟨vb, 0, none⟩) 1 1 [[.one (.int .i64 x)]] :: L) w) :
    Calls Tryz.prog 76 #[.slice A l.length cap, .int .i64 i, .slice (some ⟨vb, 0, none⟩) 1 1] w fun en w' => ∃ v, en = .returned v ∧ ∃ A' cap', v = .slice A' (l.length + 1) cap' ∧ Mem H w0 (rowR 3 1 A' (l.length + 1) cap' (ints8 (l.take i ++ x :: l.drop i)) :: L) w' := by
  obtain ⟨-, hcl, hcm, -⟩ := hM.rowLen ⟨.refl _⟩
  have hcm' : cap ≤ 9223372036854775807 := hcm
  refine C_slices_Insert_int_int ?_
  unfold F_slices_Insert_int_int
  obtain ⟨v0, hv0⟩ := p_sliceL (P := Tryz.prog) (t := 29) (a := A) (n := l.length) (cap := cap) (kk := .i64) (ll := i) (by omega) (by omega)
  refine mop_pur hv0 ?_
  ((with_reducible (refine mop_c trivial ?_; refine mop_cF trivial ?_ ?_)); (focus (first | assumption | omega | with_reducible rfl | exact fun h => Bool.noConfusion h)); (with_reducible (refine mif_false ?_; refine mop_c trivial ?_)))
  ((with_reducible (refine mop_cS trivial ?_ ?_)))
  · intro he
    obtain rfl : i = l.length := by omega
    ((with_reducible (refine mif_true ?_; refine mm_appo hM ?_ ?_)); (focus omega); (with_reducible (clear hM; intro _ _ _ hM)))
    refine ⟨_, rfl, _, _, rfl, ?_⟩
    rw [List.take_length, List.drop_length, ints8_app]
    exact hM
  · intro hne
    have hlt : i < l.length := by omega
    obtain ⟨gg, rfl⟩ := hM.rowAt ⟨.refl _⟩ (by omega)
    obtain ⟨sp, h5, h6, h7, hE, hlen, hM⟩ := hM.raw (g := gg)
    obtain ⟨sp2, h52, -, -, -, -, hM⟩ := hM.raw (g := vb)
    obtain rfl : sp2 = [] := by simp [fls, fl, Fd.cells] at h52; exact h52
    rw [vals_ints8] at h5 hM
    have hone := one_vals l
    have hvl : (l.map (Value.int .i64)).length = l.length := by simp
    generalize hV : l.map (Value.int .i64) = V at *
    rw [show fls [[Fd.one (.int .i64 x)]] ++ [] = [.int .i64 x] from rfl] at hM
    have hg1 : ∀ j v, (V.drop i)[j]? = some v → (V ++ sp)[0 + (i : Int).toNat * 1 + j]? = some v := fun j v hj => by
      rw [List.getElem?_drop] at hj
      rw [show 0 + (i : Int).toNat * 1 + j = i + j by omega, List.getElem?_append_left (List.getElem?_eq_some_iff.1 hj).1]
      exact hj
    have hnil : V ++ sp ≠ [] := fun e => by
      have : (V ++ sp).length = 0 := by rw [e]; rfl
      omega
    have hone2 : ∀ v ∈ V.drop i, v.oneCell' = true := fun v hv => hone v (List.mem_of_mem_drop hv)
    have hfin : fls (ints8 (l.take i ++ x :: l.drop i)) = V.take i ++ ([.int .i64 x] ++ V.drop i) := by
      rw [vals_ints8, ← hV]
      simp
    have hels := els_ints8 (l.take i ++ x :: l.drop i)
    have hll : (ints8 (l.take i ++ x :: l.drop i)).length = l.length + 1 := by simp [ints8]; omega
    ((with_reducible (refine mif_false ?_; refine mop_c ?_ ?_)); (focus omega); (with_reducible (refine mop_c trivial ?_)))
    ((with_reducible (refine mop_cS trivial ?_ ?_)))
    · intro hroom
      ((with_reducible (refine mif_true ?_; refine mop_c ?_ ?_)); (focus omega); (with_reducible (refine mop_c ?_ ?_)); (focus omega); (with_reducible (refine mop_c ?_ ?_)); (focus omega))
      rw [show ((l.length : Int) + ((1 : Nat) : Int) - (i : Int)) = ((l.length + 1 - i : Nat) : Int) by omega, Int.toNat_natCast]
      refine mm_apz (g := gg) (z := .int .i64 0) (kn := .i64) hM (by kernel_rfl) (by kernel_rfl) rfl (by rw [List.length_append]; omega) (by omega) (by omega) ⟨by omega, by omega⟩ (fun g2 cap2 m w2 hc2 hc3 hM => ?_)
      ((with_reducible (refine mop_c ?_ ?_)); (focus omega))
      refine mm_cpk (g := g2) (vs := [.int .i64 x]) hM (by simp; omega) (fun j v hj => by rw [Addr.add_lit, Nat.zero_add, hM.bkCell (g := vb)]; exact hj) (by simp; omega) (fun v hv => by rw [List.mem_singleton.1 hv]; rfl) (fun w3 hM => ?_)
      ((with_reducible (refine dp_c ?_ ?_)); (focus omega); (with_reducible (refine dp_c ?_ ?_)); (focus omega); (with_reducible (refine dp_c ?_ ?_)); (focus omega))
      refine dm_cpk (g := g2) (vs := V.drop i) hM (by simp; omega) (fun w' hM j v hj => by rw [Addr.add_lit, hM.bkCell (g := gg)]; exact hg1 j v hj) (by rw [lay_length _ _ _ (by simp; omega)]; simp; omega) hone2 (fun w4 hM => ?_)
      ((with_reducible (refine mm_end hM ?_; clear hM; intro _ hM)))
      have hgr := lay_grow V (.int .i64 x) (.int .i64 0) i m (by omega)
      rw [show 0 + (i : Int).toNat * 1 = i by omega, show 0 + ((i : Int) + ((1 : Nat) : Int)).toNat * 1 = i + 1 by omega, List.take_append_of_le_length (by omega), show l.length + 1 - i + m = V.length + 1 - i + m by omega, hgr, ← List.append_assoc, ← List.append_assoc, List.append_assoc (V.take i), ← hfin] at hM
      have hM := hM.unraw hels hll (cap := cap2) ?_ (by omega) hc3
      refine ⟨_, rfl, some ⟨g2, 0, none⟩, cap2, ?_, hM.sub⟩
      · congr 1
        omega
      · rw [List.length_append, els_ints8 _ |>.len, hll]
        simp
        omega
    · intro hroom
      ((with_reducible (refine mif_false ?_; refine mop_c ?_ ?_)); (focus omega); (with_reducible (refine mop_c ?_ ?_)); (focus omega); (with_reducible (refine mop_c ?_ ?_)); (focus omega); (with_reducible (refine mop_c ?_ ?_)); (focus omega))
      rw [show ((l.length : Int) + ((1 : Nat) : Int)).toNat = l.length + 1 by omega, show ((i : Int) + ((1 : Nat) : Int)).toNat = i + 1 by omega]
      refine mm_ovl (g := gg) (vb := vb) hM hnil ?_
      ((with_reducible (refine mop_c trivial ?_; refine mif_true ?_; refine dp_c ?_ ?_)); (focus omega); (with_reducible (refine dp_c ?_ ?_)); (focus omega); (with_reducible (refine dp_c ?_ ?_)); (focus omega))
      refine dm_cpk (g := gg) (vs := V.drop i) hM (by simp; omega) (fun w' hM j v hj => by rw [Addr.add_lit, hM.bkCell (g := gg)]; exact hg1 j v hj) (by rw [List.length_drop]; omega) hone2 (fun w' hM => ?_)
      ((with_reducible (refine mm_end hM ?_; clear hM; intro _ hM; refine mop_c ?_ ?_)); (focus omega))
      refine mm_cpk (g := gg) (vs := [.int .i64 x]) hM (by simp; omega) (fun j v hj => by rw [Addr.add_lit, Nat.zero_add, hM.bkCell (g := vb)]; exact hj) (by rw [lay_length] <;> simp only [List.length_singleton, List.length_drop] <;> omega) (fun v hv => by rw [List.mem_singleton.1 hv]; rfl) (fun w' hM => ?_)
      skip
      have hsh := lay_shift V sp (.int .i64 x) i (by omega) (by rw [List.length_append] at h5; omega)
      rw [show 0 + (i : Int).toNat * 1 = i by omega, show 0 + ((i : Int) + ((1 : Nat) : Int)).toNat * 1 = i + 1 by omega, hsh, ← List.append_assoc, ← List.append_assoc, List.append_assoc (V.take i), ← hfin] at hM
      have hM := hM.unraw hels hll (cap := cap) ?_ (by omega) h7
      refine ⟨_, rfl, _, _, rfl, hM.sub⟩
      rw [List.length_append] at h5
      rw [List.length_append, (els_ints8 _).len, hll, List.length_drop]
      omega
theorem less_ok (a b : Int) (w : World) : Calls Tryz.prog 115 #[.int .i64 a, .int .i64 b] w fun en w' => en = .returned (.bool (decide (a < b))) ∧ St w [] w' := by
  have hM := Mem.start (Fz.of w)
  refine C_cmp_Less_int ?_
  unfold F_cmp_Less_int
  have hn : ∀ (x : Int) (w : World), Calls Tryz.prog 144 #[.int .i64 x] w fun en w' => en = .returned (.bool false) ∧ St w [] w' := fun x w => by
    have hM := Mem.start (Fz.of w)
    refine C_cmp_isNaN_int ?_
    unfold F_cmp_isNaN_int
    refine mop_cF trivial (by simp) ?_
    exact ⟨rfl, hM.st⟩
  refine mm_pure hM (hn a w) (fun w hM => ?_)
  ((with_reducible ((iterate 3 refine mguard_n2 ?_); refine mop_c trivial ?_; refine mguard_yes ?_; refine mop_c trivial ?_; refine mguard_yes ?_; refine mop_c trivial ?_; refine mguard_yes ?_)))
  ((with_reducible (refine mop_cS trivial ?_ ?_)))
  all_goals
    intro h
    ((with_reducible (refine mop_c trivial ?_)))
    exact ⟨by simp [h], hM.st⟩
instance (a b : Int) : PurC Tryz.prog 115 [.int .i64 a, .int .i64 b] True (.bool (decide (a < b))) := ⟨fun _ w => less_ok a b w⟩
theorem nan_ok (x : Int) (w : World) : Calls Tryz.prog 116 #[.int .i64 x] w fun en w' => en = .returned (.bool false) ∧ St w [] w' := by
  have hM := Mem.start (Fz.of w)
  refine C_slices_isNaN_int ?_
  unfold F_slices_isNaN_int
  refine mop_cF trivial (by simp) ?_
  exact ⟨rfl, hM.st⟩
instance (x : Int) : PurC Tryz.prog 116 [.int .i64 x] True (.bool false) := ⟨fun _ w => nan_ok x w⟩
theorem bsearch_ok {a : Nat} (l : List Int) (x : Int) (hs : l.Pairwise (· < ·)) (hl : l.length < 1000000) (h1 : Sl H 1 A (ints8 l)) (hf : Fz H w) :
    Calls Tryz.prog 75 #[.slice A l.length a, .int .i64 x] w fun en w' => (∃ b, en = .returned (.tuple #[.int .i64 (bs' l x), .bool b])) ∧ St w [] w' := by
  have hM := Mem.start hf
  refine C_slices_BinarySearch_int_int ?_
  unfold F_slices_BinarySearch_int_int
  ((with_reducible (refine mop_c trivial ?_)))
  refine ⟨fun v u w' => ∃ i j : Nat, v = .int .i64 i ∧ u = .int .i64 j ∧ i ≤ j ∧ j ≤ l.length ∧ (∀ k (hk : k < l.length), k < i → l[k] < x) ∧ (∀ k (hk : k < l.length), j ≤ k → x ≤ l[k]) ∧ hM.now w', fun v u _ => match v, u with | .int _ i, .int _ j => (j - i).toNat | _, _ => 0, ⟨0, l.length, rfl, rfl, by omega, by omega, fun k _ h => by omega, fun k h h2 => by omega, hM⟩, ?_⟩
  rintro v u i' w2 ⟨i, j, rfl, rfl, hij, hj, hlo, hhi, hM⟩
  ((with_reducible (refine mop_cS trivial ?_ ?_)))
  · intro hlt
    ((with_reducible (refine mif_true ?_; refine mop_c ?_ ?_)); (focus omega); (with_reducible (refine mop_c trivial ?_; refine mop_c ?_ ?_)); (focus omega))
    obtain ⟨m, hm⟩ : ∃ m, (i + j) / 2 = m := ⟨_, rfl⟩
    rw [show ((i : Int) + (j : Int)) % 18446744073709551616 / 2 ^ Int.toNat 1 = (m : Int) by show _ / 2 = _; omega]
    have hml : m < l.length := by omega
    ((with_reducible (refine mop_c ?_ ?_)); (focus omega); (with_reducible refine mm_ixs ‹_› ?_ ?_ ?_); (focus (simp only [List.length_map]; omega)); (focus (simp only [List.length_map]; first | done | omega)); (with_reducible (intro _ _ hA)); (cases hA); (with_reducible refine mm_lds0 hM ‹_› (map_atI ?_) ?_); (focus omega); (with_reducible (refine mm_purC hM ?_ ?_)); (focus (first | exact trivial | assumption | omega)); (with_reducible (clear hM; intro _ hM)))
    by_cases hc : l[m] < x
    · rw [decide_eq_true hc]
      ((with_reducible (refine mif_true ?_; refine mop_c ?_ ?_)); (focus omega))
      refine ⟨⟨m + 1, j, rfl, rfl, by omega, hj, fun k hk hkm => ?_, hhi, hM⟩, by simp only; omega⟩
      rcases Nat.lt_or_ge k m with h | h
      · have := List.pairwise_iff_getElem.1 hs k m hk hml h
        omega
      · obtain rfl : k = m := by omega
        exact hc
    · rw [decide_eq_false hc]
      ((with_reducible (refine mif_false ?_)))
      refine ⟨⟨i, m, rfl, rfl, by omega, by omega, hlo, fun k hk hkm => ?_, hM⟩, by simp only; omega⟩
      rcases Nat.lt_or_ge m k with h | h
      · have := List.pairwise_iff_getElem.1 hs m k hml hk h
        omega
      · obtain rfl : k = m := by omega
        omega
  · intro hge
    obtain rfl : i = j := by omega
    have hb : bs' l x = i := by
      unfold bs'
      by_cases h : i < l.length
      · exact findIdx_at h (fun k hk hki => by have := hlo k hk hki; simp only [decide_eq_false_iff_not]; omega) (by simpa using hhi i h (Nat.le_refl _))
      · rw [findIdx_none fun k hk => by have := hlo k hk (by omega); simp only [decide_eq_false_iff_not]; omega]
        omega
    rw [hb]
    ((with_reducible (refine mif_false ?_)))
    ((with_reducible (refine mop_cS trivial ?_ ?_)))
    · intro hlt
      have hlt' : i < l.length := by omega
      ((with_reducible (refine mguard_yes ?_; refine mop_c trivial ?_; refine mguard_yes ?_; refine mop_c trivial ?_; refine mguard_yes ?_)); (with_reducible refine mm_ixs ‹_› ?_ ?_ ?_); (focus (simp only [List.length_map]; omega)); (focus (simp only [List.length_map]; first | done | omega)); (with_reducible (intro _ _ hA)); (cases hA); (with_reducible (refine mguard_yes ?_)); (with_reducible refine mm_lds0 hM ‹_› (map_atI ?_) ?_); (focus omega); (with_reducible (refine mguard_yes ?_; refine mop_c trivial ?_; refine mguard_yes ?_)))
      ((with_reducible (refine mop_cS trivial ?_ ?_)))
      all_goals
        intro h
        (first | ((with_reducible (refine mguard_yes ?_; refine mop_c trivial ?_; refine mguard_yes ?_; refine mop_c trivial ?_; refine mguard_yes ?_; refine mop_c trivial ?_; refine mguard_yes ?_)); (with_reducible refine mm_ixs ‹_› ?_ ?_ ?_); (focus (simp only [List.length_map]; omega)); (focus (simp only [List.length_map]; first | done | omega)); (with_reducible (intro _ _ hA)); (cases hA); (with_reducible (refine mguard_yes ?_)); (with_reducible refine mm_lds0 hM ‹_› (map_atI ?_) ?_); (focus omega); (with_reducible (refine mguard_yes ?_; refine mm_purC hM ?_ ?_)); (focus (first | exact trivial | assumption | omega)); (with_reducible (clear hM; intro _ hM; refine mguard_yes ?_; refine mop_c trivial ?_; refine mguard_n2 ?_; refine mguard_n2 ?_; refine mguard_yes ?_; refine mop_c trivial ?_; refine mguard_yes ?_; refine mop_c trivial ?_; refine mop_c trivial ?_))) | ((with_reducible (refine mguard_yes ?_; refine mop_c trivial ?_; (iterate 6 refine mguard_n1 ?_); refine mguard_un ?_; refine mguard_un ?_; refine mguard_n1 ?_; refine mguard_yes ?_; refine mop_c trivial ?_; refine mop_c trivial ?_))))
        exact ⟨⟨_, rfl⟩, hM.st⟩
    · intro hlt
      ((with_reducible ((iterate 7 refine mguard_n2 ?_); (iterate 9 refine mguard_un ?_); refine mguard_n2 ?_; refine mop_c trivial ?_)))
      exact ⟨⟨_, rfl⟩, hM.st⟩
theorem index_ok {a : Nat} (ls : List Lf) (hl : ls.length < 1000000) (h1 : Sl H 97 A (ls.map Lf.fds)) (hf : Fz H w) :
    Calls Tryz.prog 73 #[.slice A ls.length a, lv Lf.zero] w fun en w' => en = .returned (.int .i64 (fix (fun l => decide (l = Lf.zero)) ls)) ∧ St w [] w' := by
  have hM := Mem.start hf
  refine C_slices_Index_api_Leaf_api_Leaf ?_
  unfold F_slices_Index_api_Leaf_api_Leaf
  ((with_reducible (refine mm_box hM ?_; clear hM; intro _ _ hM; refine mop_c trivial ?_)))
  rename_i g1 _
  refine ⟨fun v w' => ∃ i : Nat, v = .int .i64 i ∧ i ≤ ls.length ∧ (∀ j (hj : j < ls.length), j < i → decide (ls[j] = Lf.zero) = false) ∧ hM.now w', fun v _ => match v with | .int _ k => ls.length - k.toNat | _ => 0, ⟨0, rfl, by omega, fun j _ h => by omega, hM⟩, ?_⟩
  rintro v u w3 ⟨i, rfl, hi, hlo, hM⟩
  ((with_reducible (refine mop_cS trivial ?_ ?_)))
  · intro hlt
    have hlt' : i < ls.length := by omega
    ((with_reducible (refine mif_true ?_; refine dm_ld hM ?_)); (with_reducible refine dp_ixs ‹_› ?_ ?_ ?_); (focus (simp only [List.length_map]; omega)); (focus (simp only [List.length_map]; first | done | omega)); (with_reducible (intro _ _ hA)); (cases hA); (with_reducible refine dm_lds0 hM ‹_› (map_atI ?_) ?_); (focus omega))
    ((with_reducible (refine dp_cS trivial ?_ ?_)))
    · intro h
      ((with_reducible (refine mm_end hM ?_; clear hM; intro _ hM; refine mif_true ?_)))
      refine ⟨?_, hM.st⟩
      rw [fix_at hlt' hlo (decide_eq_true ((lf_zero _).2 ⟨h.1.symm, h.2.1.symm, h.2.2.1.symm, h.2.2.2.symm⟩))]
    · intro h
      ((with_reducible (refine mm_end hM ?_; clear hM; intro _ hM; refine mif_false ?_; refine mop_c ?_ ?_)); (focus omega))
      refine ⟨⟨i + 1, rfl, by omega, fun j hj hji => ?_, hM⟩, by simp only; omega⟩
      rcases Nat.lt_or_ge j i with h2 | h2
      · exact hlo j hj h2
      · obtain rfl : j = i := by omega
        refine decide_eq_false fun e => h ?_
        obtain ⟨a1, a2, a3, a4⟩ := (lf_zero _).1 e
        exact ⟨a1.symm, a2.symm, a3.symm, a4.symm⟩
  · intro hge
    ((with_reducible (refine mif_false ?_)))
    refine ⟨?_, hM.st⟩
    rw [fix_none fun j hj => hlo j hj (by omega)]
end
end Go.Proofs.YtopcnkejobomaaaGreat
namespace Go.Proofs.YtopcnkejobomaaaGreat
open Go.RowKit Go.Lib
abbrev Xp := Pn × Option Addr × Nat
abbrev xrow (x : Xp) : List Fd := x.1.row x.2.1 x.2.2
abbrev xres (x : Xp) : Res := rowR 3 1 x.2.1 x.1.loose.length x.2.2 (ints8 x.1.loose)
def allR (X : List Xp) : Res := fun B => Hl (X.map xres) B
def restR (X : List Xp) (j : Nat) : Res := fun B => Hl ((X.take j ++ X.drop (j + 1)).map xres) B
abbrev x0 : Xp := (Pn.zero, none, 0)
section
variable {H : Hp} {w0 w : World} {L : List Res} {X : List Xp} {j : Nat} {A B : Option Addr} {n m a b e sz cap k : Nat} {ps : List (List Fd)}
theorem Mem.all0 (h : Mem H w0 L w) : Mem H w0 (allR [] :: L) w := Mem.fold (R := []) (L := L) h fun _ hb => hb
theorem out_perm (hj : j < X.length) : (X.map xres).Perm (xres X[j] :: (X.take j ++ X.drop (j + 1)).map xres) := by
  have e : X = X.take j ++ X[j] :: X.drop (j + 1) := by simp
  conv => lhs; rw [e]
  rw [List.map_append, List.map_append, List.map_cons]
  exact List.perm_middle
theorem in_perm (hj : j < X.length) (y : Xp) : ((X.set j y).map xres).Perm (xres y :: (X.take j ++ X.drop (j + 1)).map xres) := by
  rw [List.set_eq_take_append_cons_drop, if_pos hj, List.map_append, List.map_append, List.map_cons]
  exact List.perm_middle
theorem Mem.outk (h : Mem H w0 (allR X :: L) w) (hj : j < X.length) : Mem H w0 (xres X[j] :: restR X j :: L) w := by
  have h1 : Mem H w0 (X.map xres ++ L) w := h.imp (R := X.map xres) fun _ hb => hb
  have h2 := h1.perm ((out_perm hj).append_right L)
  have h3 : Mem H w0 ((X.take j ++ X.drop (j + 1)).map xres ++ (xres X[j] :: L)) w := h2.perm List.perm_middle.symm
  have h4 : Mem H w0 (restR X j :: xres X[j] :: L) w := h3.fold fun _ hb => hb
  exact h4.perm (.swap ..)
theorem Mem.ink {y : Xp} (h : Mem H w0 (xres y :: restR X j :: L) w) (hj : j < X.length) : Mem H w0 (allR (X.set j y) :: L) w := by
  have h1 : Mem H w0 (restR X j :: xres y :: L) w := h.perm (.swap ..)
  have h2 : Mem H w0 ((X.take j ++ X.drop (j + 1)).map xres ++ (xres y :: L)) w := h1.imp fun _ hb => hb
  have h3 : Mem H w0 ((X.set j y).map xres ++ L) w := (h2.perm List.perm_middle).perm ((in_perm hj y).append_right L).symm
  exact h3.fold fun _ hb => hb
theorem Mem.addk {y : Xp} (h : Mem H w0 (allR X :: xres y :: L) w) : Mem H w0 (allR (X ++ [y]) :: L) w := by
  have h1 : Mem H w0 (X.map xres ++ (xres y :: L)) w := h.imp fun _ hb => hb
  have h2 : Mem H w0 ((X ++ [y]).map xres ++ L) w := by
    rw [List.map_append, List.append_assoc]
    exact h1
  exact h2.fold fun _ hb => hb
theorem Mem.unk {x : Xp} (h : Mem H w0 (allR (x :: X) :: L) w) : Mem H w0 (xres x :: allR X :: L) w := by
  have h1 : Mem H w0 (xres x :: (X.map xres ++ L)) w := h.imp (R := xres x :: X.map xres) fun _ hb => hb
  have h2 : Mem H w0 (X.map xres ++ (xres x :: L)) w := h1.perm List.perm_middle.symm
  have h3 : Mem H w0 (allR X :: xres x :: L) w := h2.fold fun _ hb => hb
  exact h3.perm (.swap ..)
theorem Mem.blankk (h : Mem H w0 (allR X :: L) w) (hj : j < X.length) : Mem H w0 (allR (X.set j x0) :: L) w := by
  have h1 := (h.outk hj).drop
  have h2 : Mem H w0 (xres x0 :: restR X j :: L) w := h1.row0 3 1
  exact h2.ink hj
theorem Mem.dropk : ∀ {X : List Xp} {L : List Res} (k : Nat), Mem H w0 (allR X :: L) w → Mem H w0 (allR (X.take k) :: L) w
  | X, L, 0, h => by
    rw [List.take_zero]
    exact h.drop.all0
  | [], L, k + 1, h => by simpa using h
  | x :: X, L, k + 1, h => by
    have h1 : Mem H w0 (allR X :: xres x :: L) w := h.unk.perm (.swap ..)
    have h2 := Mem.dropk k h1
    have h3 : Mem H w0 ((X.take k).map xres ++ (xres x :: L)) w := h2.imp fun _ hb => hb
    have h4 : Mem H w0 (((x :: X).take (k + 1)).map xres ++ L) w := h3.perm List.perm_middle
    exact h4.fold fun _ hb => hb
theorem Mem.frzX : ∀ {X : List Xp} {L : List Res} {H : Hp}, Mem H w0 (allR X :: L) w → ∃ H', Le w0 H H' ∧ Mem H' w0 L w ∧ ∀ x ∈ X, Sl H' 1 x.2.1 (ints8 x.1.loose)
  | [], L, H, h => ⟨H, Le.refl _ _, h.drop, fun _ h => by cases h⟩
  | x :: X, L, H, h => by
    obtain ⟨H1, l1, h1, s1, -⟩ := h.unk.fz0
    obtain ⟨H2, l2, h2, s2⟩ := Mem.frzX h1
    refine ⟨H2, l1.trans l2, h2, fun y hy => ?_⟩
    rcases List.mem_cons.1 hy with rfl | hy
    · exact s1.mono l2.le
    · exact s2 y hy
theorem all2_rows {H : Hp} : ∀ {X : List Xp}, (∀ x ∈ X, Sl H 1 x.2.1 (ints8 x.1.loose) ∧ x.1.loose.length ≤ maxLen) → All2 (PnF H) (X.map xrow) (X.map (·.1))
  | [], _ => trivial
  | x :: X, h => ⟨⟨x.2.1, x.2.2, rfl, h x (List.mem_cons_self ..)⟩, all2_rows fun y hy => h y (List.mem_cons_of_mem _ hy)⟩
theorem Mem.frzT {ls : List Lf} (h : Mem H w0 (rowR 57 97 A ls.length a (ls.map Lf.fds) :: rowR 61 66 B X.length b (X.map xrow) :: allR X :: L) w) (hb : ∀ x ∈ X, x.1.loose.length ≤ maxLen) : ∃ H', Le w0 H H' ∧ Mem H' w0 L w ∧ TrF H' (tv A ls.length a B X.length b) ⟨ls, X.map (·.1)⟩ := by
  obtain ⟨-, k1, k2, -⟩ := h.rowLen ⟨.refl _⟩
  obtain ⟨H1, l1, h, s1, -⟩ := h.fz0
  obtain ⟨-, k3, k4, -⟩ := h.rowLen ⟨.refl _⟩
  obtain ⟨H2, l2, h, s2, -⟩ := h.fz0
  obtain ⟨H3, l3, h, s3⟩ := h.frzX
  refine ⟨H3, (l1.trans l2).trans l3, h, ⟨A, a, B, b, X.map xrow, by simp, s1.mono (l2.trans l3).le, s2.mono l3.le, all2_rows fun x hx => ⟨s3 x hx, hb x hx⟩⟩, by simp only; omega, by simp only [List.length_map]; omega⟩
theorem Mem.short (h : Mem H w0 (rowR e sz A n cap ps :: L) w) (hk : k ≤ n) : Mem H w0 (rowR e sz A k cap (ps.take k) :: L) w := by
  obtain ⟨B, ⟨B1, B2, rfl, ⟨h1, h2, h3⟩, h4⟩, hs', hb⟩ := h.own
  refine ⟨⟨_, ⟨B1, B2, rfl, ⟨h1.take k, by rw [List.length_take]; omega, ?_⟩, h4⟩, hs', hb⟩, h.fz⟩
  rcases h3 with ⟨hA, hn, hc, hB⟩ | ⟨g, sp, hA, hB, h5, h6, h7⟩
  · exact .inl ⟨hA, by omega, hc, hB⟩
  · have e1 : fls ps = fls (ps.take k) ++ fls (ps.drop k) := by rw [← fls_app, List.take_append_drop]
    exact .inr ⟨g, fls (ps.drop k) ++ sp, hA, by rw [hB, e1, List.append_assoc], by rw [← List.append_assoc, ← e1]; exact h5, by omega, h7⟩
theorem le_of {H : Hp} (hf : Fz H w) : H.le (Hp.of w) := fun b c h => by
  obtain ⟨t, fr, e⟩ := hf b c h
  simp [Hp.of, e]
end
theorem rising_len : ∀ {l : List Int} {lo hi : Int}, l.Pairwise (· < ·) → (∀ x ∈ l, lo ≤ x ∧ x < hi) → lo ≤ hi → (l.length : Int) ≤ hi - lo
  | [], lo, hi, _, _, h => by simp; omega
  | x :: r, lo, hi, hp, hb, h => by
    obtain ⟨h1, h2⟩ := List.pairwise_cons.1 hp
    have hx := hb x (List.mem_cons_self ..)
    have := rising_len (lo := lo + 1) (hi := hi) h2 (fun y hy => by have := h1 y hy; have := hb y (List.mem_cons_of_mem _ hy); omega) (by omega)
    simp only [List.length_cons]
    omega
theorem Tr.Rt.loose {t : Tr} (h : t.Rt) : ∀ p ∈ t.ps, p.loose.length ≤ 64 ∧ p.loose.Pairwise (· < ·) := by
  intro p hp
  obtain ⟨i, hi, rfl⟩ := List.getElem_of_mem hp
  obtain ⟨h1, h2⟩ := looseB_spec (parB_spec h.par i hi).2
  have hl := h.len
  have := rising_len (lo := 0) (hi := t.size) h2 (fun x hx => by have := hld_rng (h1 x hx).1; omega) (by unfold Tr.size; omega)
  refine ⟨?_, h2⟩
  unfold Tr.size at this
  omega
end Go.Proofs.YtopcnkejobomaaaGreat
namespace Go.Proofs.YtopcnkejobomaaaGreat
open Go.RowKit Go.Lib
theorem xrow0 : xrow x0 = [.one (.bool false), .arr 32 (u8s hzero.1), .arr 32 (u8s hzero.1), .one (.slice none 0 0)] := rfl
theorem modify_const {α : Type} (l : List α) (k : Nat) (y : α) : l.modify k (fun _ => y) = l.set k y := by
  refine List.ext_getElem (by simp) fun i h1 h2 => ?_
  simp only [List.getElem_modify, List.getElem_set]
theorem onDir_succ {f : Pn → Pn} {D : List Int} {ps : List Pn} {i : Nat} (h : i < D.length) : onDir f (D.take (i + 1)) ps = (onDir f (D.take i) ps).modify (D[i] / 2).toNat f := by
  unfold onDir
  rw [List.take_succ_eq_append_getElem h, List.foldl_append]
  rfl
section
variable {H : Hp} {w0 w : World} {L R : List Res} {A B C : Option Addr} {a b c n : Nat} {t : Tr} {qs ps : List (List Fd)}
theorem cloneL_q {Q : Ending → World → Prop} (hs : Sl (Hp.of w) 97 A ps) (hn : n = ps.length) (hb : n ≤ 100000) (hM : Mem H w0 L w)
    (hQ : ∀ A' a' w', Ext w w' → Mem H w0 (rowR 57 97 A' n a' ps :: L) w' → Q (.returned (.slice A' n a')) w') : Calls Tryz.prog 110 #[.slice A n a] w Q := by
  refine C_slices_Clone_api_Leaf_api_Leaf ?_
  unfold F_slices_Clone_api_Leaf_api_Leaf
  refine clone_gen (P := Tryz.prog) (t := 22) (R := Q) hs hn hM ?_ hQ
  omega
theorem cloneL_ok (hs : Sl (Hp.of w) 97 A ps) (hn : n = ps.length) (hb : n ≤ 100000) (hM : Mem H w0 L w) : Calls Tryz.prog 110 #[.slice A n a] w fun en w' => ∃ v, en = .returned v ∧ Ext w w' ∧ ∃ A' a', v = .slice A' n a' ∧ Mem H w0 (rowR 57 97 A' n a' ps :: L) w' :=
  cloneL_q hs hn hb hM fun A' a' w' hx hM => ⟨_, rfl, hx, _, _, rfl, hM⟩
theorem cloneP_q {Q : Ending → World → Prop} (hs : Sl (Hp.of w) 66 A ps) (hn : n = ps.length) (hb : n ≤ 100000) (hM : Mem H w0 L w)
    (hQ : ∀ A' a' w', Ext w w' → Mem H w0 (rowR 61 66 A' n a' ps :: L) w' → Q (.returned (.slice A' n a')) w') : Calls Tryz.prog 111 #[.slice A n a] w Q := by
  refine C_slices_Clone_api_Parent_api_Parent ?_
  unfold F_slices_Clone_api_Parent_api_Parent
  refine clone_gen (P := Tryz.prog) (t := 23) (R := Q) hs hn hM ?_ hQ
  omega
theorem cloneP_ok (hs : Sl (Hp.of w) 66 A ps) (hn : n = ps.length) (hb : n ≤ 100000) (hM : Mem H w0 L w) : Calls Tryz.prog 111 #[.slice A n a] w fun en w' => ∃ v, en = .returned v ∧ Ext w w' ∧ ∃ A' a', v = .slice A' n a' ∧ Mem H w0 (rowR 61 66 A' n a' ps :: L) w' :=
  cloneP_q hs hn hb hM fun A' a' w' hx hM => ⟨_, rfl, hx, _, _, rfl, hM⟩
theorem cloneI_q {Q : Ending → World → Prop} (hs : Sl (Hp.of w) 1 A ps) (hn : n = ps.length) (hb : n ≤ 100000) (hM : Mem H w0 L w)
    (hQ : ∀ A' a' w', Ext w w' → Mem H w0 (rowR 3 1 A' n a' ps :: L) w' → Q (.returned (.slice A' n a')) w') : Calls Tryz.prog 112 #[.slice A n a] w Q := by
  refine C_slices_Clone_int_int ?_
  unfold F_slices_Clone_int_int
  refine clone_gen (P := Tryz.prog) (t := 29) (R := Q) hs hn hM ?_ hQ
  omega
theorem cloneI_ok (hs : Sl (Hp.of w) 1 A ps) (hn : n = ps.length) (hb : n ≤ 100000) (hM : Mem H w0 L w) : Calls Tryz.prog 112 #[.slice A n a] w fun en w' => ∃ v, en = .returned v ∧ Ext w w' ∧ ∃ A' a', v = .slice A' n a' ∧ Mem H w0 (rowR 3 1 A' n a' ps :: L) w' :=
  cloneI_q hs hn hb hM fun A' a' w' hx hM => ⟨_, rfl, hx, _, _, rfl, hM⟩
theorem clone_ok (h1 : Sl H 97 A (t.ls.map Lf.fds)) (h2 : Sl H 66 B qs) (h3 : All2 (PnF H) qs t.ps) (hl : t.ls.length ≤ 1000) (hp : t.ps.length ≤ 1000) (hlo : ∀ p ∈ t.ps, p.loose.length ≤ 1000) (hM : Mem H w0 L w) :
    Calls Tryz.prog 72 #[tv A t.ls.length a B t.ps.length b] w fun en w' => ∃ v, en = .returned v ∧ ∃ A' a' B' b' X, v = tv A' t.ls.length a' B' t.ps.length b' ∧ X.map (·.1) = t.ps ∧
      Mem H w0 (rowR 57 97 A' t.ls.length a' (t.ls.map Lf.fds) :: rowR 61 66 B' t.ps.length b' (X.map xrow) :: allR X :: L) w' := by
  have hq : qs.length = t.ps.length := h3.len
  refine C_tree_clone ?_
  unfold F_tree_clone
  ((with_reducible (refine mm_box hM ?_; clear hM; intro _ _ hM; refine mm_new hM ?_; clear hM; intro _ _ hM)))
  rename_i g1 _ g2 _
  refine ⟨fun v w' => ∃ g3 A' a' B' b', v = .pointer (some ⟨g3, 0, none⟩) ∧ Mem H w0 (fb g3 25 (tfd A' t.ls.length a' B' t.ps.length b') :: fb g2 25 (tfd none 0 0 none 0 0) :: rowR 57 97 A' t.ls.length a' (t.ls.map Lf.fds) :: rowR 61 66 B' t.ps.length b' qs :: L) w', ⟨?_, ?_, ?_⟩, ?_⟩
  · ((with_reducible (refine dp_c trivial ?_; refine dm_ld hM ?_; refine dp_c trivial ?_; refine dm_ld hM ?_)))
    refine dm_ownE hM (fun w hM => cloneL_ok (h1.mono (le_of hM.fz)) (by simp) (by omega) hM) ?_
    rintro v w' hx ⟨A', a', rfl, hM⟩
    skip
    refine dm_own hM (fun w hM => (cloneP_ok (h2.mono (le_of hM.fz)) hq.symm (by omega) hM).mono fun en w' ⟨v, h, _, k⟩ => ⟨v, h, k⟩) ?_
    rintro v w' ⟨B', b', rfl, hM⟩
    ((with_reducible (refine dp_c trivial ?_; refine dm_new hM ?_; clear hM; intro _ _ hM; refine dS_st hM ?_; clear hM; intro _ hM; refine mm_end hM ?_; clear hM; intro _ hM)))
    exact ⟨_, A', a', B', b', rfl, hM.sub⟩
  · ((with_reducible (refine dp_c trivial ?_; refine dm_ld hM ?_; refine dp_c trivial ?_; refine dm_ld hM ?_)))
    refine dm_ownE hM (fun w hM => cloneL_ok (h1.mono (le_of hM.fz)) (by simp) (by omega) hM) ?_
    rintro v w' hx ⟨A', a', rfl, hM⟩
    ((with_reducible (refine dm_new hM ?_; clear hM; intro _ _ hM)))
    refine dm_own hM (fun w hM => (cloneP_ok (h2.mono (le_of hM.fz)) hq.symm (by omega) hM).mono fun en w' ⟨v, h, _, k⟩ => ⟨v, h, k⟩) ?_
    rintro v w' ⟨B', b', rfl, hM⟩
    ((with_reducible (refine dp_c trivial ?_; refine dS_st hM ?_; clear hM; intro _ hM; refine mm_end hM ?_; clear hM; intro _ hM)))
    exact ⟨_, A', a', B', b', rfl, hM.sub⟩
  · ((with_reducible (refine dp_c trivial ?_; refine dm_ld hM ?_; refine dp_c trivial ?_; refine dm_ld hM ?_; refine dm_new hM ?_; clear hM; intro _ _ hM)))
    refine dm_ownE hM (fun w hM => cloneL_ok (h1.mono (le_of hM.fz)) (by simp) (by omega) hM) ?_
    rintro v w' hx ⟨A', a', rfl, hM⟩
    skip
    refine dm_own hM (fun w hM => (cloneP_ok (h2.mono (le_of hM.fz)) hq.symm (by omega) hM).mono fun en w' ⟨v, h, _, k⟩ => ⟨v, h, k⟩) ?_
    rintro v w' ⟨B', b', rfl, hM⟩
    ((with_reducible (refine dp_c trivial ?_; refine dS_st hM ?_; clear hM; intro _ hM; refine mm_end hM ?_; clear hM; intro _ hM)))
    exact ⟨_, A', a', B', b', rfl, hM.sub⟩
  clear hM
  rintro v u2 w2 ⟨g3, A', a', B', b', rfl, hM⟩
  ((with_reducible (refine mop_c trivial ?_; refine mm_ld hM ?_; refine mop_c trivial ?_)))
  have hM0 : Mem H w0 (fb g3 25 (tfd A' t.ls.length a' B' t.ps.length b') :: fb g2 25 (tfd none 0 0 none 0 0) :: rowR 57 97 A' t.ls.length a' (t.ls.map Lf.fds) :: rowR 61 66 B' t.ps.length b' qs :: allR [] :: L) _ := hM.all0.same
  refine ⟨fun v w' => ∃ (i : Nat) (X : List Xp), v = .int .i64 i ∧ i ≤ t.ps.length ∧ X.map (·.1) = t.ps.take i ∧ Mem H w0 (fb g3 25 (tfd A' t.ls.length a' B' t.ps.length b') :: fb g2 25 (tfd none 0 0 none 0 0) :: rowR 57 97 A' t.ls.length a' (t.ls.map Lf.fds) :: rowR 61 66 B' t.ps.length b' (X.map xrow ++ qs.drop i) :: allR X :: L) w', fun v _ => match v with | .int _ k => t.ps.length - k.toNat | _ => 0, ⟨0, [], rfl, by omega, rfl, hM0⟩, ?_⟩
  clear hM hM0
  rintro v u3 w3 ⟨i, X, rfl, hi, hX, hM⟩
  have hXl : X.length = i := by
    have := congrArg List.length hX
    simp at this
    omega
  ((with_reducible (refine mop_cS trivial ?_ ?_)))
  · intro hlt
    have hlt' : i < t.ps.length := by omega
    obtain ⟨q, hq1, C, c, rfl, hC, hcl⟩ := h3.at_ (i := i) hlt'
    obtain ⟨p, hpe⟩ : ∃ p, t.ps[i] = p := ⟨_, rfl⟩
    have hpl := hlo p (hpe ▸ List.getElem_mem _)
    rw [hpe] at hq1 hC
    have hrow : (X.map xrow ++ qs.drop i)[(i : Int).toNat]? = some (p.row C c) := by
      rw [Int.toNat_natCast, List.getElem?_append_right (by simp; omega)]
      simp [hXl, hq1]
    ((with_reducible (refine mif_true ?_; refine dp_c trivial ?_; refine dm_ld hM ?_; refine dp_c trivial ?_; refine dm_ld hM ?_; refine dp_ixr hM ?_ ?_)); (focus omega); (with_reducible (intro _ hA)); (cases hA); (with_reducible (refine dp_c trivial ?_)))
    refine dm_ldr hM hrow ?_
    refine dm_ownE hM (fun w hM => cloneI_ok (hC.mono (le_of hM.fz)) (by simp) (by omega) hM) ?_
    rintro v w' hx ⟨C', c', rfl, hM⟩
    ((with_reducible (refine dp_ixr hM ?_ ?_)); (focus omega); (with_reducible (intro _ hA)); (cases hA); (with_reducible (refine dp_c trivial ?_)))
    refine dm_stf hM hrow (fun w' hM => ?_)
    ((with_reducible (refine mm_end hM ?_; clear hM; intro _ hM; refine mop_c ?_ ?_)); (focus omega))
    rename_i g5 _ _ _ _
    have hset : (X.map xrow ++ qs.drop i).set (i : Int).toNat (p.row C' c') = (X ++ [(p, C', c')]).map xrow ++ qs.drop (i + 1) := by
      rw [Int.toNat_natCast, List.set_append_right _ _ (by simp; omega)]
      simp only [List.length_map, hXl, Nat.sub_self, List.map_append, List.append_assoc]
      rw [List.drop_eq_getElem_cons (by omega)]
      rfl
    have hM2 : Mem H w0 (rowR 61 66 (some ⟨g5, 0, none⟩) t.ps.length b' ((X ++ [(p, C', c')]).map xrow ++ qs.drop (i + 1)) :: _) _ := hset ▸ hM
    have hM : Mem H w0 (allR X :: xres (p, C', c') :: fb g3 25 (tfd A' t.ls.length a' (some ⟨g5, 0, none⟩) t.ps.length b') :: fb g2 25 (tfd none 0 0 none 0 0) :: rowR 57 97 A' t.ls.length a' (t.ls.map Lf.fds) :: rowR 61 66 (some ⟨g5, 0, none⟩) t.ps.length b' ((X ++ [(p, C', c')]).map xrow ++ qs.drop (i + 1)) :: L) _ := hM2.sub
    refine ⟨⟨i + 1, X ++ [(p, C', c')], rfl, by omega, ?_, hM.addk.same⟩, by simp only; omega⟩
    rw [List.map_append, hX, List.take_succ_eq_append_getElem hlt', hpe]
    rfl
  · intro hge
    obtain rfl : i = t.ps.length := by omega
    rw [List.take_length] at hX
    rw [List.drop_eq_nil_of_le (by omega), List.append_nil] at hM
    ((with_reducible (refine mif_false ?_; refine mm_ld hM ?_; refine mm_st hM ?_; clear hM; intro _ hM; refine rm_ld hM ?_)))
    exact ⟨_, rfl, _, _, _, _, _, rfl, hX, hM.sub⟩
theorem none_ok (p : Int) (h1 : Sl H 97 A (t.ls.map Lf.fds)) (hl : t.ls.length ≤ maxLen) (hf : Fz H w) : Calls Tryz.prog 77 #[tv A t.ls.length a B n b, .int .i64 p] w fun en w' => en = .returned (.bool (decide (t.nobody p))) ∧ St w [] w' := by
  have hM := Mem.start hf
  have hl' : t.ls.length ≤ 9223372036854775807 := hl
  refine C_tree_none ?_
  unfold F_tree_none
  ((with_reducible (refine mm_box hM ?_; clear hM; intro _ _ hM)))
  ((with_reducible (refine mop_cS trivial ?_ ?_)))
  · intro h
    ((with_reducible ((iterate 5 refine mguard_n1 ?_); refine mop_c trivial ?_; (iterate 7 refine mguard_n1 ?_); refine mop_c trivial ?_)))
    exact ⟨by rw [decide_eq_true (show t.nobody p from .inl (.inl h))], hM.st⟩
  · intro h
    ((with_reducible (refine mguard_yes ?_; refine mop_c trivial ?_; refine mguard_yes ?_; refine mop_c trivial ?_; refine mguard_yes ?_; refine mm_ld hM ?_; refine mguard_yes ?_; refine mop_c trivial ?_; refine mguard_yes ?_)))
    ((with_reducible (refine mop_cS trivial ?_ ?_)))
    · intro h2
      ((with_reducible (refine mop_c trivial ?_; (iterate 7 refine mguard_n1 ?_); refine mop_c trivial ?_)))
      exact ⟨by rw [decide_eq_true (show t.nobody p from .inl (.inr h2))], hM.st⟩
    · intro h2
      have h3 : p.toNat < t.ls.length := by omega
      have h4 := nameAt_at (ls := t.ls) (p := p) (by omega) h3
      ((with_reducible (refine mop_c trivial ?_; refine mguard_yes ?_; refine mop_c trivial ?_; refine mguard_yes ?_; refine mm_ld hM ?_; refine mguard_yes ?_; refine mop_c trivial ?_; refine mguard_yes ?_)); (with_reducible refine mm_ixs ‹_› ?_ ?_ ?_); (focus (simp only [List.length_map]; omega)); (focus (simp only [List.length_map]; first | done | omega)); (with_reducible (intro _ _ hA)); (cases hA); (with_reducible (refine mguard_yes ?_; refine mop_c trivial ?_; refine mguard_yes ?_)); (with_reducible refine mm_lds hM ‹_› (map_at ?_) ?_); (focus omega); (with_reducible (refine mguard_yes ?_)))
      rw [← h4]
      ((with_reducible (refine mop_cS trivial ?_ ?_)))
      · intro h5
        ((with_reducible (refine mop_c trivial ?_)))
        exact ⟨by rw [decide_eq_true (show t.nobody p from .inr h5)], hM.st⟩
      · intro h5
        ((with_reducible (refine mop_c trivial ?_)))
        exact ⟨by rw [decide_eq_false (show ¬ t.nobody p from fun k => k.elim (fun k => k.elim h h2) h5)], hM.st⟩
theorem sound_ok (h1 : Sl H 97 A (t.ls.map Lf.fds)) (h2 : Sl H 66 B qs) (h3 : All2 (PnF H) qs t.ps) (hl : t.ls.length ≤ maxLen) (hp : t.ps.length ≤ maxLen) (hf : Fz H w) :
    Calls Tryz.prog 34 #[tv A t.ls.length a B t.ps.length b] w fun en w' => en = .returned (if t.right = true then tv A t.ls.length a B t.ps.length b else tv none 0 0 none 0 0) ∧ St w [] w' := by
  have hM := Mem.start hf
  refine C_tree_sound ?_
  unfold F_tree_sound
  ((with_reducible (refine mm_box hM ?_; clear hM; intro _ _ hM; refine mm_new hM ?_; clear hM; intro _ _ hM; refine mm_ld hM ?_)))
  refine mm_pure hM (right_ok h1 h2 h3 hl hp hM.fz) (fun w hM => ?_)
  cases hr : t.right
  · ((with_reducible (refine mif_false ?_; refine mop_c trivial ?_; refine mm_st hM ?_; clear hM; intro _ hM; refine rm_ld hM ?_)))
    exact ⟨rfl, hM.st⟩
  · ((with_reducible (refine mif_true ?_; refine mm_ld hM ?_; refine mm_st hM ?_; clear hM; intro _ hM; refine rm_ld hM ?_)))
    exact ⟨rfl, hM.st⟩
theorem place1_ok (g : Nat) (x : Int) (y : Lf) (hM : Mem H w0 (fb g 3 [.one (.int .i64 x)] :: R) w) :
    Calls Tryz.prog 35 #[lv y, .pointer (some ⟨g, 0, none⟩)] w fun e w' => ∃ v, e = .returned v ∧ v = .bool (decide (y.name = x)) ∧ Mem H w0 (fb g 3 [.one (.int .i64 x)] :: R) w' := by
  refine C_tree_Place_1 ?_
  unfold F_tree_Place_1
  ((with_reducible (refine mm_box hM ?_; clear hM; intro _ _ hM; refine mop_c trivial ?_; refine mm_ld hM ?_; refine mm_ld hM ?_)))
  ((with_reducible (refine mop_cS trivial ?_ ?_)))
  all_goals
    intro hi
    skip
    exact ⟨_, rfl, by simp [hi], hM.drop⟩
theorem clo_place (g : Nat) (x : Int) : Clo Tryz.prog H w0 (fb g 3 [.one (.int .i64 x)]) (.func (.func 35) #[] #[.pointer (some ⟨g, 0, none⟩)]) lv (fun y : Lf => decide (y.name = x)) := fun y R w K X hM hk =>
  mop_callv (place1_ok g x y hM) (by rintro e w' ⟨v, rfl, rfl, h⟩; exact hk w' h)
theorem ixf_ok {r : Res} {cl : Value} {f : Lf → Bool} (ls : List Lf) (hl : ls.length < 1000000) (hc : Clo Tryz.prog H w0 r cl lv f) (hs : Sl H 97 A (ls.map Lf.fds)) (hM : Mem H w0 (r :: R) w) :
    Calls Tryz.prog 33 #[.slice A ls.length a, cl] w fun en w' => ∃ v, en = .returned v ∧ v = .int .i64 (fix f ls) ∧ Mem H w0 (r :: R) w' := by
  refine C_slices_IndexFunc_api_Leaf_api_Leaf ?_
  unfold F_slices_IndexFunc_api_Leaf_api_Leaf
  ((with_reducible (refine mop_c trivial ?_)))
  refine ⟨fun v w' => ∃ i : Nat, v = .int .i64 i ∧ i ≤ ls.length ∧ (∀ j (hj : j < ls.length), j < i → f ls[j] = false) ∧ Mem H w0 (r :: R) w', fun v _ => match v with | .int _ k => ls.length - k.toNat | _ => 0, ⟨0, rfl, by omega, fun j _ h => by omega, hM⟩, ?_⟩
  rintro v u w3 ⟨i, rfl, hi, hlo, hM⟩
  ((with_reducible (refine mop_cS trivial ?_ ?_)))
  · intro hlt
    have hlt' : i < ls.length := by omega
    ((with_reducible (refine mif_true ?_)); (with_reducible refine mm_ixs ‹_› ?_ ?_ ?_); (focus (simp only [List.length_map]; omega)); (focus (simp only [List.length_map]; first | done | omega)); (with_reducible (intro _ _ hA)); (cases hA); (with_reducible refine mm_lds0 hM ‹_› (map_atI ?_) ?_); (focus omega))
    refine hc _ _ _ _ _ hM (fun w hM => ?_)
    cases hfi : f ls[i]
    · ((with_reducible (refine mif_false ?_; refine mop_c ?_ ?_)); (focus omega))
      refine ⟨⟨i + 1, rfl, by omega, fun j hj hji => ?_, hM⟩, by simp only; omega⟩
      rcases Nat.lt_or_ge j i with h2 | h2
      · exact hlo j hj h2
      · obtain rfl : j = i := by omega
        exact hfi
    · ((with_reducible (refine mif_true ?_)))
      exact ⟨_, rfl, by rw [fix_at hlt' hlo hfi], hM⟩
  · intro hge
    ((with_reducible (refine mif_false ?_)))
    exact ⟨_, rfl, by rw [fix_none fun j hj => hlo j hj (by omega)], hM⟩
theorem place_ok (x : Int) (h1 : Sl H 97 A (t.ls.map Lf.fds)) (h2 : Sl H 66 B qs) (h3 : All2 (PnF H) qs t.ps) (hl : t.ls.length ≤ maxLen) (hp : t.ps.length ≤ maxLen) (hf : Fz H w) :
    Calls Tryz.prog 9 #[tv A t.ls.length a B t.ps.length b, .int .i64 x] w fun en w' => en = .returned (.int .i64 (t.sound.place x)) ∧ St w [] w' := by
  have hM := Mem.start hf
  refine C_tree_Place ?_
  unfold F_tree_Place
  ((with_reducible (refine mm_box hM ?_; clear hM; intro _ _ hM; refine mm_box hM ?_; clear hM; intro _ _ hM; refine mm_ld hM ?_)))
  rename_i g1 _ g2 _
  ((with_reducible (refine mop_cS trivial ?_ ?_)))
  · intro h
    ((with_reducible (refine mif_true ?_)))
    exact ⟨by rw [show t.sound.place x = -1 from if_pos h], hM.st⟩
  · intro h
    ((with_reducible (refine mif_false ?_; refine mm_ld hM ?_)))
    have hpl : t.sound.place x = fix (fun l => decide (l.name = x)) t.sound.ls := if_neg h
    rw [hpl]
    refine mm_pure hM (sound_ok h1 h2 h3 hl hp hM.fz) (fun w hM => ?_)
    have hM := hM.at_ (fb g2 3 [.one (.int .i64 x)])
    unfold Tr.sound
    cases hr : t.right
    · rw [if_neg (by simp), if_neg (by simp)]
      ((with_reducible (refine mop_c trivial ?_; refine mop_c trivial ?_)))
      refine mm_own (ixf_ok (A := none) [] (by simp) (clo_place g2 x) (Sl.nil _ _ _) hM) ?_
      rintro v w' ⟨rfl, hM⟩
      exact ⟨rfl, hM.st⟩
    · rw [if_pos rfl, if_pos rfl]
      ((with_reducible (refine mop_c trivial ?_; refine mop_c trivial ?_)))
      have := (Tr.rt.1 hr).len
      refine mm_own (ixf_ok t.ls (by omega) (clo_place g2 x) h1 hM) ?_
      rintro v w' ⟨rfl, hM⟩
      exact ⟨rfl, hM.st⟩
theorem blank_ok {X : List Xp} {ls : List Lf} {p : Int} (hp : 0 ≤ p ∧ p < ls.length ∧ ls.length ≤ 64) (hX : X.length + 1 = ls.length)
    (hM : Mem H w0 (rowR 57 97 A ls.length a (ls.map Lf.fds) :: rowR 61 66 B X.length b (X.map xrow) :: allR X :: L) w) :
    Calls Tryz.prog 78 #[tv A ls.length a B X.length b, .int .i64 p] w fun en w' => ∃ v, en = .returned v ∧ ∃ H' X', v = .tuple #[] ∧ X'.map (·.1) = blankP ls.length p (X.map (·.1)) ∧ X'.length = X.length ∧ Le w0 H H' ∧
      Mem H' w0 (rowR 57 97 A ls.length a (ls.map Lf.fds) :: rowR 61 66 B X.length b (X'.map xrow) :: allR X' :: L) w' := by
  refine C_tree_blank ?_
  unfold F_tree_blank
  ((with_reducible (refine mm_box hM ?_; clear hM; intro _ _ hM; refine mop_c trivial ?_; refine mm_ld hM ?_; refine mop_c trivial ?_)))
  rename_i g1 _
  refine mm_call hM (bdirect_ok ls.length p (by omega) hM.fz) ?_
  rintro H1 v w1 l1 hM ⟨D, c, rfl, hD⟩
  have hdl := dirL_len ls.length p
  have hdm := fun x hx => dir_mem (n := ls.length) (l := p) (x := x) (by omega) hx
  generalize hDL : dirL ls.length p = DL at *
  ((with_reducible (refine mop_c trivial ?_)))
  refine ⟨fun v w' => ∃ (i : Nat) (Y : List Xp), v = .int .i64 i ∧ i ≤ DL.length ∧ Y.map (·.1) = onDir (fun _ => Pn.zero) (DL.take i) (X.map (·.1)) ∧ Y.length = X.length ∧ Mem H1 w0 (fb g1 25 (tfd A ls.length a B X.length b) :: rowR 57 97 A ls.length a (ls.map Lf.fds) :: rowR 61 66 B X.length b (Y.map xrow) :: allR Y :: L) w', fun v _ => match v with | .int _ k => DL.length - k.toNat | _ => 0, ⟨0, X, rfl, by omega, rfl, rfl, hM⟩, ?_⟩
  clear hM
  rintro v u w3 ⟨i, Y, rfl, hi, hY, hYl, hM⟩
  ((with_reducible (refine mop_cS trivial ?_ ?_)))
  · intro hlt
    have hlt' : i < DL.length := by omega
    obtain ⟨x, hx⟩ : ∃ x, DL[i] = x := ⟨_, rfl⟩
    have hxm := hdm x (hx ▸ List.getElem_mem _)
    ((with_reducible (refine mif_true ?_)); (with_reducible refine mm_ixs ‹_› ?_ ?_ ?_); (focus (simp only [List.length_map]; omega)); (focus (simp only [List.length_map]; first | done | omega)); (with_reducible (intro _ _ hA)); (cases hA); (with_reducible refine mm_lds0 hM ‹_› (map_atI ?_) ?_); (focus omega); (with_reducible (refine mop_c trivial ?_; refine mm_ld hM ?_; refine mop_c ?_ ?_)); (focus omega); (with_reducible (refine mop_c trivial ?_; refine mm_ixr hM ?_ ?_)); (focus omega); (with_reducible (intro _ hA)); (cases hA); (with_reducible (refine mm_str hM ?_ ?_)); (focus omega); (with_reducible (clear hM; intro _ hM; refine mop_c ?_ ?_)); (focus omega))
    have hk : (x / 2).toNat < Y.length := by omega
    rw [← xrow0, hx, ← List.map_set] at hM
    have hM := (hM.at_ (allR Y)).blankk hk
    refine ⟨⟨i + 1, Y.set (x / 2).toNat x0, rfl, by omega, ?_, by simpa using hYl, hM.same⟩, by simp only; omega⟩
    rw [List.map_set, hY, onDir_succ hlt', hx, modify_const]
  · intro hge
    ((with_reducible (refine mif_false ?_)))
    refine ⟨_, rfl, H1, Y, rfl, ?_, hYl, l1, hM.sub⟩
    rw [hY, List.take_of_length_le (by omega)]
    unfold blankP
    rw [hDL]
end
end Go.Proofs.YtopcnkejobomaaaGreat
namespace Go.Proofs.YtopcnkejobomaaaGreat
open Go.RowKit Go.Lib
theorem trF_none (H : Hp) : TrF H (tv none 0 0 none 0 0) Tr.none := ⟨⟨none, 0, none, 0, [], rfl, Sl.nil _ _ _, Sl.nil _ _ _, trivial⟩, by simp [Tr.none, maxLen]⟩
def gapL (t : Tr) : List Lf := if t.gap = t.ls.length then t.ls ++ [Lf.zero] else t.ls
theorem gapL_set (t : Tr) (l : Lf) : (gapL t).set t.gap l = addL t l := by
  unfold gapL addL
  by_cases h : t.gap = t.ls.length
  · rw [if_pos h, if_pos h, h]
    simp
  · rw [if_neg h, if_neg h]
theorem gapL_len (t : Tr) (l : Lf) : (gapL t).length = (addL t l).length := by
  rw [← gapL_set t l, List.length_set]
theorem onDir_get {f : Pn → Pn} {D : List Int} {ps : List Pn} {k : Nat} (hn : D.Nodup) (hD : ∀ x ∈ D, x = 2 * (x / 2) + 1 ∧ 0 ≤ x / 2) (hk : 2 * (k : Int) + 1 ∉ D) : (onDir f D ps)[k]? = ps[k]? := by
  rw [onDir_eq hn hD, List.getElem?_mapIdx]
  simp only [if_neg hk]
  cases ps[k]? <;> rfl
theorem Tr.Rt.addPs_loose {t : Tr} (h : t.Rt) : ∀ p ∈ addPs t, p.loose.length ≤ 64 ∧ p.loose.Pairwise (· < ·) := by
  intro p hp
  unfold addPs at hp
  split at hp
  · rcases List.mem_append.1 hp with hp | hp
    · exact h.loose p hp
    · rw [List.mem_singleton.1 hp]
      exact ⟨by simp [Pn.zero], .nil⟩
  · exact h.loose p hp
theorem ins_len (l : List Int) (x : Int) : (ins l x).length = l.length + 1 := by
  have : bs' l x ≤ l.length := List.findIdx_le_length
  unfold ins
  simp
  omega
section
variable {H : Hp} {w0 w : World} {L R : List Res} {A B C : Option Addr} {a b c n : Nat} {t : Tr} {qs ps : List (List Fd)}
theorem add_q {Q : Hp → Value → Prop} (l : Lf) (hq : ∀ H' v1 r, t.addP l = r → TrF H' v1 r.1 → Q H' (.tuple #[v1, .int .i64 r.2.1, .int .i64 r.2.2])) (h1 : Sl H 97 A (t.ls.map Lf.fds)) (h2 : Sl H 66 B qs) (h3 : All2 (PnF H) qs t.ps) (hl : t.ls.length ≤ maxLen) (hp : t.ps.length ≤ maxLen) (hf : Fz H w) :
    Calls Tryz.prog 28 #[tv A t.ls.length a B t.ps.length b, lv l] w (Outp H w Q) := by
  obtain ⟨w1, hw1⟩ : ∃ w1, w1 = w := ⟨_, rfl⟩
  rw [← hw1]
  rw [← hw1] at hf
  have hM := Mem.start hf
  refine C_tree_Add ?_
  unfold F_tree_Add
  ((with_reducible (refine mm_box hM ?_; clear hM; intro _ _ hM; refine mm_box hM ?_; clear hM; intro _ _ hM; refine mm_new hM ?_; clear hM; intro _ _ hM)))
  rename_i g1 _ g2 _ g3 _
  refine ⟨fun v w' => v = .bool (decide (¬ t.right = true ∨ l.name < 1 ∨ 64 < l.name)) ∧ hM.now w', ?_, ?_⟩
  · ((with_reducible (refine mm_ld hM ?_)))
    refine mm_pure hM (right_ok h1 h2 h3 hl hp hM.fz) (fun w hM => ?_)
    ((with_reducible (refine mop_c trivial ?_)))
    cases hr : t.right
    · rw [Bool.not_false]
      ((with_reducible ((iterate 3 refine mguard_n1 ?_); refine mop_c trivial ?_; (iterate 3 refine mguard_n1 ?_); refine mop_c trivial ?_)))
      exact ⟨by simp, hM.sub⟩
    · rw [Bool.not_true]
      ((with_reducible (refine mguard_yes ?_; refine mop_c trivial ?_; refine mguard_yes ?_; refine mm_ld hM ?_; refine mguard_yes ?_)))
      ((with_reducible (refine mop_cS trivial ?_ ?_)))
      · intro h
        ((with_reducible (refine mop_c trivial ?_; (iterate 3 refine mguard_n1 ?_); refine mop_c trivial ?_)))
        exact ⟨by rw [decide_eq_true (.inr (.inl h))], hM.sub⟩
      · intro h
        ((with_reducible (refine mop_c trivial ?_; refine mguard_yes ?_; refine mop_c trivial ?_; refine mguard_yes ?_; refine mm_ld hM ?_; refine mguard_yes ?_)))
        ((with_reducible (refine mop_cS trivial ?_ ?_)))
        · intro h4
          ((with_reducible (refine mop_c trivial ?_)))
          exact ⟨by rw [decide_eq_true (.inr (.inr h4))], hM.sub⟩
        · intro h4
          ((with_reducible (refine mop_c trivial ?_)))
          exact ⟨by rw [decide_eq_false (fun hh => hh.elim (fun k => k rfl) (fun k => k.elim h h4))], hM.sub⟩
  rintro v u2 w2 ⟨rfl, hM⟩
  unfold Tr.addP at hq
  by_cases hc : ¬ t.right = true ∨ l.name < 1 ∨ 64 < l.name
  · rw [if_pos hc] at hq
    rw [decide_eq_true hc]
    ((with_reducible (refine mif_true ?_; refine mop_c trivial ?_; refine mm_st hM ?_; clear hM; intro _ hM; refine rm_ld hM ?_)))
    exact hM.out (Le.refl _ _) (hq _ _ _ rfl (trF_none H))
  rw [if_neg hc] at hq
  rw [decide_eq_false hc]
  have hr : t.right = true := Decidable.byContradiction fun h => hc (.inl h)
  have hR := Tr.rt.1 hr
  have hlen := hR.len
  have hs : t.sound = t := if_pos hr
  ((with_reducible (refine mif_false ?_; refine mm_ld hM ?_; refine mop_c trivial ?_; refine mm_ld hM ?_)))
  refine mm_pure hM (place_ok l.name h1 h2 h3 hl hp hM.fz) (fun w hM => ?_)
  rw [hs]
  skip
  ((with_reducible (refine mop_cS trivial ?_ ?_)))
  · intro h
    have h' : 0 ≤ t.place l.name := by omega
    rw [if_pos h'] at hq
    ((with_reducible (refine mif_true ?_; refine mop_c trivial ?_; refine mm_st hM ?_; clear hM; intro _ hM; refine rm_ld hM ?_)))
    exact hM.out (Le.refl _ _) (hq _ _ _ rfl (trF_none H))
  intro h
  rw [if_neg (show ¬ 0 ≤ t.place l.name by omega)] at hq
  ((with_reducible (refine mif_false ?_; refine mm_ld hM ?_)))
  refine mm_own (clone_ok h1 h2 h3 (by omega) (by omega) (fun p hp => by have := (hR.loose p hp).1; omega) hM) ?_
  rintro v w' ⟨A', a', B', b', X, rfl, hX, hM⟩
  have hXl : X.length = t.ps.length := by rw [← hX, List.length_map]
  ((with_reducible (refine mm_st hM ?_; clear hM; intro _ hM; refine mop_c trivial ?_; refine mm_ld hM ?_; refine mop_c trivial ?_)))
  refine mm_pure hM (index_ok (H := Hp.of _) t.ls (by omega) (hM.reads (A := A')) (Fz.of _)) (fun w hM => ?_)
  have hgl := t.gap_le
  have hfx : fix (fun l => decide (l = Lf.zero)) t.ls = if t.gap < t.ls.length then (t.gap : Int) else -1 := by
    unfold fix
    rw [hR.gap_eq]
  rw [hfx]
  have hM := hM.at_ (fb g1 25 (tfd A' t.ls.length a' B' t.ps.length b'))
  refine ⟨fun v w' => ¬ (t.gap = t.ls.length ∧ t.gap = 64) ∧ v = .int .i64 t.gap ∧ ∃ A2 a2 B2 b2 m Y, Y.map (·.1) = addPs t ∧ Y.length = m ∧ Mem H w1 [fb g1 25 (tfd A2 (gapL t).length a2 B2 m b2), fb g2 57 l.fds, fb g3 25 (tfd none 0 0 none 0 0), rowR 57 97 A2 (gapL t).length a2 ((gapL t).map Lf.fds), rowR 61 66 B2 m b2 (Y.map xrow), allR Y] w', ?_, ?_⟩
  · by_cases hgap : t.gap < t.ls.length
    · rw [if_pos hgap]
      ((with_reducible (refine mop_cF trivial ?_ ?_)); (focus (first | assumption | omega | with_reducible rfl | exact fun h => Bool.noConfusion h)); (with_reducible (refine mif_false ?_)))
      have e1 : gapL t = t.ls := if_neg (by omega)
      have e2 : addPs t = t.ps := if_neg (by omega)
      rw [e1, e2]
      exact ⟨by omega, rfl, A', a', B', b', t.ps.length, X, hX, hXl, hM.sub⟩
    · rw [if_neg hgap]
      have hge : t.gap = t.ls.length := by omega
      have e1 : gapL t = t.ls ++ [Lf.zero] := if_pos hge
      ((with_reducible (refine mop_cT trivial ?_ ?_)); (focus (first | assumption | omega | with_reducible rfl | exact fun h => Bool.noConfusion h)); (with_reducible (refine mif_true ?_; refine mop_c trivial ?_; refine mm_ld hM ?_; refine mop_c trivial ?_)))
      ((with_reducible (refine mop_cS trivial ?_ ?_)))
      · intro hf
        rw [if_pos (by omega)] at hq
        ((with_reducible (refine mif_true ?_; refine mop_c trivial ?_; refine mm_st hM ?_; clear hM; intro _ hM; refine rm_ld hM ?_)))
        exact hM.out (Le.refl _ _) (hq _ _ _ rfl (trF_none H))
      · intro hnf
        have hnf2 : ¬ (t.gap = t.ls.length ∧ t.gap = 64) := by omega
        ((with_reducible (refine mif_false ?_)))
        refine ⟨fun w' => ∃ B2 b2 m Y, Y.map (·.1) = addPs t ∧ Y.length = m ∧ Mem H w1 [fb g1 25 (tfd A' t.ls.length a' B2 m b2), fb g2 57 l.fds, fb g3 25 (tfd none 0 0 none 0 0), rowR 57 97 A' t.ls.length a' (t.ls.map Lf.fds), rowR 61 66 B2 m b2 (Y.map xrow), allR Y] w', ?_, ?_⟩
        · skip
          ((with_reducible (refine mop_cS trivial ?_ ?_)))
          · intro hpos
            ((with_reducible (refine mif_true ?_; refine mop_c trivial ?_; refine mm_ld hM ?_; refine mop_c trivial ?_; refine mm_bsl hM ?_ ?_ ?_)); (focus rfl); (focus (constructor <;> simp)); (with_reducible (clear hM; intro _ _ hM; refine mm_appo hM ?_ ?_)); (focus omega); (with_reducible (clear hM; intro _ _ _ hM; refine mop_c trivial ?_; refine mm_st hM ?_; clear hM; intro _ hM)))
            rename_i A3 c3 _ _
            have e2 : addPs t = t.ps ++ [Pn.zero] := if_pos ⟨hge, by omega⟩
            rw [← xrow0, show X.map xrow ++ [xrow x0] = (X ++ [x0]).map xrow by simp] at hM
            have h0 : Mem H w1 (xres x0 :: _) _ := hM.row0 3 1
            have hM : Mem H w1 [allR X, xres x0, rowR 61 66 A3 (t.ps.length + 1) c3 ((X ++ [x0]).map xrow), fb g1 25 (tfd A' t.ls.length a' A3 (t.ps.length + 1) c3), rowR 57 97 A' t.ls.length a' (t.ls.map Lf.fds), fb g3 25 (tfd none 0 0 none 0 0), fb g2 57 l.fds] _ := h0.same
            exact ⟨A3, c3, t.ps.length + 1, X ++ [x0], by rw [e2, List.map_append, hX]; rfl, by simp [hXl], hM.addk.same⟩
          · intro hz
            ((with_reducible (refine mif_false ?_)))
            have e2 : addPs t = t.ps := if_neg (by omega)
            rw [e2]
            exact ⟨B', b', t.ps.length, X, hX, hXl, hM.sub⟩
        · clear hM
          rintro u3 w3 ⟨B2, b2, m, Y, hY, hYl, hM⟩
          ((with_reducible (refine mop_c trivial ?_; refine mm_ld hM ?_; refine mop_c trivial ?_; refine mm_bsl hM ?_ ?_ ?_)); (focus rfl); (focus (constructor <;> simp)); (with_reducible (clear hM; intro _ _ hM; refine mm_appo hM ?_ ?_)); (focus omega); (with_reducible (clear hM; intro _ _ _ hM; refine mop_c trivial ?_; refine mm_st hM ?_; clear hM; intro _ hM)))
          rename_i A3 c3 _ _
          have e4 : t.ls.length + 1 = (gapL t).length := by rw [e1]; simp
          have e5 : t.ls.map Lf.fds ++ [[Fd.one (.int .i64 0), .arr 32 (u8s hzero.1), .arr 32 (u8s hzero.1), .arr 32 (u8s hzero.1)]] = (gapL t).map Lf.fds := by
            rw [e1, List.map_append]
            rfl
          rw [e5, e4] at hM
          exact ⟨hnf2, by rw [hge], A3, c3, B2, b2, m, Y, hY, hYl, hM.sub⟩
  clear hM
  rintro v u4 w4 ⟨hnf, rfl, A2, a2, B2, b2, m, Y, hY, hYl, hM⟩
  rw [if_neg hnf] at hq
  have hgn := gapL_len t l
  have hgs := gapL_set t l
  have hap := addPs_len hR l
  have hln : (addL t l).length ≤ 64 ∧ t.gap < (addL t l).length := by
    rw [addL_len]
    split <;> omega
  rw [← hY, List.length_map, hYl] at hap
  obtain ⟨g4, rfl⟩ := (hM.up A2).rowAt ⟨.refl _⟩ (by omega)
  ((with_reducible (refine mop_c trivial ?_; refine mm_ld hM ?_; refine mm_ld hM ?_; refine mm_ixr hM ?_ ?_)); (focus omega); (with_reducible (intro _ hA)); (cases hA); (with_reducible (refine mm_str hM ?_ ?_)); (focus omega); (with_reducible (clear hM; intro _ hM; refine mop_c trivial ?_; refine mm_ld hM ?_; refine mop_c trivial ?_)))
  rw [Int.toNat_natCast, ← List.map_set, hgs, hgn] at hM
  rw [hgn]
  refine mm_call hM (bdirect_ok (addL t l).length t.gap (by omega) hM.fz) ?_
  rintro H1 v w5 l1 hM ⟨D, c, rfl, hD⟩
  have hdl := dirL_len (addL t l).length t.gap
  have hdm := fun x hx => dir_mem (n := (addL t l).length) (l := t.gap) (x := x) (by omega) hx
  have hnd := dir_nodup (n := (addL t l).length) (l := t.gap) (by omega)
  generalize hDL : dirL (addL t l).length t.gap = DL at *
  ((with_reducible (refine mop_c trivial ?_)))
  refine ⟨fun v w' => ∃ (i : Nat) (Z : List Xp) (H2 : Hp), v = .int .i64 i ∧ i ≤ DL.length ∧ Z.map (·.1) = onDir (updA t.gap) (DL.take i) (Y.map (·.1)) ∧ Z.length = m ∧ Le w1 H1 H2 ∧ Mem H2 w1 [fb g1 25 (tfd (some ⟨g4, 0, none⟩) (addL t l).length a2 B2 m b2), fb g2 57 l.fds, fb g3 25 (tfd none 0 0 none 0 0), rowR 57 97 (some ⟨g4, 0, none⟩) (addL t l).length a2 ((addL t l).map Lf.fds), rowR 61 66 B2 m b2 (Z.map xrow), allR Z] w', fun v _ => match v with | .int _ k => DL.length - k.toNat | _ => 0, ⟨0, Y, H1, rfl, by omega, rfl, hYl, Le.refl _ _, hM.same⟩, ?_⟩
  clear hM
  rintro v u6 w6 ⟨i, Z, H2, rfl, hi, hZ, hZl, l2, hM⟩
  have hD := hD.mono l2.le
  ((with_reducible (refine mop_cS trivial ?_ ?_)))
  · intro hlt
    have hlt' : i < DL.length := by omega
    have hxm := hdm DL[i] (List.getElem_mem _)
    have hk : (DL[i] / 2).toNat < Z.length := by omega
    have hk2 : (DL[i] / 2).toNat < (addPs t).length := by rw [← hY, List.length_map]; omega
    have hZk : Z[(DL[i] / 2).toNat].1 = (addPs t)[(DL[i] / 2).toNat] := by
      have e1 : (Z.map (·.1))[(DL[i] / 2).toNat]? = (addPs t)[(DL[i] / 2).toNat]? := by
        rw [hZ, hY]
        refine onDir_get (hnd.sublist (List.take_sublist _ _)) (fun y hy => by have := hdm y (List.mem_of_mem_take hy); omega) fun hm => ?_
        rw [show 2 * (((DL[i] / 2).toNat : Nat) : Int) + 1 = DL[i] by omega] at hm
        obtain ⟨j, hj, e⟩ := List.getElem_of_mem hm
        rw [List.getElem_take] at e
        have := (List.getElem_inj hnd).1 e
        simp at hj
        omega
      rw [List.getElem?_map, List.getElem?_eq_getElem hk, List.getElem?_eq_getElem hk2] at e1
      exact Option.some.inj e1
    obtain ⟨hs1, hs2⟩ := hR.addPs_loose _ (List.getElem_mem hk2)
    rw [← hZk] at hs1 hs2
    ((with_reducible (refine mif_true ?_)))
    refine ⟨fun w' => ∃ (Z' : List Xp) (H3 : Hp), Z'.map (·.1) = onDir (updA t.gap) (DL.take (i + 1)) (Y.map (·.1)) ∧ Z'.length = m ∧ Le w1 H1 H3 ∧ Mem H3 w1 [fb g1 25 (tfd (some ⟨g4, 0, none⟩) (addL t l).length a2 B2 m b2), fb g2 57 l.fds, fb g3 25 (tfd none 0 0 none 0 0), rowR 57 97 (some ⟨g4, 0, none⟩) (addL t l).length a2 ((addL t l).map Lf.fds), rowR 61 66 B2 m b2 (Z'.map xrow), allR Z'] w', ?_, ?_⟩
    · ((with_reducible refine mm_ixs ‹_› ?_ ?_ ?_); (focus (simp only [List.length_map]; omega)); (focus (simp only [List.length_map]; first | done | omega)); (with_reducible (intro _ _ hA)); (cases hA); (with_reducible refine mm_lds0 hM ‹_› (map_atI ?_) ?_); (focus omega); (with_reducible (refine mop_c trivial ?_; refine mm_ld hM ?_; refine mop_c ?_ ?_)); (focus omega); (with_reducible (refine mm_ixr hM ?_ ?_)); (focus omega); (with_reducible (intro _ hA)); (cases hA); (with_reducible (refine mop_c trivial ?_; refine mop_c trivial ?_; refine mm_ldr hM (map_at ?_) ?_)); (focus omega))
      cases hset : Z[(DL[i] / 2).toNat].1.set
      · ((with_reducible (refine mif_false ?_)))
        refine ⟨Z, H2, ?_, hZl, l2, hM⟩
        rw [onDir_succ hlt', ← hZ]
        refine List.ext_getElem (by simp) fun j h1 h2 => ?_
        simp only [List.getElem_modify, List.getElem_map]
        split
        · rename_i e
          subst e
          unfold updA
          rw [if_neg (by rw [hset]; simp)]
        · rfl
      · have hM := (hM.at_ (allR Z)).outk hk
        ((with_reducible (refine mif_true ?_; refine mop_c trivial ?_; refine mop_c trivial ?_; refine mm_ldr hM (map_at ?_) ?_)); (focus omega))
        refine mm_own (Q := fun v w' => ∃ bb, v = .tuple #[.int .i64 (bs' Z[(DL[i] / 2).toNat].1.loose t.gap), .bool bb] ∧ hM.now w') ((bsearch_ok (H := Hp.of _) Z[(DL[i] / 2).toNat].1.loose t.gap hs2 (by omega) (hM.reads (A := Z[(DL[i] / 2).toNat].2.1)) (Fz.of _)).mono ?_) ?_
        · rintro e w' ⟨⟨bb, rfl⟩, hst⟩
          exact ⟨_, rfl, bb, rfl, hM.call0 hst⟩
        rintro v w' ⟨bb, rfl, hM⟩
        ((with_reducible ((iterate 4 refine mop_c trivial ?_); refine mm_ldr hM (map_at ?_) ?_)); (focus omega); (with_reducible (refine mm_bsl hM ?_ ?_ ?_)); (focus rfl); (focus (constructor <;> simp)); (with_reducible (clear hM; intro _ _ hM)))
        refine mm_own (insert_ok Z[(DL[i] / 2).toNat].1.loose (bs' Z[(DL[i] / 2).toNat].1.loose t.gap) t.gap List.findIdx_le_length (by omega) (hM.up Z[(DL[i] / 2).toNat].2.1)) ?_
        rintro v w' ⟨A5, c5, rfl, hM⟩
        ((with_reducible (refine mop_c trivial ?_; refine mop_c trivial ?_)))
        refine mm_stf hM (map_at hk) (fun w' hM => ?_)
        have hy : updA t.gap Z[(DL[i] / 2).toNat].1 = { Z[(DL[i] / 2).toNat].1 with loose := ins Z[(DL[i] / 2).toNat].1.loose t.gap } := if_pos hset
        have hil := ins_len Z[(DL[i] / 2).toNat].1.loose t.gap
        have hrow : xrow (updA t.gap Z[(DL[i] / 2).toNat].1, A5, c5) = [.one (.bool Z[(DL[i] / 2).toNat].1.set), .arr 32 (u8s Z[(DL[i] / 2).toNat].1.pub.1), .arr 32 (u8s Z[(DL[i] / 2).toNat].1.abv.1), .one (.slice A5 (Z[(DL[i] / 2).toNat].1.loose.length + 1) c5)] := by
          rw [hy]
          show [Fd.one (.bool Z[(DL[i] / 2).toNat].1.set), _, _, Fd.one (.slice A5 (ins Z[(DL[i] / 2).toNat].1.loose t.gap).length c5)] = _
          rw [hil]
        have hres : rowR 3 1 A5 (Z[(DL[i] / 2).toNat].1.loose.length + 1) c5 (ints8 (Z[(DL[i] / 2).toNat].1.loose.take (bs' Z[(DL[i] / 2).toNat].1.loose t.gap) ++ (t.gap : Int) :: Z[(DL[i] / 2).toNat].1.loose.drop (bs' Z[(DL[i] / 2).toNat].1.loose t.gap))) = xres (updA t.gap Z[(DL[i] / 2).toNat].1, A5, c5) := by
          rw [hy, ← hil]
          rfl
        rw [← hrow, ← List.map_set, hres] at hM
        have hM := ((hM.at_ (restR Z (DL[i] / 2).toNat)).at_ (xres (updA t.gap Z[(DL[i] / 2).toNat].1, A5, c5))).ink hk
        skip
        refine ⟨Z.set (DL[i] / 2).toNat (updA t.gap Z[(DL[i] / 2).toNat].1, A5, c5), H2, ?_, by simpa using hZl, l2, hM.same⟩
        rw [onDir_succ hlt', ← hZ]
        refine List.ext_getElem (by simp) fun j h1 h2 => ?_
        simp only [List.getElem_modify, List.getElem_map, List.getElem_set]
        split
        · rename_i e
          subst e
          rfl
        · rfl
    · clear hM
      rintro u7 w7 ⟨Z', H3, hZ', hZl', l3, hM⟩
      ((with_reducible (refine mop_c ?_ ?_)); (focus omega))
      exact ⟨⟨i + 1, Z', H3, rfl, by omega, hZ', hZl', l3, hM⟩, by simp only; omega⟩
  · intro hge
    ((with_reducible (refine mif_false ?_; refine mm_ld hM ?_; refine mm_st hM ?_; clear hM; intro _ hM; refine rm_ld hM ?_)))
    rw [List.take_of_length_le (by omega), hY] at hZ
    rw [← hZl] at hM ⊢
    have hM : Mem H2 w1 [rowR 57 97 (some ⟨g4, 0, none⟩) (addL t l).length a2 ((addL t l).map Lf.fds), rowR 61 66 B2 Z.length b2 (Z.map xrow), allR Z] _ := hM.sub
    obtain ⟨H4, l4, hM, hT⟩ := hM.frzT (fun x hx => by
      have hm : x.1 ∈ onDir (updA t.gap) DL (addPs t) := hZ ▸ List.mem_map_of_mem hx
      rw [onDir_eq hnd fun y hy => by have := hdm y hy; omega] at hm
      obtain ⟨k, hk, e⟩ := List.getElem_of_mem hm
      rw [List.getElem_mapIdx] at e
      have hk' : k < (addPs t).length := by simpa using hk
      have := (hR.addPs_loose _ (List.getElem_mem hk')).1
      have h64 : x.1.loose.length ≤ 65 := by
        rw [← e]
        split
        · unfold updA
          split
          · rw [ins_len]
            omega
          · omega
        · omega
      simp only [maxLen]
      omega)
    refine hM.out ((l1.trans l2).trans l4) (hq _ _ _ rfl ?_)
    rw [hZ] at hT
    exact hT
end
end Go.Proofs.YtopcnkejobomaaaGreat
namespace Go.Proofs.YtopcnkejobomaaaGreat
open Go.RowKit Go.Lib
theorem onDir_mem {f : Pn → Pn} {P : Pn → Prop} (hf : ∀ p, P p → P (f p)) : ∀ {D : List Int} {ps : List Pn}, (∀ p ∈ ps, P p) → ∀ p ∈ onDir f D ps, P p
  | [], _, h => h
  | x :: D, ps, h => by
    refine onDir_mem hf (D := D) (ps := ps.modify (x / 2).toNat f) fun p hp => ?_
    obtain ⟨i, hi, rfl⟩ := List.getElem_of_mem hp
    rw [List.getElem_modify]
    have hi' : i < ps.length := by simpa using hi
    split
    · exact hf _ (h _ (List.getElem_mem hi'))
    · exact h _ (List.getElem_mem hi')
theorem Tr.Rt.blank_loose {t : Tr} (h : t.Rt) {p : Int} : ∀ q ∈ blankP t.size p t.ps, q.loose.length ≤ 64 :=
  onDir_mem (P := fun q => q.loose.length ≤ 64) (fun _ _ => by simp [Pn.zero]) fun q hq => (h.loose q hq).1
theorem Tr.body {t : Tr} {p : Int} (h : ¬ t.nobody p) : 0 ≤ p ∧ p.toNat < t.ls.length ∧ p < t.ls.length := by
  unfold Tr.nobody Tr.size at h
  omega
section
variable {H : Hp} {w0 w : World} {L R : List Res} {A B C : Option Addr} {a b c n : Nat} {t : Tr} {qs ps : List (List Fd)}
theorem remove_q {Q : Hp → Value → Prop} (p : Int) (hq : ∀ H' v1 r, t.remP p = r → TrF H' v1 r.1 → Q H' (.tuple #[v1, .int .i64 r.2])) (h1 : Sl H 97 A (t.ls.map Lf.fds)) (h2 : Sl H 66 B qs) (h3 : All2 (PnF H) qs t.ps) (hl : t.ls.length ≤ maxLen) (hp : t.ps.length ≤ maxLen) (hf : Fz H w) :
    Calls Tryz.prog 29 #[tv A t.ls.length a B t.ps.length b, .int .i64 p] w (Outp H w Q) := by
  obtain ⟨w1, hw1⟩ : ∃ w1, w1 = w := ⟨_, rfl⟩
  rw [← hw1]
  rw [← hw1] at hf
  have hM := Mem.start hf
  refine C_tree_Remove ?_
  unfold F_tree_Remove
  unfold Tr.remP at hq
  ((with_reducible (refine mm_box hM ?_; clear hM; intro _ _ hM; refine mm_new hM ?_; clear hM; intro _ _ hM; refine mm_ld hM ?_)))
  rename_i g1 _ g2 _
  refine mm_pure hM (right_ok h1 h2 h3 hl hp hM.fz) (fun w hM => ?_)
  ((with_reducible (refine mop_c trivial ?_)))
  cases hr : t.right
  · rw [if_pos (by rw [hr]; simp)] at hq
    rw [Bool.not_false]
    ((with_reducible (refine mif_true ?_; refine mop_c trivial ?_; refine mm_st hM ?_; clear hM; intro _ hM; refine rm_ld hM ?_)))
    exact hM.out (Le.refl _ _) (hq _ _ _ rfl (trF_none H))
  rw [if_neg (by rw [hr]; simp)] at hq
  have hR := Tr.rt.1 hr
  have hlen := hR.len
  rw [Bool.not_true]
  ((with_reducible (refine mif_false ?_; refine mm_ld hM ?_)))
  refine mm_pure hM (none_ok p h1 hl hM.fz) (fun w hM => ?_)
  by_cases hn : t.nobody p
  · rw [if_pos hn] at hq
    rw [decide_eq_true hn]
    ((with_reducible (refine mif_true ?_; refine mop_c trivial ?_; refine mm_st hM ?_; clear hM; intro _ hM; refine rm_ld hM ?_)))
    exact hM.out (Le.refl _ _) (hq _ _ _ rfl (trF_none H))
  rw [if_neg hn] at hq
  rw [decide_eq_false hn]
  obtain ⟨hb0, hb1, hb2⟩ := Tr.body hn
  ((with_reducible (refine mif_false ?_; refine mm_ld hM ?_)))
  refine mm_own (clone_ok h1 h2 h3 (by omega) (by omega) (fun p hp => by have := (hR.loose p hp).1; omega) hM) ?_
  rintro v w' ⟨A', a', B', b', X, rfl, hX, hM⟩
  have hXl : X.length = t.ps.length := by rw [← hX, List.length_map]
  obtain ⟨g4, rfl⟩ := hM.rowAt ⟨.refl _⟩ (by omega)
  ((with_reducible (refine mm_st hM ?_; clear hM; intro _ hM; refine mop_c trivial ?_; refine mm_ld hM ?_; refine mop_c trivial ?_; refine mm_ixr hM ?_ ?_)); (focus omega); (with_reducible (intro _ hA)); (cases hA); (with_reducible (refine mm_str hM ?_ ?_)); (focus omega); (with_reducible (clear hM; intro _ hM; refine mm_ld hM ?_)))
  have hz : [Fd.one (.int .i64 0), .arr 32 (u8s hzero.1), .arr 32 (u8s hzero.1), .arr 32 (u8s hzero.1)] = Lf.zero.fds := rfl
  rw [hz, ← List.map_set] at hM
  have hsl : (t.ls.set p.toNat Lf.zero).length = t.ls.length := List.length_set
  obtain ⟨ls2, hls⟩ : ∃ ls2, t.ls.set p.toNat Lf.zero = ls2 := ⟨_, rfl⟩
  rw [hls] at hM hsl hq
  rw [← hsl, ← hXl] at hM
  have hM : Mem H w1 [rowR 57 97 (some ⟨g4, 0, none⟩) ls2.length a' (ls2.map Lf.fds), rowR 61 66 B' X.length b' (X.map xrow), allR X, fb g1 25 (tfd (some ⟨g4, 0, none⟩) ls2.length a' B' X.length b'), fb g2 25 (tfd none 0 0 none 0 0)] _ := hM.sub
  rw [← hsl, ← hXl]
  refine mm_own (blank_ok (ls := ls2) (X := X) (p := p) (by omega) (by omega) hM) ?_
  clear hM
  rintro v w5 ⟨H1, Y, rfl, hY, hYl, l1, hM⟩
  rw [hX] at hY
  ((with_reducible (refine mop_c trivial ?_; refine mm_ld hM ?_; refine mop_c trivial ?_)))
  refine ⟨fun v w' => ∃ i : Nat, v = .int .i64 i ∧ i ≤ ls2.length ∧ keepN ls2 ls2.length = keepN ls2 i ∧ hM.now w', fun v _ => match v with | .int _ k => k.toNat | _ => 0, ⟨ls2.length, rfl, by omega, rfl, hM⟩, ?_⟩
  rintro v u6 w6 ⟨i, rfl, hi, hk, hM⟩
  obtain ⟨-, ca1, -, -⟩ := (hM.up (some ⟨g4, 0, none⟩)).rowLen ⟨.refl _⟩
  obtain ⟨-, cb1, -, -⟩ := (hM.up B').rowLen ⟨.refl _⟩
  refine ⟨fun w' => 0 < i ∧ keepN ls2 i = keepN ls2 (i - 1) ∧ hM.now w', ?_, ?_⟩
  · skip
    have hfin : keepN ls2 i = i → ∀ w', Mem H1 w1 [rowR 57 97 (some ⟨g4, 0, none⟩) ls2.length a' (ls2.map Lf.fds), rowR 61 66 B' X.length b' (Y.map xrow), allR Y] w' → Outp H w1 Q (.returned (.tuple #[.agg (fl (tfd (some ⟨g4, 0, none⟩) (i : Int).toNat a' B' (if (i : Int) - 1 < 0 then 0 else (i : Int) - 1).toNat b')).toArray, .int .i64 0])) w' := fun hi2 w' hM => by
      rw [hi2] at hk
      have hM := hM.short (k := i) (by omega)
      have hM := (hM.up B').short (k := i - 1) (by omega)
      have hM := (hM.at_ (allR Y)).dropk (i - 1)
      have e1 : (ls2.take i).length = i := by rw [List.length_take]; omega
      have e2 : (Y.take (i - 1)).length = i - 1 := by rw [List.length_take]; omega
      rw [← List.map_take, ← List.map_take] at hM
      have hM : Mem H1 w1 [rowR 57 97 (some ⟨g4, 0, none⟩) i a' ((ls2.take i).map Lf.fds), rowR 61 66 B' (i - 1) b' ((Y.take (i - 1)).map xrow), allR (Y.take (i - 1))] w' := hM.same
      have hM : Mem H1 w1 [rowR 57 97 (some ⟨g4, 0, none⟩) (ls2.take i).length a' ((ls2.take i).map Lf.fds), rowR 61 66 B' (Y.take (i - 1)).length b' ((Y.take (i - 1)).map xrow), allR (Y.take (i - 1))] w' := by
        rw [e1, e2]
        exact hM
      obtain ⟨H4, l4, hM, hT⟩ := hM.frzT (fun x hx => by
        have hm : x.1 ∈ blankP t.size p t.ps := by
          have : x.1 ∈ Y.map (·.1) := List.mem_map_of_mem (List.mem_of_mem_take hx)
          rw [hY, hsl] at this
          exact this
        have := hR.blank_loose _ hm
        simp only [maxLen]
        omega)
      rw [e1, e2] at hT
      rw [Int.toNat_natCast, show (if (i : Int) - 1 < 0 then 0 else (i : Int) - 1).toNat = i - 1 by split <;> omega]
      refine hM.out (l1.trans l4) (hq _ _ _ rfl ?_)
      show TrF H4 _ (cut ls2 (blankP t.size p t.ps))
      unfold cut
      rw [hk]
      rw [List.map_take, hY, hsl] at hT
      exact hT
    ((with_reducible (refine mop_cS trivial ?_ ?_)))
    · intro hpos
      have hix : ((i : Int) - 1).toNat < ls2.length := by omega
      have hna := nameAt_at (ls := ls2) (p := (i : Int) - 1) (by omega) hix
      ((with_reducible (refine mguard_yes ?_; refine mop_c trivial ?_; refine mguard_yes ?_; refine mm_ld hM ?_; refine mguard_yes ?_; refine mop_c trivial ?_; refine mguard_yes ?_; refine mop_c ?_ ?_)); (focus omega); (with_reducible (refine mguard_yes ?_; refine mm_ixr hM ?_ ?_)); (focus omega); (with_reducible (intro _ hA)); (cases hA); (with_reducible (refine mguard_yes ?_; refine mop_c trivial ?_; refine mguard_yes ?_; refine mm_ldr hM (map_at ?_) ?_)); (focus omega); (with_reducible (refine mguard_yes ?_)))
      rw [← hna]
      have hkn : keepN ls2 i = if nameAt ls2 ((i : Int) - 1) = 0 then keepN ls2 (i - 1) else i := by
        cases i with
        | zero => omega
        | succ i =>
          rw [keepN]
          simp
      ((with_reducible (refine mop_cS trivial ?_ ?_)))
      · intro h0
        ((with_reducible (refine mop_c trivial ?_; refine mif_true ?_)))
        exact ⟨by omega, by rw [hkn, if_pos h0], hM⟩
      · intro h0
        rw [if_neg h0] at hkn
        ((with_reducible (refine mop_c trivial ?_; refine mif_false ?_; refine dp_c trivial ?_; refine dm_ld hM ?_; refine dp_c ?_ ?_)); (focus omega); (with_reducible (refine dp_c trivial ?_; refine dm_ld hM ?_; refine dp_c ?_ ?_)); (focus omega); (with_reducible (refine dp_c trivial ?_; refine dp_c ?_ ?_)); (focus omega); (with_reducible (refine dp_c trivial ?_; refine dS_st hM ?_; clear hM; intro _ hM; refine dp_c trivial ?_; refine dS_st hM ?_; clear hM; intro _ hM; refine mm_end hM ?_; clear hM; intro _ hM; refine mm_ld hM ?_; refine mm_st hM ?_; clear hM; intro _ hM; refine rm_ld hM ?_)))
        exact hfin hkn _ hM.sub
    · intro hz
      ((with_reducible ((iterate 8 refine mguard_n2 ?_); refine mop_c trivial ?_; refine mif_false ?_; refine dp_c trivial ?_; refine dm_ld hM ?_; refine dp_c ?_ ?_)); (focus omega); (with_reducible (refine dp_c trivial ?_; refine dm_ld hM ?_; refine dp_c ?_ ?_)); (focus omega); (with_reducible (refine dp_c trivial ?_; refine dp_c ?_ ?_)); (focus omega); (with_reducible (refine dp_c trivial ?_; refine dS_st hM ?_; clear hM; intro _ hM; refine dp_c trivial ?_; refine dS_st hM ?_; clear hM; intro _ hM; refine mm_end hM ?_; clear hM; intro _ hM; refine mm_ld hM ?_; refine mm_st hM ?_; clear hM; intro _ hM; refine rm_ld hM ?_)))
      obtain rfl : i = 0 := by omega
      exact hfin rfl _ hM.sub
  · rintro u7 w7 ⟨hpos, hk2, hM⟩
    ((with_reducible (refine mop_c ?_ ?_)); (focus omega))
    exact ⟨⟨i - 1, by congr 1; omega, by omega, by rw [hk, hk2], hM⟩, by simp only; omega⟩
end
end Go.Proofs.YtopcnkejobomaaaGreat
namespace Go.Proofs.YtopcnkejobomaaaGreat
open Go.RowKit Go.Lib
section
variable {H : Hp} {w0 w : World} {L R : List Res} {A B C : Option Addr} {a b c n : Nat} {t : Tr} {qs ps : List (List Fd)}
theorem tright_ok (h1 : Sl H 97 A (t.ls.map Lf.fds)) (h2 : Sl H 66 B qs) (h3 : All2 (PnF H) qs t.ps) (hl : t.ls.length ≤ maxLen) (hp : t.ps.length ≤ maxLen) (hf : Fz H w) :
    Calls Tryz.prog 7 #[tv A t.ls.length a B t.ps.length b] w fun en w' => en = .returned (.bool t.right) ∧ St w [] w' := by
  have hM := Mem.start hf
  refine C_bevyref08_Right ?_
  unfold F_bevyref08_Right
  have hl' : t.ls.length ≤ 9223372036854775807 := hl
  have hp' : t.ps.length ≤ 9223372036854775807 := hp
  have hq : qs.length = t.ps.length := h3.len
  have hts : t.size = t.ls.length := rfl
  ((with_reducible (refine mm_box hM ?_; clear hM; intro _ _ hM; refine mop_c trivial ?_; refine mm_ld hM ?_; refine mop_c trivial ?_)))
  rename_i g1 _
  refine ⟨fun v w' => v = .bool (!decide (t.ls.length ≤ 64 ∧ t.ps.length = t.ls.length - 1)) ∧ hM.now w', ?_, ?_⟩
  · ((with_reducible (refine mop_cS trivial ?_ ?_)))
    · intro h
      ((with_reducible ((iterate 3 refine mguard_n1 ?_); (iterate 6 refine mguard_un ?_); refine mguard_n1 ?_; refine mop_c trivial ?_; (iterate 3 refine mguard_n1 ?_); (iterate 4 refine mguard_un ?_); refine mguard_n1 ?_; refine mop_c trivial ?_)))
      exact ⟨by rw [decide_eq_false (by omega)]; rfl, hM⟩
    · intro h
      ((with_reducible (refine mguard_yes ?_; refine mop_c trivial ?_; refine mguard_yes ?_)))
      ((with_reducible (refine mop_cS trivial ?_ ?_)))
      · intro h4
        ((with_reducible (refine mguard_yes ?_; refine mop_c trivial ?_; refine mguard_yes ?_; refine mop_c trivial ?_; refine mguard_yes ?_; refine mm_ld hM ?_; refine mguard_yes ?_; refine mop_c trivial ?_; refine mguard_yes ?_; refine mop_c trivial ?_; refine mguard_yes ?_; refine mop_c ?_ ?_)); (focus omega); (with_reducible (refine mguard_yes ?_)))
        ((with_reducible (refine mop_cS trivial ?_ ?_)))
        · intro h5
          ((with_reducible (refine mguard_yes ?_; refine mop_c trivial ?_; refine mop_c trivial ?_; (iterate 3 refine mguard_n1 ?_); (iterate 4 refine mguard_un ?_); refine mguard_n1 ?_; refine mop_c trivial ?_)))
          exact ⟨by rw [decide_eq_false (by omega)]; rfl, hM⟩
        · intro h5
          ((with_reducible (refine mguard_yes ?_; refine mop_c trivial ?_; refine mop_c trivial ?_; refine mguard_yes ?_; refine mop_c trivial ?_; refine mguard_yes ?_; refine mop_cF trivial ?_ ?_)); (focus (first | assumption | omega | with_reducible rfl | exact fun h => Bool.noConfusion h)); (with_reducible (refine mguard_yes ?_; refine mop_c trivial ?_; (iterate 4 refine mguard_n2 ?_); refine mguard_yes ?_; refine mop_c trivial ?_; refine mop_c trivial ?_)))
          exact ⟨by rw [decide_eq_true (by omega)]; rfl, hM⟩
      · intro h4
        ((with_reducible (refine mguard_yes ?_; refine mop_c trivial ?_; (iterate 6 refine mguard_n2 ?_); refine mguard_yes ?_; refine mop_c trivial ?_; refine mop_c trivial ?_; refine mguard_yes ?_; refine mop_c trivial ?_; refine mguard_yes ?_; refine mop_cT trivial ?_ ?_)); (focus (first | assumption | omega | with_reducible rfl | exact fun h => Bool.noConfusion h)); (with_reducible (refine mguard_yes ?_; refine mop_c trivial ?_; refine mguard_yes ?_; refine mop_c trivial ?_; refine mguard_yes ?_; refine mm_ld hM ?_; refine mguard_yes ?_; refine mop_c trivial ?_; refine mguard_yes ?_)))
        ((with_reducible (refine mop_cS trivial ?_ ?_)))
        · intro h5
          ((with_reducible (refine mguard_yes ?_; refine mop_c trivial ?_; refine mop_c trivial ?_)))
          exact ⟨by rw [decide_eq_false (by omega)]; rfl, hM⟩
        · intro h5
          ((with_reducible (refine mguard_yes ?_; refine mop_c trivial ?_; refine mop_c trivial ?_)))
          exact ⟨by rw [decide_eq_true (by omega)]; rfl, hM⟩
  rintro v u w2 ⟨rfl, hM⟩
  by_cases hsz : t.ls.length ≤ 64 ∧ t.ps.length = t.ls.length - 1
  case neg =>
    rw [decide_eq_false hsz]
    ((with_reducible (refine mif_nf ?_)))
    refine ⟨?_, hM.st⟩
    unfold Tr.right
    rw [decide_eq_false hsz]
    rfl
  rw [decide_eq_true hsz]
  ((with_reducible (refine mif_nt ?_)))
  refine ⟨fun v w' => ∃ (i : Nat) (s : List Int), v = .int .i64 i ∧ i ≤ t.ls.length ∧ leavesB [] t.ls = leavesB s (t.ls.drop i) ∧ (∀ x, 1 ≤ x → (x ∈ s ↔ ∃ k, ∃ (hk : k < t.ls.length), k < i ∧ t.ls[k].name = x)) ∧ Mem H w [fb g1 25 (tfd A t.ls.length a B t.ps.length b)] w', fun v _ => match v with | .int _ k => t.ls.length - k.toNat | _ => 0, ⟨0, [], rfl, by omega, rfl, fun x _ => ⟨fun h => (by cases h), fun ⟨_, _, h, _⟩ => (by omega)⟩, hM⟩, ?_⟩
  clear hM
  rintro v u2 w3 ⟨i, s, rfl, hi, hb, hs, hM⟩
  ((with_reducible (refine mop_cS trivial ?_ ?_)))
  · intro hlt
    have hlt' : i < t.ls.length := by omega
    have hdr := leavesB_drop (s := s) (ls := t.ls) (i := i) hlt'
    ((with_reducible (refine mif_true ?_)))
    refine ⟨fun w' => ∃ s', leavesB [] t.ls = leavesB s' (t.ls.drop (i + 1)) ∧ (∀ x, 1 ≤ x → (x ∈ s' ↔ ∃ k, ∃ (hk : k < t.ls.length), k < i + 1 ∧ t.ls[k].name = x)) ∧ Mem H w [fb g1 25 (tfd A t.ls.length a B t.ps.length b)] w', ?_, ?_⟩
    · ((with_reducible (refine mop_c trivial ?_; refine mm_ld hM ?_)); (with_reducible refine mm_ixs ‹_› ?_ ?_ ?_); (focus (simp only [List.length_map]; omega)); (focus (simp only [List.length_map]; first | done | omega)); (with_reducible (intro _ _ hA)); (cases hA); (with_reducible refine mm_lds0 hM ‹_› (map_atI ?_) ?_); (focus omega); (with_reducible (refine mm_new hM ?_; clear hM; intro _ _ hM; refine mm_st hM ?_; clear hM; intro _ hM; refine mm_ld hM ?_; refine mop_c trivial ?_)))
      ((with_reducible (refine mop_cS trivial ?_ ?_)))
      · intro hz
        have hz' := (lf_zero _).2 hz
        ((with_reducible (refine mif_true ?_)))
        refine ⟨s, by rw [hb, hdr, if_pos hz'], fun x hx => (hs x hx).trans ⟨fun ⟨k, hk, h, e⟩ => ⟨k, hk, by omega, e⟩, fun ⟨k, hk, h, e⟩ => ?_⟩, hM.sub⟩
        rcases Nat.lt_or_ge k i with h6 | h6
        · exact ⟨k, hk, h6, e⟩
        · obtain rfl : k = i := by omega
          rw [hz'] at e
          simp only [Lf.zero] at e
          omega
      · intro hz
        rw [if_neg (fun e => hz ((lf_zero _).1 e))] at hdr
        ((with_reducible (refine mif_false ?_)))
        refine ⟨fun v w' => v = .bool (!decide (1 ≤ t.ls[i].name ∧ t.ls[i].name ≤ 64)) ∧ hM.now w', ?_, ?_⟩
        · ((with_reducible (refine mop_c trivial ?_; refine mm_ld hM ?_)))
          ((with_reducible (refine mop_cS trivial ?_ ?_)))
          · intro h
            ((with_reducible ((iterate 3 refine mguard_n1 ?_); refine mop_c trivial ?_)))
            exact ⟨by rw [decide_eq_false (by omega)]; rfl, hM⟩
          · intro h
            ((with_reducible (refine mguard_yes ?_; refine mop_c trivial ?_; refine mguard_yes ?_; refine mm_ld hM ?_; refine mguard_yes ?_)))
            ((with_reducible (refine mop_cS trivial ?_ ?_)))
            · intro h4
              ((with_reducible (refine mop_c trivial ?_)))
              exact ⟨by rw [decide_eq_false (by omega)]; rfl, hM⟩
            · intro h4
              ((with_reducible (refine mop_c trivial ?_)))
              exact ⟨by rw [decide_eq_true (by omega)]; rfl, hM⟩
        rintro v u4 w5 ⟨rfl, hM⟩
        by_cases hc : 1 ≤ t.ls[i].name ∧ t.ls[i].name ≤ 64
        · rw [decide_eq_true hc]
          ((with_reducible (refine mif_nt ?_)))
          refine ⟨fun v w' => ∃ k : Nat, v = .int .i64 k ∧ k ≤ i ∧ (∀ j (hj : j < t.ls.length), j < k → t.ls[j].name ≠ t.ls[i].name) ∧ hM.now w', fun v _ => match v with | .int _ k => i - k.toNat | _ => 0, ⟨0, rfl, by omega, fun j _ h => by omega, hM⟩, ?_⟩
          rintro v u5 w6 ⟨k, rfl, hk, hno, hM⟩
          ((with_reducible (refine mop_cS trivial ?_ ?_)))
          · intro hlt2
            have hlt3 : k < t.ls.length := by omega
            ((with_reducible (refine mif_true ?_; refine dp_c trivial ?_; refine dm_ld hM ?_)); (with_reducible refine dp_ixs ‹_› ?_ ?_ ?_); (focus (simp only [List.length_map]; omega)); (focus (simp only [List.length_map]; first | done | omega)); (with_reducible (intro _ _ hA)); (cases hA); (with_reducible (refine dp_c trivial ?_)); (with_reducible refine dm_lds hM ‹_› (map_atI ?_) ?_); (focus omega); (with_reducible (refine dp_c trivial ?_; refine dm_ld hM ?_)))
            ((with_reducible (refine dp_cS trivial ?_ ?_)))
            · intro he
              ((with_reducible (refine mm_end hM ?_; clear hM; intro _ hM; refine mif_true ?_)))
              refine ⟨?_, hM.st⟩
              unfold Tr.right
              rw [hb, hdr, decide_eq_false (show ¬ ((1 ≤ t.ls[i].name ∧ t.ls[i].name ≤ 64) ∧ t.ls[i].name ∉ s) from fun h => h.2 ((hs _ hc.1).2 ⟨k, hlt3, by omega, he⟩))]
              simp
            · intro he
              ((with_reducible (refine mm_end hM ?_; clear hM; intro _ hM; refine mif_false ?_; refine mop_c ?_ ?_)); (focus omega))
              refine ⟨⟨k + 1, rfl, by omega, fun j hj hjk => ?_, hM⟩, by simp only; omega⟩
              rcases Nat.lt_or_ge j k with h6 | h6
              · exact hno j hj h6
              · obtain rfl : j = k := by omega
                exact he
          · intro hge2
            ((with_reducible (refine mif_false ?_)))
            have hns : t.ls[i].name ∉ s := fun hm => by
              obtain ⟨j, hj, h6, e⟩ := (hs _ hc.1).1 hm
              exact hno j hj (by omega) e
            refine ⟨t.ls[i].name :: s, by rw [hb, hdr, decide_eq_true ⟨hc, hns⟩, Bool.true_and], fun x hx => ⟨fun hm => ?_, fun ⟨j, hj, h6, e⟩ => ?_⟩, hM.sub⟩
            · rcases List.mem_cons.1 hm with rfl | hm
              · exact ⟨i, hlt', by omega, rfl⟩
              · obtain ⟨j, hj, h6, e⟩ := (hs _ hx).1 hm
                exact ⟨j, hj, by omega, e⟩
            · rcases Nat.lt_or_ge j i with h7 | h7
              · exact List.mem_cons_of_mem _ ((hs _ hx).2 ⟨j, hj, h7, e⟩)
              · obtain rfl : j = i := by omega
                rw [← e]
                exact List.mem_cons_self ..
        · rw [decide_eq_false hc]
          ((with_reducible (refine mif_nf ?_)))
          refine ⟨?_, hM.st⟩
          unfold Tr.right
          rw [hb, hdr, decide_eq_false (show ¬ ((1 ≤ t.ls[i].name ∧ t.ls[i].name ≤ 64) ∧ t.ls[i].name ∉ s) from fun h => hc h.1)]
          simp
    · clear hM
      rintro u3 w4 ⟨s', hb', hs', hM⟩
      ((with_reducible (refine mop_c ?_ ?_)); (focus omega))
      exact ⟨⟨i + 1, s', rfl, by omega, hb', hs', hM⟩, by simp only; omega⟩
  · intro hge
    have hls : leavesB [] t.ls = true := by
      rw [hb, List.drop_eq_nil_of_le (by omega)]
      rfl
    ((with_reducible (refine mif_false ?_)))
    refine ⟨fun v w' => ∃ i : Nat, v = .int .i64 i ∧ i ≤ t.ps.length ∧ parB t.size t.ls 1 t.ps = parB t.size t.ls (2 * i + 1) (t.ps.drop i) ∧ Mem H w [fb g1 25 (tfd A t.ls.length a B t.ps.length b)] w', fun v _ => match v with | .int _ k => t.ps.length - k.toNat | _ => 0, ⟨0, rfl, by omega, rfl, hM⟩, ?_⟩
    clear hM hi hb hge hs
    rintro v u5 w5 ⟨i, rfl, hi, hb, hM⟩
    ((with_reducible (refine mop_c trivial ?_; refine mm_ld hM ?_; refine mop_c trivial ?_)))
    ((with_reducible (refine mop_cS trivial ?_ ?_)))
    · intro hlt
      obtain ⟨p, hpe⟩ : ∃ p, t.ps[i] = p := ⟨_, rfl⟩
      obtain ⟨q, hq1, C, c, rfl, hC, hcl⟩ := h3.at_ (i := i) (by omega)
      have hdr := parB_drop (n := t.size) (ls := t.ls) (x := 2 * i + 1) (ps := t.ps) (i := i) (by omega)
      rw [hpe] at hq1 hC hcl hdr
      have hcl' : p.loose.length ≤ 9223372036854775807 := hcl
      ((with_reducible (refine mif_true ?_; refine mop_c trivial ?_; refine mm_ld hM ?_)))
      refine mm_ixs h2 (by omega) hq.symm (fun bb oo hB => ?_)
      cases hB
      refine mm_lds0 hM h2 hq1 ?_
      ((with_reducible (refine mm_new hM ?_; clear hM; intro _ _ hM; refine mm_st hM ?_; clear hM; intro _ hM)))
      rename_i g3 _ _
      refine ⟨fun v w' => v = .bool (!(p.set || decide p.isZero)) ∧ hM.now w', ?_, ?_⟩
      · ((with_reducible (refine mop_c trivial ?_; refine mm_ld hM ?_; refine mop_c trivial ?_)))
        rcases Bool.eq_false_or_eq_true p.set with hs | hs
        rotate_left
        · have e : (!p.set) = true := by rw [hs]; rfl
          rw [e]
          ((with_reducible (refine mguard_yes ?_; refine mop_c trivial ?_; refine mguard_yes ?_; refine mm_ld hM ?_; refine mguard_yes ?_; refine mop_c trivial ?_; refine mguard_yes ?_)))
          ((with_reducible (refine mop_cS trivial ?_ ?_)))
          · intro h1
            ((with_reducible (refine mguard_yes ?_; refine mop_c trivial ?_; (iterate 4 refine mguard_n1 ?_); refine mguard_yes ?_; refine mop_c trivial ?_; refine mguard_yes ?_; refine mop_c trivial ?_; (iterate 4 refine mguard_n1 ?_); refine mguard_yes ?_; refine mop_c trivial ?_; refine mop_c trivial ?_)))
            exact ⟨by rw [hs, Bool.false_or, decide_eq_false (show ¬ p.isZero from fun h => h1 h.2.1)]; rfl, hM⟩
          · intro h1
            ((with_reducible (refine mguard_yes ?_; refine mop_c trivial ?_; refine mguard_yes ?_; refine mop_c trivial ?_; refine mguard_yes ?_; refine mm_ld hM ?_; refine mguard_yes ?_; refine mop_c trivial ?_; refine mguard_yes ?_)))
            ((with_reducible (refine mop_cS trivial ?_ ?_)))
            · intro h2
              ((with_reducible (refine mguard_yes ?_; refine mop_c trivial ?_; refine mguard_yes ?_; refine mop_c trivial ?_; (iterate 4 refine mguard_n1 ?_); refine mguard_yes ?_; refine mop_c trivial ?_; refine mop_c trivial ?_)))
              exact ⟨by rw [hs, Bool.false_or, decide_eq_false (show ¬ p.isZero from fun h => h2 h.2.2.1)]; rfl, hM⟩
            · intro h2
              ((with_reducible (refine mguard_yes ?_; refine mop_c trivial ?_; refine mguard_yes ?_; refine mop_c trivial ?_; refine mguard_yes ?_; refine mop_c trivial ?_; refine mguard_yes ?_; refine mm_ld hM ?_; refine mguard_yes ?_; refine mop_c trivial ?_; refine mguard_yes ?_)))
              ((with_reducible (refine mop_cS trivial ?_ ?_)))
              · intro h3
                ((with_reducible (refine mguard_yes ?_; refine mop_c trivial ?_; refine mop_c trivial ?_)))
                exact ⟨by rw [hs, Bool.false_or, decide_eq_false (show ¬ p.isZero from fun h => by rw [h.2.2.2] at h3; simp at h3)]; rfl, hM⟩
              · intro h3
                ((with_reducible (refine mguard_yes ?_; refine mop_c trivial ?_; refine mop_c trivial ?_)))
                exact ⟨by rw [hs, Bool.false_or, decide_eq_true (show p.isZero from ⟨hs, Decidable.not_not.1 h1, Decidable.not_not.1 h2, List.eq_nil_of_length_eq_zero (by omega)⟩)]; rfl, hM⟩
        · have e : (!p.set) = false := by rw [hs]; rfl
          rw [e]
          ((with_reducible ((iterate 5 refine mguard_n2 ?_); (iterate 4 refine mguard_un ?_); refine mguard_n2 ?_; refine mguard_n2 ?_; (iterate 4 refine mguard_un ?_); refine mguard_n2 ?_; refine mop_c trivial ?_)))
          exact ⟨by rw [hs, Bool.true_or]; rfl, hM⟩
      rintro v u6 w6 ⟨rfl, hM⟩
      cases hz : (p.set || decide p.isZero)
      · rw [Bool.not_false]
        ((with_reducible (refine mif_true ?_)))
        refine ⟨?_, hM.st⟩
        unfold Tr.right
        rw [hb, hdr, hz]
        simp
      rw [hz, Bool.true_and] at hdr
      rw [Bool.not_true]
      ((with_reducible (refine mif_false ?_)))
      refine ⟨fun v w' => ∃ k : Nat, v = .int .i64 k ∧ k ≤ p.loose.length ∧ looseB t.size t.ls (2 * i + 1) none p.loose = looseB t.size t.ls (2 * i + 1) (prv p.loose k) (p.loose.drop k) ∧ hM.now w', fun v _ => match v with | .int _ k => p.loose.length - k.toNat | _ => 0, ⟨0, rfl, by omega, rfl, hM⟩, ?_⟩
      rintro v u7 w7 ⟨k, rfl, hk, hlb, hM⟩
      ((with_reducible (refine mop_c trivial ?_; refine mm_ld hM ?_; refine mop_c trivial ?_)))
      ((with_reducible (refine mop_cS trivial ?_ ?_)))
      · intro hlt2
        obtain ⟨x, hx⟩ : ∃ x, p.loose[k] = x := ⟨_, rfl⟩
        have hdl := looseB_drop (n := t.size) (ls := t.ls) (x := 2 * i + 1) (o := prv p.loose k) (l := p.loose) (i := k) (by omega)
        rw [hx] at hdl
        ((with_reducible (refine mif_true ?_; refine mop_c trivial ?_; refine mm_ld hM ?_)); (with_reducible refine mm_ixs ‹_› ?_ ?_ ?_); (focus (simp only [List.length_map]; omega)); (focus (simp only [List.length_map]; first | done | omega)); (with_reducible (intro _ _ hA)); (cases hA); (with_reducible refine mm_lds0 hM ‹_› (map_atI ?_) ?_); (focus omega))
        rw [hx]
        refine ⟨fun v w' => v = .bool (!decide (hld t.size (2 * i + 1) x ∧ nameAt t.ls x ≠ 0 ∧ ∀ q ∈ prv p.loose k, q < x)) ∧ hM.now w', ?_, ?_⟩
        · ((with_reducible (refine mop_c ?_ ?_)); (focus omega); (with_reducible (refine mop_c ?_ ?_)); (focus omega); (with_reducible (refine mm_purC hM ?_ (fun _ hM2 => ?_))); (focus (first | exact trivial | assumption | omega)); (with_reducible (replace hM := hM2; clear hM2; refine mop_c trivial ?_)))
          by_cases hh : hld t.size (2 * i + 1) x
          · obtain ⟨r1, r2, -⟩ := hld_rng hh
            have hna := nameAt_at (ls := t.ls) (p := x) r1 (by omega)
            rw [decide_eq_true hh, Bool.not_true]
            ((with_reducible (refine mguard_yes ?_; refine mop_c trivial ?_; refine mguard_yes ?_; refine mm_ld hM ?_; refine mguard_yes ?_; refine mop_c trivial ?_; refine mguard_yes ?_)); (with_reducible refine mm_ixs ‹_› ?_ ?_ ?_); (focus (simp only [List.length_map]; omega)); (focus (simp only [List.length_map]; first | done | omega)); (with_reducible (intro _ _ hA)); (cases hA); (with_reducible (refine mguard_yes ?_; refine mop_c trivial ?_; refine mguard_yes ?_)); (with_reducible refine mm_lds hM ‹_› (map_at ?_) ?_); (focus omega); (with_reducible (refine mguard_yes ?_)))
            rw [← hna]
            ((with_reducible (refine mop_cS trivial ?_ ?_)))
            · intro h5
              ((with_reducible (refine mop_c trivial ?_; (iterate 3 refine mguard_n1 ?_); (iterate 8 refine mguard_un ?_); refine mguard_n1 ?_; refine mop_c trivial ?_)))
              exact ⟨by rw [decide_eq_false (fun h => h.2.1 h5)]; rfl, hM⟩
            · intro h5
              cases k with
              | zero =>
                ((with_reducible (refine mop_c trivial ?_; refine mguard_yes ?_; refine mop_c trivial ?_; refine mguard_yes ?_; refine mop_cF trivial ?_ ?_)); (focus (first | assumption | omega | with_reducible rfl | exact fun h => Bool.noConfusion h)); (with_reducible (refine mguard_yes ?_; refine mop_c trivial ?_; (iterate 8 refine mguard_n2 ?_); refine mguard_yes ?_; refine mop_c trivial ?_; refine mop_c trivial ?_)))
                exact ⟨by rw [decide_eq_true ⟨hh, h5, by simp [prv]⟩]; rfl, hM⟩
              | succ k =>
                have hix : (((k + 1 : Nat) : Int) - 1).toNat = k := by omega
                have hpv : prv p.loose (k + 1) = some p.loose[k] := List.getElem?_eq_getElem (by omega)
                ((with_reducible (refine mop_c trivial ?_; refine mguard_yes ?_; refine mop_c trivial ?_; refine mguard_yes ?_; refine mop_cT trivial ?_ ?_)); (focus (first | assumption | omega | with_reducible rfl | exact fun h => Bool.noConfusion h)); (with_reducible (refine mguard_yes ?_; refine mop_c trivial ?_; refine mguard_yes ?_; refine mop_c trivial ?_; refine mguard_yes ?_; refine mm_ld hM ?_; refine mguard_yes ?_; refine mop_c trivial ?_; refine mguard_yes ?_; refine mop_c ?_ ?_)); (focus omega); (with_reducible (refine mguard_yes ?_)); (with_reducible refine mm_ixs ‹_› ?_ ?_ ?_); (focus (simp only [List.length_map]; omega)); (focus (simp only [List.length_map]; first | done | omega)); (with_reducible (intro _ _ hA)); (cases hA); (with_reducible (refine mguard_yes ?_)); (with_reducible refine mm_lds0 hM ‹_› (map_at ?_) ?_); (focus omega); (with_reducible (refine mguard_yes ?_; refine mop_c trivial ?_; refine mguard_yes ?_)))
                ((with_reducible (refine mop_cS trivial ?_ ?_)))
                · intro h6
                  simp only [hix] at h6
                  ((with_reducible (refine mguard_yes ?_; refine mop_c trivial ?_; refine mop_c trivial ?_)))
                  exact ⟨by rw [decide_eq_false (fun h => by have := h.2.2 _ hpv; omega)]; rfl, hM⟩
                · intro h6
                  simp only [hix] at h6
                  ((with_reducible (refine mguard_yes ?_; refine mop_c trivial ?_; refine mop_c trivial ?_)))
                  exact ⟨by rw [decide_eq_true ⟨hh, h5, fun q hq => by rw [hpv] at hq; cases hq; omega⟩]; rfl, hM⟩
          · rw [decide_eq_false hh, Bool.not_false]
            ((with_reducible ((iterate 7 refine mguard_n1 ?_); refine mop_c trivial ?_; (iterate 3 refine mguard_n1 ?_); (iterate 8 refine mguard_un ?_); refine mguard_n1 ?_; refine mop_c trivial ?_)))
            exact ⟨by rw [decide_eq_false (fun h => hh h.1)]; rfl, hM⟩
        rintro v u8 w8 ⟨rfl, hM⟩
        by_cases hc : hld t.size (2 * i + 1) x ∧ nameAt t.ls x ≠ 0 ∧ ∀ q ∈ prv p.loose k, q < x
        · rw [decide_eq_true hc, Bool.not_true]
          rw [decide_eq_true hc, Bool.true_and] at hdl
          ((with_reducible (refine mif_false ?_; refine mop_c ?_ ?_)); (focus omega))
          refine ⟨⟨k + 1, rfl, by omega, ?_, hM⟩, by simp only; omega⟩
          rw [hlb, hdl, prv, List.getElem?_eq_getElem (by omega), hx]
        · rw [decide_eq_false hc, Bool.not_false]
          ((with_reducible (refine mif_true ?_)))
          refine ⟨?_, hM.st⟩
          unfold Tr.right
          rw [hb, hdr, hlb, hdl, decide_eq_false hc]
          simp
      · intro hge2
        have hl2 : looseB t.size t.ls (2 * i + 1) none p.loose = true := by
          rw [hlb, List.drop_eq_nil_of_le (by omega)]
          rfl
        rw [hl2, Bool.true_and] at hdr
        ((with_reducible (refine mif_false ?_; refine mop_c ?_ ?_)); (focus omega))
        refine ⟨⟨i + 1, rfl, by omega, ?_, hM.sub⟩, by simp only; omega⟩
        rw [hb, hdr]
        congr 1
    · intro hge
      have hps : parB t.size t.ls 1 t.ps = true := by
        rw [hb, List.drop_eq_nil_of_le (by omega)]
        rfl
      have hR : t.right = decide (t.ls = [] ∨ 0 < nameAt t.ls (t.size - 1)) := by
        unfold Tr.right
        rw [hls, hps, decide_eq_true hsz]
        simp
      ((with_reducible (refine mif_false ?_)))
      ((with_reducible (refine mop_cS trivial ?_ ?_)))
      · intro h0
        ((with_reducible ((iterate 8 refine mguard_n1 ?_); refine mop_c trivial ?_)))
        exact ⟨by rw [hR, decide_eq_true (.inl (List.eq_nil_of_length_eq_zero (by omega)))], hM.st⟩
      · intro h0
        ((with_reducible (refine mguard_yes ?_; refine mop_c trivial ?_; refine mguard_yes ?_; refine mm_ld hM ?_; refine mguard_yes ?_; refine mop_c trivial ?_; refine mguard_yes ?_; refine mop_c ?_ ?_)); (focus omega); (with_reducible (refine mguard_yes ?_)); (with_reducible refine mm_ixs ‹_› ?_ ?_ ?_); (focus (simp only [List.length_map]; omega)); (focus (simp only [List.length_map]; first | done | omega)); (with_reducible (intro _ _ hA)); (cases hA); (with_reducible (refine mguard_yes ?_; refine mop_c trivial ?_; refine mguard_yes ?_)); (with_reducible refine mm_lds hM ‹_› (map_at ?_) ?_); (focus omega); (with_reducible (refine mguard_yes ?_)))
        have hna := nameAt_at (ls := t.ls) (p := (t.ls.length : Int) - 1) (by omega) (by omega)
        have hnn : 0 ≤ t.ls[((t.ls.length : Int) - 1).toNat].name := by
          rcases leavesB_spec hls _ (List.getElem_mem (show ((t.ls.length : Int) - 1).toNat < t.ls.length by omega)) with h | h
          · rw [h]
            simp [Lf.zero]
          · omega
        rw [← hna] at hnn ⊢
        ((with_reducible (refine mop_cS trivial ?_ ?_)))
        · intro h9
          ((with_reducible (refine mop_c trivial ?_)))
          exact ⟨by rw [hR, decide_eq_true (.inr (by rw [hts]; omega))], hM.st⟩
        · intro h9
          ((with_reducible (refine mop_c trivial ?_)))
          exact ⟨by rw [hR, decide_eq_false (fun h => h.elim (fun h => h0 (by rw [h]; rfl)) (fun h => by rw [hts] at h; omega))], hM.st⟩
end
end Go.Proofs.YtopcnkejobomaaaGreat
