/- Part 4 of the proof. -/
import Derived.Test.YtopcnkejobomaaaGreatPb3
import Derived.LaidEql
import Derived.RangeFuncBox
import Derived.RangeFuncLeaves
import Derived.Shelf.Abstract
import Derived.WalkKit
import Derived.OwnWalkIn
import Derived.TacticsInMore
import Derived.LoopNIn
import Derived.LoopIn
import Derived.Maps.AppendAt
import Derived.Lib.AppendZerosOnto
import Derived.Lib.Overlaps
set_option linter.unusedVariables false
set_option linter.unusedVariables false
namespace Go.Proofs.YtopcnkejobomaaaGreat
def F_slices_stableCmpFunc_api_Proposal (x0 x1 x2 : Value) (w : World) (R : Ending → World → Prop) : Prop :=
 ml2 (.int .i64 0) (.int .i64 20) w fun x7 x8 u2 w1 next2 =>
 m R (o_bin .leq 3 false x8 x1) w1 fun x13 w2 =>
 mif x13 (
 m R (o_call (fv 133) [x0, x7, x8, x2]) w2 fun x18 w3 =>
 m R (o_bin .add 3 false x8 (.int .i64 20)) w3 fun x22 w4 =>
 next2 x8 x22 w4) (
 m R (o_call (fv 133) [x0, x7, x1, x2]) w2 fun x27 w5 =>
 ml1 (.int .i64 20) w5 fun x6 u7 w6 next7 =>
 m R (o_bin .lss 3 false x6 x1) w6 fun x30 w7 =>
 mif x30 (
 m R (o_bin .mul 3 true (.int .i64 2) x6) w7 fun x32 w8 =>
 ml2 (.int .i64 0) x32 w8 fun x7 x8 u9 w9 next9 =>
 m R (o_bin .leq 3 false x8 x1) w9 fun x35 w10 =>
 mif x35 (
 m R (o_bin .add 3 false x7 x6) w10 fun x40 w11 =>
 m R (o_call (fv 134) [x0, x7, x40, x8, x2]) w11 fun x43 w12 =>
 m R (o_bin .mul 3 true (.int .i64 2) x6) w12 fun x47 w13 =>
 m R (o_bin .add 3 false x8 x47) w13 fun x48 w14 =>
 next9 x8 x48 w14) (
 mj0 (fun j16 =>
 m R (o_bin .add 3 false x7 x6) w10 fun x51 w15 =>
 m R (o_bin .lss 3 false x51 x1) w15 fun x54 w16 =>
 mif x54 (
 m R (o_call (fv 134) [x0, x7, x51, x1, x2]) w16 fun x60 w17 =>
 j16 w17) (
 j16 w16)) fun u16 w18 =>
 m R (o_bin .mul 3 true x6 (.int .i64 2)) w18 fun x62 w19 =>
 next7 x62 w19)) (
 R (.returned (.tuple #[])) w7))
def A_slices_stableCmpFunc_api_Proposal : Ann := ⟨[(2, [7, 8], 8386944), (7, [6], 9223372036586341312), (9, [7, 8], 562941363487104)], [(16, [], 2305280059260273152)], [], [], []⟩
theorem C_slices_stableCmpFunc_api_Proposal {x0 x1 x2 : Value} {w : World} {R : Ending → World → Prop} (h : F_slices_stableCmpFunc_api_Proposal x0 x1 x2 w R) : Calls Tryz.prog 103 #[x0, x1, x2] w R :=
 calls_cwp (A := A_slices_stableCmpFunc_api_Proposal) (args := [x0, x1, x2]) mixed Tryz.func103 (c := Tryz.f103.body.getD .skip) (by kernel_rfl) (by kernel_rfl) (by kernel_rfl) (Eq.mpr (by kernel_rfl) h)
def F_change_Pack (x0 : Value) (w : World) (R : Ending → World → Prop) : Prop :=
 m R (o_box 87 x0) w fun x1 w1 =>
 m R (o_load 87 x1) w1 fun x3 w2 =>
 m R (o_call (fv 60) [x3]) w2 fun x4 w3 =>
 m R (o_un .not x4) w3 fun x5 w4 =>
 mif x5 (
 R (.returned (.string (ByteArray.mk #[]))) w4) (
 dq Tryz.prog w4 (o_load 87 x1) fun x6 =>
 df Tryz.prog w4 (o_call (fv 99) [x6]) true fun x7 w5 =>
 dp Tryz.prog (o_fieldAddr 87 x1 5) fun x8 =>
 dp Tryz.prog (o_slice 33 x8 none none none) fun x9 =>
 dq Tryz.prog w4 (o_conv 135 9 x9) fun x10 =>
 dp Tryz.prog (o_bin .add 9 false x7 x10) fun x11 =>
 dend w5 fun w6 =>
 R (.returned x11) w6)
def A_change_Pack : Ann := ⟨[], [], [(3, [⟨0, .q (some 0), 2, 0, 64⟩, ⟨1, .f 0 true, 64, 1, 128⟩, ⟨2, .q none, 2, 0, 256⟩, ⟨3, .q none, 256, 4, 512⟩, ⟨4, .q (some 0), 512, 12, 1024⟩, ⟨5, .q none, 1152, 31, 2048⟩, ⟨6, .q none, 2048, 63, 4⟩])], [], []⟩
theorem C_change_Pack {x0 : Value} {w : World} {R : Ending → World → Prop} (h : F_change_Pack x0 w R) : Calls Tryz.prog 104 #[x0] w R :=
 calls_cwp (A := A_change_Pack) (args := [x0]) mixed Tryz.func104 (c := Tryz.f104.body.getD .skip) (by kernel_rfl) (by kernel_rfl) (by kernel_rfl) (Eq.mpr (by kernel_rfl) h)
def F_bevyref10_rank (x0 : Value) (w : World) (R : Ending → World → Prop) : Prop :=
 m R (o_bin .eql 3 true x0 (.int .i64 2)) w fun x4 w1 =>
 mif x4 (
 R (.returned (.int .i64 0)) w1) (
 m R (o_bin .eql 3 true x0 (.int .i64 3)) w1 fun x6 w2 =>
 mif x6 (
 R (.returned (.int .i64 1)) w2) (
 m R (o_bin .eql 3 true x0 (.int .i64 1)) w2 fun x8 w3 =>
 mif x8 (
 R (.returned (.int .i64 2)) w3) (
 R (.returned (.int .i64 3)) w3)))
def A_bevyref10_rank : Ann := ⟨[], [], [], [], []⟩
theorem C_bevyref10_rank {x0 : Value} {w : World} {R : Ending → World → Prop} (h : F_bevyref10_rank x0 w R) : Calls Tryz.prog 105 #[x0] w R :=
 calls_cwp (A := A_bevyref10_rank) (args := [x0]) mixed Tryz.func105 (c := Tryz.f105.body.getD .skip) (by kernel_rfl) (by kernel_rfl) (by kernel_rfl) (Eq.mpr (by kernel_rfl) h)
def F_bevyref10_Right (x0 : Value) (w : World) (R : Ending → World → Prop) : Prop :=
 m R (o_box 87 x0) w fun x1 w1 =>
 m R (o_fieldAddr 87 x1 4) w1 fun x4 w2 =>
 m R (o_load 85 x4) w2 fun x5 w3 =>
 m R (o_alloc 85) w3 fun x3 w4 =>
 m R (o_store 85 x3 x5) w4 fun _ w5 =>
 mj1 (fun j3 =>
 m R (o_fieldAddr 87 x1 1) w5 fun x6 w6 =>
 m R (o_load 3 x6) w6 fun x7 w7 =>
 m R (o_bin .lss 3 true x7 (.int .i64 0)) w7 fun x8 w8 =>
 mguard x8 false (fun k => m R (o_fieldAddr 87 x1 1) w8 k) w8 fun x10 w9 =>
 mguard x8 false (fun k => m R (o_load 3 x10) w9 k) w9 fun x11 w10 =>
 mguard x8 false (fun k => m R (o_bin .gtr 3 true x11 (.int .i64 4611686018427387903)) w10 k) w10 fun x12 w11 =>
 m R (o_pick x8 (.bool true) x12) w11 fun x13 w12 =>
 mguard x13 false (fun k => m R (o_fieldAddr 87 x1 3) w12 k) w12 fun x15 w13 =>
 mguard x13 false (fun k => m R (o_load 3 x15) w13 k) w13 fun x16 w14 =>
 mguard x13 false (fun k => m R (o_bin .lss 3 true x16 (.int .i64 1)) w14 k) w14 fun x17 w15 =>
 m R (o_pick x13 (.bool true) x17) w15 fun x18 w16 =>
 mguard x18 false (fun k => m R (o_fieldAddr 87 x1 3) w16 k) w16 fun x20 w17 =>
 mguard x18 false (fun k => m R (o_load 3 x20) w17 k) w17 fun x21 w18 =>
 mguard x18 false (fun k => m R (o_bin .gtr 3 true x21 (.int .i64 4611686018427387903)) w18 k) w18 fun x22 w19 =>
 m R (o_pick x18 (.bool true) x22) w19 fun x23 w20 =>
 j3 x23 w20) fun x23 u3 w21 =>
 mif x23 (
 R (.returned (.bool false)) w21) (
 mj1 (fun j5 =>
 m R (o_fieldAddr 87 x1 2) w21 fun x24 w22 =>
 m R (o_load 3 x24) w22 fun x25 w23 =>
 m R (o_bin .lss 3 true x25 (.int .i64 1)) w23 fun x26 w24 =>
 mguard x26 false (fun k => m R (o_fieldAddr 87 x1 2) w24 k) w24 fun x28 w25 =>
 mguard x26 false (fun k => m R (o_load 3 x28) w25 k) w25 fun x29 w26 =>
 mguard x26 false (fun k => m R (o_bin .gtr 3 true x29 (.int .i64 64)) w26 k) w26 fun x30 w27 =>
 m R (o_pick x26 (.bool true) x30) w27 fun x31 w28 =>
 mguard x31 false (fun k => m R (o_fieldAddr 85 x3 1) w28 k) w28 fun x33 w29 =>
 mguard x31 false (fun k => m R (o_load 3 x33) w29 k) w29 fun x34 w30 =>
 mguard x31 false (fun k => m R (o_bin .lss 3 true x34 (.int .i64 1)) w30 k) w30 fun x35 w31 =>
 m R (o_pick x31 (.bool true) x35) w31 fun x36 w32 =>
 mguard x36 false (fun k => m R (o_fieldAddr 85 x3 1) w32 k) w32 fun x38 w33 =>
 mguard x36 false (fun k => m R (o_load 3 x38) w33 k) w33 fun x39 w34 =>
 mguard x36 false (fun k => m R (o_bin .gtr 3 true x39 (.int .i64 64)) w34 k) w34 fun x40 w35 =>
 m R (o_pick x36 (.bool true) x40) w35 fun x41 w36 =>
 j5 x41 w36) fun x41 u5 w37 =>
 mif x41 (
 R (.returned (.bool false)) w37) (
 m R (o_fieldAddr 85 x3 0) w37 fun x42 w38 =>
 m R (o_load 3 x42) w38 fun x43 w39 =>
 m R (o_bin .eql 3 true x43 (.int .i64 2)) w39 fun x44 w40 =>
 mif x44 (
 m R (o_fieldAddr 85 x3 1) w40 fun x45 w41 =>
 m R (o_load 3 x45) w41 fun x46 w42 =>
 m R (o_fieldAddr 87 x1 2) w42 fun x47 w43 =>
 m R (o_load 3 x47) w43 fun x48 w44 =>
 m R (o_bin .eql 3 false x46 x48) w44 fun x49 w45 =>
 R (.returned x49) w45) (
 m R (o_fieldAddr 85 x3 0) w40 fun x50 w46 =>
 m R (o_load 3 x50) w46 fun x51 w47 =>
 m R (o_bin .eql 3 true x51 (.int .i64 1)) w47 fun x52 w48 =>
 mguard x52 false (fun k => m R (o_fieldAddr 85 x3 0) w48 k) w48 fun x54 w49 =>
 mguard x52 false (fun k => m R (o_load 3 x54) w49 k) w49 fun x55 w50 =>
 mguard x52 false (fun k => m R (o_bin .eql 3 true x55 (.int .i64 3)) w50 k) w50 fun x56 w51 =>
 m R (o_pick x52 (.bool true) x56) w51 fun x57 w52 =>
 mguard x57 true (fun k => m R (o_fieldAddr 85 x3 2) w52 k) w52 fun x59 w53 =>
 mguard x57 true (fun k => m R (o_load 33 x59) w53 k) w53 fun x60 w54 =>
 mguard x57 true (fun k => m R (o_build 33 []) w54 k) w54 fun x61 w55 =>
 mguard x57 true (fun k => m R (o_bin .eql 33 false x60 x61) w55 k) w55 fun x62 w56 =>
 m R (o_pick x57 x62 (.bool false)) w56 fun x63 w57 =>
 R (.returned x63) w57)))
def A_bevyref10_Right : Ann := ⟨[], [(3, [23], 16777152), (5, [41], 4398029733888)], [], [], []⟩
theorem C_bevyref10_Right {x0 : Value} {w : World} {R : Ending → World → Prop} (h : F_bevyref10_Right x0 w R) : Calls Tryz.prog 106 #[x0] w R :=
 calls_cwp (A := A_bevyref10_Right) (args := [x0]) mixed Tryz.func106 (c := Tryz.f106.body.getD .skip) (by kernel_rfl) (by kernel_rfl) (by kernel_rfl) (Eq.mpr (by kernel_rfl) h)
def F_bevyref10_Id (x0 : Value) (w : World) (R : Ending → World → Prop) : Prop :=
 m R (o_box 87 x0) w fun x1 w1 =>
 m R (o_alloc 32) w1 fun x2 w2 =>
 m R (o_load 87 x1) w2 fun x3 w3 =>
 m R (o_call (fv 135) [x3]) w3 fun x4 w4 =>
 m R (o_bin .add 9 true (.string (ByteArray.mk #[99, 104, 97, 110, 103, 101])) x4) w4 fun x5 w5 =>
 m R (o_call (fv 43) [x5]) w5 fun x6 w6 =>
 m R (o_store 32 x2 x6) w6 fun _ w7 =>
 rcell Tryz.prog 32 x2 w7 fun r2 =>
 R (.returned r2) w7
def A_bevyref10_Id : Ann := ⟨[], [], [], [], []⟩
theorem C_bevyref10_Id {x0 : Value} {w : World} {R : Ending → World → Prop} (h : F_bevyref10_Id x0 w R) : Calls Tryz.prog 107 #[x0] w R :=
 calls_cwp (A := A_bevyref10_Id) (args := [x0]) mixed Tryz.func107 (c := Tryz.f107.body.getD .skip) (by kernel_rfl) (by kernel_rfl) (by kernel_rfl) (Eq.mpr (by kernel_rfl) h)
def F_bevyref10_one (x0 x1 x2 x3 x4 x5 x6 x7 : Value) (w : World) (R : Ending → World → Prop) : Prop :=
 m R (o_box 25 x0) w fun x8 w1 =>
 m R (o_box 42 x1) w1 fun x9 w2 =>
 m R (o_box 33 x3) w2 fun x11 w3 =>
 m R (o_indexAddr 46 x6 x7) w3 fun x25 w4 =>
 m R (o_load 87 x25) w4 fun x26 w5 =>
 m R (o_alloc 87) w5 fun x17 w6 =>
 m R (o_store 87 x17 x26) w6 fun _ w7 =>
 m R (o_load 87 x17) w7 fun x27 w8 =>
 m R (o_call (fv 106) [x27]) w8 fun x28 w9 =>
 m R (o_un .not x28) w9 fun x29 w10 =>
 mif x29 (
 R (.returned (.int .i64 3)) w10) (
 mj1 (fun j5 =>
 m R (o_fieldAddr 87 x17 0) w10 fun x30 w11 =>
 m R (o_load 33 x30) w11 fun x31 w12 =>
 m R (o_load 33 x11) w12 fun x32 w13 =>
 m R (o_bin .neq 33 false x31 x32) w13 fun x33 w14 =>
 mguard x33 false (fun k => m R (o_fieldAddr 87 x17 1) w14 k) w14 fun x35 w15 =>
 mguard x33 false (fun k => m R (o_load 3 x35) w15 k) w15 fun x36 w16 =>
 mguard x33 false (fun k => m R (o_move x4) w16 k) w16 fun x37 w17 =>
 mguard x33 false (fun k => m R (o_bin .neq 3 false x36 x37) w17 k) w17 fun x38 w18 =>
 m R (o_pick x33 (.bool true) x38) w18 fun x39 w19 =>
 j5 x39 w19) fun x39 u5 w20 =>
 mif x39 (
 R (.returned (.int .i64 1)) w20) (
 m R (o_load 25 x8) w20 fun x40 w21 =>
 m R (o_fieldAddr 87 x17 2) w21 fun x41 w22 =>
 m R (o_load 3 x41) w22 fun x42 w23 =>
 m R (o_call (fv 16) [x40, x42]) w23 fun x43 w24 =>
 m R (o_bin .lss 3 true x43 (.int .i64 0)) w24 fun x45 w25 =>
 mif x45 (
 R (.returned (.int .i64 12)) w25) (
 dq Tryz.prog w25 (o_load 87 x17) fun x46 =>
 dp Tryz.prog (o_fieldAddr 25 x8 0) fun x47 =>
 dq Tryz.prog w25 (o_load 22 x47) fun x48 =>
 dp Tryz.prog (o_indexAddr 22 x48 x43) fun x50 =>
 dp Tryz.prog (o_fieldAddr 57 x50 2) fun x51 =>
 dq Tryz.prog w25 (o_load 33 x51) fun x52 =>
 df Tryz.prog w25 (o_call (fv 136) [x46, x52]) false fun x53 w26 =>
 dp Tryz.prog (o_un .not x53) fun x54 =>
 dend w26 fun w27 =>
 mif x54 (
 R (.returned (.int .i64 18)) w27) (
 mj1 (fun j12 =>
 dp Tryz.prog (o_bin .gtr 3 true x7 (.int .i64 0)) fun x56 =>
 qguard x56 true (fun k => dp Tryz.prog (o_move x6) k) fun x58 =>
 qguard x56 true (fun k => dp Tryz.prog (o_move x7) k) fun x59 =>
 qguard x56 true (fun k => dp Tryz.prog (o_bin .sub 3 true x59 (.int .i64 1)) k) fun x60 =>
 qguard x56 true (fun k => dp Tryz.prog (o_indexAddr 46 x58 x60) k) fun x61 =>
 qguard x56 true (fun k => dq Tryz.prog w27 (o_load 87 x61) k) fun x62 =>
 qguard x56 true (fun k => dq Tryz.prog w27 (o_load 87 x17) k) fun x63 =>
 mguard x56 true (fun k => df Tryz.prog w27 (o_call (fv 66) [x62, x63]) false k) w27 fun x64 w28 =>
 qguard x56 true (fun k => dp Tryz.prog (o_un .not x64) k) fun x65 =>
 dp Tryz.prog (o_pick x56 x65 (.bool false)) fun x66 =>
 dend w28 fun w29 =>
 j12 x66 w29) fun x66 u12 w30 =>
 mif x66 (
 R (.returned (.int .i64 17)) w30) (
 ml1 (.int .i64 0) w30 fun x19 u14 w31 next14 =>
 m R (o_bin .lss 3 false x19 x7) w31 fun x69 w32 =>
 mif x69 (
 dp Tryz.prog (o_indexAddr 46 x6 x19) fun x74 =>
 dp Tryz.prog (o_fieldAddr 87 x74 4) fun x75 =>
 dp Tryz.prog (o_fieldAddr 85 x75 1) fun x76 =>
 dq Tryz.prog w32 (o_load 3 x76) fun x77 =>
 dp Tryz.prog (o_fieldAddr 87 x17 4) fun x78 =>
 dp Tryz.prog (o_fieldAddr 85 x78 1) fun x79 =>
 dq Tryz.prog w32 (o_load 3 x79) fun x80 =>
 dp Tryz.prog (o_bin .eql 3 false x77 x80) fun x81 =>
 dend w32 fun w33 =>
 mif x81 (
 R (.returned (.int .i64 17)) w33) (
 m R (o_bin .add 3 true x19 (.int .i64 1)) w33 fun x71 w34 =>
 next14 x71 w34)) (
 mj1 (fun j19 =>
 m R (o_fieldAddr 87 x17 4) w32 fun x82 w35 =>
 m R (o_fieldAddr 85 x82 0) w35 fun x83 w36 =>
 m R (o_load 3 x83) w36 fun x84 w37 =>
 m R (o_bin .neq 3 true x84 (.int .i64 1)) w37 fun x85 w38 =>
 mguard x85 true (fun k => m R (o_fieldAddr 87 x17 4) w38 k) w38 fun x87 w39 =>
 mguard x85 true (fun k => m R (o_fieldAddr 85 x87 1) w39 k) w39 fun x88 w40 =>
 mguard x85 true (fun k => m R (o_load 3 x88) w40 k) w40 fun x89 w41 =>
 mguard x85 true (fun k => m R (o_move x5) w41 k) w41 fun x90 w42 =>
 mguard x85 true (fun k => m R (o_bin .eql 3 false x89 x90) w42 k) w42 fun x91 w43 =>
 m R (o_pick x85 x91 (.bool false)) w43 fun x92 w44 =>
 j19 x92 w44) fun x92 u19 w45 =>
 mif x92 (
 R (.returned (.int .i64 17)) w45) (
 m R (o_load 25 x8) w45 fun x93 w46 =>
 m R (o_fieldAddr 87 x17 4) w46 fun x94 w47 =>
 m R (o_fieldAddr 85 x94 1) w47 fun x95 w48 =>
 m R (o_load 3 x95) w48 fun x96 w49 =>
 m R (o_call (fv 16) [x93, x96]) w49 fun x97 w50 =>
 m R (o_bin .geq 3 true x97 (.int .i64 0)) w50 fun x98 w51 =>
 m R (o_fieldAddr 87 x17 4) w51 fun x99 w52 =>
 m R (o_fieldAddr 85 x99 0) w52 fun x100 w53 =>
 m R (o_load 3 x100) w53 fun x101 w54 =>
 m R (o_bin .neq 3 true x101 (.int .i64 1)) w54 fun x102 w55 =>
 mif x102 (
 m R (o_un .not x98) w55 fun x104 w56 =>
 mif x104 (
 R (.returned (.int .i64 7)) w56) (
 R (.returned (.int .i64 0)) w56)) (
 mif x98 (
 R (.returned (.int .i64 8)) w55) (
 m R (o_load 42 x9) w55 fun x107 w57 =>
 m R (o_fieldAddr 87 x17 4) w57 fun x109 w58 =>
 m R (o_fieldAddr 85 x109 1) w58 fun x110 w59 =>
 m R (o_load 3 x110) w59 fun x111 w60 =>
 m R (o_call (fv 137) [x107, x2, x111]) w60 fun x112 w61 =>
 m R (o_extract x112 0) w61 fun x113 w62 =>
 m R (o_extract x112 1) w62 fun x114 w63 =>
 m R (o_alloc 158) w63 fun x21 w64 =>
 m R (o_store 158 x21 x113) w64 fun _ w65 =>
 R (.returned x114) w65)))))))))
def A_bevyref10_one : Ann := ⟨[(14, [19], 4835555704505927023001600)], [(5, [39], 1098437885952), (12, [66], 147537923792657448960), (19, [92], 9898684611004583682494169088)], [(9, [⟨0, .q (some 0), 131072, 0, 70368744177664⟩, ⟨1, .q none, 256, 0, 140737488355328⟩, ⟨2, .q (some 0), 140737488355328, 2, 281474976710656⟩, ⟨3, .q none, 262144, 0, 562949953421312⟩, ⟨4, .q none, 844424930131968, 14, 1125899906842624⟩, ⟨5, .q none, 1125899906842624, 30, 2251799813685248⟩, ⟨6, .q (some 0), 2251799813685248, 62, 4503599627370496⟩, ⟨7, .f 0 false, 4573968371548160, 127, 9007199254740992⟩, ⟨8, .q none, 9007199254740992, 255, 18014398509481984⟩]), (11, [⟨0, .q none, 128, 0, 36028797018963968⟩, ⟨1, .q none, 36028797018963968, 1, 72057594037927936⟩, ⟨2, .q none, 72057594037927936, 3, 144115188075855872⟩, ⟨3, .q none, 144115188075855936, 7, 288230376151711744⟩, ⟨4, .q none, 144115188075856000, 7, 576460752303423488⟩, ⟨5, .q none, 720575940379279360, 23, 1152921504606846976⟩, ⟨6, .q none, 1585267068834414592, 63, 2305843009213693952⟩, ⟨7, .q (some 0), 2449958197289549824, 127, 4611686018427387904⟩, ⟨8, .q (some 0), 144115188075986944, 7, 9223372036854775808⟩, ⟨9, .f 0 false, 13979173243358019584, 511, 18446744073709551616⟩, ⟨10, .q none, 18590859261785407488, 1023, 36893488147419103232⟩, ⟨11, .q none, 37037603335494959104, 2047, 73786976294838206464⟩]), (16, [⟨0, .q none, 64, 0, 4722366482869645213696⟩, ⟨1, .q none, 524288, 0, 9444732965739290427392⟩, ⟨2, .q none, 14167099448608935641088, 3, 18889465931478580854784⟩, ⟨3, .q none, 18889465931478580854784, 7, 37778931862957161709568⟩, ⟨4, .q none, 37778931862957161709568, 15, 75557863725914323419136⟩, ⟨5, .q (some 0), 75557863725914323419136, 31, 151115727451828646838272⟩, ⟨6, .q none, 131072, 0, 302231454903657293676544⟩, ⟨7, .q none, 302231454903657293676544, 64, 604462909807314587353088⟩, ⟨8, .q (some 0), 604462909807314587353088, 192, 1208925819614629174706176⟩, ⟨9, .q none, 1360041547066457821544448, 511, 2417851639229258349412352⟩])], [], []⟩
theorem C_bevyref10_one {x0 x1 x2 x3 x4 x5 x6 x7 : Value} {w : World} {R : Ending → World → Prop} (h : F_bevyref10_one x0 x1 x2 x3 x4 x5 x6 x7 w R) : Calls Tryz.prog 108 #[x0, x1, x2, x3, x4, x5, x6, x7] w R :=
 calls_cwp (A := A_bevyref10_one) (args := [x0, x1, x2, x3, x4, x5, x6, x7]) mixed Tryz.func108 (c := Tryz.f108.body.getD .skip) (by kernel_rfl) (by kernel_rfl) (by kernel_rfl) (Eq.mpr (by kernel_rfl) h)
def F_bevyref10_Apply (x0 x1 x2 x3 : Value) (w : World) (R : Ending → World → Prop) : Prop :=
 m R (o_box 25 x0) w fun x4 w1 =>
 m R (o_box 42 x1) w1 fun x5 w2 =>
 m R (o_alloc 25) w2 fun x8 w3 =>
 m R (o_alloc 42) w3 fun x9 w4 =>
 m R (o_load 25 x4) w4 fun x20 w5 =>
 m R (o_call (fv 7) [x20]) w5 fun x21 w6 =>
 m R (o_un .not x21) w6 fun x22 w7 =>
 mif x22 (
 m R (o_build 25 []) w7 fun x23 w8 =>
 m R (o_build 42 []) w8 fun x24 w9 =>
 m R (o_store 25 x8 x23) w9 fun _ w10 =>
 m R (o_store 42 x9 x24) w10 fun _ w11 =>
 rcell Tryz.prog 25 x8 w11 fun r8 =>
 rcell Tryz.prog 42 x9 w11 fun r9 =>
 R (.returned (.tuple #[r8, r9, (.slice none 0 0), (.int .i64 1)])) w11) (
 ml2 (.slice none 0 0) (.int .i64 0) w7 fun x12 x13 u5 w12 next5 =>
 m R (o_builtin .len #[46] 3 [false] [x3]) w12 fun x27 w13 =>
 m R (o_bin .lss 3 false x13 x27) w13 fun x28 w14 =>
 mif x28 (
 m R (o_indexAddr 46 x3 x13) w14 fun x33 w15 =>
 m R (o_fieldAddr 87 x33 4) w15 fun x34 w16 =>
 m R (o_load 85 x34) w16 fun x35 w17 =>
 m R (o_alloc 85) w17 fun x14 w18 =>
 m R (o_store 85 x14 x35) w18 fun _ w19 =>
 m R (o_load 25 x4) w19 fun x36 w20 =>
 m R (o_alloc 25) w20 fun x15 w21 =>
 m R (o_store 25 x15 x36) w21 fun _ w22 =>
 mj1 (fun j12 =>
 m R (o_fieldAddr 85 x14 0) w22 fun x37 w23 =>
 m R (o_load 3 x37) w23 fun x38 w24 =>
 m R (o_bin .eql 3 true x38 (.int .i64 2)) w24 fun x39 w25 =>
 mif x39 (
 dq Tryz.prog w25 (o_load 25 x4) fun x41 =>
 dq Tryz.prog w25 (o_load 25 x4) fun x42 =>
 dp Tryz.prog (o_fieldAddr 85 x14 1) fun x43 =>
 dq Tryz.prog w25 (o_load 3 x43) fun x44 =>
 df Tryz.prog w25 (o_call (fv 16) [x42, x44]) true fun x45 w26 =>
 dp Tryz.prog (o_fieldAddr 85 x14 2) fun x46 =>
 dq Tryz.prog w25 (o_load 33 x46) fun x47 =>
 df Tryz.prog w26 (o_call (fv 138) [x41, x45, x47]) false fun x48 w27 =>
 dp Tryz.prog (o_extract x48 0) fun x49 =>
 dp Tryz.prog (o_extract x48 1) fun x50 =>
 df Tryz.prog w27 (o_store 25 x15 x49) false fun _ w28 =>
 dend w28 fun w29 =>
 j12 x50 w29) (
 j12 (.int .i64 7) w25)) fun x16 u12 w30 =>
 mj1 (fun j14 =>
 m R (o_fieldAddr 85 x14 0) w30 fun x51 w31 =>
 m R (o_load 3 x51) w31 fun x52 w32 =>
 m R (o_bin .eql 3 true x52 (.int .i64 3)) w32 fun x53 w33 =>
 mif x53 (
 dq Tryz.prog w33 (o_load 25 x4) fun x55 =>
 dq Tryz.prog w33 (o_load 25 x4) fun x56 =>
 dp Tryz.prog (o_fieldAddr 85 x14 1) fun x57 =>
 dq Tryz.prog w33 (o_load 3 x57) fun x58 =>
 df Tryz.prog w33 (o_call (fv 16) [x56, x58]) true fun x59 w34 =>
 df Tryz.prog w34 (o_call (fv 139) [x55, x59]) false fun x60 w35 =>
 dp Tryz.prog (o_extract x60 0) fun x61 =>
 dp Tryz.prog (o_extract x60 1) fun x62 =>
 df Tryz.prog w35 (o_store 25 x15 x61) false fun _ w36 =>
 dend w36 fun w37 =>
 j14 x62 w37) (
 j14 x16 w33)) fun x16 u14 w38 =>
 mj2 (fun j23 =>
 m R (o_fieldAddr 85 x14 0) w38 fun x63 w39 =>
 m R (o_load 3 x63) w39 fun x64 w40 =>
 m R (o_bin .eql 3 true x64 (.int .i64 1)) w40 fun x65 w41 =>
 mif x65 (
 m R (o_load 42 x5) w41 fun x67 w42 =>
 m R (o_fieldAddr 85 x14 1) w42 fun x69 w43 =>
 m R (o_load 3 x69) w43 fun x70 w44 =>
 m R (o_call (fv 137) [x67, x2, x70]) w44 fun x71 w45 =>
 m R (o_extract x71 0) w45 fun x72 w46 =>
 m R (o_extract x71 1) w46 fun x73 w47 =>
 m R (o_alloc 158) w47 fun x17 w48 =>
 m R (o_store 158 x17 x72) w48 fun _ w49 =>
 m R (o_bin .eql 3 true x73 (.int .i64 0)) w49 fun x76 w50 =>
 mif x76 (
 dq Tryz.prog w50 (o_load 25 x4) fun x78 =>
 dp Tryz.prog (o_fieldAddr 85 x14 1) fun x79 =>
 dq Tryz.prog w50 (o_load 3 x79) fun x80 =>
 dp Tryz.prog (o_fieldAddr 158 x17 1) fun x81 =>
 dq Tryz.prog w50 (o_load 33 x81) fun x82 =>
 dp Tryz.prog (o_fieldAddr 85 x14 1) fun x84 =>
 dq Tryz.prog w50 (o_load 3 x84) fun x85 =>
 dp Tryz.prog (o_bin .sub 3 true x85 (.int .i64 1)) fun x86 =>
 dp Tryz.prog (o_indexAddr 43 x2 x86) fun x87 =>
 dp Tryz.prog (o_fieldAddr 95 x87 0) fun x88 =>
 dq Tryz.prog w50 (o_load 33 x88) fun x89 =>
 dp Tryz.prog (o_build 57 [(0, x80), (1, x82), (2, x89)]) fun x90 =>
 df Tryz.prog w50 (o_call (fv 140) [x78, x90]) false fun x91 w51 =>
 dp Tryz.prog (o_extract x91 0) fun x92 =>
 dp Tryz.prog (o_extract x91 1) fun x93 =>
 dp Tryz.prog (o_extract x91 2) fun x94 =>
 df Tryz.prog w51 (o_store 25 x15 x92) false fun _ w52 =>
 dend w52 fun w53 =>
 m R (o_bin .eql 3 true x94 (.int .i64 0)) w53 fun x96 w54 =>
 mif x96 (
 m R (o_fieldAddr 85 x14 1) w54 fun x97 w55 =>
 m R (o_load 3 x97) w55 fun x98 w56 =>
 m R (o_bin .sub 3 true x98 (.int .i64 1)) w56 fun x99 w57 =>
 m R (o_indexAddr 42 x5 x99) w57 fun x100 w58 =>
 m R (o_load 3 x100) w58 fun x101 w59 =>
 m R (o_bin .add 3 true x101 (.int .i64 1)) w59 fun x102 w60 =>
 m R (o_indexAddr 42 x5 x99) w60 fun x103 w61 =>
 m R (o_store 3 x103 x102) w61 fun _ w62 =>
 m R (o_buildSlice 29 1 [(0, x93)]) w62 fun x106 w63 =>
 m R (o_builtin .append #[29, 29] 29 [false, false] [x12, x106]) w63 fun x107 w64 =>
 j23 x107 x94 w64) (
 j23 x12 x94 w54)) (
 j23 x12 x73 w50)) (
 j23 x12 x16 w41)) fun x12 x16 u23 w65 =>
 m R (o_bin .neq 3 true x16 (.int .i64 0)) w65 fun x109 w66 =>
 mif x109 (
 m R (o_build 25 []) w66 fun x110 w67 =>
 m R (o_build 42 []) w67 fun x111 w68 =>
 m R (o_store 25 x8 x110) w68 fun _ w69 =>
 m R (o_store 42 x9 x111) w69 fun _ w70 =>
 rcell Tryz.prog 25 x8 w70 fun r8 =>
 rcell Tryz.prog 42 x9 w70 fun r9 =>
 R (.returned (.tuple #[r8, r9, (.slice none 0 0), x16])) w70) (
 m R (o_load 25 x15) w66 fun x113 w71 =>
 m R (o_store 25 x4 x113) w71 fun _ w72 =>
 m R (o_bin .add 3 true x13 (.int .i64 1)) w72 fun x30 w73 =>
 next5 x12 x30 w73)) (
 ∃ S : Rl,
 dqS Tryz.prog S w14 (o_load 25 x4) fun x114 =>
 dfS Tryz.prog S w14 (o_call (fv 141) [x114]) true fun x115 w74 =>
 dqS Tryz.prog S w14 (o_load 42 x5) fun x116 =>
 dfS Tryz.prog S w74 (o_store 25 x8 x115) true fun _ w75 =>
 dfS Tryz.prog S w75 (o_store 42 x9 x116) false fun _ w76 =>
 dend w76 fun w77 =>
 rcell Tryz.prog 25 x8 w77 fun r8 =>
 rcell Tryz.prog 42 x9 w77 fun r9 =>
 R (.returned (.tuple #[r8, r9, x12, (.int .i64 0)])) w77))
def A_bevyref10_Apply : Ann := ⟨[(5, [12, 13], 20769187434139310514121985284373504)], [(12, [16], 2251662374797312), (14, [16], 9221120237041156096), (23, [12, 16], 324518553658417503411119166787584)], [(11, [⟨0, .q (some 0), 16, 0, 2199023255552⟩, ⟨1, .q (some 0), 16, 0, 4398046511104⟩, ⟨2, .q none, 16384, 0, 8796093022208⟩, ⟨3, .q (some 0), 8796093022208, 4, 17592186044416⟩, ⟨4, .f 0 true, 21990232555520, 14, 35184372088832⟩, ⟨5, .q none, 16384, 0, 70368744177664⟩, ⟨6, .q (some 0), 70368744177664, 32, 140737488355328⟩, ⟨7, .f 1 false, 178120883699712, 127, 281474976710656⟩, ⟨8, .q none, 281474976710656, 255, 1099511627776⟩, ⟨9, .q none, 1099511627776, 511, 562949953421312⟩, ⟨10, .q none, 1099511627776, 511, 1125899906842624⟩, ⟨11, .f 2 false, 562949953454080, 1023, 0⟩, ⟨12, .q none, 1125899906842624, 4095, 65536⟩]), (13, [⟨0, .q (some 0), 16, 0, 36028797018963968⟩, ⟨1, .q (some 0), 16, 0, 72057594037927936⟩, ⟨2, .q none, 16384, 0, 144115188075855872⟩, ⟨3, .q (some 0), 144115188075855872, 4, 288230376151711744⟩, ⟨4, .f 0 true, 360287970189639680, 14, 576460752303423488⟩, ⟨5, .f 1 false, 612489549322387456, 31, 1152921504606846976⟩, ⟨6, .q none, 1152921504606846976, 63, 18014398509481984⟩, ⟨7, .q none, 18014398509481984, 127, 2305843009213693952⟩, ⟨8, .q none, 18014398509481984, 127, 4611686018427387904⟩, ⟨9, .f 2 false, 2305843009213726720, 255, 0⟩, ⟨10, .q none, 4611686018427387904, 1023, 65536⟩]), (19, [⟨0, .q (some 0), 16, 0, 302231454903657293676544⟩, ⟨1, .q none, 16384, 0, 604462909807314587353088⟩, ⟨2, .q (some 0), 604462909807314587353088, 2, 1208925819614629174706176⟩, ⟨3, .q none, 131072, 0, 2417851639229258349412352⟩, ⟨4, .q (some 0), 2417851639229258349412352, 8, 4835703278458516698824704⟩, ⟨5, .q none, 4, 0, 9671406556917033397649408⟩, ⟨6, .q none, 16384, 0, 19342813113834066795298816⟩, ⟨7, .q (some 0), 19342813113834066795298816, 64, 38685626227668133590597632⟩, ⟨8, .q none, 38685626227668133590597632, 192, 77371252455336267181195264⟩, ⟨9, .q none, 87042659012253300578844672, 480, 154742504910672534362390528⟩, ⟨10, .q none, 154742504910672534362390528, 992, 309485009821345068724781056⟩, ⟨11, .q (some 0), 309485009821345068724781056, 2016, 618970019642690137449562112⟩, ⟨12, .q none, 625014648740763283323092992, 4094, 1237940039285380274899124224⟩, ⟨13, .f 0 false, 1238242270740283932192800768, 8191, 2475880078570760549798248448⟩, ⟨14, .q none, 2475880078570760549798248448, 16383, 151115727451828646838272⟩, ⟨15, .q none, 151115727451828646838272, 32767, 4951760157141521099596496896⟩, ⟨16, .q none, 151115727451828646838272, 32767, 9903520314283042199192993792⟩, ⟨17, .q none, 151115727451828646838272, 32767, 19807040628566084398385987584⟩, ⟨18, .f 1 false, 4951760157141521099596529664, 65535, 0⟩, ⟨19, .q none, 9903520314283042199192993792, 393215, 524288⟩, ⟨20, .q none, 19807040628566084398385987584, 1048575, 65536⟩]), (26, [⟨0, .q (some 0), 16, 0, 20769187434139310514121985316880384⟩, ⟨1, .f 0 true, 20769187434139310514121985316880384, 1, 41538374868278621028243970633760768⟩, ⟨2, .q (some 0), 32, 0, 83076749736557242056487941267521536⟩, ⟨3, .q none, 4096, 0, 166153499473114484112975882535043072⟩, ⟨4, .f 1 true, 41538374868278621028243970633761024, 3, 0⟩, ⟨5, .f 2 false, 83076749736557242056487941267522048, 23, 0⟩, ⟨6, .q none, 166153499473114484112975882535043072, 63, 1024⟩, ⟨7, .q none, 0, 127, 2048⟩])], [], [26]⟩
theorem C_bevyref10_Apply {x0 x1 x2 x3 : Value} {w : World} {R : Ending → World → Prop} (h : F_bevyref10_Apply x0 x1 x2 x3 w R) : Calls Tryz.prog 109 #[x0, x1, x2, x3] w R :=
 calls_cwp (A := A_bevyref10_Apply) (args := [x0, x1, x2, x3]) mixed Tryz.func109 (c := Tryz.f109.body.getD .skip) (by kernel_rfl) (by kernel_rfl) (by kernel_rfl) (Eq.mpr (by kernel_rfl) h)
def F_slices_Clone_api_Leaf_api_Leaf (x0 : Value) (w : World) (R : Ending → World → Prop) : Prop :=
 m R (o_bin .eql 22 true x0 (.slice none 0 0)) w fun x4 w1 =>
 mif x4 (
 R (.returned (.slice none 0 0)) w1) (
 m R (o_buildSlice 22 0 []) w1 fun x5 w2 =>
 m R (o_builtin .append #[22, 22] 22 [false, false] [x5, x0]) w2 fun x7 w3 =>
 R (.returned x7) w3)
def A_slices_Clone_api_Leaf_api_Leaf : Ann := ⟨[], [], [], [], []⟩
theorem C_slices_Clone_api_Leaf_api_Leaf {x0 : Value} {w : World} {R : Ending → World → Prop} (h : F_slices_Clone_api_Leaf_api_Leaf x0 w R) : Calls Tryz.prog 110 #[x0] w R :=
 calls_cwp (A := A_slices_Clone_api_Leaf_api_Leaf) (args := [x0]) mixed Tryz.func110 (c := Tryz.f110.body.getD .skip) (by kernel_rfl) (by kernel_rfl) (by kernel_rfl) (Eq.mpr (by kernel_rfl) h)
def F_slices_Clone_api_Parent_api_Parent (x0 : Value) (w : World) (R : Ending → World → Prop) : Prop :=
 m R (o_bin .eql 23 true x0 (.slice none 0 0)) w fun x4 w1 =>
 mif x4 (
 R (.returned (.slice none 0 0)) w1) (
 m R (o_buildSlice 23 0 []) w1 fun x5 w2 =>
 m R (o_builtin .append #[23, 23] 23 [false, false] [x5, x0]) w2 fun x7 w3 =>
 R (.returned x7) w3)
def A_slices_Clone_api_Parent_api_Parent : Ann := ⟨[], [], [], [], []⟩
theorem C_slices_Clone_api_Parent_api_Parent {x0 : Value} {w : World} {R : Ending → World → Prop} (h : F_slices_Clone_api_Parent_api_Parent x0 w R) : Calls Tryz.prog 111 #[x0] w R :=
 calls_cwp (A := A_slices_Clone_api_Parent_api_Parent) (args := [x0]) mixed Tryz.func111 (c := Tryz.f111.body.getD .skip) (by kernel_rfl) (by kernel_rfl) (by kernel_rfl) (Eq.mpr (by kernel_rfl) h)
def F_slices_Clone_int_int (x0 : Value) (w : World) (R : Ending → World → Prop) : Prop :=
 m R (o_bin .eql 29 true x0 (.slice none 0 0)) w fun x4 w1 =>
 mif x4 (
 R (.returned (.slice none 0 0)) w1) (
 m R (o_buildSlice 29 0 []) w1 fun x5 w2 =>
 m R (o_builtin .append #[29, 29] 29 [false, false] [x5, x0]) w2 fun x7 w3 =>
 R (.returned x7) w3)
def A_slices_Clone_int_int : Ann := ⟨[], [], [], [], []⟩
theorem C_slices_Clone_int_int {x0 : Value} {w : World} {R : Ending → World → Prop} (h : F_slices_Clone_int_int x0 w R) : Calls Tryz.prog 112 #[x0] w R :=
 calls_cwp (A := A_slices_Clone_int_int) (args := [x0]) mixed Tryz.func112 (c := Tryz.f112.body.getD .skip) (by kernel_rfl) (by kernel_rfl) (by kernel_rfl) (Eq.mpr (by kernel_rfl) h)
def F_tree_Renew (x0 x1 x2 : Value) (w : World) (R : Ending → World → Prop) : Prop :=
 m R (o_box 25 x0) w fun x3 w1 =>
 m R (o_box 33 x2) w1 fun x5 w2 =>
 m R (o_alloc 25) w2 fun x6 w3 =>
 m R (o_load 25 x3) w3 fun x9 w4 =>
 m R (o_call (fv 8) [x9]) w4 fun x10 w5 =>
 m R (o_un .not x10) w5 fun x11 w6 =>
 mif x11 (
 m R (o_build 25 []) w6 fun x12 w7 =>
 m R (o_store 25 x6 x12) w7 fun _ w8 =>
 rcell Tryz.prog 25 x6 w8 fun r6 =>
 R (.returned (.tuple #[r6, (.int .i64 1)])) w8) (
 m R (o_load 25 x3) w6 fun x14 w9 =>
 m R (o_call (fv 77) [x14, x1]) w9 fun x16 w10 =>
 mif x16 (
 m R (o_build 25 []) w10 fun x17 w11 =>
 m R (o_store 25 x6 x17) w11 fun _ w12 =>
 rcell Tryz.prog 25 x6 w12 fun r6 =>
 R (.returned (.tuple #[r6, (.int .i64 7)])) w12) (
 m R (o_load 25 x3) w10 fun x18 w13 =>
 m R (o_call (fv 72) [x18]) w13 fun x19 w14 =>
 m R (o_store 25 x3 x19) w14 fun _ w15 =>
 m R (o_fieldAddr 25 x3 0) w15 fun x20 w16 =>
 m R (o_load 22 x20) w16 fun x21 w17 =>
 m R (o_load 33 x5) w17 fun x23 w18 =>
 m R (o_indexAddr 22 x21 x1) w18 fun x24 w19 =>
 m R (o_fieldAddr 57 x24 1) w19 fun x25 w20 =>
 m R (o_store 33 x25 x23) w20 fun _ w21 =>
 m R (o_fieldAddr 25 x3 0) w21 fun x26 w22 =>
 m R (o_load 22 x26) w22 fun x27 w23 =>
 m R (o_build 33 []) w23 fun x29 w24 =>
 m R (o_indexAddr 22 x27 x1) w24 fun x30 w25 =>
 m R (o_fieldAddr 57 x30 3) w25 fun x31 w26 =>
 m R (o_store 33 x31 x29) w26 fun _ w27 =>
 m R (o_load 25 x3) w27 fun x32 w28 =>
 m R (o_call (fv 78) [x32, x1]) w28 fun x34 w29 =>
 m R (o_load 25 x3) w29 fun x35 w30 =>
 m R (o_store 25 x6 x35) w30 fun _ w31 =>
 rcell Tryz.prog 25 x6 w31 fun r6 =>
 R (.returned (.tuple #[r6, (.int .i64 0)])) w31))
def A_tree_Renew : Ann := ⟨[], [], [], [], []⟩
theorem C_tree_Renew {x0 x1 x2 : Value} {w : World} {R : Ending → World → Prop} (h : F_tree_Renew x0 x1 x2 w R) : Calls Tryz.prog 113 #[x0, x1, x2] w R :=
 calls_cwp (A := A_tree_Renew) (args := [x0, x1, x2]) mixed Tryz.func113 (c := Tryz.f113.body.getD .skip) (by kernel_rfl) (by kernel_rfl) (by kernel_rfl) (Eq.mpr (by kernel_rfl) h)
def F_bough_up (x0 x1 : Value) (w : World) (R : Ending → World → Prop) : Prop :=
 m R (o_box 3 x0) w fun x2 w1 =>
 m R (o_box 3 x1) w1 fun x3 w2 =>
 m R (o_func (.func 142) [] [x2, x3]) w2 fun x5 w3 =>
 R (.returned x5) w3
def A_bough_up : Ann := ⟨[], [], [], [], []⟩
theorem C_bough_up {x0 x1 : Value} {w : World} {R : Ending → World → Prop} (h : F_bough_up x0 x1 w R) : Calls Tryz.prog 114 #[x0, x1] w R :=
 calls_cwp (A := A_bough_up) (args := [x0, x1]) mixed Tryz.func114 (c := Tryz.f114.body.getD .skip) (by kernel_rfl) (by kernel_rfl) (by kernel_rfl) (Eq.mpr (by kernel_rfl) h)
def F_cmp_Less_int (x0 x1 : Value) (w : World) (R : Ending → World → Prop) : Prop :=
 m R (o_call (fv 144) [x0]) w fun x6 w1 =>
 mguard x6 true (fun k => m R (o_move x1) w1 k) w1 fun x8 w2 =>
 mguard x6 true (fun k => m R (o_call (fv 144) [x8]) w2 k) w2 fun x9 w3 =>
 mguard x6 true (fun k => m R (o_un .not x9) w3 k) w3 fun x10 w4 =>
 m R (o_pick x6 x10 (.bool false)) w4 fun x11 w5 =>
 mguard x11 false (fun k => m R (o_move x0) w5 k) w5 fun x13 w6 =>
 mguard x11 false (fun k => m R (o_move x1) w6 k) w6 fun x14 w7 =>
 mguard x11 false (fun k => m R (o_bin .lss 3 false x13 x14) w7 k) w7 fun x15 w8 =>
 m R (o_pick x11 (.bool true) x15) w8 fun x16 w9 =>
 R (.returned x16) w9
def A_cmp_Less_int : Ann := ⟨[], [], [], [], []⟩
theorem C_cmp_Less_int {x0 x1 : Value} {w : World} {R : Ending → World → Prop} (h : F_cmp_Less_int x0 x1 w R) : Calls Tryz.prog 115 #[x0, x1] w R :=
 calls_cwp (A := A_cmp_Less_int) (args := [x0, x1]) mixed Tryz.func115 (c := Tryz.f115.body.getD .skip) (by kernel_rfl) (by kernel_rfl) (by kernel_rfl) (Eq.mpr (by kernel_rfl) h)
def F_slices_isNaN_int (x0 : Value) (w : World) (R : Ending → World → Prop) : Prop :=
 m R (o_bin .neq 3 false x0 x0) w fun x5 w1 =>
 R (.returned x5) w1
def A_slices_isNaN_int : Ann := ⟨[], [], [], [], []⟩
theorem C_slices_isNaN_int {x0 : Value} {w : World} {R : Ending → World → Prop} (h : F_slices_isNaN_int x0 w R) : Calls Tryz.prog 116 #[x0] w R :=
 calls_cwp (A := A_slices_isNaN_int) (args := [x0]) mixed Tryz.func116 (c := Tryz.f116.body.getD .skip) (by kernel_rfl) (by kernel_rfl) (by kernel_rfl) (Eq.mpr (by kernel_rfl) h)
def F_sha_state_turn (x0 : Value) (w : World) (R : Ending → World → Prop) : Prop :=
 m R (o_alloc 127) w fun x2 w1 =>
 ml1 (.int .i64 0) w1 fun x21 u2 w2 next2 =>
 m R (o_bin .lss 3 true x21 (.int .i64 16)) w2 fun x22 w3 =>
 mif x22 (
 m R (o_nilCheck x0) w3 fun x25 w4 =>
 m R (o_fieldAddr 131 x25 1) w4 fun x26 w5 =>
 m R (o_bin .mul 3 true (.int .i64 4) x21) w5 fun x28 w6 =>
 m R (o_slice 129 x26 (some x28) none none) w6 fun x29 w7 =>
 dp Tryz.prog (o_indexAddr 135 x29 (.int .i64 0)) fun x32 =>
 dq Tryz.prog w7 (o_load 5 x32) fun x33 =>
 dp Tryz.prog (o_conv 5 125 x33) fun x34 =>
 dp Tryz.prog (o_bin .shl 125 true x34 (.int .u64 24)) fun x35 =>
 dp Tryz.prog (o_indexAddr 135 x29 (.int .i64 1)) fun x37 =>
 dq Tryz.prog w7 (o_load 5 x37) fun x38 =>
 dp Tryz.prog (o_conv 5 125 x38) fun x39 =>
 dp Tryz.prog (o_bin .shl 125 true x39 (.int .u64 16)) fun x40 =>
 dp Tryz.prog (o_bin .or 125 false x35 x40) fun x41 =>
 dp Tryz.prog (o_indexAddr 135 x29 (.int .i64 2)) fun x43 =>
 dq Tryz.prog w7 (o_load 5 x43) fun x44 =>
 dp Tryz.prog (o_conv 5 125 x44) fun x45 =>
 dp Tryz.prog (o_bin .shl 125 true x45 (.int .u64 8)) fun x46 =>
 dp Tryz.prog (o_bin .or 125 false x41 x46) fun x47 =>
 dp Tryz.prog (o_indexAddr 135 x29 (.int .i64 3)) fun x49 =>
 dq Tryz.prog w7 (o_load 5 x49) fun x50 =>
 dp Tryz.prog (o_conv 5 125 x50) fun x51 =>
 dp Tryz.prog (o_bin .or 125 false x47 x51) fun x52 =>
 dp Tryz.prog (o_indexAddr 127 x2 x21) fun x53 =>
 df Tryz.prog w7 (o_store 125 x53 x52) false fun _ w8 =>
 dend w8 fun w9 =>
 m R (o_bin .add 3 true x21 (.int .i64 1)) w9 fun x54 w10 =>
 next2 x54 w10) (
 ml1 (.int .i64 16) w3 fun x5 u8 w11 next8 =>
 m R (o_bin .lss 3 true x5 (.int .i64 64)) w11 fun x56 w12 =>
 mif x56 (
 dp Tryz.prog (o_bin .sub 3 true x5 (.int .i64 15)) fun x60 =>
 dp Tryz.prog (o_indexAddr 127 x2 x60) fun x61 =>
 dq Tryz.prog w12 (o_load 125 x61) fun x62 =>
 dp Tryz.prog (o_bin .sub 3 true x5 (.int .i64 2)) fun x64 =>
 dp Tryz.prog (o_indexAddr 127 x2 x64) fun x65 =>
 dq Tryz.prog w12 (o_load 125 x65) fun x66 =>
 dend w12 fun w13 =>
 dp Tryz.prog (o_bin .sub 3 true x5 (.int .i64 16)) fun x69 =>
 dp Tryz.prog (o_indexAddr 127 x2 x69) fun x70 =>
 dq Tryz.prog w13 (o_load 125 x70) fun x71 =>
 dp Tryz.prog (o_bin .sub 3 true x5 (.int .i64 7)) fun x73 =>
 dp Tryz.prog (o_indexAddr 127 x2 x73) fun x74 =>
 dq Tryz.prog w13 (o_load 125 x74) fun x75 =>
 dp Tryz.prog (o_bin .add 125 false x71 x75) fun x76 =>
 df Tryz.prog w13 (o_call (fv 151) [x62, (.int .i64 (-7))]) true fun x78 w14 =>
 df Tryz.prog w14 (o_call (fv 151) [x62, (.int .i64 (-18))]) true fun x80 w15 =>
 dp Tryz.prog (o_bin .xor 125 false x78 x80) fun x81 =>
 dp Tryz.prog (o_bin .shr 125 true x62 (.int .u64 3)) fun x83 =>
 dp Tryz.prog (o_bin .xor 125 false x81 x83) fun x84 =>
 dp Tryz.prog (o_bin .add 125 false x76 x84) fun x85 =>
 df Tryz.prog w15 (o_call (fv 151) [x66, (.int .i64 (-17))]) true fun x87 w16 =>
 df Tryz.prog w16 (o_call (fv 151) [x66, (.int .i64 (-19))]) true fun x89 w17 =>
 dp Tryz.prog (o_bin .xor 125 false x87 x89) fun x90 =>
 dp Tryz.prog (o_bin .shr 125 true x66 (.int .u64 10)) fun x92 =>
 dp Tryz.prog (o_bin .xor 125 false x90 x92) fun x93 =>
 dp Tryz.prog (o_bin .add 125 false x85 x93) fun x94 =>
 dp Tryz.prog (o_indexAddr 127 x2 x5) fun x95 =>
 df Tryz.prog w17 (o_store 125 x95 x94) false fun _ w18 =>
 dend w18 fun w19 =>
 m R (o_bin .add 3 true x5 (.int .i64 1)) w19 fun x58 w20 =>
 next8 x58 w20) (
 dp Tryz.prog (o_nilCheck x0) fun x97 =>
 dp Tryz.prog (o_fieldAddr 131 x97 0) fun x98 =>
 dp Tryz.prog (o_indexAddr 126 x98 (.int .i64 0)) fun x99 =>
 dq Tryz.prog w12 (o_load 125 x99) fun x100 =>
 dp Tryz.prog (o_nilCheck x0) fun x102 =>
 dp Tryz.prog (o_fieldAddr 131 x102 0) fun x103 =>
 dp Tryz.prog (o_indexAddr 126 x103 (.int .i64 1)) fun x104 =>
 dq Tryz.prog w12 (o_load 125 x104) fun x105 =>
 dp Tryz.prog (o_nilCheck x0) fun x107 =>
 dp Tryz.prog (o_fieldAddr 131 x107 0) fun x108 =>
 dp Tryz.prog (o_indexAddr 126 x108 (.int .i64 2)) fun x109 =>
 dq Tryz.prog w12 (o_load 125 x109) fun x110 =>
 dp Tryz.prog (o_nilCheck x0) fun x112 =>
 dp Tryz.prog (o_fieldAddr 131 x112 0) fun x113 =>
 dp Tryz.prog (o_indexAddr 126 x113 (.int .i64 3)) fun x114 =>
 dq Tryz.prog w12 (o_load 125 x114) fun x115 =>
 dp Tryz.prog (o_nilCheck x0) fun x117 =>
 dp Tryz.prog (o_fieldAddr 131 x117 0) fun x118 =>
 dp Tryz.prog (o_indexAddr 126 x118 (.int .i64 4)) fun x119 =>
 dq Tryz.prog w12 (o_load 125 x119) fun x120 =>
 dp Tryz.prog (o_nilCheck x0) fun x122 =>
 dp Tryz.prog (o_fieldAddr 131 x122 0) fun x123 =>
 dp Tryz.prog (o_indexAddr 126 x123 (.int .i64 5)) fun x124 =>
 dq Tryz.prog w12 (o_load 125 x124) fun x125 =>
 dp Tryz.prog (o_nilCheck x0) fun x127 =>
 dp Tryz.prog (o_fieldAddr 131 x127 0) fun x128 =>
 dp Tryz.prog (o_indexAddr 126 x128 (.int .i64 6)) fun x129 =>
 dq Tryz.prog w12 (o_load 125 x129) fun x130 =>
 dp Tryz.prog (o_nilCheck x0) fun x132 =>
 dp Tryz.prog (o_fieldAddr 131 x132 0) fun x133 =>
 dp Tryz.prog (o_indexAddr 126 x133 (.int .i64 7)) fun x134 =>
 dq Tryz.prog w12 (o_load 125 x134) fun x135 =>
 dend w12 fun w21 =>
 ml9 x100 x105 x110 x115 x120 x125 x130 x135 (.int .i64 0) w21 fun x8 x9 x10 x11 x12 x13 x14 x15 x136 u14 w22 next14 =>
 m R (o_bin .lss 3 true x136 (.int .i64 64)) w22 fun x137 w23 =>
 mif x137 (
 df Tryz.prog w23 (o_call (fv 151) [x12, (.int .i64 (-6))]) true fun x141 w24 =>
 df Tryz.prog w24 (o_call (fv 151) [x12, (.int .i64 (-11))]) true fun x143 w25 =>
 dp Tryz.prog (o_bin .xor 125 false x141 x143) fun x144 =>
 df Tryz.prog w25 (o_call (fv 151) [x12, (.int .i64 (-25))]) true fun x146 w26 =>
 dp Tryz.prog (o_bin .xor 125 false x144 x146) fun x147 =>
 dp Tryz.prog (o_bin .add 125 false x15 x147) fun x148 =>
 dp Tryz.prog (o_bin .and 125 false x12 x13) fun x151 =>
 dp Tryz.prog (o_un .xor x12) fun x153 =>
 dp Tryz.prog (o_bin .and 125 false x153 x14) fun x155 =>
 dp Tryz.prog (o_bin .xor 125 false x151 x155) fun x156 =>
 dp Tryz.prog (o_bin .add 125 false x148 x156) fun x157 =>
 dp Tryz.prog (o_nilCheck x0) fun x160 =>
 dp Tryz.prog (o_fieldAddr 131 x160 3) fun x161 =>
 dp Tryz.prog (o_indexAddr 127 x161 x136) fun x162 =>
 dq Tryz.prog w23 (o_load 125 x162) fun x163 =>
 dp Tryz.prog (o_bin .add 125 false x157 x163) fun x164 =>
 dp Tryz.prog (o_indexAddr 127 x2 x136) fun x166 =>
 dq Tryz.prog w23 (o_load 125 x166) fun x167 =>
 dp Tryz.prog (o_bin .add 125 false x164 x167) fun x168 =>
 dend w26 fun w27 =>
 m R (o_call (fv 151) [x8, (.int .i64 (-2))]) w27 fun x170 w28 =>
 m R (o_call (fv 151) [x8, (.int .i64 (-13))]) w28 fun x172 w29 =>
 m R (o_bin .xor 125 false x170 x172) w29 fun x173 w30 =>
 m R (o_call (fv 151) [x8, (.int .i64 (-22))]) w30 fun x175 w31 =>
 m R (o_bin .xor 125 false x173 x175) w31 fun x176 w32 =>
 m R (o_bin .and 125 false x8 x9) w32 fun x179 w33 =>
 m R (o_bin .and 125 false x8 x10) w33 fun x182 w34 =>
 m R (o_bin .xor 125 false x179 x182) w34 fun x183 w35 =>
 m R (o_bin .and 125 false x9 x10) w35 fun x186 w36 =>
 m R (o_bin .xor 125 false x183 x186) w36 fun x187 w37 =>
 m R (o_bin .add 125 false x176 x187) w37 fun x188 w38 =>
 m R (o_bin .add 125 false x11 x168) w38 fun x194 w39 =>
 m R (o_bin .add 125 false x168 x188) w39 fun x200 w40 =>
 m R (o_bin .add 3 true x136 (.int .i64 1)) w40 fun x201 w41 =>
 next14 x200 x8 x9 x10 x194 x12 x13 x14 x201 w41) (
 m R (o_build 126 [(0, x8), (1, x9), (2, x10), (3, x11), (4, x12), (5, x13), (6, x14), (7, x15)]) w23 fun x210 w42 =>
 ml1 (.int .i64 0) w42 fun x211 u21 w43 next21 =>
 m R (o_bin .lss 3 true x211 (.int .i64 8)) w43 fun x212 w44 =>
 mif x212 (
 m R (o_index 126 x210 x211) w44 fun x214 w45 =>
 dp Tryz.prog (o_nilCheck x0) fun x217 =>
 dp Tryz.prog (o_fieldAddr 131 x217 0) fun x218 =>
 dp Tryz.prog (o_indexAddr 126 x218 x211) fun x219 =>
 dq Tryz.prog w45 (o_load 125 x219) fun x220 =>
 dp Tryz.prog (o_bin .add 125 false x220 x214) fun x222 =>
 dp Tryz.prog (o_nilCheck x0) fun x223 =>
 dp Tryz.prog (o_fieldAddr 131 x223 0) fun x224 =>
 dp Tryz.prog (o_indexAddr 126 x224 x211) fun x225 =>
 df Tryz.prog w45 (o_store 125 x225 x222) false fun _ w46 =>
 dend w46 fun w47 =>
 m R (o_bin .add 3 true x211 (.int .i64 1)) w47 fun x226 w48 =>
 next21 x226 w48) (
 R (.returned (.tuple #[])) w44))))
def A_sha_state_turn : Ann := ⟨[(2, [21], 36028797016866840), (8, [5], 79228162514228308796524986592), (14, [8, 9, 10, 11, 12, 13, 14, 15, 136], 6427752177035961102080736083432890163442188075628638679596800), (21, [211], 215676282328090475945251810757791930688087189908593312689102186348544)], [], [(5, [⟨0, .q none, 8, 0, 1073741824⟩, ⟨1, .q none, 16, 0, 2147483648⟩, ⟨2, .q none, 2147483648, 2, 4294967296⟩, ⟨3, .q (some 0), 4294967296, 6, 8589934592⟩, ⟨4, .q none, 8589934592, 14, 17179869184⟩, ⟨5, .q none, 17179869184, 30, 34359738368⟩, ⟨6, .q none, 16, 0, 68719476736⟩, ⟨7, .q none, 68719476736, 64, 137438953472⟩, ⟨8, .q (some 0), 137438953472, 192, 274877906944⟩, ⟨9, .q none, 274877906944, 448, 549755813888⟩, ⟨10, .q none, 549755813888, 960, 1099511627776⟩, ⟨11, .q none, 1133871366144, 2046, 2199023255552⟩, ⟨12, .q none, 16, 0, 4398046511104⟩, ⟨13, .q none, 4398046511104, 4096, 8796093022208⟩, ⟨14, .q (some 0), 8796093022208, 12288, 17592186044416⟩, ⟨15, .q none, 17592186044416, 28672, 35184372088832⟩, ⟨16, .q none, 35184372088832, 61440, 70368744177664⟩, ⟨17, .q none, 72567767433216, 131070, 140737488355328⟩, ⟨18, .q none, 16, 0, 281474976710656⟩, ⟨19, .q none, 281474976710656, 262144, 562949953421312⟩, ⟨20, .q (some 0), 562949953421312, 786432, 1125899906842624⟩, ⟨21, .q none, 1125899906842624, 1835008, 2251799813685248⟩, ⟨22, .q none, 2392537302040576, 4194302, 4503599627370496⟩, ⟨23, .q none, 1073741828, 8388607, 9007199254740992⟩, ⟨24, .f 0 false, 13510798882111488, 16777215, 0⟩]), (10, [⟨0, .q none, 32, 0, 576460752303423488⟩, ⟨1, .q none, 576460752303423488, 1, 1152921504606846976⟩, ⟨2, .q none, 1152921504606846980, 3, 2305843009213693952⟩, ⟨3, .q (some 0), 2305843009213693952, 7, 4611686018427387904⟩, ⟨4, .q none, 32, 0, 9223372036854775808⟩, ⟨5, .q none, 9223372036854775808, 16, 18446744073709551616⟩, ⟨6, .q none, 18446744073709551620, 48, 36893488147419103232⟩, ⟨7, .q (some 0), 36893488147419103232, 112, 73786976294838206464⟩, ⟨8, .q none, 4611686018427387904, 15, 64⟩, ⟨9, .q none, 73786976294838206464, 511, 128⟩]), (11, [⟨0, .q none, 32, 0, 147573952589676412928⟩, ⟨1, .q none, 32, 0, 295147905179352825856⟩, ⟨2, .q none, 295147905179352825856, 2, 590295810358705651712⟩, ⟨3, .q none, 590295810358705651716, 6, 1180591620717411303424⟩, ⟨4, .q (some 0), 1180591620717411303424, 14, 2361183241434822606848⟩, ⟨5, .q none, 32, 0, 4722366482869645213696⟩, ⟨6, .q none, 4722366482869645213696, 32, 9444732965739290427392⟩, ⟨7, .q none, 9444732965739290427396, 96, 18889465931478580854784⟩, ⟨8, .q (some 0), 18889465931478580854784, 224, 37778931862957161709568⟩, ⟨9, .q none, 40140115104391984316416, 510, 75557863725914323419136⟩, ⟨10, .q none, 64, 0, 151115727451828646838272⟩, ⟨11, .f 0 true, 151115727451828646838272, 1024, 302231454903657293676544⟩, ⟨12, .q none, 64, 0, 604462909807314587353088⟩, ⟨13, .f 1 true, 604462909807314587353088, 7168, 1208925819614629174706176⟩, ⟨14, .q none, 1511157274518286468382720, 15360, 2417851639229258349412352⟩, ⟨15, .q none, 64, 0, 4835703278458516698824704⟩, ⟨16, .q none, 4835703278458516698824704, 32768, 9671406556917033397649408⟩, ⟨17, .q none, 12089258196146291747061760, 130048, 19342813113834066795298816⟩, ⟨18, .q none, 19418370977559981118717952, 262142, 38685626227668133590597632⟩, ⟨19, .q none, 128, 0, 77371252455336267181195264⟩, ⟨20, .f 2 true, 77371252455336267181195264, 539648, 154742504910672534362390528⟩, ⟨21, .q none, 128, 0, 309485009821345068724781056⟩, ⟨22, .f 3 true, 309485009821345068724781056, 3685376, 618970019642690137449562112⟩, ⟨23, .q none, 773712524553362671811952640, 7879680, 1237940039285380274899124224⟩, ⟨24, .q none, 128, 0, 2475880078570760549798248448⟩, ⟨25, .q none, 2475880078570760549798248448, 16777216, 4951760157141521099596496896⟩, ⟨26, .q none, 6189700196426901374495621120, 66599936, 9903520314283042199192993792⟩, ⟨27, .q none, 9942205940510710332783591424, 134217726, 19807040628566084398385987584⟩, ⟨28, .q none, 147573952589676412932, 268435455, 39614081257132168796771975168⟩, ⟨29, .f 4 false, 59421121885698253195157962752, 536870911, 0⟩]), (12, [⟨0, .q none, 1, 0, 79228162514264337593543950336⟩, ⟨1, .q none, 79228162514264337593543950336, 1, 158456325028528675187087900672⟩, ⟨2, .q none, 158456325028528675187087900672, 3, 316912650057057350374175801344⟩, ⟨3, .q none, 316912650057057350374175801344, 7, 633825300114114700748351602688⟩, ⟨4, .q (some 0), 633825300114114700748351602688, 15, 1267650600228229401496703205376⟩, ⟨5, .q none, 1, 0, 2535301200456458802993406410752⟩, ⟨6, .q none, 2535301200456458802993406410752, 32, 5070602400912917605986812821504⟩, ⟨7, .q none, 5070602400912917605986812821504, 96, 10141204801825835211973625643008⟩, ⟨8, .q none, 10141204801825835211973625643008, 224, 20282409603651670423947251286016⟩, ⟨9, .q (some 0), 20282409603651670423947251286016, 480, 40564819207303340847894502572032⟩, ⟨10, .q none, 1, 0, 81129638414606681695789005144064⟩, ⟨11, .q none, 81129638414606681695789005144064, 1024, 162259276829213363391578010288128⟩, ⟨12, .q none, 162259276829213363391578010288128, 3072, 324518553658426726783156020576256⟩, ⟨13, .q none, 324518553658426726783156020576256, 7168, 649037107316853453566312041152512⟩, ⟨14, .q (some 0), 649037107316853453566312041152512, 15360, 1298074214633706907132624082305024⟩, ⟨15, .q none, 1, 0, 2596148429267413814265248164610048⟩, ⟨16, .q none, 2596148429267413814265248164610048, 32768, 5192296858534827628530496329220096⟩, ⟨17, .q none, 5192296858534827628530496329220096, 98304, 10384593717069655257060992658440192⟩, ⟨18, .q none, 10384593717069655257060992658440192, 229376, 20769187434139310514121985316880384⟩, ⟨19, .q (some 0), 20769187434139310514121985316880384, 491520, 41538374868278621028243970633760768⟩, ⟨20, .q none, 1, 0, 83076749736557242056487941267521536⟩, ⟨21, .q none, 83076749736557242056487941267521536, 1048576, 166153499473114484112975882535043072⟩, ⟨22, .q none, 166153499473114484112975882535043072, 3145728, 332306998946228968225951765070086144⟩, ⟨23, .q none, 332306998946228968225951765070086144, 7340032, 664613997892457936451903530140172288⟩, ⟨24, .q (some 0), 664613997892457936451903530140172288, 15728640, 1329227995784915872903807060280344576⟩, ⟨25, .q none, 1, 0, 2658455991569831745807614120560689152⟩, ⟨26, .q none, 2658455991569831745807614120560689152, 33554432, 5316911983139663491615228241121378304⟩, ⟨27, .q none, 5316911983139663491615228241121378304, 100663296, 10633823966279326983230456482242756608⟩, ⟨28, .q none, 10633823966279326983230456482242756608, 234881024, 21267647932558653966460912964485513216⟩, ⟨29, .q (some 0), 21267647932558653966460912964485513216, 503316480, 42535295865117307932921825928971026432⟩, ⟨30, .q none, 1, 0, 85070591730234615865843651857942052864⟩, ⟨31, .q none, 85070591730234615865843651857942052864, 1073741824, 170141183460469231731687303715884105728⟩, ⟨32, .q none, 170141183460469231731687303715884105728, 3221225472, 340282366920938463463374607431768211456⟩, ⟨33, .q none, 340282366920938463463374607431768211456, 7516192768, 680564733841876926926749214863536422912⟩, ⟨34, .q (some 0), 680564733841876926926749214863536422912, 16106127360, 1361129467683753853853498429727072845824⟩, ⟨35, .q none, 1, 0, 2722258935367507707706996859454145691648⟩, ⟨36, .q none, 2722258935367507707706996859454145691648, 34359738368, 5444517870735015415413993718908291383296⟩, ⟨37, .q none, 5444517870735015415413993718908291383296, 103079215104, 10889035741470030830827987437816582766592⟩, ⟨38, .q none, 10889035741470030830827987437816582766592, 240518168576, 21778071482940061661655974875633165533184⟩, ⟨39, .q (some 0), 21778071482940061661655974875633165533184, 515396075520, 43556142965880123323311949751266331066368⟩, ⟨40, .q none, 1267650600228229401496703205376, 31, 256⟩, ⟨41, .q none, 40564819207303340847894502572032, 1099511628799, 512⟩, ⟨42, .q none, 1298074214633706907132624082305024, 3298534916095, 1024⟩, ⟨43, .q none, 41538374868278621028243970633760768, 7696582443007, 2048⟩, ⟨44, .q none, 1329227995784915872903807060280344576, 16492707971071, 4096⟩, ⟨45, .q none, 42535295865117307932921825928971026432, 34085934202879, 8192⟩, ⟨46, .q none, 1361129467683753853853498429727072845824, 69303592288255, 16384⟩, ⟨47, .q none, 43556142965880123323311949751266331066368, 140737488355327, 32768⟩]), (16, [⟨0, .q none, 32768, 0, 696898287454081973172991196020261297061888⟩, ⟨1, .q none, 4096, 0, 1393796574908163946345982392040522594123776⟩, ⟨2, .f 0 true, 1393796574908163946345982392040522594123776, 2, 2787593149816327892691964784081045188247552⟩, ⟨3, .q none, 4096, 0, 5575186299632655785383929568162090376495104⟩, ⟨4, .f 1 true, 5575186299632655785383929568162090376495104, 14, 11150372599265311570767859136324180752990208⟩, ⟨5, .q none, 13937965749081639463459823920405225941237760, 30, 22300745198530623141535718272648361505980416⟩, ⟨6, .q none, 4096, 0, 44601490397061246283071436545296723011960832⟩, ⟨7, .f 2 true, 44601490397061246283071436545296723011960832, 94, 89202980794122492566142873090593446023921664⟩, ⟨8, .q none, 111503725992653115707678591363241807529902080, 254, 178405961588244985132285746181186892047843328⟩, ⟨9, .q none, 179102859875699067105458737377207153344905216, 511, 356811923176489970264571492362373784095686656⟩, ⟨10, .q none, 4096, 0, 713623846352979940529142984724747568191373312⟩, ⟨11, .q none, 8192, 0, 1427247692705959881058285969449495136382746624⟩, ⟨12, .q none, 2140871539058939821587428954174242704574119936, 3072, 2854495385411919762116571938898990272765493248⟩, ⟨13, .q none, 4096, 0, 5708990770823839524233143877797980545530986496⟩, ⟨14, .q none, 5708990770823839524233143877797980545530986496, 8192, 11417981541647679048466287755595961091061972992⟩, ⟨15, .q none, 16384, 0, 22835963083295358096932575511191922182123945984⟩, ⟨16, .q none, 34253944624943037145398863266787883273185918976, 57344, 45671926166590716193865151022383844364247891968⟩, ⟨17, .q none, 48526421552002635955981722961282834637013385216, 130048, 91343852333181432387730302044767688728495783936⟩, ⟨18, .q none, 91700664256357922357994873537130062512591470592, 262143, 182687704666362864775460604089535377456991567872⟩, ⟨19, .q none, 1, 0, 365375409332725729550921208179070754913983135744⟩, ⟨20, .q none, 65536, 0, 730750818665451459101842416358141509827966271488⟩, ⟨21, .q none, 365375409332725729550921208179070754913983135744, 524288, 1461501637330902918203684832716283019655932542976⟩, ⟨22, .q none, 1461501637330902918203684832716283019655932542976, 2621440, 2923003274661805836407369665432566039311865085952⟩, ⟨23, .q none, 3653754093327257295509212081790707549139831357440, 7864320, 5846006549323611672814739330865132078623730171904⟩, ⟨24, .q (some 0), 5846006549323611672814739330865132078623730171904, 16252928, 11692013098647223345629478661730264157247460343808⟩, ⟨25, .q none, 11874700803313586210404939265819799534704451911680, 33554431, 23384026197294446691258957323460528314494920687616⟩, ⟨26, .q none, 65536, 0, 46768052394588893382517914646921056628989841375232⟩, ⟨27, .q none, 46768052394588893382517914646921056628989841375236, 67108864, 93536104789177786765035829293842113257979682750464⟩, ⟨28, .q (some 0), 93536104789177786765035829293842113257979682750464, 201326592, 187072209578355573530071658587684226515959365500928⟩, ⟨29, .q none, 210456235775650020221330615911144754830454286188544, 536870911, 374144419156711147060143317175368453031918731001856⟩, ⟨30, .q none, 374144419156711147060143317175368453031918731001856, 1073741823, 131072⟩]), (23, [⟨0, .q none, 1, 0, 52656145834278593348959013841835216159447547700274555627155488768⟩, ⟨1, .q none, 524288, 0, 105312291668557186697918027683670432318895095400549111254310977536⟩, ⟨2, .q none, 52656145834278593348959013841835216159447547700274555627155488768, 1, 210624583337114373395836055367340864637790190801098222508621955072⟩, ⟨3, .q none, 210624583337114373395836055367340864637790190801098222508621955072, 5, 421249166674228746791672110734681729275580381602196445017243910144⟩, ⟨4, .q none, 526561458342785933489590138418352161594475477002745556271554887680, 15, 842498333348457493583344221469363458551160763204392890034487820288⟩, ⟨5, .q (some 0), 842498333348457493583344221469363458551160763204392890034487820288, 31, 1684996666696914987166688442938726917102321526408785780068975640576⟩, ⟨6, .q none, 1048576, 0, 3369993333393829974333376885877453834204643052817571560137951281152⟩, ⟨7, .q none, 5054990000090744961500065328816180751306964579226357340206926921728, 127, 6739986666787659948666753771754907668409286105635143120275902562304⟩, ⟨8, .q none, 52656145834278593348959013841835216159447547700274555627155488768, 1, 13479973333575319897333507543509815336818572211270286240551805124608⟩, ⟨9, .q none, 13479973333575319897333507543509815336818572211270286240551805124608, 257, 26959946667150639794667015087019630673637144422540572481103610249216⟩, ⟨10, .q none, 27065258958819196981364933114703301105956039517941121592357921226752, 1023, 53919893334301279589334030174039261347274288845081144962207220498432⟩, ⟨11, .f 0 false, 60659880001088939538000783945794169015683574950716288082483123060736, 2047, 0⟩])], [], []⟩
theorem C_sha_state_turn {x0 : Value} {w : World} {R : Ending → World → Prop} (h : F_sha_state_turn x0 w R) : Calls Tryz.prog 129 #[x0] w R :=
 calls_cwp (A := A_sha_state_turn) (args := [x0]) mixed Tryz.func129 (c := Tryz.f129.body.getD .skip) (by kernel_rfl) (by kernel_rfl) (by kernel_rfl) (Eq.mpr (by kernel_rfl) h)
def F_prim_code (x0 x1 : Value) (w : World) (R : Ending → World → Prop) : Prop :=
 m R (o_box 33 x0) w fun x2 w1 =>
 m R (o_alloc 33) w1 fun x4 w2 =>
 m R (o_slice 33 x2 none none none) w2 fun x5 w3 =>
 m R (o_conv 135 9 x5) w3 fun x6 w4 =>
 m R (o_buildSlice 123 2 [(0, (.string (ByteArray.mk #[115, 105, 103, 110]))), (1, x1)]) w4 fun x8 w5 =>
 m R (o_call (fv 152) [x6, x8]) w5 fun x9 w6 =>
 m R (o_store 33 x4 x9) w6 fun _ w7 =>
 rcell Tryz.prog 33 x4 w7 fun r4 =>
 R (.returned r4) w7
def A_prim_code : Ann := ⟨[], [], [], [], []⟩
theorem C_prim_code {x0 x1 : Value} {w : World} {R : Ending → World → Prop} (h : F_prim_code x0 x1 w R) : Calls Tryz.prog 130 #[x0, x1] w R :=
 calls_cwp (A := A_prim_code) (args := [x0, x1]) mixed Tryz.func130 (c := Tryz.f130.body.getD .skip) (by kernel_rfl) (by kernel_rfl) (by kernel_rfl) (Eq.mpr (by kernel_rfl) h)
def F_prim_Verify (x0 : Value) (w : World) (R : Ending → World → Prop) : Prop :=
 m R (o_box 33 x0) w fun x1 w1 =>
 m R (o_alloc 33) w1 fun x2 w2 =>
 m R (o_slice 33 x1 none none none) w2 fun x3 w3 =>
 m R (o_conv 135 9 x3) w3 fun x4 w4 =>
 m R (o_buildSlice 123 2 [(0, (.string (ByteArray.mk #[118, 101, 114]))), (1, x4)]) w4 fun x5 w5 =>
 m R (o_call (fv 40) [x5]) w5 fun x6 w6 =>
 m R (o_store 33 x2 x6) w6 fun _ w7 =>
 rcell Tryz.prog 33 x2 w7 fun r2 =>
 R (.returned r2) w7
def A_prim_Verify : Ann := ⟨[], [], [], [], []⟩
theorem C_prim_Verify {x0 : Value} {w : World} {R : Ending → World → Prop} (h : F_prim_Verify x0 w R) : Calls Tryz.prog 131 #[x0] w R :=
 calls_cwp (A := A_prim_Verify) (args := [x0]) mixed Tryz.func131 (c := Tryz.f131.body.getD .skip) (by kernel_rfl) (by kernel_rfl) (by kernel_rfl) (Eq.mpr (by kernel_rfl) h)
def F_bevyref05_text (x0 : Value) (w : World) (R : Ending → World → Prop) : Prop :=
 m R (o_box 32 x0) w fun x1 w1 =>
 m R (o_slice 32 x1 none none none) w1 fun x3 w2 =>
 m R (o_conv 135 9 x3) w2 fun x4 w3 =>
 R (.returned x4) w3
def A_bevyref05_text : Ann := ⟨[], [], [], [], []⟩
theorem C_bevyref05_text {x0 : Value} {w : World} {R : Ending → World → Prop} (h : F_bevyref05_text x0 w R) : Calls Tryz.prog 132 #[x0] w R :=
 calls_cwp (A := A_bevyref05_text) (args := [x0]) mixed Tryz.func132 (c := Tryz.f132.body.getD .skip) (by kernel_rfl) (by kernel_rfl) (by kernel_rfl) (Eq.mpr (by kernel_rfl) h)
def F_slices_insertionSortCmpFunc_api_Proposal (x0 x1 x2 x3 : Value) (w : World) (R : Ending → World → Prop) : Prop :=
 m R (o_bin .add 3 true x1 (.int .i64 1)) w fun x11 w1 =>
 ml1 x11 w1 fun x8 u1 w2 next1 =>
 m R (o_bin .lss 3 false x8 x2) w2 fun x14 w3 =>
 mif x14 (
 ml1 x8 w3 fun x9 u4 w4 next4 =>
 mj0 (fun j6 =>
 dp Tryz.prog (o_bin .gtr 3 false x9 x1) fun x20 =>
 qguard x20 true (fun k => dp Tryz.prog (o_move x3) k) fun x22 =>
 qguard x20 true (fun k => dp Tryz.prog (o_move x0) k) fun x23 =>
 qguard x20 true (fun k => dp Tryz.prog (o_move x9) k) fun x24 =>
 qguard x20 true (fun k => dp Tryz.prog (o_indexAddr 46 x23 x24) k) fun x25 =>
 qguard x20 true (fun k => dq Tryz.prog w4 (o_load 87 x25) k) fun x26 =>
 qguard x20 true (fun k => dp Tryz.prog (o_move x0) k) fun x27 =>
 qguard x20 true (fun k => dp Tryz.prog (o_move x9) k) fun x28 =>
 qguard x20 true (fun k => dp Tryz.prog (o_bin .sub 3 true x28 (.int .i64 1)) k) fun x29 =>
 qguard x20 true (fun k => dp Tryz.prog (o_indexAddr 46 x27 x29) k) fun x30 =>
 qguard x20 true (fun k => dq Tryz.prog w4 (o_load 87 x30) k) fun x31 =>
 mguard x20 true (fun k => df Tryz.prog w4 (o_call x22 [x26, x31]) false k) w4 fun x32 w5 =>
 qguard x20 true (fun k => dp Tryz.prog (o_bin .lss 3 true x32 (.int .i64 0)) k) fun x33 =>
 dp Tryz.prog (o_pick x20 x33 (.bool false)) fun x34 =>
 dend w5 fun w6 =>
 mif x34 (
 j6 w6) (
 m R (o_bin .add 3 true x8 (.int .i64 1)) w6 fun x16 w7 =>
 next1 x16 w7)) fun u6 w8 =>
 dp Tryz.prog (o_bin .sub 3 true x9 (.int .i64 1)) fun x41 =>
 dp Tryz.prog (o_bin .sub 3 true x9 (.int .i64 1)) fun x44 =>
 dp Tryz.prog (o_indexAddr 46 x0 x44) fun x45 =>
 dq Tryz.prog w8 (o_load 87 x45) fun x46 =>
 dp Tryz.prog (o_indexAddr 46 x0 x9) fun x49 =>
 dq Tryz.prog w8 (o_load 87 x49) fun x50 =>
 dp Tryz.prog (o_indexAddr 46 x0 x9) fun x51 =>
 df Tryz.prog w8 (o_store 87 x51 x46) false fun _ w9 =>
 dp Tryz.prog (o_indexAddr 46 x0 x41) fun x52 =>
 df Tryz.prog w9 (o_store 87 x52 x50) false fun _ w10 =>
 dend w10 fun w11 =>
 m R (o_bin .sub 3 true x9 (.int .i64 1)) w11 fun x36 w12 =>
 next4 x36 w12) (
 R (.returned (.tuple #[])) w3)
def A_slices_insertionSortCmpFunc_api_Proposal : Ann := ⟨[(1, [8], 9007199254737664), (4, [9], 9007199254479360)], [(6, [], 34359476224)], [(4, [⟨0, .q none, 512, 0, 262144⟩, ⟨1, .q none, 2, 0, 524288⟩, ⟨2, .q none, 786432, 3, 1048576⟩, ⟨3, .q none, 1048576, 7, 2097152⟩, ⟨4, .q none, 2097160, 15, 4194304⟩, ⟨5, .q none, 2097153, 15, 8388608⟩, ⟨6, .q none, 2097664, 15, 16777216⟩, ⟨7, .q none, 27262976, 111, 33554432⟩, ⟨8, .q (some 0), 35651584, 239, 67108864⟩, ⟨9, .q none, 2097153, 15, 134217728⟩, ⟨10, .q none, 2097664, 15, 268435456⟩, ⟨11, .q none, 270532608, 1039, 536870912⟩, ⟨12, .q none, 673185792, 3599, 1073741824⟩, ⟨13, .q (some 0), 1075838976, 7695, 2147483648⟩, ⟨14, .f 0 false, 2220883968, 16383, 4294967296⟩, ⟨15, .q none, 4297064448, 32767, 8589934592⟩, ⟨16, .q none, 8592031744, 65535, 17179869184⟩]), (6, [⟨0, .q none, 1, 0, 137438953472⟩, ⟨1, .q none, 512, 0, 274877906944⟩, ⟨2, .q none, 1, 0, 549755813888⟩, ⟨3, .q none, 512, 0, 1099511627776⟩, ⟨4, .q none, 1099511627776, 8, 2199023255552⟩, ⟨5, .q none, 1, 0, 4398046511104⟩, ⟨6, .q none, 512, 0, 8796093022208⟩, ⟨7, .q none, 8796093022208, 64, 17592186044416⟩, ⟨8, .q none, 21990232555520, 224, 35184372088832⟩, ⟨9, .q (some 0), 35184372088832, 480, 70368744177664⟩, ⟨10, .q none, 1, 0, 140737488355328⟩, ⟨11, .q none, 512, 0, 281474976710656⟩, ⟨12, .q none, 422212465065984, 3072, 562949953421312⟩, ⟨13, .q (some 0), 562949953421312, 7168, 1125899906842624⟩, ⟨14, .q none, 412316860416, 16355, 2251799813685248⟩, ⟨15, .f 0 false, 2322168557862912, 32739, 0⟩, ⟨16, .q none, 2748779069440, 65535, 4503599627370496⟩, ⟨17, .f 1 false, 5629499534213120, 131071, 0⟩])], [], []⟩
theorem C_slices_insertionSortCmpFunc_api_Proposal {x0 x1 x2 x3 : Value} {w : World} {R : Ending → World → Prop} (h : F_slices_insertionSortCmpFunc_api_Proposal x0 x1 x2 x3 w R) : Calls Tryz.prog 133 #[x0, x1, x2, x3] w R :=
 calls_cwp (A := A_slices_insertionSortCmpFunc_api_Proposal) (args := [x0, x1, x2, x3]) mixed Tryz.func133 (c := Tryz.f133.body.getD .skip) (by kernel_rfl) (by kernel_rfl) (by kernel_rfl) (Eq.mpr (by kernel_rfl) h)
def F_slices_symMergeCmpFunc_api_Proposal (x0 x1 x2 x3 x4 : Value) (w : World) (R : Ending → World → Prop) : Prop :=
 m R (o_bin .sub 3 false x2 x1) w fun x27 w1 =>
 m R (o_bin .eql 3 true x27 (.int .i64 1)) w1 fun x28 w2 =>
 mif x28 (
 ml2 x2 x3 w2 fun x10 x11 u3 w3 next3 =>
 m R (o_bin .lss 3 false x10 x11) w3 fun x33 w4 =>
 mif x33 (
 m R (o_bin .add 3 false x10 x11) w4 fun x36 w5 =>
 m R (o_conv 3 121 x36) w5 fun x37 w6 =>
 m R (o_bin .shr 121 true x37 (.int .u64 1)) w6 fun x38 w7 =>
 m R (o_conv 121 3 x38) w7 fun x39 w8 =>
 dp Tryz.prog (o_indexAddr 46 x0 x39) fun x43 =>
 dq Tryz.prog w8 (o_load 87 x43) fun x44 =>
 dp Tryz.prog (o_indexAddr 46 x0 x1) fun x47 =>
 dq Tryz.prog w8 (o_load 87 x47) fun x48 =>
 df Tryz.prog w8 (o_call x4 [x44, x48]) false fun x49 w9 =>
 dp Tryz.prog (o_bin .lss 3 true x49 (.int .i64 0)) fun x50 =>
 dend w9 fun w10 =>
 mif x50 (
 m R (o_bin .add 3 true x39 (.int .i64 1)) w10 fun x52 w11 =>
 next3 x52 x11 w11) (
 next3 x10 x39 w10)) (
 ml1 x1 w4 fun x13 u9 w12 next9 =>
 m R (o_bin .sub 3 true x10 (.int .i64 1)) w12 fun x57 w13 =>
 m R (o_bin .lss 3 false x13 x57) w13 fun x58 w14 =>
 mif x58 (
 dp Tryz.prog (o_bin .add 3 true x13 (.int .i64 1)) fun x65 =>
 dp Tryz.prog (o_bin .add 3 true x13 (.int .i64 1)) fun x68 =>
 dp Tryz.prog (o_indexAddr 46 x0 x68) fun x69 =>
 dq Tryz.prog w14 (o_load 87 x69) fun x70 =>
 dp Tryz.prog (o_indexAddr 46 x0 x13) fun x73 =>
 dq Tryz.prog w14 (o_load 87 x73) fun x74 =>
 dp Tryz.prog (o_indexAddr 46 x0 x13) fun x75 =>
 df Tryz.prog w14 (o_store 87 x75 x70) false fun _ w15 =>
 dp Tryz.prog (o_indexAddr 46 x0 x65) fun x76 =>
 df Tryz.prog w15 (o_store 87 x76 x74) false fun _ w16 =>
 dend w16 fun w17 =>
 m R (o_bin .add 3 true x13 (.int .i64 1)) w17 fun x60 w18 =>
 next9 x60 w18) (
 R (.returned (.tuple #[])) w14))) (
 m R (o_bin .sub 3 false x3 x2) w2 fun x79 w19 =>
 m R (o_bin .eql 3 true x79 (.int .i64 1)) w19 fun x80 w20 =>
 mif x80 (
 ml2 x1 x2 w20 fun x14 x15 u15 w21 next15 =>
 m R (o_bin .lss 3 false x14 x15) w21 fun x85 w22 =>
 mif x85 (
 m R (o_bin .add 3 false x14 x15) w22 fun x88 w23 =>
 m R (o_conv 3 121 x88) w23 fun x89 w24 =>
 m R (o_bin .shr 121 true x89 (.int .u64 1)) w24 fun x90 w25 =>
 m R (o_conv 121 3 x90) w25 fun x91 w26 =>
 dp Tryz.prog (o_indexAddr 46 x0 x2) fun x95 =>
 dq Tryz.prog w26 (o_load 87 x95) fun x96 =>
 dp Tryz.prog (o_indexAddr 46 x0 x91) fun x99 =>
 dq Tryz.prog w26 (o_load 87 x99) fun x100 =>
 df Tryz.prog w26 (o_call x4 [x96, x100]) false fun x101 w27 =>
 dp Tryz.prog (o_bin .lss 3 true x101 (.int .i64 0)) fun x102 =>
 dp Tryz.prog (o_un .not x102) fun x103 =>
 dend w27 fun w28 =>
 mif x103 (
 m R (o_bin .add 3 true x91 (.int .i64 1)) w28 fun x105 w29 =>
 next15 x105 x15 w29) (
 next15 x14 x91 w28)) (
 ml1 x2 w22 fun x17 u21 w30 next21 =>
 m R (o_bin .gtr 3 false x17 x14) w30 fun x110 w31 =>
 mif x110 (
 dp Tryz.prog (o_bin .sub 3 true x17 (.int .i64 1)) fun x117 =>
 dp Tryz.prog (o_bin .sub 3 true x17 (.int .i64 1)) fun x120 =>
 dp Tryz.prog (o_indexAddr 46 x0 x120) fun x121 =>
 dq Tryz.prog w31 (o_load 87 x121) fun x122 =>
 dp Tryz.prog (o_indexAddr 46 x0 x17) fun x125 =>
 dq Tryz.prog w31 (o_load 87 x125) fun x126 =>
 dp Tryz.prog (o_indexAddr 46 x0 x17) fun x127 =>
 df Tryz.prog w31 (o_store 87 x127 x122) false fun _ w32 =>
 dp Tryz.prog (o_indexAddr 46 x0 x117) fun x128 =>
 df Tryz.prog w32 (o_store 87 x128 x126) false fun _ w33 =>
 dend w33 fun w34 =>
 m R (o_bin .sub 3 true x17 (.int .i64 1)) w34 fun x112 w35 =>
 next21 x112 w35) (
 R (.returned (.tuple #[])) w31))) (
 m R (o_bin .add 3 false x1 x3) w20 fun x131 w36 =>
 m R (o_conv 3 121 x131) w36 fun x132 w37 =>
 m R (o_bin .shr 121 true x132 (.int .u64 1)) w37 fun x133 w38 =>
 m R (o_conv 121 3 x133) w38 fun x134 w39 =>
 m R (o_bin .add 3 false x134 x2) w39 fun x137 w40 =>
 mj2 (fun j32 =>
 m R (o_bin .gtr 3 false x2 x134) w40 fun x140 w41 =>
 mif x140 (
 m R (o_bin .sub 3 false x137 x3) w41 fun x143 w42 =>
 j32 x143 x134 w42) (
 j32 x1 x2 w41)) fun x20 x21 u32 w43 =>
 m R (o_bin .sub 3 true x137 (.int .i64 1)) w43 fun x148 w44 =>
 ml2 x20 x21 w44 fun x20 x21 u33 w45 next33 =>
 m R (o_bin .lss 3 false x20 x21) w45 fun x151 w46 =>
 mif x151 (
 m R (o_bin .add 3 false x20 x21) w46 fun x154 w47 =>
 m R (o_conv 3 121 x154) w47 fun x155 w48 =>
 m R (o_bin .shr 121 true x155 (.int .u64 1)) w48 fun x156 w49 =>
 m R (o_conv 121 3 x156) w49 fun x157 w50 =>
 dp Tryz.prog (o_bin .sub 3 false x148 x157) fun x162 =>
 dp Tryz.prog (o_indexAddr 46 x0 x162) fun x163 =>
 dq Tryz.prog w50 (o_load 87 x163) fun x164 =>
 dp Tryz.prog (o_indexAddr 46 x0 x157) fun x167 =>
 dq Tryz.prog w50 (o_load 87 x167) fun x168 =>
 df Tryz.prog w50 (o_call x4 [x164, x168]) false fun x169 w51 =>
 dp Tryz.prog (o_bin .lss 3 true x169 (.int .i64 0)) fun x170 =>
 dp Tryz.prog (o_un .not x170) fun x171 =>
 dend w51 fun w52 =>
 mif x171 (
 m R (o_bin .add 3 true x157 (.int .i64 1)) w52 fun x173 w53 =>
 next33 x173 x21 w53) (
 next33 x20 x157 w52)) (
 m R (o_bin .sub 3 false x137 x20) w46 fun x177 w54 =>
 mj0 (fun j41 =>
 mj1 (fun j40 =>
 m R (o_bin .lss 3 false x20 x2) w54 fun x180 w55 =>
 mguard x180 true (fun k => m R (o_move x2) w55 k) w55 fun x182 w56 =>
 mguard x180 true (fun k => m R (o_move x177) w56 k) w56 fun x183 w57 =>
 mguard x180 true (fun k => m R (o_bin .lss 3 false x182 x183) w57 k) w57 fun x184 w58 =>
 m R (o_pick x180 x184 (.bool false)) w58 fun x185 w59 =>
 j40 x185 w59) fun x185 u40 w60 =>
 mif x185 (
 m R (o_call (fv 153) [x0, x20, x2, x177, x4]) w60 fun x191 w61 =>
 j41 w61) (
 j41 w60)) fun u41 w62 =>
 mj0 (fun j43 =>
 mj1 (fun j42 =>
 m R (o_bin .lss 3 false x1 x20) w62 fun x194 w63 =>
 mguard x194 true (fun k => m R (o_move x20) w63 k) w63 fun x196 w64 =>
 mguard x194 true (fun k => m R (o_move x134) w64 k) w64 fun x197 w65 =>
 mguard x194 true (fun k => m R (o_bin .lss 3 false x196 x197) w65 k) w65 fun x198 w66 =>
 m R (o_pick x194 x198 (.bool false)) w66 fun x199 w67 =>
 j42 x199 w67) fun x199 u42 w68 =>
 mif x199 (
 m R (o_call (fv 134) [x0, x1, x20, x134, x4]) w68 fun x205 w69 =>
 j43 w69) (
 j43 w68)) fun u43 w70 =>
 mj1 (fun j44 =>
 m R (o_bin .lss 3 false x134 x177) w70 fun x208 w71 =>
 mguard x208 true (fun k => m R (o_move x177) w71 k) w71 fun x210 w72 =>
 mguard x208 true (fun k => m R (o_move x3) w72 k) w72 fun x211 w73 =>
 mguard x208 true (fun k => m R (o_bin .lss 3 false x210 x211) w73 k) w73 fun x212 w74 =>
 m R (o_pick x208 x212 (.bool false)) w74 fun x213 w75 =>
 j44 x213 w75) fun x213 u44 w76 =>
 mif x213 (
 m R (o_call (fv 134) [x0, x134, x177, x3, x4]) w76 fun x219 w77 =>
 R (.returned (.tuple #[])) w77) (
 R (.returned (.tuple #[])) w76))))
def A_slices_symMergeCmpFunc_api_Proposal : Ann := ⟨[(3, [10, 11], 18014396362005504), (9, [13], 151115691423031627882496), (15, [14, 15], 162259267157806806474544612753408), (21, [17], 680564409323323268500022431707515977728), (33, [20, 21], 47890484938435180470718404069304177263338029388398592)], [(32, [20, 21], 178057512444517944145699250583176761402458112), (41, [], 6276718611501464291621199836450878838806450759683488612352), (40, [185], 97696590730200414720344622980832210455694619039204638720), (43, [], 102837757730839990953921738120411198895004889246654277424775168), (42, [199], 1600660942523603594778126302917954936106100638338328800788480), (44, [213], 26225228882306721296844821347007773673162352858535179072118456320)], [(5, [⟨0, .q none, 16, 0, 1099511627776⟩, ⟨1, .q none, 1, 0, 2199023255552⟩, ⟨2, .q none, 4096, 0, 4398046511104⟩, ⟨3, .q none, 6597069766656, 6, 8796093022208⟩, ⟨4, .q (some 0), 8796093022208, 14, 17592186044416⟩, ⟨5, .q none, 1, 0, 35184372088832⟩, ⟨6, .q none, 2, 0, 70368744177664⟩, ⟨7, .q none, 105553116266496, 96, 140737488355328⟩, ⟨8, .q (some 0), 140737488355328, 224, 281474976710656⟩, ⟨9, .f 0 false, 300166674382848, 511, 562949953421312⟩, ⟨10, .q none, 562949953421312, 1023, 1125899906842624⟩]), (11, [⟨0, .q none, 1, 0, 2305843009213693952⟩, ⟨1, .q none, 8192, 0, 4611686018427387904⟩, ⟨2, .q none, 1, 0, 9223372036854775808⟩, ⟨3, .q none, 8192, 0, 18446744073709551616⟩, ⟨4, .q none, 18446744073709551616, 8, 36893488147419103232⟩, ⟨5, .q none, 1, 0, 73786976294838206464⟩, ⟨6, .q none, 8192, 0, 147573952589676412928⟩, ⟨7, .q none, 147573952589676412928, 64, 295147905179352825856⟩, ⟨8, .q none, 368934881474191032320, 224, 590295810358705651712⟩, ⟨9, .q (some 0), 590295810358705651712, 480, 1180591620717411303424⟩, ⟨10, .q none, 1, 0, 2361183241434822606848⟩, ⟨11, .q none, 8192, 0, 4722366482869645213696⟩, ⟨12, .q none, 7083549724304467820544, 3072, 9444732965739290427392⟩, ⟨13, .q (some 0), 9444732965739290427392, 7168, 18889465931478580854784⟩, ⟨14, .q none, 6917529027641081856, 16355, 37778931862957161709568⟩, ⟨15, .f 0 false, 38959523483674573012992, 32739, 0⟩, ⟨16, .q none, 46116860184273879040, 65535, 75557863725914323419136⟩, ⟨17, .f 1 false, 94447329657392904273920, 131071, 0⟩]), (17, [⟨0, .q none, 16, 0, 4951760157141521099596496896⟩, ⟨1, .q none, 1, 0, 9903520314283042199192993792⟩, ⟨2, .q none, 4, 0, 19807040628566084398385987584⟩, ⟨3, .q none, 29710560942849126597578981376, 6, 39614081257132168796771975168⟩, ⟨4, .q (some 0), 39614081257132168796771975168, 14, 79228162514264337593543950336⟩, ⟨5, .q none, 1, 0, 158456325028528675187087900672⟩, ⟨6, .q none, 65536, 0, 316912650057057350374175801344⟩, ⟨7, .q none, 475368975085586025561263702016, 96, 633825300114114700748351602688⟩, ⟨8, .q (some 0), 633825300114114700748351602688, 224, 1267650600228229401496703205376⟩, ⟨9, .f 0 false, 1351830522899635260189843652608, 511, 2535301200456458802993406410752⟩, ⟨10, .q none, 2535301200456458802993406410752, 1023, 5070602400912917605986812821504⟩, ⟨11, .q none, 5070602400912917605986812821504, 2047, 10141204801825835211973625643008⟩]), (23, [⟨0, .q none, 1, 0, 10384593717069655257060992658440192⟩, ⟨1, .q none, 131072, 0, 20769187434139310514121985316880384⟩, ⟨2, .q none, 1, 0, 41538374868278621028243970633760768⟩, ⟨3, .q none, 131072, 0, 83076749736557242056487941267521536⟩, ⟨4, .q none, 83076749736557242056487941267521536, 8, 166153499473114484112975882535043072⟩, ⟨5, .q none, 1, 0, 332306998946228968225951765070086144⟩, ⟨6, .q none, 131072, 0, 664613997892457936451903530140172288⟩, ⟨7, .q none, 664613997892457936451903530140172288, 64, 1329227995784915872903807060280344576⟩, ⟨8, .q none, 1661534994731144841129758825350430720, 224, 2658455991569831745807614120560689152⟩, ⟨9, .q (some 0), 2658455991569831745807614120560689152, 480, 5316911983139663491615228241121378304⟩, ⟨10, .q none, 1, 0, 10633823966279326983230456482242756608⟩, ⟨11, .q none, 131072, 0, 21267647932558653966460912964485513216⟩, ⟨12, .q none, 31901471898837980949691369446728269824, 3072, 42535295865117307932921825928971026432⟩, ⟨13, .q (some 0), 42535295865117307932921825928971026432, 7168, 85070591730234615865843651857942052864⟩, ⟨14, .q none, 31153781151208965771182977975320576, 16355, 170141183460469231731687303715884105728⟩, ⟨15, .f 0 false, 175458095443608895223302531957005484032, 32739, 0⟩, ⟨16, .q none, 207691874341393105141219853168803840, 65535, 340282366920938463463374607431768211456⟩, ⟨17, .f 1 false, 425352958651173079329218259289710264320, 131071, 0⟩]), (35, [⟨0, .q none, 16, 0, 365375409332725729550921208179070754913983135744⟩, ⟨1, .q none, 1, 0, 730750818665451459101842416358141509827966271488⟩, ⟨2, .q none, 4194304, 0, 1461501637330902918203684832716283019655932542976⟩, ⟨3, .q none, 8388608, 0, 2923003274661805836407369665432566039311865085952⟩, ⟨4, .q none, 4384504911992708754611054498148849058967797628928, 12, 5846006549323611672814739330865132078623730171904⟩, ⟨5, .q none, 6576757367989063131916581747223273588451696443392, 30, 11692013098647223345629478661730264157247460343808⟩, ⟨6, .q (some 0), 11692013098647223345629478661730264157247460343808, 62, 23384026197294446691258957323460528314494920687616⟩, ⟨7, .q none, 1, 0, 46768052394588893382517914646921056628989841375232⟩, ⟨8, .q none, 8388608, 0, 93536104789177786765035829293842113257979682750464⟩, ⟨9, .q none, 140304157183766680147553743940763169886969524125696, 384, 187072209578355573530071658587684226515959365500928⟩, ⟨10, .q (some 0), 187072209578355573530071658587684226515959365500928, 896, 374144419156711147060143317175368453031918731001856⟩, ⟨11, .f 0 false, 397893820763338319480953195707008052101327634825216, 2047, 748288838313422294120286634350736906063837462003712⟩, ⟨12, .q none, 748288838313422294120286634350736906063837462003712, 4095, 1496577676626844588240573268701473812127674924007424⟩, ⟨13, .q none, 1496577676626844588240573268701473812127674924007424, 8191, 2993155353253689176481146537402947624255349848014848⟩])], [], []⟩
theorem C_slices_symMergeCmpFunc_api_Proposal {x0 x1 x2 x3 x4 : Value} {w : World} {R : Ending → World → Prop} (h : F_slices_symMergeCmpFunc_api_Proposal x0 x1 x2 x3 x4 w R) : Calls Tryz.prog 134 #[x0, x1, x2, x3, x4] w R :=
 calls_cwp (A := A_slices_symMergeCmpFunc_api_Proposal) (args := [x0, x1, x2, x3, x4]) mixed Tryz.func134 (c := Tryz.f134.body.getD .skip) (by kernel_rfl) (by kernel_rfl) (by kernel_rfl) (Eq.mpr (by kernel_rfl) h)
def F_bevyref10_Pack (x0 : Value) (w : World) (R : Ending → World → Prop) : Prop :=
 m R (o_box 87 x0) w fun x1 w1 =>
 dq Tryz.prog w1 (o_load 87 x1) fun x3 =>
 df Tryz.prog w1 (o_call (fv 154) [x3]) true fun x4 w2 =>
 dp Tryz.prog (o_fieldAddr 87 x1 5) fun x5 =>
 dq Tryz.prog w1 (o_load 33 x5) fun x6 =>
 df Tryz.prog w2 (o_call (fv 155) [x6]) false fun x7 w3 =>
 dp Tryz.prog (o_bin .add 9 false x4 x7) fun x8 =>
 dend w3 fun w4 =>
 R (.returned x8) w4
def A_bevyref10_Pack : Ann := ⟨[], [], [(1, [⟨0, .q (some 0), 2, 0, 8⟩, ⟨1, .f 0 true, 8, 1, 16⟩, ⟨2, .q none, 2, 0, 32⟩, ⟨3, .q (some 0), 32, 4, 64⟩, ⟨4, .f 1 false, 64, 15, 128⟩, ⟨5, .q none, 144, 31, 256⟩, ⟨6, .q none, 256, 63, 4⟩])], [], []⟩
theorem C_bevyref10_Pack {x0 : Value} {w : World} {R : Ending → World → Prop} (h : F_bevyref10_Pack x0 w R) : Calls Tryz.prog 135 #[x0] w R :=
 calls_cwp (A := A_bevyref10_Pack) (args := [x0]) mixed Tryz.func135 (c := Tryz.f135.body.getD .skip) (by kernel_rfl) (by kernel_rfl) (by kernel_rfl) (Eq.mpr (by kernel_rfl) h)
def F_bevyref10_Check (x0 x1 : Value) (w : World) (R : Ending → World → Prop) : Prop :=
 m R (o_box 87 x0) w fun x2 w1 =>
 m R (o_box 33 x1) w1 fun x3 w2 =>
 dq Tryz.prog w2 (o_load 87 x2) fun x5 =>
 df Tryz.prog w2 (o_call (fv 106) [x5]) false fun x6 w3 =>
 qguard x6 true (fun k => dp Tryz.prog (o_fieldAddr 87 x2 5) k) fun x8 =>
 qguard x6 true (fun k => dq Tryz.prog w3 (o_load 33 x8) k) fun x9 =>
 qguard x6 true (fun k => dq Tryz.prog w3 (o_load 33 x3) k) fun x10 =>
 qguard x6 true (fun k => dq Tryz.prog w3 (o_load 87 x2) k) fun x11 =>
 mguard x6 true (fun k => df Tryz.prog w3 (o_call (fv 154) [x11]) true k) w3 fun x12 w4 =>
 mguard x6 true (fun k => df Tryz.prog w4 (o_call (fv 156) [x10, x12]) true k) w4 fun x13 w5 =>
 qguard x6 true (fun k => dp Tryz.prog (o_bin .eql 33 false x9 x13) k) fun x14 =>
 dp Tryz.prog (o_pick x6 x14 (.bool false)) fun x15 =>
 dend w5 fun w6 =>
 R (.returned x15) w6
def A_bevyref10_Check : Ann := ⟨[], [], [(1, [⟨0, .q (some 0), 4, 0, 32⟩, ⟨1, .f 0 false, 32, 1, 64⟩, ⟨2, .q none, 64, 3, 128⟩, ⟨3, .q none, 132, 7, 256⟩, ⟨4, .q (some 1), 384, 15, 512⟩, ⟨5, .q (some 1), 136, 7, 1024⟩, ⟨6, .q (some 1), 132, 7, 2048⟩, ⟨7, .f 1 true, 2176, 71, 4096⟩, ⟨8, .f 2 true, 5248, 231, 8192⟩, ⟨9, .q none, 8832, 511, 16384⟩, ⟨10, .q none, 16512, 1023, 32768⟩, ⟨11, .q none, 32768, 2047, 16⟩])], [], []⟩
theorem C_bevyref10_Check {x0 x1 : Value} {w : World} {R : Ending → World → Prop} (h : F_bevyref10_Check x0 x1 w R) : Calls Tryz.prog 136 #[x0, x1] w R :=
 calls_cwp (A := A_bevyref10_Check) (args := [x0, x1]) mixed Tryz.func136 (c := Tryz.f136.body.getD .skip) (by kernel_rfl) (by kernel_rfl) (by kernel_rfl) (Eq.mpr (by kernel_rfl) h)
def F_bevyref10_Card (x0 x1 x2 : Value) (w : World) (R : Ending → World → Prop) : Prop :=
 m R (o_box 42 x0) w fun x3 w1 =>
 m R (o_alloc 158) w1 fun x6 w2 =>
 mj1 (fun j2 =>
 m R (o_bin .lss 3 true x2 (.int .i64 1)) w2 fun x10 w3 =>
 mguard x10 false (fun k => m R (o_move x2) w3 k) w3 fun x12 w4 =>
 mguard x10 false (fun k => m R (o_bin .gtr 3 true x12 (.int .i64 64)) w4 k) w4 fun x13 w5 =>
 m R (o_pick x10 (.bool true) x13) w5 fun x14 w6 =>
 mguard x14 false (fun k => m R (o_move x2) w6 k) w6 fun x16 w7 =>
 mguard x14 false (fun k => m R (o_move x1) w7 k) w7 fun x17 w8 =>
 mguard x14 false (fun k => m R (o_builtin .len #[43] 3 [false] [x17]) w8 k) w8 fun x18 w9 =>
 mguard x14 false (fun k => m R (o_bin .gtr 3 false x16 x18) w9 k) w9 fun x19 w10 =>
 m R (o_pick x14 (.bool true) x19) w10 fun x20 w11 =>
 j2 x20 w11) fun x20 u2 w12 =>
 mif x20 (
 m R (o_build 158 []) w12 fun x21 w13 =>
 m R (o_store 158 x6 x21) w13 fun _ w14 =>
 rcell Tryz.prog 158 x6 w14 fun r6 =>
 R (.returned (.tuple #[r6, (.int .i64 7)])) w14) (
 m R (o_bin .sub 3 true x2 (.int .i64 1)) w12 fun x23 w15 =>
 m R (o_indexAddr 42 x3 x23) w15 fun x24 w16 =>
 m R (o_load 3 x24) w16 fun x25 w17 =>
 mj1 (fun j5 =>
 m R (o_bin .lss 3 true x25 (.int .i64 0)) w17 fun x27 w18 =>
 mguard x27 false (fun k => m R (o_move x25) w18 k) w18 fun x29 w19 =>
 mguard x27 false (fun k => m R (o_move x1) w19 k) w19 fun x30 w20 =>
 mguard x27 false (fun k => m R (o_move x2) w20 k) w20 fun x31 w21 =>
 mguard x27 false (fun k => m R (o_bin .sub 3 true x31 (.int .i64 1)) w21 k) w21 fun x32 w22 =>
 mguard x27 false (fun k => m R (o_indexAddr 43 x30 x32) w22 k) w22 fun x33 w23 =>
 mguard x27 false (fun k => m R (o_fieldAddr 95 x33 1) w23 k) w23 fun x34 w24 =>
 mguard x27 false (fun k => m R (o_load 93 x34) w24 k) w24 fun x35 w25 =>
 mguard x27 false (fun k => m R (o_builtin .len #[93] 3 [false] [x35]) w25 k) w25 fun x36 w26 =>
 mguard x27 false (fun k => m R (o_bin .geq 3 false x29 x36) w26 k) w26 fun x37 w27 =>
 m R (o_pick x27 (.bool true) x37) w27 fun x38 w28 =>
 j5 x38 w28) fun x38 u5 w29 =>
 mif x38 (
 m R (o_build 158 []) w29 fun x39 w30 =>
 m R (o_store 158 x6 x39) w30 fun _ w31 =>
 rcell Tryz.prog 158 x6 w31 fun r6 =>
 R (.returned (.tuple #[r6, (.int .i64 10)])) w31) (
 m R (o_bin .sub 3 true x2 (.int .i64 1)) w29 fun x42 w32 =>
 m R (o_indexAddr 43 x1 x42) w32 fun x43 w33 =>
 m R (o_fieldAddr 95 x43 1) w33 fun x44 w34 =>
 m R (o_load 93 x44) w34 fun x45 w35 =>
 m R (o_indexAddr 93 x45 x25) w35 fun x47 w36 =>
 m R (o_load 158 x47) w36 fun x48 w37 =>
 m R (o_store 158 x6 x48) w37 fun _ w38 =>
 rcell Tryz.prog 158 x6 w38 fun r6 =>
 R (.returned (.tuple #[r6, (.int .i64 0)])) w38))
def A_bevyref10_Card : Ann := ⟨[], [(2, [20], 2096640), (5, [38], 549688705024)], [], [], []⟩
theorem C_bevyref10_Card {x0 x1 x2 : Value} {w : World} {R : Ending → World → Prop} (h : F_bevyref10_Card x0 x1 x2 w R) : Calls Tryz.prog 137 #[x0, x1, x2] w R :=
 calls_cwp (A := A_bevyref10_Card) (args := [x0, x1, x2]) mixed Tryz.func137 (c := Tryz.f137.body.getD .skip) (by kernel_rfl) (by kernel_rfl) (by kernel_rfl) (Eq.mpr (by kernel_rfl) h)
def F_bevyref08_Renew (x0 x1 x2 : Value) (w : World) (R : Ending → World → Prop) : Prop :=
 m R (o_box 25 x0) w fun x3 w1 =>
 m R (o_box 33 x2) w1 fun x5 w2 =>
 m R (o_alloc 25) w2 fun x6 w3 =>
 m R (o_load 25 x3) w3 fun x8 w4 =>
 m R (o_call (fv 157) [x8, x1]) w4 fun x10 w5 =>
 mif x10 (
 m R (o_build 25 []) w5 fun x11 w6 =>
 m R (o_store 25 x6 x11) w6 fun _ w7 =>
 rcell Tryz.prog 25 x6 w7 fun r6 =>
 R (.returned (.tuple #[r6, (.int .i64 7)])) w7) (
 m R (o_load 25 x3) w5 fun x12 w8 =>
 m R (o_call (fv 158) [x12, x1]) w8 fun x14 w9 =>
 m R (o_store 25 x3 x14) w9 fun _ w10 =>
 m R (o_fieldAddr 25 x3 0) w10 fun x15 w11 =>
 m R (o_load 22 x15) w11 fun x16 w12 =>
 m R (o_load 33 x5) w12 fun x18 w13 =>
 m R (o_indexAddr 22 x16 x1) w13 fun x19 w14 =>
 m R (o_fieldAddr 57 x19 1) w14 fun x20 w15 =>
 m R (o_store 33 x20 x18) w15 fun _ w16 =>
 m R (o_fieldAddr 25 x3 0) w16 fun x21 w17 =>
 m R (o_load 22 x21) w17 fun x22 w18 =>
 m R (o_build 33 []) w18 fun x24 w19 =>
 m R (o_indexAddr 22 x22 x1) w19 fun x25 w20 =>
 m R (o_fieldAddr 57 x25 3) w20 fun x26 w21 =>
 m R (o_store 33 x26 x24) w21 fun _ w22 =>
 m R (o_load 25 x3) w22 fun x27 w23 =>
 m R (o_store 25 x6 x27) w23 fun _ w24 =>
 rcell Tryz.prog 25 x6 w24 fun r6 =>
 R (.returned (.tuple #[r6, (.int .i64 0)])) w24)
def A_bevyref08_Renew : Ann := ⟨[], [], [], [], []⟩
theorem C_bevyref08_Renew {x0 x1 x2 : Value} {w : World} {R : Ending → World → Prop} (h : F_bevyref08_Renew x0 x1 x2 w R) : Calls Tryz.prog 138 #[x0, x1, x2] w R :=
 calls_cwp (A := A_bevyref08_Renew) (args := [x0, x1, x2]) mixed Tryz.func138 (c := Tryz.f138.body.getD .skip) (by kernel_rfl) (by kernel_rfl) (by kernel_rfl) (Eq.mpr (by kernel_rfl) h)
def F_bevyref08_Remove (x0 x1 : Value) (w : World) (R : Ending → World → Prop) : Prop :=
 m R (o_box 25 x0) w fun x2 w1 =>
 m R (o_alloc 25) w1 fun x4 w2 =>
 m R (o_load 25 x2) w2 fun x6 w3 =>
 m R (o_call (fv 157) [x6, x1]) w3 fun x8 w4 =>
 mif x8 (
 m R (o_build 25 []) w4 fun x9 w5 =>
 m R (o_store 25 x4 x9) w5 fun _ w6 =>
 rcell Tryz.prog 25 x4 w6 fun r4 =>
 R (.returned (.tuple #[r4, (.int .i64 7)])) w6) (
 m R (o_load 25 x2) w4 fun x10 w7 =>
 m R (o_call (fv 158) [x10, x1]) w7 fun x12 w8 =>
 m R (o_store 25 x2 x12) w8 fun _ w9 =>
 m R (o_fieldAddr 25 x2 0) w9 fun x13 w10 =>
 m R (o_load 22 x13) w10 fun x14 w11 =>
 m R (o_build 57 []) w11 fun x16 w12 =>
 m R (o_indexAddr 22 x14 x1) w12 fun x17 w13 =>
 m R (o_store 57 x17 x16) w13 fun _ w14 =>
 ml0 w14 fun u5 w15 next5 =>
 mj0 (fun j6 =>
 m R (o_fieldAddr 25 x2 0) w15 fun x18 w16 =>
 m R (o_load 22 x18) w16 fun x19 w17 =>
 m R (o_builtin .len #[22] 3 [false] [x19]) w17 fun x20 w18 =>
 m R (o_bin .gtr 3 true x20 (.int .i64 0)) w18 fun x21 w19 =>
 mguard x21 true (fun k => m R (o_fieldAddr 25 x2 0) w19 k) w19 fun x23 w20 =>
 mguard x21 true (fun k => m R (o_load 22 x23) w20 k) w20 fun x24 w21 =>
 mguard x21 true (fun k => m R (o_fieldAddr 25 x2 0) w21 k) w21 fun x25 w22 =>
 mguard x21 true (fun k => m R (o_load 22 x25) w22 k) w22 fun x26 w23 =>
 mguard x21 true (fun k => m R (o_builtin .len #[22] 3 [false] [x26]) w23 k) w23 fun x27 w24 =>
 mguard x21 true (fun k => m R (o_bin .sub 3 true x27 (.int .i64 1)) w24 k) w24 fun x28 w25 =>
 mguard x21 true (fun k => m R (o_indexAddr 22 x24 x28) w25 k) w25 fun x29 w26 =>
 mguard x21 true (fun k => m R (o_fieldAddr 57 x29 0) w26 k) w26 fun x30 w27 =>
 mguard x21 true (fun k => m R (o_load 3 x30) w27 k) w27 fun x31 w28 =>
 mguard x21 true (fun k => m R (o_bin .eql 3 true x31 (.int .i64 0)) w28 k) w28 fun x32 w29 =>
 m R (o_pick x21 x32 (.bool false)) w29 fun x33 w30 =>
 mif x33 (
 j6 w30) (
 m R (o_load 25 x2) w30 fun x54 w31 =>
 m R (o_store 25 x4 x54) w31 fun _ w32 =>
 rcell Tryz.prog 25 x4 w32 fun r4 =>
 R (.returned (.tuple #[r4, (.int .i64 0)])) w32)) fun u6 w33 =>
 m R (o_fieldAddr 25 x2 0) w33 fun x34 w34 =>
 m R (o_load 22 x34) w34 fun x35 w35 =>
 m R (o_fieldAddr 25 x2 0) w35 fun x36 w36 =>
 m R (o_load 22 x36) w36 fun x37 w37 =>
 m R (o_builtin .len #[22] 3 [false] [x37]) w37 fun x38 w38 =>
 m R (o_bin .sub 3 true x38 (.int .i64 1)) w38 fun x39 w39 =>
 m R (o_slice 22 x35 none (some x39) none) w39 fun x40 w40 =>
 m R (o_fieldAddr 25 x2 0) w40 fun x41 w41 =>
 m R (o_store 22 x41 x40) w41 fun _ w42 =>
 m R (o_fieldAddr 25 x2 1) w42 fun x42 w43 =>
 m R (o_load 23 x42) w43 fun x43 w44 =>
 m R (o_builtin .len #[23] 3 [false] [x43]) w44 fun x44 w45 =>
 m R (o_bin .gtr 3 true x44 (.int .i64 0)) w45 fun x45 w46 =>
 mif x45 (
 m R (o_fieldAddr 25 x2 1) w46 fun x46 w47 =>
 m R (o_load 23 x46) w47 fun x47 w48 =>
 m R (o_fieldAddr 25 x2 1) w48 fun x48 w49 =>
 m R (o_load 23 x48) w49 fun x49 w50 =>
 m R (o_builtin .len #[23] 3 [false] [x49]) w50 fun x50 w51 =>
 m R (o_bin .sub 3 true x50 (.int .i64 1)) w51 fun x51 w52 =>
 m R (o_slice 23 x47 none (some x51) none) w52 fun x52 w53 =>
 m R (o_fieldAddr 25 x2 1) w53 fun x53 w54 =>
 m R (o_store 23 x53 x52) w54 fun _ w55 =>
 next5 w55) (
 next5 w46))
def A_bevyref08_Remove : Ann := ⟨[(5, [], 18014398509219840)], [(6, [], 17179607040)], [], [], []⟩
theorem C_bevyref08_Remove {x0 x1 : Value} {w : World} {R : Ending → World → Prop} (h : F_bevyref08_Remove x0 x1 w R) : Calls Tryz.prog 139 #[x0, x1] w R :=
 calls_cwp (A := A_bevyref08_Remove) (args := [x0, x1]) mixed Tryz.func139 (c := Tryz.f139.body.getD .skip) (by kernel_rfl) (by kernel_rfl) (by kernel_rfl) (Eq.mpr (by kernel_rfl) h)
def F_bevyref08_Add (x0 x1 : Value) (w : World) (R : Ending → World → Prop) : Prop :=
 m R (o_box 25 x0) w fun x2 w1 =>
 m R (o_box 57 x1) w1 fun x3 w2 =>
 m R (o_alloc 25) w2 fun x4 w3 =>
 mj1 (fun j2 =>
 m R (o_fieldAddr 57 x3 0) w3 fun x9 w4 =>
 m R (o_load 3 x9) w4 fun x10 w5 =>
 m R (o_bin .lss 3 true x10 (.int .i64 1)) w5 fun x11 w6 =>
 mguard x11 false (fun k => m R (o_fieldAddr 57 x3 0) w6 k) w6 fun x13 w7 =>
 mguard x11 false (fun k => m R (o_load 3 x13) w7 k) w7 fun x14 w8 =>
 mguard x11 false (fun k => m R (o_bin .gtr 3 true x14 (.int .i64 64)) w8 k) w8 fun x15 w9 =>
 m R (o_pick x11 (.bool true) x15) w9 fun x16 w10 =>
 j2 x16 w10) fun x16 u2 w11 =>
 mif x16 (
 m R (o_build 25 []) w11 fun x17 w12 =>
 m R (o_store 25 x4 x17) w12 fun _ w13 =>
 rcell Tryz.prog 25 x4 w13 fun r4 =>
 R (.returned (.tuple #[r4, (.int .i64 0), (.int .i64 1)])) w13) (
 m R (o_load 25 x2) w11 fun x18 w14 =>
 m R (o_fieldAddr 57 x3 0) w14 fun x19 w15 =>
 m R (o_load 3 x19) w15 fun x20 w16 =>
 m R (o_call (fv 16) [x18, x20]) w16 fun x21 w17 =>
 m R (o_bin .geq 3 true x21 (.int .i64 0)) w17 fun x22 w18 =>
 mif x22 (
 m R (o_build 25 []) w18 fun x23 w19 =>
 m R (o_store 25 x4 x23) w19 fun _ w20 =>
 rcell Tryz.prog 25 x4 w20 fun r4 =>
 R (.returned (.tuple #[r4, (.int .i64 0), (.int .i64 8)])) w20) (
 m R (o_load 25 x2) w18 fun x24 w21 =>
 m R (o_call (fv 141) [x24]) w21 fun x25 w22 =>
 m R (o_store 25 x2 x25) w22 fun _ w23 =>
 ml1 (.int .i64 0) w23 fun x7 u7 w24 next7 =>
 mj0 (fun j8 =>
 m R (o_fieldAddr 25 x2 0) w24 fun x27 w25 =>
 m R (o_load 22 x27) w25 fun x28 w26 =>
 m R (o_builtin .len #[22] 3 [false] [x28]) w26 fun x29 w27 =>
 m R (o_bin .lss 3 false x7 x29) w27 fun x30 w28 =>
 mguard x30 true (fun k => m R (o_fieldAddr 25 x2 0) w28 k) w28 fun x32 w29 =>
 mguard x30 true (fun k => m R (o_load 22 x32) w29 k) w29 fun x33 w30 =>
 mguard x30 true (fun k => m R (o_move x7) w30 k) w30 fun x34 w31 =>
 mguard x30 true (fun k => m R (o_indexAddr 22 x33 x34) w31 k) w31 fun x35 w32 =>
 mguard x30 true (fun k => m R (o_fieldAddr 57 x35 0) w32 k) w32 fun x36 w33 =>
 mguard x30 true (fun k => m R (o_load 3 x36) w33 k) w33 fun x37 w34 =>
 mguard x30 true (fun k => m R (o_bin .neq 3 true x37 (.int .i64 0)) w34 k) w34 fun x38 w35 =>
 m R (o_pick x30 x38 (.bool false)) w35 fun x39 w36 =>
 mif x39 (
 j8 w36) (
 m R (o_bin .eql 3 true x7 (.int .i64 64)) w36 fun x43 w37 =>
 mif x43 (
 m R (o_build 25 []) w37 fun x44 w38 =>
 m R (o_store 25 x4 x44) w38 fun _ w39 =>
 rcell Tryz.prog 25 x4 w39 fun r4 =>
 R (.returned (.tuple #[r4, (.int .i64 0), (.int .i64 9)])) w39) (
 mj0 (fun j15 =>
 m R (o_fieldAddr 25 x2 0) w37 fun x46 w40 =>
 m R (o_load 22 x46) w40 fun x47 w41 =>
 m R (o_builtin .len #[22] 3 [false] [x47]) w41 fun x48 w42 =>
 m R (o_bin .eql 3 false x7 x48) w42 fun x49 w43 =>
 mif x49 (
 mj0 (fun j14 =>
 m R (o_bin .gtr 3 true x7 (.int .i64 0)) w43 fun x51 w44 =>
 mif x51 (
 m R (o_fieldAddr 25 x2 1) w44 fun x52 w45 =>
 m R (o_load 23 x52) w45 fun x53 w46 =>
 m R (o_build 61 []) w46 fun x54 w47 =>
 m R (o_buildSlice 23 1 [(0, x54)]) w47 fun x55 w48 =>
 m R (o_builtin .append #[23, 23] 23 [false, false] [x53, x55]) w48 fun x56 w49 =>
 m R (o_fieldAddr 25 x2 1) w49 fun x57 w50 =>
 m R (o_store 23 x57 x56) w50 fun _ w51 =>
 j14 w51) (
 j14 w44)) fun u14 w52 =>
 m R (o_fieldAddr 25 x2 0) w52 fun x58 w53 =>
 m R (o_load 22 x58) w53 fun x59 w54 =>
 m R (o_load 57 x3) w54 fun x60 w55 =>
 m R (o_buildSlice 22 1 [(0, x60)]) w55 fun x61 w56 =>
 m R (o_builtin .append #[22, 22] 22 [false, false] [x59, x61]) w56 fun x62 w57 =>
 m R (o_fieldAddr 25 x2 0) w57 fun x63 w58 =>
 m R (o_store 22 x63 x62) w58 fun _ w59 =>
 j15 w59) (
 j15 w43)) fun u15 w60 =>
 m R (o_fieldAddr 25 x2 0) w60 fun x64 w61 =>
 m R (o_load 22 x64) w61 fun x65 w62 =>
 m R (o_load 57 x3) w62 fun x67 w63 =>
 m R (o_indexAddr 22 x65 x7) w63 fun x68 w64 =>
 m R (o_store 57 x68 x67) w64 fun _ w65 =>
 ml1 (.int .i64 0) w65 fun x8 u17 w66 next17 =>
 m R (o_fieldAddr 25 x2 1) w66 fun x70 w67 =>
 m R (o_load 23 x70) w67 fun x71 w68 =>
 m R (o_builtin .len #[23] 3 [false] [x71]) w68 fun x72 w69 =>
 m R (o_bin .lss 3 false x8 x72) w69 fun x73 w70 =>
 mif x73 (
 mj0 (fun j18 =>
 mj1 (fun j20 =>
 m R (o_fieldAddr 25 x2 1) w70 fun x76 w71 =>
 m R (o_load 23 x76) w71 fun x77 w72 =>
 m R (o_indexAddr 23 x77 x8) w72 fun x79 w73 =>
 m R (o_fieldAddr 61 x79 0) w73 fun x80 w74 =>
 m R (o_load 4 x80) w74 fun x81 w75 =>
 mguard x81 true (fun k => m R (o_fieldAddr 25 x2 0) w75 k) w75 fun x83 w76 =>
 mguard x81 true (fun k => m R (o_load 22 x83) w76 k) w76 fun x84 w77 =>
 mguard x81 true (fun k => m R (o_builtin .len #[22] 3 [false] [x84]) w77 k) w77 fun x85 w78 =>
 mguard x81 true (fun k => m R (o_move x8) w78 k) w78 fun x86 w79 =>
 mguard x81 true (fun k => m R (o_bin .mul 3 true (.int .i64 2) x86) w79 k) w79 fun x87 w80 =>
 mguard x81 true (fun k => m R (o_bin .add 3 true x87 (.int .i64 1)) w80 k) w80 fun x88 w81 =>
 mguard x81 true (fun k => m R (o_move x7) w81 k) w81 fun x89 w82 =>
 mguard x81 true (fun k => m R (o_call (fv 30) [x85, x88, x89]) w82 k) w82 fun x90 w83 =>
 m R (o_pick x81 x90 (.bool false)) w83 fun x91 w84 =>
 j20 x91 w84) fun x91 u20 w85 =>
 mif x91 (
 dp Tryz.prog (o_fieldAddr 25 x2 1) fun x92 =>
 dq Tryz.prog w85 (o_load 23 x92) fun x93 =>
 dp Tryz.prog (o_fieldAddr 25 x2 1) fun x95 =>
 dq Tryz.prog w85 (o_load 23 x95) fun x96 =>
 dp Tryz.prog (o_indexAddr 23 x96 x8) fun x98 =>
 dp Tryz.prog (o_fieldAddr 61 x98 3) fun x99 =>
 dq Tryz.prog w85 (o_load 29 x99) fun x100 =>
 df Tryz.prog w85 (o_call (fv 159) [x100, x7]) true fun x102 w86 =>
 dp Tryz.prog (o_indexAddr 23 x93 x8) fun x103 =>
 dp Tryz.prog (o_fieldAddr 61 x103 3) fun x104 =>
 df Tryz.prog w86 (o_store 29 x104 x102) false fun _ w87 =>
 dend w87 fun w88 =>
 j18 w88) (
 j18 w85)) fun u18 w89 =>
 m R (o_bin .add 3 true x8 (.int .i64 1)) w89 fun x75 w90 =>
 next17 x75 w90) (
 m R (o_load 25 x2) w70 fun x105 w91 =>
 m R (o_store 25 x4 x105) w91 fun _ w92 =>
 rcell Tryz.prog 25 x4 w92 fun r4 =>
 R (.returned (.tuple #[r4, x7, (.int .i64 0)])) w92)))) fun u8 w93 =>
 m R (o_bin .add 3 true x7 (.int .i64 1)) w93 fun x41 w94 =>
 next7 x41 w94))
def A_bevyref08_Add : Ann := ⟨[(7, [7], 4397979402368), (17, [8], 40564819206713045037535796920576)], [(2, [16], 130560), (8, [], 1099444518912), (15, [], 18446708889337462784), (14, [], 287104476244869120), (18, [], 40564819131745477121980179152896), (20, [91], 4951684599277795185273077760)], [(20, [⟨0, .q none, 4, 0, 4951760157141521099596496896⟩, ⟨1, .q (some 0), 4951760157141521099596496896, 1, 9903520314283042199192993792⟩, ⟨2, .q none, 256, 0, 19807040628566084398385987584⟩, ⟨3, .q none, 4, 0, 39614081257132168796771975168⟩, ⟨4, .q (some 0), 39614081257132168796771975168, 8, 79228162514264337593543950336⟩, ⟨5, .q none, 256, 0, 158456325028528675187087900672⟩, ⟨6, .q none, 237684487542793012780631851008, 56, 316912650057057350374175801344⟩, ⟨7, .q none, 316912650057057350374175801344, 120, 633825300114114700748351602688⟩, ⟨8, .q (some 0), 633825300114114700748351602688, 248, 1267650600228229401496703205376⟩, ⟨9, .q none, 128, 0, 2535301200456458802993406410752⟩, ⟨10, .f 0 true, 3802951800684688204490109616128, 1016, 5070602400912917605986812821504⟩, ⟨11, .q none, 29710560942849126597578981376, 2047, 10141204801825835211973625643008⟩, ⟨12, .q none, 10141204801825835211973625643008, 4095, 20282409603651670423947251286016⟩, ⟨13, .f 1 false, 25353012004564588029934064107520, 8191, 0⟩])], [], []⟩
theorem C_bevyref08_Add {x0 x1 : Value} {w : World} {R : Ending → World → Prop} (h : F_bevyref08_Add x0 x1 w R) : Calls Tryz.prog 140 #[x0, x1] w R :=
 calls_cwp (A := A_bevyref08_Add) (args := [x0, x1]) mixed Tryz.func140 (c := Tryz.f140.body.getD .skip) (by kernel_rfl) (by kernel_rfl) (by kernel_rfl) (Eq.mpr (by kernel_rfl) h)
def F_bevyref08_Copy (x0 : Value) (w : World) (R : Ending → World → Prop) : Prop :=
 m R (o_box 25 x0) w fun x1 w1 =>
 m R (o_alloc 25) w1 fun x2 w2 =>
 m R (o_build 25 []) w2 fun x9 w3 =>
 m R (o_alloc 25) w3 fun x3 w4 =>
 m R (o_store 25 x3 x9) w4 fun _ w5 =>
 ml1 (.int .i64 0) w5 fun x4 u3 w6 next3 =>
 m R (o_fieldAddr 25 x1 0) w6 fun x11 w7 =>
 m R (o_load 22 x11) w7 fun x12 w8 =>
 m R (o_builtin .len #[22] 3 [false] [x12]) w8 fun x13 w9 =>
 m R (o_bin .lss 3 false x4 x13) w9 fun x14 w10 =>
 mif x14 (
 dp Tryz.prog (o_fieldAddr 25 x3 0) fun x17 =>
 dq Tryz.prog w10 (o_load 22 x17) fun x18 =>
 dp Tryz.prog (o_fieldAddr 25 x1 0) fun x19 =>
 dq Tryz.prog w10 (o_load 22 x19) fun x20 =>
 dp Tryz.prog (o_indexAddr 22 x20 x4) fun x22 =>
 dq Tryz.prog w10 (o_load 57 x22) fun x23 =>
 df Tryz.prog w10 (o_buildSlice 22 1 [(0, x23)]) true fun x24 w11 =>
 df Tryz.prog w11 (o_builtin .append #[22, 22] 22 [false, false] [x18, x24]) false fun x25 w12 =>
 dp Tryz.prog (o_fieldAddr 25 x3 0) fun x26 =>
 df Tryz.prog w12 (o_store 22 x26 x25) false fun _ w13 =>
 dend w13 fun w14 =>
 m R (o_bin .add 3 true x4 (.int .i64 1)) w14 fun x16 w15 =>
 next3 x16 w15) (
 ml1 (.int .i64 0) w10 fun x5 u7 w16 next7 =>
 m R (o_fieldAddr 25 x1 1) w16 fun x28 w17 =>
 m R (o_load 23 x28) w17 fun x29 w18 =>
 m R (o_builtin .len #[23] 3 [false] [x29]) w18 fun x30 w19 =>
 m R (o_bin .lss 3 false x5 x30) w19 fun x31 w20 =>
 mif x31 (
 m R (o_fieldAddr 25 x1 1) w20 fun x34 w21 =>
 m R (o_load 23 x34) w21 fun x35 w22 =>
 m R (o_indexAddr 23 x35 x5) w22 fun x37 w23 =>
 m R (o_load 61 x37) w23 fun x38 w24 =>
 m R (o_alloc 61) w24 fun x6 w25 =>
 m R (o_store 61 x6 x38) w25 fun _ w26 =>
 m R (o_fieldAddr 61 x6 3) w26 fun x39 w27 =>
 m R (o_load 29 x39) w27 fun x40 w28 =>
 m R (o_fieldAddr 61 x6 3) w28 fun x41 w29 =>
 m R (o_store 29 x41 (.slice none 0 0)) w29 fun _ w30 =>
 ml1 (.int .i64 0) w30 fun x8 u13 w31 next13 =>
 m R (o_builtin .len #[29] 3 [false] [x40]) w31 fun x44 w32 =>
 m R (o_bin .lss 3 false x8 x44) w32 fun x45 w33 =>
 mif x45 (
 dp Tryz.prog (o_fieldAddr 61 x6 3) fun x48 =>
 dq Tryz.prog w33 (o_load 29 x48) fun x49 =>
 dp Tryz.prog (o_indexAddr 29 x40 x8) fun x52 =>
 dq Tryz.prog w33 (o_load 3 x52) fun x53 =>
 df Tryz.prog w33 (o_buildSlice 29 1 [(0, x53)]) true fun x54 w34 =>
 df Tryz.prog w34 (o_builtin .append #[29, 29] 29 [false, false] [x49, x54]) false fun x55 w35 =>
 dp Tryz.prog (o_fieldAddr 61 x6 3) fun x56 =>
 df Tryz.prog w35 (o_store 29 x56 x55) false fun _ w36 =>
 dend w36 fun w37 =>
 m R (o_bin .add 3 true x8 (.int .i64 1)) w37 fun x47 w38 =>
 next13 x47 w38) (
 m R (o_fieldAddr 25 x3 1) w33 fun x57 w39 =>
 m R (o_load 23 x57) w39 fun x58 w40 =>
 m R (o_load 61 x6) w40 fun x59 w41 =>
 m R (o_buildSlice 23 1 [(0, x59)]) w41 fun x60 w42 =>
 m R (o_builtin .append #[23, 23] 23 [false, false] [x58, x60]) w42 fun x61 w43 =>
 m R (o_fieldAddr 25 x3 1) w43 fun x62 w44 =>
 m R (o_store 23 x62 x61) w44 fun _ w45 =>
 m R (o_bin .add 3 true x5 (.int .i64 1)) w45 fun x33 w46 =>
 next7 x33 w46)) (
 m R (o_load 25 x3) w20 fun x63 w47 =>
 m R (o_store 25 x2 x63) w47 fun _ w48 =>
 rcell Tryz.prog 25 x2 w48 fun r2 =>
 R (.returned r2) w48))
def A_bevyref08_Copy : Ann := ⟨[(3, [4], 134216720), (7, [5], 9223372036720558560), (13, [8], 144110790029345024)], [], [(5, [⟨0, .q none, 8, 0, 131072⟩, ⟨1, .q (some 0), 131072, 1, 262144⟩, ⟨2, .q none, 2, 0, 524288⟩, ⟨3, .q (some 0), 524288, 4, 1048576⟩, ⟨4, .q none, 16, 0, 2097152⟩, ⟨5, .q none, 3145728, 28, 4194304⟩, ⟨6, .q (some 0), 4194304, 60, 8388608⟩, ⟨7, .f 0 true, 8388608, 124, 16777216⟩, ⟨8, .f 1 false, 17039360, 255, 33554432⟩, ⟨9, .q none, 8, 511, 67108864⟩, ⟨10, .f 2 false, 100663296, 1023, 0⟩]), (15, [⟨0, .q none, 64, 0, 281474976710656⟩, ⟨1, .q (some 0), 281474976710656, 1, 562949953421312⟩, ⟨2, .q none, 128, 0, 1125899906842624⟩, ⟨3, .q none, 256, 0, 2251799813685248⟩, ⟨4, .q none, 3377699720527872, 12, 4503599627370496⟩, ⟨5, .q (some 0), 4503599627370496, 28, 9007199254740992⟩, ⟨6, .f 0 true, 9007199254740992, 60, 18014398509481984⟩, ⟨7, .f 1 false, 18577348462903296, 127, 36028797018963968⟩, ⟨8, .q none, 64, 255, 72057594037927936⟩, ⟨9, .f 2 false, 108086391056891904, 511, 0⟩])], [], []⟩
theorem C_bevyref08_Copy {x0 : Value} {w : World} {R : Ending → World → Prop} (h : F_bevyref08_Copy x0 w R) : Calls Tryz.prog 141 #[x0] w R :=
 calls_cwp (A := A_bevyref08_Copy) (args := [x0]) mixed Tryz.func141 (c := Tryz.f141.body.getD .skip) (by kernel_rfl) (by kernel_rfl) (by kernel_rfl) (Eq.mpr (by kernel_rfl) h)
def F_bough_Above (x0 x1 : Value) (w : World) (R : Ending → World → Prop) : Prop :=
 mj1 (fun j2 =>
 m R (o_call (fv 83) [x0, x1]) w fun x8 w1 =>
 m R (o_un .not x8) w1 fun x9 w2 =>
 mguard x9 false (fun k => m R (o_move x1) w2 k) w2 fun x11 w3 =>
 mguard x9 false (fun k => m R (o_move x0) w3 k) w3 fun x12 w4 =>
 mguard x9 false (fun k => m R (o_call (fv 42) [x12]) w4 k) w4 fun x13 w5 =>
 mguard x9 false (fun k => m R (o_bin .eql 3 false x11 x13) w5 k) w5 fun x14 w6 =>
 m R (o_pick x9 (.bool true) x14) w6 fun x15 w7 =>
 j2 x15 w7) fun x15 u2 w8 =>
 mif x15 (
 R (.returned (.int .i64 (-1))) w8) (
 ml1 x1 w8 fun x1 u3 w9 next3 =>
 m R (o_call (fv 84) [x1]) w9 fun x17 w10 =>
 dp Tryz.prog (o_bin .add 3 true x17 (.int .i64 1)) fun x20 =>
 dp Tryz.prog (o_bin .shl 3 true (.int .i64 1) x20) fun x21 =>
 dp Tryz.prog (o_bin .andNot 3 false x1 x21) fun x22 =>
 dp Tryz.prog (o_bin .shl 3 true (.int .i64 1) x17) fun x24 =>
 dp Tryz.prog (o_bin .or 3 false x22 x24) fun x25 =>
 dend w10 fun w11 =>
 m R (o_call (fv 83) [x0, x25]) w11 fun x28 w12 =>
 mif x28 (
 R (.returned x25) w12) (
 next3 x25 w12))
def A_bough_Above : Ann := ⟨[(3, [1], 1073676338)], [(2, [15], 65472)], [(4, [⟨0, .q none, 2, 0, 262144⟩, ⟨1, .q none, 32, 0, 524288⟩, ⟨2, .q none, 524288, 2, 1048576⟩, ⟨3, .q none, 1048576, 6, 2097152⟩, ⟨4, .q none, 2359296, 15, 4194304⟩, ⟨5, .q none, 32, 0, 8388608⟩, ⟨6, .q none, 8388608, 32, 16777216⟩, ⟨7, .q none, 20971520, 127, 33554432⟩, ⟨8, .q none, 33554432, 255, 2⟩])], [], []⟩
theorem C_bough_Above {x0 x1 : Value} {w : World} {R : Ending → World → Prop} (h : F_bough_Above x0 x1 w R) : Calls Tryz.prog 143 #[x0, x1] w R :=
 calls_cwp (A := A_bough_Above) (args := [x0, x1]) mixed Tryz.func143 (c := Tryz.f143.body.getD .skip) (by kernel_rfl) (by kernel_rfl) (by kernel_rfl) (Eq.mpr (by kernel_rfl) h)
def F_cmp_isNaN_int (x0 : Value) (w : World) (R : Ending → World → Prop) : Prop :=
 m R (o_bin .neq 3 false x0 x0) w fun x5 w1 =>
 R (.returned x5) w1
def A_cmp_isNaN_int : Ann := ⟨[], [], [], [], []⟩
theorem C_cmp_isNaN_int {x0 : Value} {w : World} {R : Ending → World → Prop} (h : F_cmp_isNaN_int x0 w R) : Calls Tryz.prog 144 #[x0] w R :=
 calls_cwp (A := A_cmp_isNaN_int) (args := [x0]) mixed Tryz.func144 (c := Tryz.f144.body.getD .skip) (by kernel_rfl) (by kernel_rfl) (by kernel_rfl) (Eq.mpr (by kernel_rfl) h)
def F_math_bits_RotateLeft32 (x0 x1 : Value) (w : World) (R : Ending → World → Prop) : Prop :=
 m R (o_conv 3 121 x1) w fun x7 w1 =>
 m R (o_bin .and 121 true x7 (.int .u64 31)) w1 fun x8 w2 =>
 m R (o_bin .shl 125 false x0 x8) w2 fun x11 w3 =>
 m R (o_bin .sub 121 true (.int .u64 32) x8) w3 fun x14 w4 =>
 m R (o_bin .shr 125 false x0 x14) w4 fun x15 w5 =>
 m R (o_bin .or 125 false x11 x15) w5 fun x16 w6 =>
 R (.returned x16) w6
def A_math_bits_RotateLeft32 : Ann := ⟨[], [], [], [], []⟩
theorem C_math_bits_RotateLeft32 {x0 x1 : Value} {w : World} {R : Ending → World → Prop} (h : F_math_bits_RotateLeft32 x0 x1 w R) : Calls Tryz.prog 151 #[x0, x1] w R :=
 calls_cwp (A := A_math_bits_RotateLeft32) (args := [x0, x1]) mixed Tryz.func151 (c := Tryz.f151.body.getD .skip) (by kernel_rfl) (by kernel_rfl) (by kernel_rfl) (Eq.mpr (by kernel_rfl) h)
def F_mac_Code (x0 x1 : Value) (w : World) (R : Ending → World → Prop) : Prop :=
 m R (o_alloc 33) w fun x4 w1 =>
 mj1 (fun j4 =>
 m R (o_builtin .len #[9] 3 [false] [x0]) w1 fun x11 w2 =>
 m R (o_bin .gtr 3 true x11 (.int .i64 64)) w2 fun x12 w3 =>
 mif x12 (
 m R (o_buildSlice 123 1 [(0, x0)]) w3 fun x14 w4 =>
 m R (o_call (fv 40) [x14]) w4 fun x15 w5 =>
 m R (o_alloc 33) w5 fun x5 w6 =>
 m R (o_store 33 x5 x15) w6 fun _ w7 =>
 m R (o_slice 33 x5 none none none) w7 fun x16 w8 =>
 m R (o_conv 135 9 x16) w8 fun x17 w9 =>
 j4 x17 w9) (
 j4 x0 w3)) fun x0 u4 w10 =>
 m R (o_alloc 129) w10 fun x6 w11 =>
 m R (o_alloc 129) w11 fun x7 w12 =>
 m R (o_slice 129 x6 none none none) w12 fun x18 w13 =>
 m R (o_builtin .copy #[135, 9] 3 [false, false] [x18, x0]) w13 fun x20 w14 =>
 m R (o_slice 129 x7 none none none) w14 fun x21 w15 =>
 m R (o_builtin .copy #[135, 9] 3 [false, false] [x21, x0]) w15 fun x23 w16 =>
 ml1 (.int .i64 0) w16 fun x24 u8 w17 next8 =>
 m R (o_bin .lss 3 true x24 (.int .i64 64)) w17 fun x25 w18 =>
 mif x25 (
 m R (o_indexAddr 129 x6 x24) w18 fun x28 w19 =>
 m R (o_load 5 x28) w19 fun x29 w20 =>
 m R (o_bin .xor 5 true x29 (.int .u8 54)) w20 fun x30 w21 =>
 m R (o_indexAddr 129 x6 x24) w21 fun x31 w22 =>
 m R (o_store 5 x31 x30) w22 fun _ w23 =>
 m R (o_indexAddr 129 x7 x24) w23 fun x33 w24 =>
 m R (o_load 5 x33) w24 fun x34 w25 =>
 m R (o_bin .xor 5 true x34 (.int .u8 92)) w25 fun x35 w26 =>
 m R (o_indexAddr 129 x7 x24) w26 fun x36 w27 =>
 m R (o_store 5 x36 x35) w27 fun _ w28 =>
 m R (o_bin .add 3 true x24 (.int .i64 1)) w28 fun x37 w29 =>
 next8 x37 w29) (
 m R (o_slice 129 x6 none none none) w18 fun x38 w30 =>
 m R (o_conv 135 9 x38) w30 fun x39 w31 =>
 m R (o_buildSlice 123 1 [(0, x39)]) w31 fun x40 w32 =>
 m R (o_builtin .append #[123, 123] 123 [false, false] [x40, x1]) w32 fun x42 w33 =>
 m R (o_call (fv 40) [x42]) w33 fun x43 w34 =>
 m R (o_alloc 33) w34 fun x9 w35 =>
 m R (o_store 33 x9 x43) w35 fun _ w36 =>
 dp Tryz.prog (o_slice 129 x7 none none none) fun x44 =>
 dq Tryz.prog w36 (o_conv 135 9 x44) fun x45 =>
 dp Tryz.prog (o_slice 33 x9 none none none) fun x46 =>
 dq Tryz.prog w36 (o_conv 135 9 x46) fun x47 =>
 df Tryz.prog w36 (o_buildSlice 123 2 [(0, x45), (1, x47)]) false fun x48 w37 =>
 df Tryz.prog w37 (o_call (fv 40) [x48]) false fun x49 w38 =>
 df Tryz.prog w38 (o_store 33 x4 x49) false fun _ w39 =>
 dend w39 fun w40 =>
 rcell Tryz.prog 33 x4 w40 fun r4 =>
 R (.returned r4) w40)
def A_mac_Code : Ann := ⟨[(8, [24], 274861129984)], [(4, [0], 261153)], [(14, [⟨0, .q none, 128, 0, 17592186044416⟩, ⟨1, .q (some 0), 17592186044416, 1, 35184372088832⟩, ⟨2, .q none, 512, 0, 70368744177664⟩, ⟨3, .q (some 0), 70368744177664, 4, 140737488355328⟩, ⟨4, .f 0 false, 175921860444160, 15, 281474976710656⟩, ⟨5, .f 1 false, 281474976710656, 31, 562949953421312⟩, ⟨6, .f 2 false, 562949953421328, 63, 0⟩])], [], []⟩
theorem C_mac_Code {x0 x1 : Value} {w : World} {R : Ending → World → Prop} (h : F_mac_Code x0 x1 w R) : Calls Tryz.prog 152 #[x0, x1] w R :=
 calls_cwp (A := A_mac_Code) (args := [x0, x1]) mixed Tryz.func152 (c := Tryz.f152.body.getD .skip) (by kernel_rfl) (by kernel_rfl) (by kernel_rfl) (Eq.mpr (by kernel_rfl) h)
def F_slices_rotateCmpFunc_api_Proposal (x0 x1 x2 x3 x4 : Value) (w : World) (R : Ending → World → Prop) : Prop :=
 m R (o_bin .sub 3 false x2 x1) w fun x14 w1 =>
 m R (o_bin .sub 3 false x3 x2) w1 fun x17 w2 =>
 ml2 x14 x17 w2 fun x10 x11 u2 w3 next2 =>
 m R (o_bin .neq 3 false x10 x11) w3 fun x20 w4 =>
 mif x20 (
 m R (o_bin .gtr 3 false x10 x11) w4 fun x23 w5 =>
 mif x23 (
 m R (o_bin .sub 3 false x2 x10) w5 fun x27 w6 =>
 m R (o_call (fv 162) [x0, x27, x2, x11, x4]) w6 fun x31 w7 =>
 m R (o_bin .sub 3 false x10 x11) w7 fun x34 w8 =>
 next2 x34 x11 w8) (
 m R (o_bin .sub 3 false x2 x10) w5 fun x38 w9 =>
 m R (o_bin .add 3 false x2 x11) w9 fun x41 w10 =>
 m R (o_bin .sub 3 false x41 x10) w10 fun x43 w11 =>
 m R (o_call (fv 162) [x0, x38, x43, x10, x4]) w11 fun x46 w12 =>
 m R (o_bin .sub 3 false x11 x10) w12 fun x49 w13 =>
 next2 x10 x49 w13)) (
 m R (o_bin .sub 3 false x2 x10) w4 fun x53 w14 =>
 m R (o_call (fv 162) [x0, x53, x2, x10, x4]) w14 fun x57 w15 =>
 R (.returned (.tuple #[])) w15)
def A_slices_rotateCmpFunc_api_Proposal : Ann := ⟨[(2, [10, 11], 1125899906583552)], [], [], [], []⟩
theorem C_slices_rotateCmpFunc_api_Proposal {x0 x1 x2 x3 x4 : Value} {w : World} {R : Ending → World → Prop} (h : F_slices_rotateCmpFunc_api_Proposal x0 x1 x2 x3 x4 w R) : Calls Tryz.prog 153 #[x0, x1, x2, x3, x4] w R :=
 calls_cwp (A := A_slices_rotateCmpFunc_api_Proposal) (args := [x0, x1, x2, x3, x4]) mixed Tryz.func153 (c := Tryz.f153.body.getD .skip) (by kernel_rfl) (by kernel_rfl) (by kernel_rfl) (Eq.mpr (by kernel_rfl) h)
def F_bevyref10_Text (x0 : Value) (w : World) (R : Ending → World → Prop) : Prop :=
 m R (o_box 87 x0) w fun x1 w1 =>
 dp Tryz.prog (o_fieldAddr 87 x1 0) fun x4 =>
 dq Tryz.prog w1 (o_load 33 x4) fun x5 =>
 df Tryz.prog w1 (o_call (fv 155) [x5]) true fun x6 w2 =>
 dp Tryz.prog (o_fieldAddr 87 x1 1) fun x7 =>
 dq Tryz.prog w1 (o_load 3 x7) fun x8 =>
 df Tryz.prog w2 (o_call (fv 50) [x8]) true fun x9 w3 =>
 dp Tryz.prog (o_bin .add 9 false x6 x9) fun x10 =>
 dp Tryz.prog (o_fieldAddr 87 x1 2) fun x11 =>
 dq Tryz.prog w1 (o_load 3 x11) fun x12 =>
 df Tryz.prog w3 (o_call (fv 50) [x12]) true fun x13 w4 =>
 dp Tryz.prog (o_bin .add 9 false x10 x13) fun x14 =>
 dp Tryz.prog (o_fieldAddr 87 x1 3) fun x15 =>
 dq Tryz.prog w1 (o_load 3 x15) fun x16 =>
 df Tryz.prog w4 (o_call (fv 50) [x16]) false fun x17 w5 =>
 dp Tryz.prog (o_bin .add 9 false x14 x17) fun x18 =>
 dend w5 fun w6 =>
 dp Tryz.prog (o_fieldAddr 87 x1 4) fun x20 =>
 dp Tryz.prog (o_fieldAddr 85 x20 0) fun x21 =>
 dq Tryz.prog w6 (o_load 3 x21) fun x22 =>
 df Tryz.prog w6 (o_call (fv 50) [x22]) true fun x23 w7 =>
 dp Tryz.prog (o_bin .add 9 false x18 x23) fun x24 =>
 dp Tryz.prog (o_fieldAddr 87 x1 4) fun x25 =>
 dp Tryz.prog (o_fieldAddr 85 x25 1) fun x26 =>
 dq Tryz.prog w6 (o_load 3 x26) fun x27 =>
 df Tryz.prog w7 (o_call (fv 50) [x27]) true fun x28 w8 =>
 dp Tryz.prog (o_bin .add 9 false x24 x28) fun x29 =>
 dp Tryz.prog (o_fieldAddr 87 x1 4) fun x30 =>
 dp Tryz.prog (o_fieldAddr 85 x30 2) fun x31 =>
 dq Tryz.prog w6 (o_load 33 x31) fun x32 =>
 df Tryz.prog w8 (o_call (fv 155) [x32]) false fun x33 w9 =>
 dp Tryz.prog (o_bin .add 9 false x29 x33) fun x34 =>
 dend w9 fun w10 =>
 R (.returned x34) w10
def A_bevyref10_Text : Ann := ⟨[], [], [(1, [⟨0, .q none, 2, 0, 16⟩, ⟨1, .q (some 0), 16, 1, 32⟩, ⟨2, .f 0 true, 32, 3, 64⟩, ⟨3, .q none, 2, 0, 128⟩, ⟨4, .q (some 0), 128, 8, 256⟩, ⟨5, .f 1 true, 256, 31, 512⟩, ⟨6, .q none, 576, 63, 1024⟩, ⟨7, .q none, 2, 0, 2048⟩, ⟨8, .q (some 0), 2048, 128, 4096⟩, ⟨9, .f 2 true, 4096, 447, 8192⟩, ⟨10, .q none, 9216, 1023, 16384⟩, ⟨11, .q none, 2, 0, 32768⟩, ⟨12, .q (some 0), 32768, 2048, 65536⟩, ⟨13, .f 3 false, 65536, 7103, 131072⟩, ⟨14, .q none, 147456, 16383, 262144⟩, ⟨15, .q none, 262144, 32767, 8⟩]), (2, [⟨0, .q none, 8, 0, 524288⟩, ⟨1, .q none, 2, 0, 1048576⟩, ⟨2, .q none, 1048576, 2, 2097152⟩, ⟨3, .q (some 0), 2097152, 6, 4194304⟩, ⟨4, .f 0 true, 4194304, 14, 8388608⟩, ⟨5, .q none, 8912896, 31, 16777216⟩, ⟨6, .q none, 2, 0, 33554432⟩, ⟨7, .q none, 33554432, 64, 67108864⟩, ⟨8, .q (some 0), 67108864, 192, 134217728⟩, ⟨9, .f 1 true, 134217728, 478, 268435456⟩, ⟨10, .q none, 285212672, 1023, 536870912⟩, ⟨11, .q none, 2, 0, 1073741824⟩, ⟨12, .q none, 1073741824, 2048, 2147483648⟩, ⟨13, .q (some 0), 2147483648, 6144, 4294967296⟩, ⟨14, .f 2 false, 4294967296, 15326, 8589934592⟩, ⟨15, .q none, 9126805504, 32767, 17179869184⟩, ⟨16, .q none, 17179869184, 65535, 4⟩])], [], []⟩
theorem C_bevyref10_Text {x0 : Value} {w : World} {R : Ending → World → Prop} (h : F_bevyref10_Text x0 w R) : Calls Tryz.prog 154 #[x0] w R :=
 calls_cwp (A := A_bevyref10_Text) (args := [x0]) mixed Tryz.func154 (c := Tryz.f154.body.getD .skip) (by kernel_rfl) (by kernel_rfl) (by kernel_rfl) (Eq.mpr (by kernel_rfl) h)
def F_bevyref01_Hash (x0 : Value) (w : World) (R : Ending → World → Prop) : Prop :=
 m R (o_box 32 x0) w fun x1 w1 =>
 m R (o_slice 32 x1 none none none) w1 fun x3 w2 =>
 m R (o_conv 135 9 x3) w2 fun x4 w3 =>
 R (.returned x4) w3
def A_bevyref01_Hash : Ann := ⟨[], [], [], [], []⟩
theorem C_bevyref01_Hash {x0 : Value} {w : World} {R : Ending → World → Prop} (h : F_bevyref01_Hash x0 w R) : Calls Tryz.prog 155 #[x0] w R :=
 calls_cwp (A := A_bevyref01_Hash) (args := [x0]) mixed Tryz.func155 (c := Tryz.f155.body.getD .skip) (by kernel_rfl) (by kernel_rfl) (by kernel_rfl) (Eq.mpr (by kernel_rfl) h)
def F_bevyref05_Sign (x0 x1 : Value) (w : World) (R : Ending → World → Prop) : Prop :=
 m R (o_box 32 x0) w fun x2 w1 =>
 m R (o_alloc 32) w1 fun x4 w2 =>
 m R (o_load 32 x2) w2 fun x5 w3 =>
 m R (o_call (fv 132) [x5]) w3 fun x6 w4 =>
 m R (o_bin .add 9 true (.string (ByteArray.mk #[115, 105, 103, 110])) x1) w4 fun x8 w5 =>
 m R (o_call (fv 163) [x6, x8]) w5 fun x9 w6 =>
 m R (o_store 32 x4 x9) w6 fun _ w7 =>
 rcell Tryz.prog 32 x4 w7 fun r4 =>
 R (.returned r4) w7
def A_bevyref05_Sign : Ann := ⟨[], [], [], [], []⟩
theorem C_bevyref05_Sign {x0 x1 : Value} {w : World} {R : Ending → World → Prop} (h : F_bevyref05_Sign x0 x1 w R) : Calls Tryz.prog 156 #[x0, x1] w R :=
 calls_cwp (A := A_bevyref05_Sign) (args := [x0, x1]) mixed Tryz.func156 (c := Tryz.f156.body.getD .skip) (by kernel_rfl) (by kernel_rfl) (by kernel_rfl) (Eq.mpr (by kernel_rfl) h)
def F_bevyref08_None (x0 x1 : Value) (w : World) (R : Ending → World → Prop) : Prop :=
 m R (o_box 25 x0) w fun x2 w1 =>
 m R (o_bin .lss 3 true x1 (.int .i64 0)) w1 fun x6 w2 =>
 mguard x6 false (fun k => m R (o_move x1) w2 k) w2 fun x8 w3 =>
 mguard x6 false (fun k => m R (o_fieldAddr 25 x2 0) w3 k) w3 fun x9 w4 =>
 mguard x6 false (fun k => m R (o_load 22 x9) w4 k) w4 fun x10 w5 =>
 mguard x6 false (fun k => m R (o_builtin .len #[22] 3 [false] [x10]) w5 k) w5 fun x11 w6 =>
 mguard x6 false (fun k => m R (o_bin .geq 3 false x8 x11) w6 k) w6 fun x12 w7 =>
 m R (o_pick x6 (.bool true) x12) w7 fun x13 w8 =>
 mguard x13 false (fun k => m R (o_fieldAddr 25 x2 0) w8 k) w8 fun x15 w9 =>
 mguard x13 false (fun k => m R (o_load 22 x15) w9 k) w9 fun x16 w10 =>
 mguard x13 false (fun k => m R (o_move x1) w10 k) w10 fun x17 w11 =>
 mguard x13 false (fun k => m R (o_indexAddr 22 x16 x17) w11 k) w11 fun x18 w12 =>
 mguard x13 false (fun k => m R (o_fieldAddr 57 x18 0) w12 k) w12 fun x19 w13 =>
 mguard x13 false (fun k => m R (o_load 3 x19) w13 k) w13 fun x20 w14 =>
 mguard x13 false (fun k => m R (o_bin .eql 3 true x20 (.int .i64 0)) w14 k) w14 fun x21 w15 =>
 m R (o_pick x13 (.bool true) x21) w15 fun x22 w16 =>
 R (.returned x22) w16
def A_bevyref08_None : Ann := ⟨[], [], [], [], []⟩
theorem C_bevyref08_None {x0 x1 : Value} {w : World} {R : Ending → World → Prop} (h : F_bevyref08_None x0 x1 w R) : Calls Tryz.prog 157 #[x0, x1] w R :=
 calls_cwp (A := A_bevyref08_None) (args := [x0, x1]) mixed Tryz.func157 (c := Tryz.f157.body.getD .skip) (by kernel_rfl) (by kernel_rfl) (by kernel_rfl) (Eq.mpr (by kernel_rfl) h)
def F_bevyref08_blank (x0 x1 : Value) (w : World) (R : Ending → World → Prop) : Prop :=
 m R (o_box 25 x0) w fun x2 w1 =>
 m R (o_alloc 25) w1 fun x4 w2 =>
 m R (o_load 25 x2) w2 fun x6 w3 =>
 m R (o_call (fv 141) [x6]) w3 fun x7 w4 =>
 m R (o_store 25 x2 x7) w4 fun _ w5 =>
 ml1 (.int .i64 0) w5 fun x5 u3 w6 next3 =>
 m R (o_fieldAddr 25 x2 1) w6 fun x9 w7 =>
 m R (o_load 23 x9) w7 fun x10 w8 =>
 m R (o_builtin .len #[23] 3 [false] [x10]) w8 fun x11 w9 =>
 m R (o_bin .lss 3 false x5 x11) w9 fun x12 w10 =>
 mif x12 (
 mj0 (fun j4 =>
 m R (o_fieldAddr 25 x2 0) w10 fun x15 w11 =>
 m R (o_load 22 x15) w11 fun x16 w12 =>
 m R (o_builtin .len #[22] 3 [false] [x16]) w12 fun x17 w13 =>
 m R (o_bin .mul 3 true (.int .i64 2) x5) w13 fun x19 w14 =>
 m R (o_bin .add 3 true x19 (.int .i64 1)) w14 fun x20 w15 =>
 m R (o_call (fv 30) [x17, x20, x1]) w15 fun x22 w16 =>
 mif x22 (
 m R (o_fieldAddr 25 x2 1) w16 fun x23 w17 =>
 m R (o_load 23 x23) w17 fun x24 w18 =>
 m R (o_build 61 []) w18 fun x26 w19 =>
 m R (o_indexAddr 23 x24 x5) w19 fun x27 w20 =>
 m R (o_store 61 x27 x26) w20 fun _ w21 =>
 j4 w21) (
 j4 w16)) fun u4 w22 =>
 m R (o_bin .add 3 true x5 (.int .i64 1)) w22 fun x14 w23 =>
 next3 x14 w23) (
 m R (o_load 25 x2) w10 fun x28 w24 =>
 m R (o_store 25 x4 x28) w24 fun _ w25 =>
 rcell Tryz.prog 25 x4 w25 fun r4 =>
 R (.returned r4) w25)
def A_bevyref08_blank : Ann := ⟨[(3, [5], 268435232)], [(4, [], 268402688)], [], [], []⟩
theorem C_bevyref08_blank {x0 x1 : Value} {w : World} {R : Ending → World → Prop} (h : F_bevyref08_blank x0 x1 w R) : Calls Tryz.prog 158 #[x0, x1] w R :=
 calls_cwp (A := A_bevyref08_blank) (args := [x0, x1]) mixed Tryz.func158 (c := Tryz.f158.body.getD .skip) (by kernel_rfl) (by kernel_rfl) (by kernel_rfl) (Eq.mpr (by kernel_rfl) h)
def F_bevyref08_put (x0 x1 : Value) (w : World) (R : Ending → World → Prop) : Prop :=
 ml3 (.slice none 0 0) (.bool false) (.int .i64 0) w fun x5 x6 x7 u4 w1 next4 =>
 m R (o_builtin .len #[29] 3 [false] [x0]) w1 fun x10 w2 =>
 m R (o_bin .lss 3 false x7 x10) w2 fun x11 w3 =>
 mif x11 (
 mj2 (fun j9 =>
 mj1 (fun j7 =>
 m R (o_un .not x6) w3 fun x15 w4 =>
 mguard x15 true (fun k => m R (o_move x0) w4 k) w4 fun x17 w5 =>
 mguard x15 true (fun k => m R (o_move x7) w5 k) w5 fun x18 w6 =>
 mguard x15 true (fun k => m R (o_indexAddr 29 x17 x18) w6 k) w6 fun x19 w7 =>
 mguard x15 true (fun k => m R (o_load 3 x19) w7 k) w7 fun x20 w8 =>
 mguard x15 true (fun k => m R (o_move x1) w8 k) w8 fun x21 w9 =>
 mguard x15 true (fun k => m R (o_bin .gtr 3 false x20 x21) w9 k) w9 fun x22 w10 =>
 m R (o_pick x15 x22 (.bool false)) w10 fun x23 w11 =>
 j7 x23 w11) fun x23 u7 w12 =>
 mif x23 (
 m R (o_buildSlice 29 1 [(0, x1)]) w12 fun x26 w13 =>
 m R (o_builtin .append #[29, 29] 29 [false, false] [x5, x26]) w13 fun x27 w14 =>
 j9 x27 (.bool true) w14) (
 j9 x5 x6 w12)) fun x5 x6 u9 w15 =>
 m R (o_indexAddr 29 x0 x7) w15 fun x31 w16 =>
 m R (o_load 3 x31) w16 fun x32 w17 =>
 m R (o_buildSlice 29 1 [(0, x32)]) w17 fun x33 w18 =>
 m R (o_builtin .append #[29, 29] 29 [false, false] [x5, x33]) w18 fun x34 w19 =>
 m R (o_bin .add 3 true x7 (.int .i64 1)) w19 fun x13 w20 =>
 next4 x34 x6 x13 w20) (
 mj1 (fun j12 =>
 m R (o_un .not x6) w3 fun x36 w21 =>
 mif x36 (
 m R (o_buildSlice 29 1 [(0, x1)]) w21 fun x39 w22 =>
 m R (o_builtin .append #[29, 29] 29 [false, false] [x5, x39]) w22 fun x40 w23 =>
 j12 x40 w23) (
 j12 x5 w21)) fun x5 u12 w24 =>
 R (.returned x5) w24)
def A_bevyref08_put : Ann := ⟨[(4, [5, 6, 7], 34359738336)], [(9, [5, 6], 268419168), (7, [23], 16760832), (12, [5], 2164663517216)], [], [], []⟩
theorem C_bevyref08_put {x0 x1 : Value} {w : World} {R : Ending → World → Prop} (h : F_bevyref08_put x0 x1 w R) : Calls Tryz.prog 159 #[x0, x1] w R :=
 calls_cwp (A := A_bevyref08_put) (args := [x0, x1]) mixed Tryz.func159 (c := Tryz.f159.body.getD .skip) (by kernel_rfl) (by kernel_rfl) (by kernel_rfl) (Eq.mpr (by kernel_rfl) h)
def F_slices_swapRangeCmpFunc_api_Proposal (x0 x1 x2 x3 x4 : Value) (w : World) (R : Ending → World → Prop) : Prop :=
 ml1 (.int .i64 0) w fun x10 u1 w1 next1 =>
 m R (o_bin .lss 3 false x10 x3) w1 fun x13 w2 =>
 mif x13 (
 dp Tryz.prog (o_bin .add 3 false x1 x10) fun x19 =>
 dp Tryz.prog (o_bin .add 3 false x2 x10) fun x23 =>
 dp Tryz.prog (o_bin .add 3 false x2 x10) fun x27 =>
 dp Tryz.prog (o_indexAddr 46 x0 x27) fun x28 =>
 dq Tryz.prog w2 (o_load 87 x28) fun x29 =>
 dp Tryz.prog (o_bin .add 3 false x1 x10) fun x33 =>
 dp Tryz.prog (o_indexAddr 46 x0 x33) fun x34 =>
 dq Tryz.prog w2 (o_load 87 x34) fun x35 =>
 dp Tryz.prog (o_indexAddr 46 x0 x19) fun x36 =>
 df Tryz.prog w2 (o_store 87 x36 x29) false fun _ w3 =>
 dp Tryz.prog (o_indexAddr 46 x0 x23) fun x37 =>
 df Tryz.prog w3 (o_store 87 x37 x35) false fun _ w4 =>
 dend w4 fun w5 =>
 m R (o_bin .add 3 true x10 (.int .i64 1)) w5 fun x15 w6 =>
 next1 x15 w6) (
 R (.returned (.tuple #[])) w2)
def A_slices_swapRangeCmpFunc_api_Proposal : Ann := ⟨[(1, [10], 274877905920)], [], [(3, [⟨0, .q none, 1, 0, 65536⟩, ⟨1, .q none, 2, 0, 131072⟩, ⟨2, .q none, 1024, 0, 262144⟩, ⟨3, .q none, 393216, 6, 524288⟩, ⟨4, .q none, 1, 0, 1048576⟩, ⟨5, .q none, 4, 0, 2097152⟩, ⟨6, .q none, 1024, 0, 4194304⟩, ⟨7, .q none, 6291456, 96, 8388608⟩, ⟨8, .q none, 1, 0, 16777216⟩, ⟨9, .q none, 4, 0, 33554432⟩, ⟨10, .q none, 1024, 0, 67108864⟩, ⟨11, .q none, 100663296, 1536, 134217728⟩, ⟨12, .q none, 150994944, 3840, 268435456⟩, ⟨13, .q (some 0), 268435456, 7936, 536870912⟩, ⟨14, .q none, 1, 0, 1073741824⟩, ⟨15, .q none, 2, 0, 2147483648⟩, ⟨16, .q none, 1024, 0, 4294967296⟩, ⟨17, .q none, 6442450944, 98304, 8589934592⟩, ⟨18, .q none, 9663676416, 245760, 17179869184⟩, ⟨19, .q (some 0), 17179869184, 507904, 34359738368⟩, ⟨20, .q none, 589824, 1048335, 68719476736⟩, ⟨21, .f 0 false, 69256347648, 2096911, 0⟩, ⟨22, .q none, 9437184, 4194303, 137438953472⟩, ⟨23, .f 1 false, 171798691840, 8388607, 0⟩])], [], []⟩
theorem C_slices_swapRangeCmpFunc_api_Proposal {x0 x1 x2 x3 x4 : Value} {w : World} {R : Ending → World → Prop} (h : F_slices_swapRangeCmpFunc_api_Proposal x0 x1 x2 x3 x4 w R) : Calls Tryz.prog 162 #[x0, x1, x2, x3, x4] w R :=
 calls_cwp (A := A_slices_swapRangeCmpFunc_api_Proposal) (args := [x0, x1, x2, x3, x4]) mixed Tryz.func162 (c := Tryz.f162.body.getD .skip) (by kernel_rfl) (by kernel_rfl) (by kernel_rfl) (Eq.mpr (by kernel_rfl) h)
def F_bevyref03_Code (x0 x1 : Value) (w : World) (R : Ending → World → Prop) : Prop :=
 m R (o_alloc 32) w fun x4 w1 =>
 mj1 (fun j4 =>
 m R (o_builtin .len #[9] 3 [false] [x0]) w1 fun x12 w2 =>
 m R (o_bin .gtr 3 true x12 (.int .i64 64)) w2 fun x13 w3 =>
 mif x13 (
 m R (o_call (fv 43) [x0]) w3 fun x15 w4 =>
 m R (o_alloc 32) w4 fun x5 w5 =>
 m R (o_store 32 x5 x15) w5 fun _ w6 =>
 m R (o_slice 32 x5 none none none) w6 fun x16 w7 =>
 m R (o_conv 135 9 x16) w7 fun x17 w8 =>
 j4 x17 w8) (
 j4 x0 w3)) fun x0 u4 w9 =>
 ml3 (.string (ByteArray.mk #[])) (.string (ByteArray.mk #[])) (.int .i64 0) w9 fun x6 x7 x8 u7 w10 next7 =>
 m R (o_bin .lss 3 true x8 (.int .i64 64)) w10 fun x19 w11 =>
 mif x19 (
 mj1 (fun j12 =>
 m R (o_builtin .len #[9] 3 [false] [x0]) w11 fun x24 w12 =>
 m R (o_bin .lss 3 false x8 x24) w12 fun x25 w13 =>
 mif x25 (
 m R (o_index 9 x0 x8) w13 fun x28 w14 =>
 j12 x28 w14) (
 j12 (.int .u8 0) w13)) fun x9 u12 w15 =>
 m R (o_bin .xor 5 true x9 (.int .u8 54)) w15 fun x31 w16 =>
 m R (o_buildSlice 135 1 [(0, x31)]) w16 fun x32 w17 =>
 m R (o_conv 135 9 x32) w17 fun x33 w18 =>
 m R (o_bin .add 9 false x6 x33) w18 fun x34 w19 =>
 m R (o_bin .xor 5 true x9 (.int .u8 92)) w19 fun x37 w20 =>
 m R (o_buildSlice 135 1 [(0, x37)]) w20 fun x38 w21 =>
 m R (o_conv 135 9 x38) w21 fun x39 w22 =>
 m R (o_bin .add 9 false x7 x39) w22 fun x40 w23 =>
 m R (o_bin .add 3 true x8 (.int .i64 1)) w23 fun x21 w24 =>
 next7 x34 x40 x21 w24) (
 m R (o_bin .add 9 false x6 x1) w11 fun x43 w25 =>
 m R (o_call (fv 43) [x43]) w25 fun x44 w26 =>
 m R (o_alloc 32) w26 fun x10 w27 =>
 m R (o_store 32 x10 x44) w27 fun _ w28 =>
 m R (o_slice 32 x10 none none none) w28 fun x46 w29 =>
 m R (o_conv 135 9 x46) w29 fun x47 w30 =>
 m R (o_bin .add 9 false x7 x47) w30 fun x48 w31 =>
 m R (o_call (fv 43) [x48]) w31 fun x49 w32 =>
 m R (o_store 32 x4 x49) w32 fun _ w33 =>
 rcell Tryz.prog 32 x4 w33 fun r4 =>
 R (.returned r4) w33)
def A_bevyref03_Code : Ann := ⟨[(7, [6, 7, 8], 2199022994368)], [(4, [0], 260129), (12, [9], 532677120)], [], [], []⟩
theorem C_bevyref03_Code {x0 x1 : Value} {w : World} {R : Ending → World → Prop} (h : F_bevyref03_Code x0 x1 w R) : Calls Tryz.prog 163 #[x0, x1] w R :=
 calls_cwp (A := A_bevyref03_Code) (args := [x0, x1]) mixed Tryz.func163 (c := Tryz.f163.body.getD .skip) (by kernel_rfl) (by kernel_rfl) (by kernel_rfl) (Eq.mpr (by kernel_rfl) h)
end Go.Proofs.YtopcnkejobomaaaGreat
namespace Go.Proofs.YtopcnkejobomaaaGreat
open Go.RowKit
section
variable {P : Program} {t : TypeId} {q : Bool}
instance (priority := 1100) : StepC P (o_un .not (.bool true)) True (.bool false) := ⟨fun _ w => by simp [o_un, sv, go_sem]⟩
instance (priority := 1100) : StepC P (o_un .not (.bool false)) True (.bool true) := ⟨fun _ w => by simp [o_un, sv, go_sem]⟩
end
end Go.Proofs.YtopcnkejobomaaaGreat
namespace Go.Proofs.YtopcnkejobomaaaGreat
open Go.RowKit
def exR {α : Type} (R : α → List Res) : Res := fun B => ∃ a, Hl (R a) B
theorem Mem.unex {α : Type} {R : α → List Res} {H : Hp} {w0 w : World} {L : List Res} (h : Mem H w0 (exR R :: L) w) : ∃ a, Mem H w0 (R a ++ L) w := by
  obtain ⟨B, ⟨B1, B2, rfl, ⟨a, h1⟩, h2⟩, hs⟩ := h.own
  exact ⟨a, ⟨B1 ++ B2, Hl.app.2 ⟨B1, B2, rfl, h1, h2⟩, hs⟩, h.fz⟩
theorem Mem.toex {α : Type} {R : α → List Res} {H : Hp} {w0 w : World} {L : List Res} (a : α) (h : Mem H w0 (R a ++ L) w) : Mem H w0 (exR R :: L) w := h.fold fun _ hb => ⟨a, hb⟩
instance (priority := 500) (L L' : List Res) (x : Res) [k : SubL L L'] : SubL (x :: L) L' := ⟨by
  obtain ⟨R, h⟩ := k.ok
  exact ⟨x :: R, h.cons x⟩⟩
def Clo {α : Type} (P : Program) (H : Hp) (w0 : World) (r : Res) (c : Value) (enc : α → Value) (f : α → Bool) : Prop :=
  ∀ (y : α) (R : List Res) (w : World) (K : Value → World → Prop) (X : List PanicEntry → World → Prop), Mem H w0 (r :: R) w → (∀ w', Mem H w0 (r :: R) w' → K (.bool (f y)) w') → mop P (o_call c [enc y]) w K X
section
variable {P : Program} {H : Hp} {w0 w : World} {L : List Res} {n cap e sz by_ : Nat} {t : TypeId} {A : Option Addr} {ps : List (List Fd)} {X X1 X2 X3 : List PanicEntry → World → Prop} {R : Ending → World → Prop}
theorem clone_gen [cc : SliC P t e sz by_] [IsSl P t] (hs : Sl (Hp.of w) sz A ps) (hn : n = ps.length) (hM : Mem H w0 L w) (hb : n ≤ 9223372036854775807 ∧ n * by_ ≤ 140737488355328)
    (hR : ∀ A' cap' w', Ext w w' → Mem H w0 (rowR e sz A' n cap' ps :: L) w' → R (.returned (.slice A' n cap')) w') :
    mop P (o_bin .eql t true (.slice A n cap) (.slice none 0 0)) w (fun x4 w1 => mif x4 (R (.returned (.slice none 0 0)) w1) (mop P (o_buildSlice t 0 []) w1 (fun x5 w2 => mop P (o_builtin .append #[t, t] t [false, false] [x5, .slice A n cap]) w2 (fun x7 w3 => R (.returned x7) w3) X2) X1)) X := by
  refine mop_c trivial ?_
  cases A with
  | none =>
    have : ps = [] := by
      rcases hs.at_ with h | ⟨b, o, c, h, _⟩
      · exact h
      · cases h
    subst this
    subst hn
    exact mif_true (hR none 0 w (Ext.refl w) (hM.row0 e sz))
  | some a =>
    refine mif_false ?_
    have k : Lits P sz 0 [] [] := inferInstance
    have hr := run_buildSlice (P := P) (t := t) (e := e) (sz := sz) (by_ := by_) (w := w) (ps := []) (qs := []) cc k (by simp)
    refine mop_run hr ?_
    have hx : Ext w (w.alloc (.cells (fls []).toArray e)) := (Only.refl _ w).alloc _
    have hM2 : Mem H w0 (rowR e sz (some ⟨w.heap.size, 0, none⟩) 0 0 [] :: L) (w.alloc (.cells (fls []).toArray e)) := by
      obtain ⟨B, hl, hs', hb'⟩ := hM.own
      refine ⟨⟨⟨w.heap.size, e, fls [], true⟩ :: B, ⟨[⟨w.heap.size, e, fls [], true⟩], B, rfl, ⟨Els.nil sz, rfl, .inr ⟨w.heap.size, [], rfl, by simp, by simp [fls], by simp, by simp⟩⟩, hl⟩, hs'.alloc e (fls []), fun b hm => ?_⟩, hM.fz.ext hx⟩
      rcases List.mem_cons.1 hm with rfl | hm
      · refine ⟨rfl, ?_⟩
        cases hh : H w.heap.size with
        | none => rfl
        | some c => have := hM.fz.lt hh; omega
      · exact hb' b hm
    subst hn
    have hsrc : Src P sz t (.slice (some a) ps.length cap) ps.length (fls ps) (w.alloc (.cells (fls []).toArray e)) := hs.src ((Fz.of w).ext hx) cc.und cap
    simp only [List.length_nil]
    refine mm_appX (n := 0) (cap := 0) hM2 ⟨.refl _⟩ hsrc hs.els rfl (by simp only [maxLen]; omega) (by rw [Nat.zero_add]; exact hb.2) fun A' cap' w' ho hM3 => ?_
    rw [Nat.zero_add, List.nil_append] at hM3
    rw [Nat.zero_add]
    have hx2 : Ext w w' := Only.trans hx ho fun i hi hg => by cases hg; omega
    exact hR A' cap' w' hx2 hM3
theorem dS_appF {R1 R2 : List Res} {S : Rl} {K : Value → World → Prop} {m capx ex e' tx ty : Nat} {qs : List (List Fd)} {B : Option Addr} {ks : List Bool} (h : Mem H w0 L w) [c : SliC P t e sz by_] [k : AtR L A n cap e sz ps R1] [k' : AtR R1 B m capx ex sz qs R2] [cx : SliC P tx e' sz by_] (hb : n + m ≤ 9223372036854775807 ∧ (n + m) * by_ ≤ 140737488355328)
    (hk : ∀ A' cap' w', Mem H w0 (rowR e sz A' (n + m) cap' (ps ++ qs) :: R2) w' → K (.slice A' (n + m) cap') w') : dfS P S w (o_builtin .append #[t, tx] ty ks [.slice A n cap, .slice B m capx]) false K :=
  ⟨fun _ hd => mop_mono (mm_appo (X := fun _ _ => False) (h.drawn hd) hb hk) (fun _ _ h => ⟨(fun e => by cases e), h⟩) (fun _ _ h => h)⟩
theorem Mem.setElem {R1 : List Res} {g : Nat} {k : Nat} {p : List Fd} (h : Mem H w0 (rowR e sz (some ⟨g, 0, none⟩) n cap ps :: R1) w) (hk : k < n) (hp : FOk p) (hs : fsz p = sz) : ∃ w', (storeCells ⟨g, 0 + k * sz, none⟩ (fl p) 0).run P w = .ok () w' ∧ Mem H w0 (rowR e sz (some ⟨g, 0, none⟩) n cap (ps.set k p) :: R1) w' := by
  obtain ⟨B, ⟨B1, B2, rfl, ⟨h1, h2, h3⟩, h4⟩, hs', hb⟩ := h.own
  rcases h3 with ⟨hA, _⟩ | ⟨g', sp, hA, rfl, h5, h6⟩
  · cases hA
  · cases hA
    have hs' : St w0 (⟨g, e, fls ps ++ sp, true⟩ :: B2) w := hs'
    have hle : k * sz + sz ≤ n * sz := by rw [← Nat.succ_mul]; exact Nat.mul_le_mul_right _ hk
    have hpl : (fl p).length = sz := by rw [hp.len, hs]
    have hfl : (fls ps).length = n * sz := by rw [h1.len, h2]
    have hst := run_storeCells_blf (P := P) (0 + k * sz) (fl p) 0 (fls ps ++ sp) w hs'.head (by rw [List.length_append, hfl, hpl]; omega) hp.one
    have hlay : lay (fls ps ++ sp) (fl p) (0 + k * sz + 0) = fls (ps.set k p) ++ sp := by
      have hk' : k < ps.length := by omega
      have e1 : ps = ps.take k ++ ps[k] :: ps.drop (k + 1) := by rw [List.getElem_cons_drop, List.take_append_drop]
      have ht : (fls (ps.take k)).length = k * sz := by rw [(h1.take k).len, List.length_take, Nat.min_eq_left (by omega)]
      have hx : (fl ps[k]).length = sz := by
        have := h1.ok ps[k] (List.getElem_mem _)
        rw [this.1.len, this.2]
      rw [List.set_eq_take_append_cons_drop, if_pos hk']
      conv => lhs; rw [e1]
      rw [fls_app, fls_app, fls_cons, fls_cons]
      unfold lay
      rw [Nat.zero_add, Nat.add_zero, hpl]
      rw [List.append_assoc, List.append_assoc, List.append_assoc, List.append_assoc, List.append_assoc]
      rw [List.take_left' ht]
      congr 1
      rw [show k * sz + sz = (fls (ps.take k) ++ fl ps[k]).length by rw [List.length_append, ht, hx], ← List.append_assoc (fls (ps.take k)), List.drop_left' rfl]
    refine ⟨_, hst, ?_⟩
    rw [hlay]
    have hl2 : (fls (ps.set k p) ++ sp).length = (fls ps ++ sp).length := by
      rw [← hlay]
      exact lay_length _ _ _ (by rw [List.length_append, hfl, hpl]; omega)
    have hels : Els sz (ps.set k p) := ⟨fun q hq => by
      rcases List.mem_or_eq_of_mem_set hq with hq | rfl
      · exact h1.ok q hq
      · exact ⟨hp, hs⟩⟩
    have hg := hb ⟨g, e, fls ps ++ sp, true⟩ (by simp)
    refine ⟨⟨⟨g, e, fls (ps.set k p) ++ sp, true⟩ :: B2, ⟨[⟨g, e, fls (ps.set k p) ++ sp, true⟩], B2, rfl, ⟨hels, by simpa using h2, .inr ⟨g, sp, rfl, rfl, by rw [hl2]; exact h5, h6⟩⟩, h4⟩, hs'.setRow hl2, fun b hm => ?_⟩, h.fz.same fun b c hc => setRow_other w g b _ ?_⟩
    · rcases List.mem_cons.1 hm with rfl | hm
      · exact ⟨rfl, hg.2⟩
      · exact hb b (List.mem_append.2 (.inr hm))
    · rintro rfl
      have := hg.2
      simp only [hc] at this
      cases this
theorem mm_str {R1 : List Res} {g k : Nat} {tt : TypeId} {q : Bool} {v : Value} {p : List Fd} {K : Value → World → Prop} {X : List PanicEntry → World → Prop} (h : Mem H w0 L w) [c : ShpC P tt q sz] [a : AtA L (some ⟨g, 0, none⟩) n cap e sz ps R1] [f : Vf v sz p] (hk : k < n)
    (hK : ∀ w', Mem H w0 (rowR e sz (some ⟨g, 0, none⟩) n cap (ps.set k p) :: R1) w' → K undef w') : mop P (o_store tt (.pointer (some ⟨g, 0 + k * sz, none⟩)) v) w K X := by
  obtain ⟨ev, hn, hp⟩ := f.ok
  obtain ⟨w', hr, hm⟩ := (h.perm a.perm).setElem (P := P) hk hp hn
  refine mop_skip ?_ (hK w' hm)
  have e2 : v.cells.size = sz := by rw [← Array.length_toList, ev, hp.len, hn]
  simp [o_store, su, Instr.storeAt, Instr.sureAddr, storeVar, run_size (shp_agg (w := w) c.ok).2, ev, e2]
  rw [Nat.zero_add] at hr
  simp [hr]
end
end Go.Proofs.YtopcnkejobomaaaGreat
namespace Go.Proofs.YtopcnkejobomaaaGreat
open Go.RowKit
def Rl.fz (K : Hp) : Rl := ⟨fun a b => Fz K a → Fz K b, fun _ h => h, fun h k x => k (h x), fun h x => x.ext h.ext⟩
def hadd (H : Hp) (g : Nat) (cs : List Value) : Hp := fun k => if k = g then some cs.toArray else H k
section
variable {P : Program} {H H' K : Hp} {w0 w w' : World} {L L' R R' : List Res} {g i : Nat} {t t' : TypeId} {fs gs fs' : List Fd} {put : Res → List Res} {q : Bool} {n m cap e e' sz by_ : Nat} {v : Value} {Kt : Value → World → Prop} {X : List PanicEntry → World → Prop} {Kq : Value → Prop} {A : Option Addr} {ps qs : List (List Fd)}
theorem Fz.hadd {cs : List Value} (h : Fz H w) (b : Blf w g t cs) : Fz (hadd H g cs) w := fun k c hk => by
  unfold Go.Proofs.YtopcnkejobomaaaGreat.hadd at hk
  split at hk
  · rename_i e
    subst e
    cases hk
    obtain ⟨fr, hb, _⟩ := b
    exact ⟨t, fr, hb⟩
  · exact h k c hk
theorem FbF.add {fs : List Fd} (h : FOk fs) : FbF (hadd K g (fl fs)) g fs := ⟨h, (fl fs).toArray, by simp [hadd], fun j u hu => by simpa using hu⟩
theorem Fz.mono {w : World} (h : Fz H' w) (k : H.le H') : Fz H w := fun b c hb => h b c (k b c hb)
def K2 (H : Hp) (g : Nat) (fs : List Fd) (g2 : Nat) (fs2 : List Fd) : Hp := hadd (hadd H g (fl fs)) g2 (fl fs2)
theorem dK_lds {b o k off : Nat} (hF : Fz K w) (a : Sl K sz (some ⟨b, o, none⟩) ps) [c : ShpC P t q n] (hp : ps[k]? = some fs) [s : Sub fs off n gs] [f : Fv q gs v] (hk : Kq v) : dqS P (Rl.fz K) w (o_load t (.pointer (some ⟨b, o + k * sz + off, none⟩))) Kq :=
  ⟨v, fun w' hw => by
    have := pw_elem (P := P) (w := w') a.els hp c s f (fun _ _ hu => a.cell (hw hF) hu)
    unfold opq
    rw [this]
    exact ⟨rfl, Drawn.refl w'⟩, hk⟩
theorem dK_lds0 {b o k : Nat} (hF : Fz K w) (a : Sl K sz (some ⟨b, o, none⟩) ps) [c : ShpC P t q n] (hp : ps[k]? = some fs) [s : Sub fs 0 n gs] [f : Fv q gs v] (hk : Kq v) : dqS P (Rl.fz K) w (o_load t (.pointer (some ⟨b, o + k * sz, none⟩))) Kq := dK_lds (off := 0) hF a hp hk
theorem Mem.refd {fs' : List Fd} (h : Mem H w0 (fb g t fs :: L) w) (he : fl fs = fl fs') (hf : FOk fs') : Mem H w0 (fb g t fs' :: L) w := by
  have : Mem H w0 ([fb g t fs'] ++ L) w := h.imp fun B ⟨_, hb⟩ => ⟨B, [], by simp, ⟨hf, by rw [hb, he]⟩, rfl⟩
  exact this
end
end Go.Proofs.YtopcnkejobomaaaGreat
namespace Go.Proofs.YtopcnkejobomaaaGreat
open Go.RowKit
class PurC (P : Program) (f : Nat) (args : List Value) (c : outParam Prop) (v : outParam Value) : Prop where
  ok : c → ∀ (w : World), Calls P f args.toArray w fun en w' => en = .returned v ∧ St w [] w'
section
variable {P : Program} {H K : Hp} {w0 w : World} {L : List Res} {f : Nat} {args : List Value} {c : Prop} {v : Value} {Kt : Value → World → Prop} {X : List PanicEntry → World → Prop}
theorem mm_purC (h : Mem H w0 L w) [hf : FunC P f] [p : PurC P f args c v] (hc : c) (hk : ∀ w', Mem H w0 L w' → Kt v w') : mop P (o_call (fv f) args) w Kt X := mm_pure h (p.ok hc w) hk
theorem dm_purC {ext : Bool} (h : Mem H w0 L w) [hf : FunC P f] [p : PurC P f args c v] (hc : c) (hk : ∀ w', Ext w w' → Mem H w0 L w' → Kt v w') : df P w (o_call (fv f) args) ext Kt := dm_pure h (fun w _ => p.ok hc w) hk
end
end Go.Proofs.YtopcnkejobomaaaGreat
namespace Go.Proofs.YtopcnkejobomaaaGreat
open Go.RowKit
section
variable {P : Program} {H : Hp} {w0 w : World} {L : List Res} {g n : Nat} {t t' : TypeId} {fs : List Fd} {put : Res → List Res} {v : Value} {K : Value → World → Prop} {X : List PanicEntry → World → Prop}
theorem SubA.set {o j : Nat} {ls : List Value} {putA : List Value → List Fd} (s : SubA fs o n ls putA) (hf : FOk fs) (hj : j < n) (hv : v.oneCell' = true) : FOk (putA (ls.set j v)) ∧ lay (fl fs) [v] (o + j) = fl (putA (ls.set j v)) ∧ o + j + 1 ≤ (fl fs).length := by
  obtain ⟨a, b, rfl, rfl, h3⟩ := s.ok
  have hls : FdOk (.arr n ls) := hf.ok _ (by simp)
  have hl : ls.length = n := hls.len
  have ha := hf.left.left.len
  refine ⟨?_, ?_, ?_⟩
  · rw [h3]
    refine (hf.left.left.app ⟨fun f hm => ?_⟩).app hf.right
    rw [List.mem_singleton.1 hm]
    refine ⟨by simpa [Fd.cells, Fd.size] using hl, fun u hu => ?_⟩
    rcases List.mem_or_eq_of_mem_set hu with hu | rfl
    · exact hls.one u hu
    · exact hv
  · rw [h3]
    unfold lay
    have e1 : fl (a ++ [.arr n ls] ++ b) = fl a ++ (ls ++ fl b) := by simp [fl_append, fl, Fd.cells]
    have e2 : fl (a ++ [.arr n (ls.set j v)] ++ b) = fl a ++ (ls.set j v ++ fl b) := by simp [fl_append, fl, Fd.cells]
    rw [e1, e2, ← ha, List.take_length_add_append, List.take_append_of_le_length (by omega), List.length_singleton, Nat.add_assoc, List.drop_length_add_append, List.drop_append_of_le_length (by omega)]
    rw [List.set_eq_take_append_cons_drop, if_pos (by omega)]
    simp
  · simp [fl_append, fl, Fd.cells]
    omega
theorem run_msta {o j : Nat} {ls : List Value} {putA : List Value → List Fd} (h : Mem H w0 L w) (cc : ShpC P t false 1) (k : AtB L g t' fs put) (s : SubA fs o n ls putA) (hv : One v) (hj : j < n) : ∃ w', (o_store t (.pointer (some ⟨g, o + j, none⟩)) v).run P w = .ok .skip w' ∧ Mem H w0 (put (fb g t' (putA (ls.set j v)))) w' := by
  obtain ⟨hb, hf⟩ := h.blf k
  obtain ⟨h1, h2, h3⟩ := s.set hf hj hv.ok
  have hl : (fl (putA (ls.set j v))).length = (fl fs).length := by rw [← h2]; exact lay_length _ _ _ (by simpa using h3)
  have hst := run_storeCells_blf (P := P) (o + j) [v] 0 (fl fs) w hb (by simpa using h3) (fun u hu => by rw [List.mem_singleton.1 hu]; exact hv.ok)
  refine ⟨_, ?_, h.setRow k h1 hl⟩
  simp only [Nat.add_zero, h2] at hst
  have e : v.cells.toList = [v] := by have := hv.ok; cases v <;> simp_all [Value.cells, Value.oneCell']
  have e2 : v.cells.size = 1 := by rw [← Array.length_toList, e]; rfl
  simp [o_store, su, Instr.storeAt, Instr.sureAddr, storeVar, run_size (shp_agg (w := w) cc.ok).2, e, hst, e2]
theorem mm_sta {o j : Nat} {ls : List Value} {putA : List Value → List Fd} (h : Mem H w0 L w) [cc : ShpC P t false 1] [k : AtB L g t' fs put] [s : SubA fs o n ls putA] [hv : One v] (hj : j < n) (hk : ∀ w', Mem H w0 (put (fb g t' (putA (ls.set j v)))) w' → K undef w') : mop P (o_store t (.pointer (some ⟨g, o + j, none⟩)) v) w K X := by
  obtain ⟨w', h1, h2⟩ := run_msta h cc k s hv hj
  exact mop_skip h1 (hk w' h2)
theorem mm_ldj {o j : Nat} {ls : List Value} {putA : List Value → List Fd} (h : Mem H w0 L w) [cc : ShpC P t false 1] [k : AtB L g t' fs put] [s : SubA fs o n ls putA] (hv : ls[j]? = some v) (hk : K v w) : mop P (o_load t (.pointer (some ⟨g, o + j, none⟩))) w K X := mm_lda h hv hk
end
end Go.Proofs.YtopcnkejobomaaaGreat
namespace Go.Proofs.YtopcnkejobomaaaGreat
open Go.RowKit
theorem mif_nt {F G : Prop} (h : G) : mif (.bool (!true)) F G := mif_false h
theorem mif_nf {F G : Prop} (h : F) : mif (.bool (!false)) F G := mif_true h
section
variable {H : Hp} {w0 w : World} {L : List Res}
theorem dS_stX {P : Program} {t tt : TypeId} {q : Bool} {n i k : Nat} {v : Value} {fs gs fs' : List Fd} {put : Res → List Res} {K : Value → World → Prop} (h : Mem H w0 L w) [c : ShpC P t q n] [a : AtB L k tt fs put] [f : Vf v n gs] [p : Put fs i gs fs'] (hk : ∀ w', Mem H w0 (put (fb k tt fs')) w' → K undef w') :
    dfS P (Rl.only fun b => b = k) w (o_store t (.pointer (some ⟨k, i, none⟩)) v) true K := ⟨fun w1 hd => by
  have h := h.drawn hd
  obtain ⟨w', h1, h2⟩ := run_mst h c a f p
  obtain ⟨hb, hf⟩ := h.blf a
  obtain ⟨e, hn, hg⟩ := f.ok
  obtain ⟨_, k2, k3⟩ := p.cells hf hg
  have e2 : v.cells.size = n := by rw [← Array.length_toList, e, hg.len, hn]
  obtain ⟨w2, h3, h4⟩ := run_storeN (P := P) (i := i) (v := v) c.ok (St.oneF hb) e2 (by rw [e]; exact hg.one) (by rw [hg.len, hn] at k3; exact k3)
  rw [h1] at h3
  cases h3
  exact mop_skip h1 ⟨fun _ => (hd.onlyS _).trans1 (h4.only.mono fun j _ ⟨b, hm, _, hj⟩ => by
    rw [List.mem_singleton] at hm
    subst hm
    exact hj.symm), hk w' h2⟩⟩
theorem Mem.neB {a b ta tb : Nat} {fa fb' : List Fd} {R R' : List Res} (h : Mem H w0 (fb a ta fa :: R) w) [k : AtF R b tb fb' R'] : ¬ a = b := by
  rintro rfl
  obtain ⟨B, ⟨B1, B2, rfl, ⟨_, rfl⟩, B3, B4, rfl, ⟨_, rfl⟩, _⟩, hs, _⟩ := (h.perm (k.perm.cons _)).own
  exact (List.pairwise_cons.1 hs.ne).1 ⟨a, tb, fl fb', true⟩ (by simp) rfl
end
end Go.Proofs.YtopcnkejobomaaaGreat
namespace Go.Proofs.YtopcnkejobomaaaGreat
open Go.RowKit Go.Lib
set_option maxRecDepth 100000 in
theorem up_fin : ∀ y : Fin 128, bits .and .i64 y.val 1 = y.val % 2 ∧ bits .or .i64 (bits .andNot .i64 y.val (pw (level y.val + 1))) (pw (level y.val)) = up1 y.val ∧ level (up1 y.val) = level y.val + 1 ∧ pw (level y.val) ≤ y.val + 1 ∧ level y.val ≤ 7 := by decide +kernel
set_option maxRecDepth 100000 in
theorem fd_fin : ∀ n : Fin 65, ∀ x : Fin 127, thr (n.val : Int) (x.val : Int) → 0 ≤ (fd n.val x.val).1 ∧ 1 ≤ (fd n.val x.val).2.1 ∧ (fd n.val x.val).1 + (fd n.val x.val).2.1 ≤ 64 := by decide +kernel
theorem up_eq {x : Int} (h : 0 ≤ x ∧ x < 128) : bits .and .i64 x 1 = x % 2 ∧ bits .or .i64 (bits .andNot .i64 x (pw (level x + 1))) (pw (level x)) = up1 x ∧ level (up1 x) = level x + 1 ∧ pw (level x) ≤ x + 1 ∧ level x ≤ 7 := by
  have := up_fin ⟨x.toNat, by omega⟩
  simpa only [Int.toNat_of_nonneg h.1] using this
theorem fd_eq {n x : Int} (h : thr n x) : 0 ≤ (fd n x).1 ∧ 1 ≤ (fd n x).2.1 ∧ (fd n x).1 + (fd n x).2.1 ≤ 64 := by
  obtain ⟨h1, h2, h3⟩ := id h
  have := fd_fin ⟨n.toNat, by omega⟩ ⟨x.toNat, by omega⟩
  simp only [Int.toNat_of_nonneg h2, Int.toNat_of_nonneg (show 0 ≤ n by omega)] at this
  exact this h
theorem bough_eq {n x : Int} (h : thr n x) : pLeft n x = lf n x ∧ pRight n x = rt n x ∧ pAbove n x = ab n x ∧ pBeside n x = bs n x ∧ pFrom n x = fro n x ∧ pTo n x = til n x ∧
    (level x ≠ 0 → okr 8 n (x + pw (level x - 1)) = true) ∧ (x ≠ root n → oku 8 n x = true) ∧ root n = rRoot n := by
  obtain ⟨h1, h2, h3⟩ := id h
  have := bough_fin ⟨n.toNat, by omega⟩ ⟨x.toNat, by omega⟩
  simp only [Int.toNat_of_nonneg h2, Int.toNat_of_nonneg (show 0 ≤ n by omega)] at this
  exact this h
theorem lev_rng : ∀ (f : Nat) (x : Int), 0 ≤ lev f x ∧ lev f x ≤ f
  | 0, x => by simp [lev]
  | f + 1, x => by
    have := lev_rng f (x / 2)
    unfold lev
    split <;> omega
theorem level_rng (x : Int) : 0 ≤ level x ∧ level x ≤ 8 := lev_rng 8 x
theorem pw_rng {k : Int} (h : k ≤ 9) : 1 ≤ pw k ∧ pw k ≤ 512 := by
  have h2 : (2 : Nat) ^ k.toNat ≤ 2 ^ 9 := Nat.pow_le_pow_right (by decide) (by omega)
  have h3 : 0 < (2 : Nat) ^ k.toNat := Nat.pow_pos (by decide)
  have h4 : pw k = ((2 ^ k.toNat : Nat) : Int) := by unfold pw; push_cast; rfl
  rw [h4]
  omega
instance {P : Program} {t : TypeId} {q : Bool} {k' : IntKind} (b : Int) : StepC P (o_bin .shl t q (.int .i64 1) (.int k' b)) (0 ≤ b ∧ b < 62) (.int .i64 (pw b)) := ⟨fun h => by
  have := p_shl (P := P) t q .i64 k' 1 b h.1 (by show b < 64; omega)
  have h2 : (2 : Nat) ^ b.toNat ≤ 2 ^ 62 := Nat.pow_le_pow_right (by decide) (by omega)
  have h4 : (2 : Int) ^ b.toNat = ((2 ^ b.toNat : Nat) : Int) := by push_cast; rfl
  have h5 : -9223372036854775808 ≤ (2 : Int) ^ b.toNat ∧ (2 : Int) ^ b.toNat < 9223372036854775808 := by
    generalize (2 : Nat) ^ b.toNat = m at h2 h4
    rw [h4]
    omega
  rw [Int.one_mul, wrap_in h5] at this
  exact this⟩
theorem p_andNot {P : Program} (t : TypeId) (c : Bool) (k : IntKind) (a b : Int) : Pur P (o_bin .andNot t c (.int k a) (.int k b)) (.int k (bits .andNot k a b)) := fun w => by
  simp [o_bin, sv, eqGuard, binOp, go_sem]
instance {P : Program} {t : TypeId} {q : Bool} {k : IntKind} (a b : Int) : StepC P (o_bin .andNot t q (.int k a) (.int k b)) True (.int k (bits .andNot k a b)) := ⟨fun _ => p_andNot t q k a b⟩
section
variable {H : Hp} {w0 w : World} {L : List Res}
theorem there_ok (n x : Int) (w : World) : Calls Tryz.prog 83 #[.int .i64 n, .int .i64 x] w fun en w' => en = .returned (.bool (decide (thr n x))) ∧ St w [] w' := by
  have hM := Mem.start (Fz.of w)
  refine C_bough_there ?_
  unfold F_bough_there
  ((with_reducible (refine mop_cS trivial ?_ ?_)))
  · intro h1
    ((with_reducible (refine mguard_yes ?_; refine mop_c trivial ?_; refine mguard_yes ?_)))
    ((with_reducible (refine mop_cS trivial ?_ ?_)))
    · intro h2
      ((with_reducible (refine mop_c trivial ?_; refine mguard_yes ?_; refine mop_c trivial ?_; refine mguard_yes ?_)))
      ((with_reducible (refine mop_cS trivial ?_ ?_)))
      · intro h3
        ((with_reducible (refine mop_c trivial ?_; refine mguard_yes ?_; refine mop_c trivial ?_; refine mguard_yes ?_; refine mop_c trivial ?_; refine mguard_yes ?_; refine mop_c ?_ ?_)); (focus omega); (with_reducible (refine mguard_yes ?_; refine mop_c ?_ ?_)); (focus omega); (with_reducible (refine mguard_yes ?_)))
        ((with_reducible (refine mop_cS trivial ?_ ?_)))
        · intro h4
          ((with_reducible (refine mop_c trivial ?_)))
          exact ⟨by rw [decide_eq_true (show thr n x from ⟨⟨h1, h2⟩, h3, h4⟩)], hM.st⟩
        · intro h4
          ((with_reducible (refine mop_c trivial ?_)))
          exact ⟨by rw [decide_eq_false (show ¬ thr n x from fun h => h4 h.2.2)], hM.st⟩
      · intro h3
        ((with_reducible (refine mop_c trivial ?_; (iterate 5 refine mguard_n2 ?_); refine mop_c trivial ?_)))
        exact ⟨by rw [decide_eq_false (show ¬ thr n x from fun h => h3 h.2.1)], hM.st⟩
    · intro h2
      ((with_reducible (refine mop_c trivial ?_; refine mguard_n2 ?_; refine mguard_n2 ?_; refine mop_c trivial ?_; (iterate 5 refine mguard_n2 ?_); refine mop_c trivial ?_)))
      exact ⟨by rw [decide_eq_false (show ¬ thr n x from fun h => h2 h.1.2)], hM.st⟩
  · intro h1
    ((with_reducible (refine mguard_n2 ?_; refine mguard_n2 ?_; refine mop_c trivial ?_; refine mguard_n2 ?_; refine mguard_n2 ?_; refine mop_c trivial ?_; (iterate 5 refine mguard_n2 ?_); refine mop_c trivial ?_)))
    exact ⟨by rw [decide_eq_false (show ¬ thr n x from fun h => h1 h.1.1)], hM.st⟩
instance (n x : Int) : PurC Tryz.prog 83 [.int .i64 n, .int .i64 x] True (.bool (decide (thr n x))) := ⟨fun _ w => there_ok n x w⟩
theorem rthere_ok (n x : Int) (w : World) : Calls Tryz.prog 90 #[.int .i64 n, .int .i64 x] w fun en w' => en = .returned (.bool (decide (thr n x))) ∧ St w [] w' := by
  have hM := Mem.start (Fz.of w)
  refine C_bevyref07_There ?_
  unfold F_bevyref07_There
  ((with_reducible (refine mop_cS trivial ?_ ?_)))
  · intro h1
    ((with_reducible (refine mguard_yes ?_; refine mop_c trivial ?_; refine mguard_yes ?_)))
    ((with_reducible (refine mop_cS trivial ?_ ?_)))
    · intro h2
      ((with_reducible (refine mop_c trivial ?_; refine mguard_yes ?_; refine mop_c trivial ?_; refine mguard_yes ?_)))
      ((with_reducible (refine mop_cS trivial ?_ ?_)))
      · intro h3
        ((with_reducible (refine mop_c trivial ?_; refine mguard_yes ?_; refine mop_c trivial ?_; refine mguard_yes ?_; refine mop_c trivial ?_; refine mguard_yes ?_; refine mop_c ?_ ?_)); (focus omega); (with_reducible (refine mguard_yes ?_; refine mop_c ?_ ?_)); (focus omega); (with_reducible (refine mguard_yes ?_)))
        ((with_reducible (refine mop_cS trivial ?_ ?_)))
        · intro h4
          ((with_reducible (refine mop_c trivial ?_)))
          exact ⟨by rw [decide_eq_true (show thr n x from ⟨⟨h1, h2⟩, h3, h4⟩)], hM.st⟩
        · intro h4
          ((with_reducible (refine mop_c trivial ?_)))
          exact ⟨by rw [decide_eq_false (show ¬ thr n x from fun h => h4 h.2.2)], hM.st⟩
      · intro h3
        ((with_reducible (refine mop_c trivial ?_; (iterate 5 refine mguard_n2 ?_); refine mop_c trivial ?_)))
        exact ⟨by rw [decide_eq_false (show ¬ thr n x from fun h => h3 h.2.1)], hM.st⟩
    · intro h2
      ((with_reducible (refine mop_c trivial ?_; refine mguard_n2 ?_; refine mguard_n2 ?_; refine mop_c trivial ?_; (iterate 5 refine mguard_n2 ?_); refine mop_c trivial ?_)))
      exact ⟨by rw [decide_eq_false (show ¬ thr n x from fun h => h2 h.1.2)], hM.st⟩
  · intro h1
    ((with_reducible (refine mguard_n2 ?_; refine mguard_n2 ?_; refine mop_c trivial ?_; refine mguard_n2 ?_; refine mguard_n2 ?_; refine mop_c trivial ?_; (iterate 5 refine mguard_n2 ?_); refine mop_c trivial ?_)))
    exact ⟨by rw [decide_eq_false (show ¬ thr n x from fun h => h1 h.1.1)], hM.st⟩
instance (n x : Int) : PurC Tryz.prog 90 [.int .i64 n, .int .i64 x] True (.bool (decide (thr n x))) := ⟨fun _ w => rthere_ok n x w⟩
theorem level_ok (x : Int) (hx : 0 ≤ x ∧ x < 128) (w : World) : Calls Tryz.prog 84 #[.int .i64 x] w fun en w' => en = .returned (.int .i64 (level x)) ∧ St w [] w' := by
  have hM := Mem.start (Fz.of w)
  refine C_bough_level ?_
  unfold F_bough_level
  refine ⟨fun v u w' => ∃ (y k : Int) (f : Nat), v = .int .i64 y ∧ u = .int .i64 k ∧ f ≤ 7 ∧ k = 7 - f ∧ 0 ≤ y ∧ y < 2 ^ f ∧ level x = k + lev (f + 1) y ∧ hM.now w', fun _ u _ => match u with | .int _ k => 7 - k.toNat | _ => 0, ⟨x, 0, 7, rfl, rfl, by omega, by omega, hx.1, hx.2, by unfold level; rw [Int.zero_add], hM⟩, ?_⟩
  rintro v u i w2 ⟨y, k, f, rfl, rfl, hf, hk, hy, hy2, hl, hM⟩
  have h7 : (2 : Int) ^ f ≤ 128 := by
    have h2 : (2 : Nat) ^ f ≤ 2 ^ 7 := Nat.pow_le_pow_right (by decide) hf
    have h4 : (2 : Int) ^ f = ((2 ^ f : Nat) : Int) := by push_cast; rfl
    omega
  obtain ⟨hb, _⟩ := up_eq (x := y) (by omega)
  ((with_reducible (refine mop_c trivial ?_)))
  rw [hb]
  ((with_reducible (refine mop_cS trivial ?_ ?_)))
  · intro ho
    cases f with
    | zero => simp at hy2; omega
    | succ f =>
      ((with_reducible (refine mif_true ?_; refine mop_c ?_ ?_)); (focus omega); (with_reducible (refine mop_c ?_ ?_)); (focus omega))
      have hd : y / 2 ^ (1 : Int).toNat = y / 2 := rfl
      rw [hd]
      have hp : (2 : Int) ^ (f + 1) = 2 ^ f * 2 := Int.pow_succ 2 f
      refine ⟨⟨y / 2, k + 1, f, rfl, rfl, by omega, by omega, by omega, by omega, ?_, hM⟩, ?_⟩
      · rw [hl]
        conv => lhs; rw [lev, if_pos ho]
        omega
      · simp only
        omega
  · intro ho
    ((with_reducible (refine mif_false ?_)))
    refine ⟨?_, hM.st⟩
    rw [hl, lev, if_neg ho]
    simp
instance (x : Int) : PurC Tryz.prog 84 [.int .i64 x] (0 ≤ x ∧ x < 128) (.int .i64 (level x)) := ⟨fun h w => level_ok x h w⟩
theorem broot_ok (n : Int) (w : World) : Calls Tryz.prog 42 #[.int .i64 n] w fun en w' => en = .returned (.int .i64 (root n)) ∧ St w [] w' := by
  have hM := Mem.start (Fz.of w)
  refine C_bough_Root ?_
  unfold F_bough_Root
  by_cases ht : thr n 0
  · rw [show root n = rtN n - 1 from if_pos ht]
    have hn := ht.1
    ((with_reducible (refine mm_purC hM ?_ ?_)); (focus (first | exact trivial | assumption | omega)); (with_reducible (clear hM; intro _ hM; refine mop_c trivial ?_)))
    rw [decide_eq_true ht]
    ((with_reducible (refine mif_nt ?_)))
    refine ⟨fun v w' => ∃ k : Int, v = .int .i64 k ∧ (k = 1 ∨ k = 2 ∨ k = 4 ∨ k = 8 ∨ k = 16 ∨ k = 32 ∨ k = 64) ∧ (k = 1 ∨ k < 2 * n) ∧ hM.now w', fun v _ => match v with | .int _ k => 100 - k.toNat | _ => 0, ⟨1, rfl, .inl rfl, .inl rfl, hM⟩, ?_⟩
    rintro v i w2 ⟨k, rfl, h1, h2, hM⟩
    ((with_reducible (refine mop_cS trivial ?_ ?_)))
    · intro h
      ((with_reducible (refine mif_true ?_; refine mop_c ?_ ?_)); (focus omega))
      exact ⟨⟨k * 2, rfl, by omega, by omega, hM⟩, by simp only; omega⟩
    · intro h
      ((with_reducible (refine mif_false ?_; refine mop_c ?_ ?_)); (focus omega))
      refine ⟨?_, hM.st⟩
      rw [show rtN n = k by unfold rtN; repeat' split
                            all_goals omega]
  · rw [show root n = -1 from if_neg ht]
    ((with_reducible (refine mm_purC hM ?_ ?_)); (focus (first | exact trivial | assumption | omega)); (with_reducible (clear hM; intro _ hM; refine mop_c trivial ?_)))
    rw [decide_eq_false ht]
    ((with_reducible (refine mif_nf ?_)))
    exact ⟨rfl, hM.st⟩
instance (n : Int) : PurC Tryz.prog 42 [.int .i64 n] True (.int .i64 (root n)) := ⟨fun _ w => broot_ok n w⟩
theorem half_ok (n : Int) (hn : 1 ≤ n ∧ n ≤ 64) (w : World) : Calls Tryz.prog 96 #[.int .i64 n] w fun en w' => en = .returned (.int .i64 (halfI n)) ∧ St w [] w' := by
  have hM := Mem.start (Fz.of w)
  refine C_bevyref07_half ?_
  unfold F_bevyref07_half
  refine ⟨fun v w' => ∃ k : Int, v = .int .i64 k ∧ (k = 1 ∨ k = 2 ∨ k = 4 ∨ k = 8 ∨ k = 16 ∨ k = 32) ∧ (k = 1 ∨ k < n) ∧ hM.now w', fun v _ => match v with | .int _ k => 100 - k.toNat | _ => 0, ⟨1, rfl, .inl rfl, .inl rfl, hM⟩, ?_⟩
  rintro v i w2 ⟨k, rfl, h1, h2, hM⟩
  ((with_reducible (refine mop_c ?_ ?_)); (focus omega))
  ((with_reducible (refine mop_cS trivial ?_ ?_)))
  · intro h
    ((with_reducible (refine mif_true ?_; refine mop_c ?_ ?_)); (focus omega))
    exact ⟨⟨2 * k, rfl, by omega, by omega, hM⟩, by simp only; omega⟩
  · intro h
    ((with_reducible (refine mif_false ?_)))
    refine ⟨?_, hM.st⟩
    rw [show halfI n = k by unfold halfI; repeat' split
                            all_goals omega]
instance (n : Int) : PurC Tryz.prog 96 [.int .i64 n] (1 ≤ n ∧ n ≤ 64) (.int .i64 (halfI n)) := ⟨fun h w => half_ok n h w⟩
theorem half_b {n : Int} (h : 1 ≤ n ∧ n ≤ 64) : 1 ≤ halfI n ∧ halfI n ≤ 32 ∧ (2 ≤ n → halfI n < n) ∧ n ≤ 2 * halfI n := by
  unfold halfI
  repeat' split
  all_goals omega
theorem rroot_ok (a n : Int) (h : (0 ≤ a ∧ a ≤ 100) ∧ 1 ≤ n ∧ n ≤ 64) (w : World) : Calls Tryz.prog 91 #[.int .i64 a, .int .i64 n] w fun en w' => en = .returned (.int .i64 (rootI a n)) ∧ St w [] w' := by
  have hM := Mem.start (Fz.of w)
  refine C_bevyref07_root ?_
  unfold F_bevyref07_root rootI
  have hb := half_b h.2
  ((with_reducible (refine mop_cS trivial ?_ ?_)))
  · intro h1
    ((with_reducible (refine mif_true ?_; refine mop_c ?_ ?_)); (focus omega))
    exact ⟨by rw [if_pos h1], hM.st⟩
  · intro h1
    ((with_reducible (refine mif_false ?_; refine mm_purC hM ?_ ?_)); (focus (first | exact trivial | assumption | omega)); (with_reducible (clear hM; intro _ hM; refine mop_c ?_ ?_)); (focus omega); (with_reducible (refine mop_c ?_ ?_)); (focus omega); (with_reducible (refine mop_c ?_ ?_)); (focus omega))
    exact ⟨by rw [if_neg h1], hM.st⟩
instance (a n : Int) : PurC Tryz.prog 91 [.int .i64 a, .int .i64 n] ((0 ≤ a ∧ a ≤ 100) ∧ 1 ≤ n ∧ n ≤ 64) (.int .i64 (rootI a n)) := ⟨fun h w => rroot_ok a n h w⟩
def okf : Nat → Int → Bool
  | 0, n => decide (n = 1)
  | f + 1, n => decide (n = 1) || (okf f (halfI n) && okf f (n - halfI n))
set_option maxRecDepth 100000 in
theorem okf_fin : ∀ n : Fin 65, 1 ≤ n.val → okf 6 n.val = true := by decide +kernel
theorem find_ok : ∀ (f : Nat) (a n x p b : Int), okf f n = true → 0 ≤ a → 1 ≤ n → a + n ≤ 64 → 2 * a ≤ x → x ≤ 2 * (a + n) - 2 → ∀ w, Calls Tryz.prog 95 #[.int .i64 a, .int .i64 n, .int .i64 x, .int .i64 p, .int .i64 b] w fun en w' => en = .returned (.tuple #[.int .i64 (fnd (f + 1) a n x p b).1, .int .i64 (fnd (f + 1) a n x p b).2.1, .int .i64 (fnd (f + 1) a n x p b).2.2.1, .int .i64 (fnd (f + 1) a n x p b).2.2.2]) ∧ St w [] w' := by
  intro f
  induction f with
  | zero =>
    intro a n x p b ho ha hn hs hx hy w
    have hM := Mem.start (Fz.of w)
    have h1 : n = 1 := by simpa [okf] using ho
    subst h1
    have hr : rootI a 1 = x := by unfold rootI; rw [if_pos rfl]; omega
    refine C_bevyref07_find ?_
    unfold F_bevyref07_find
    ((with_reducible (refine mm_purC hM ?_ ?_)); (focus (first | exact trivial | assumption | omega)); (with_reducible (clear hM; intro _ hM; refine mop_cT trivial ?_ ?_)); (focus (first | assumption | omega | with_reducible rfl | exact fun h => Bool.noConfusion h)); (with_reducible (refine mif_true ?_)))
    exact ⟨by simp only [fnd, if_pos hr], hM.st⟩
  | succ f ih =>
    intro a n x p b ho ha hn hs hx hy w
    have hM := Mem.start (Fz.of w)
    refine C_bevyref07_find ?_
    unfold F_bevyref07_find
    by_cases hr : rootI a n = x
    · ((with_reducible (refine mm_purC hM ?_ ?_)); (focus (first | exact trivial | assumption | omega)); (with_reducible (clear hM; intro _ hM; refine mop_cT trivial ?_ ?_)); (focus (first | assumption | omega | with_reducible rfl | exact fun h => Bool.noConfusion h)); (with_reducible (refine mif_true ?_)))
      exact ⟨by simp only [fnd, if_pos hr], hM.st⟩
    · have h1 : n ≠ 1 := by
        rintro rfl
        apply hr
        unfold rootI
        rw [if_pos rfl]
        omega
      have hre : rootI a n = 2 * (a + halfI n) - 1 := by unfold rootI; rw [if_neg h1]
      obtain ⟨b1, b2, b3, b4⟩ := half_b (n := n) (by omega)
      have b3 := b3 (by omega)
      simp only [okf, Bool.or_eq_true, decide_eq_true_eq, Bool.and_eq_true] at ho
      have ho := ho.resolve_left h1
      have e1 : fnd (f + 1 + 1) a n x p b = if x < rootI a n then fnd (f + 1) a (halfI n) x (rootI a n) (rootI (a + halfI n) (n - halfI n)) else fnd (f + 1) (a + halfI n) (n - halfI n) x (rootI a n) (rootI a (halfI n)) := by
        conv => lhs; rw [fnd, if_neg hr]
      ((with_reducible (refine mm_purC hM ?_ ?_)); (focus (first | exact trivial | assumption | omega)); (with_reducible (clear hM; intro _ hM; refine mop_cF trivial ?_ ?_)); (focus (first | assumption | omega | with_reducible rfl | exact fun h => Bool.noConfusion h)); (with_reducible (refine mif_false ?_; refine mm_purC hM ?_ ?_)); (focus (first | exact trivial | assumption | omega)); (with_reducible (clear hM; intro _ hM; refine mm_purC hM ?_ ?_)); (focus (first | exact trivial | assumption | omega)); (with_reducible (clear hM; intro _ hM; refine mop_c ?_ ?_)); (focus omega); (with_reducible (refine mop_c ?_ ?_)); (focus omega); (with_reducible (refine mm_purC hM ?_ ?_)); (focus (first | exact trivial | assumption | omega)); (with_reducible (clear hM; intro _ hM)))
      ((with_reducible (refine mop_cS trivial ?_ ?_)))
      · intro hl
        rw [if_pos hl] at e1
        ((with_reducible (refine mif_true ?_)))
        refine mm_pure hM (ih a (halfI n) x _ _ ho.1 ha b1 (by omega) hx (by omega) _) (fun w hM => ?_)
        skip
        rw [e1]
        exact ⟨rfl, hM.st⟩
      · intro hl
        rw [if_neg hl] at e1
        ((with_reducible (refine mif_false ?_; refine mop_c ?_ ?_)); (focus omega); (with_reducible (refine mop_c ?_ ?_)); (focus omega))
        refine mm_pure hM (ih (a + halfI n) (n - halfI n) x _ _ ho.2 (by omega) (by omega) (by omega) (by omega) (by omega) _) (fun w hM => ?_)
        skip
        rw [e1]
        exact ⟨rfl, hM.st⟩
theorem fd_ok (n x : Int) (h : thr n x) (w : World) : Calls Tryz.prog 95 #[.int .i64 0, .int .i64 n, .int .i64 x, .int .i64 (-1), .int .i64 (-1)] w fun en w' => en = .returned (.tuple #[.int .i64 (fd n x).1, .int .i64 (fd n x).2.1, .int .i64 (fd n x).2.2.1, .int .i64 (fd n x).2.2.2]) ∧ St w [] w' := by
  obtain ⟨h1, h2, h3⟩ := h
  have := okf_fin ⟨n.toNat, by omega⟩ (by simp only; omega)
  simp only [Int.toNat_of_nonneg (show 0 ≤ n by omega)] at this
  exact find_ok 6 0 n x (-1) (-1) this (by omega) (by omega) (by omega) (by omega) (by omega) w
instance (n x : Int) : PurC Tryz.prog 95 [.int .i64 0, .int .i64 n, .int .i64 x, .int .i64 (-1), .int .i64 (-1)] (thr n x) (.tuple #[.int .i64 (fd n x).1, .int .i64 (fd n x).2.1, .int .i64 (fd n x).2.2.1, .int .i64 (fd n x).2.2.2]) := ⟨fun h w => fd_ok n x h w⟩
end
end Go.Proofs.YtopcnkejobomaaaGreat
namespace Go.Proofs.YtopcnkejobomaaaGreat
open Go.RowKit Go.Lib
set_option maxRecDepth 100000 in
theorem ab_fin : ∀ n : Fin 65, ∀ x : Fin 127, thr (n.val : Int) (x.val : Int) → ab n.val x.val < 0 ∨ thr n.val (ab n.val x.val) := by decide +kernel
theorem ab_thr {n x : Int} (h : thr n x) (ha : ¬ ab n x < 0) : thr n (ab n x) := by
  obtain ⟨h1, h2, h3⟩ := id h
  have := ab_fin ⟨n.toNat, by omega⟩ ⟨x.toNat, by omega⟩
  simp only [Int.toNat_of_nonneg h2, Int.toNat_of_nonneg (show 0 ≤ n by omega)] at this
  exact (this h).resolve_left ha
instance {P : Program} (a b c d : Value) : StepC P (o_extract (.tuple #[a, b, c, d]) 0) True a := ⟨fun _ => p_extract [a, b, c, d] 0 a rfl⟩
instance {P : Program} (a b c d : Value) : StepC P (o_extract (.tuple #[a, b, c, d]) 1) True b := ⟨fun _ => p_extract [a, b, c, d] 1 b rfl⟩
instance {P : Program} (a b c d : Value) : StepC P (o_extract (.tuple #[a, b, c, d]) 2) True c := ⟨fun _ => p_extract [a, b, c, d] 2 c rfl⟩
instance {P : Program} (a b c d : Value) : StepC P (o_extract (.tuple #[a, b, c, d]) 3) True d := ⟨fun _ => p_extract [a, b, c, d] 3 d rfl⟩
theorem min_if (a n : Int) : min a n = if n < a then n else a := by split <;> omega
section
variable {H : Hp} {w0 w : World} {L : List Res}
theorem rt_of {n x : Int} (h : ¬ thr n x) : rt n x = -1 := if_neg h
theorem ab_of {n x : Int} (h : ¬ thr n x) : ab n x = -1 := if_neg h
theorem fro_of {n x : Int} (h : ¬ thr n x) : fro n x = 0 := if_neg h
theorem til_of {n x : Int} (h : ¬ thr n x) : til n x = 0 := if_neg h
theorem babove_ok (n x : Int) (w : World) : Calls Tryz.prog 143 #[.int .i64 n, .int .i64 x] w fun en w' => en = .returned (.int .i64 (ab n x)) ∧ St w [] w' := by
  have hM := Mem.start (Fz.of w)
  refine C_bough_Above ?_
  unfold F_bough_Above
  refine ⟨fun v w' => v = .bool (decide (¬ thr n x ∨ x = root n)) ∧ hM.now w', ?_, ?_⟩
  · by_cases ht : thr n x
    · ((with_reducible (refine mm_purC hM ?_ (fun _ hM2 => ?_))); (focus (first | exact trivial | assumption | omega)); (with_reducible (replace hM := hM2; clear hM2; refine mop_c trivial ?_)))
      rw [decide_eq_true ht, Bool.not_true]
      ((with_reducible (refine mguard_yes ?_; refine mop_c trivial ?_; refine mguard_yes ?_; refine mop_c trivial ?_; refine mguard_yes ?_; refine mm_purC hM ?_ ?_)); (focus (first | exact trivial | assumption | omega)); (with_reducible (clear hM; intro _ hM; refine mguard_yes ?_)))
      ((with_reducible (refine mop_cS trivial ?_ ?_)))
      · intro h
        ((with_reducible (refine mop_c trivial ?_)))
        exact ⟨by rw [decide_eq_true (.inr h)], hM⟩
      · intro h
        ((with_reducible (refine mop_c trivial ?_)))
        exact ⟨by rw [decide_eq_false (by simp [ht, h])], hM⟩
    · ((with_reducible (refine mm_purC hM ?_ (fun _ hM2 => ?_))); (focus (first | exact trivial | assumption | omega)); (with_reducible (replace hM := hM2; clear hM2; refine mop_c trivial ?_)))
      rw [decide_eq_false ht, Bool.not_false]
      ((with_reducible ((iterate 4 refine mguard_n1 ?_); refine mop_c trivial ?_)))
      exact ⟨by rw [decide_eq_true (.inl ht)], hM⟩
  rintro v u w2 ⟨rfl, hM⟩
  by_cases ht : thr n x
  · obtain ⟨-, -, hA, -, -, -, -, hu, -⟩ := bough_eq ht
    rw [← hA]
    by_cases hr : x = root n
    · rw [decide_eq_true (.inr hr)]
      ((with_reducible (refine mif_true ?_)))
      exact ⟨by unfold pAbove; rw [if_neg (fun h => h.2 hr)], hM.st⟩
    · rw [decide_eq_false (by simp [ht, hr])]
      have hu := hu hr
      ((with_reducible (refine mif_false ?_)))
      rw [show pAbove n x = ug 8 n x from if_pos ⟨ht, hr⟩]
      refine ⟨fun v w' => ∃ (f : Nat) (y : Int), v = .int .i64 y ∧ oku f n y = true ∧ ug 8 n x = ug f n y ∧ hM.now w', fun v _ => match v with | .int _ k => (8 - level k).toNat | _ => 0, ⟨8, _, rfl, hu, rfl, hM⟩, ?_⟩
      rintro v i w2 ⟨f, y, rfl, ho, he, hM⟩
      cases f with
      | zero => simp [oku] at ho
      | succ f =>
        simp only [oku, Bool.and_eq_true, Bool.or_eq_true, decide_eq_true_eq] at ho
        obtain ⟨hy, ho⟩ := ho
        obtain ⟨-, hb, hv, -, h7⟩ := up_eq hy
        have hl := level_rng y
        ((with_reducible (refine mm_purC hM ?_ ?_)); (focus (first | exact trivial | assumption | omega)); (with_reducible (clear hM; intro _ hM; refine dp_c ?_ ?_)); (focus omega); (with_reducible (refine dp_c ?_ ?_)); (focus omega); (with_reducible (refine dp_c trivial ?_; refine dp_c ?_ ?_)); (focus omega); (with_reducible (refine dp_c trivial ?_; refine mm_end hM ?_; clear hM; intro _ hM; refine mm_purC hM ?_ ?_)); (focus (first | exact trivial | assumption | omega)); (with_reducible (clear hM; intro _ hM)))
        rw [hb]
        by_cases hty : thr n (up1 y)
        · skip
          rw [decide_eq_true hty]
          ((with_reducible (refine mif_true ?_)))
          exact ⟨by rw [he, ug, if_pos hty], hM.st⟩
        · have ho := ho.resolve_left hty
          skip
          rw [decide_eq_false hty]
          ((with_reducible (refine mif_false ?_)))
          refine ⟨⟨f, _, rfl, ho, by rw [he, ug, if_neg hty], hM⟩, ?_⟩
          simp only
          omega
  · rw [decide_eq_true (.inl ht), ab_of ht]
    ((with_reducible (refine mif_true ?_)))
    exact ⟨rfl, hM.st⟩
theorem bleaves_ok (n x : Int) (w : World) : Calls Tryz.prog 80 #[.int .i64 n, .int .i64 x] w fun en w' => en = .returned (.tuple #[.int .i64 (fro n x), .int .i64 (til n x)]) ∧ St w [] w' := by
  have hM := Mem.start (Fz.of w)
  refine C_bough_Leaves ?_
  unfold F_bough_Leaves
  by_cases ht : thr n x
  · obtain ⟨h1, h2, h3⟩ := id ht
    obtain ⟨-, -, -, -, hF, hT, -⟩ := bough_eq ht
    obtain ⟨-, -, -, hq, h7⟩ := up_eq (x := x) (by omega)
    have hl := level_rng x
    have hp := pw_rng (k := level x) (by omega)
    rw [← hF, ← hT]
    unfold pFrom pTo
    rw [if_pos ht, if_pos ht, min_if]
    ((with_reducible (refine mm_purC hM ?_ ?_)); (focus (first | exact trivial | assumption | omega)); (with_reducible (clear hM; intro _ hM; refine mop_c trivial ?_)))
    rw [decide_eq_true ht]
    ((with_reducible (refine mif_nt ?_; refine mm_purC hM ?_ ?_)); (focus (first | exact trivial | assumption | omega)); (with_reducible (clear hM; intro _ hM; refine mop_c ?_ ?_)); (focus omega); (with_reducible (refine mop_c ?_ ?_)); (focus omega); (with_reducible (refine mop_c ?_ ?_)); (focus omega); (with_reducible (refine mop_c ?_ ?_)); (focus omega); (with_reducible (refine mop_c ?_ ?_)); (focus omega); (with_reducible (refine mop_c ?_ ?_)); (focus omega); (with_reducible (refine mop_c ?_ ?_)); (focus omega))
    exact ⟨rfl, hM.st⟩
  · rw [fro_of ht, til_of ht]
    ((with_reducible (refine mm_purC hM ?_ ?_)); (focus (first | exact trivial | assumption | omega)); (with_reducible (clear hM; intro _ hM; refine mop_c trivial ?_)))
    rw [decide_eq_false ht]
    ((with_reducible (refine mif_nf ?_)))
    exact ⟨rfl, hM.st⟩
instance (n x : Int) : PurC Tryz.prog 80 [.int .i64 n, .int .i64 x] True (.tuple #[.int .i64 (fro n x), .int .i64 (til n x)]) := ⟨fun _ w => bleaves_ok n x w⟩
theorem bholds_ok (n x p : Int) (w : World) : Calls Tryz.prog 32 #[.int .i64 n, .int .i64 x, .int .i64 p] w fun en w' => en = .returned (.bool (decide (hld n x p))) ∧ St w [] w' := by
  have hM := Mem.start (Fz.of w)
  refine C_bough_Holds ?_
  unfold F_bough_Holds
  ((with_reducible (refine mm_purC hM ?_ ?_)); (focus (first | exact trivial | assumption | omega)); (with_reducible (clear hM; intro _ hM; refine mop_c trivial ?_; refine mop_c trivial ?_)))
  ((with_reducible (refine mop_cS trivial ?_ ?_)))
  · intro h1
    ((with_reducible (refine mguard_yes ?_; refine mop_c trivial ?_; refine mguard_yes ?_; refine mop_c trivial ?_; refine mguard_yes ?_)))
    ((with_reducible (refine mop_cS trivial ?_ ?_)))
    · intro h2
      ((with_reducible (refine mop_c trivial ?_)))
      exact ⟨by rw [decide_eq_true (show hld n x p from ⟨h1, h2⟩)], hM.st⟩
    · intro h2
      ((with_reducible (refine mop_c trivial ?_)))
      exact ⟨by rw [decide_eq_false (show ¬ hld n x p from fun h => h2 h.2)], hM.st⟩
  · intro h1
    ((with_reducible ((iterate 3 refine mguard_n2 ?_); refine mop_c trivial ?_)))
    exact ⟨by rw [decide_eq_false (show ¬ hld n x p from fun h => h1 h.1)], hM.st⟩
instance (n x p : Int) : PurC Tryz.prog 32 [.int .i64 n, .int .i64 x, .int .i64 p] True (.bool (decide (hld n x p))) := ⟨fun _ w => bholds_ok n x p w⟩
theorem rright_ok (n x : Int) (w : World) : Calls Tryz.prog 54 #[.int .i64 n, .int .i64 x] w fun en w' => en = .returned (.int .i64 (rt n x)) ∧ St w [] w' := by
  have hM := Mem.start (Fz.of w)
  refine C_bevyref07_Right ?_
  unfold F_bevyref07_Right
  by_cases ht : thr n x
  · obtain ⟨b1, b2, b3⟩ := fd_eq ht
    rw [show rt n x = (if (fd n x).2.1 = 1 then -1 else rootI ((fd n x).1 + halfI (fd n x).2.1) ((fd n x).2.1 - halfI (fd n x).2.1)) from if_pos ht]
    have hh := half_b (n := (fd n x).2.1) (by omega)
    ((with_reducible (refine mm_purC hM ?_ ?_)); (focus (first | exact trivial | assumption | omega)); (with_reducible (clear hM; intro _ hM; refine mop_c trivial ?_)))
    rw [decide_eq_true ht]
    ((with_reducible (refine mif_nt ?_; refine mm_purC hM ?_ ?_)); (focus (first | exact trivial | assumption | omega)); (with_reducible (clear hM; intro _ hM; (iterate 4 refine mop_c trivial ?_))))
    ((with_reducible (refine mop_cS trivial ?_ ?_)))
    · intro h
      ((with_reducible (refine mif_true ?_)))
      exact ⟨by rw [if_pos h], hM.st⟩
    · intro h
      have h3 := hh.2.2.1 (by omega)
      ((with_reducible (refine mif_false ?_; refine mm_purC hM ?_ ?_)); (focus (first | exact trivial | assumption | omega)); (with_reducible (clear hM; intro _ hM; refine mop_c ?_ ?_)); (focus omega); (with_reducible (refine mm_purC hM ?_ ?_)); (focus (first | exact trivial | assumption | omega)); (with_reducible (clear hM; intro _ hM; refine mop_c ?_ ?_)); (focus omega); (with_reducible (refine mm_purC hM ?_ ?_)); (focus (first | exact trivial | assumption | omega)); (with_reducible (clear hM; intro _ hM)))
      exact ⟨by rw [if_neg h], hM.st⟩
  · rw [rt_of ht]
    ((with_reducible (refine mm_purC hM ?_ ?_)); (focus (first | exact trivial | assumption | omega)); (with_reducible (clear hM; intro _ hM; refine mop_c trivial ?_)))
    rw [decide_eq_false ht]
    ((with_reducible (refine mif_nf ?_)))
    exact ⟨rfl, hM.st⟩
theorem rleaves_ok (n x : Int) (w : World) : Calls Tryz.prog 79 #[.int .i64 n, .int .i64 x] w fun en w' => en = .returned (.tuple #[.int .i64 (fro n x), .int .i64 (til n x)]) ∧ St w [] w' := by
  have hM := Mem.start (Fz.of w)
  refine C_bevyref07_Leaves ?_
  unfold F_bevyref07_Leaves
  by_cases ht : thr n x
  · obtain ⟨b1, b2, b3⟩ := fd_eq ht
    rw [show fro n x = (fd n x).1 from if_pos ht, show til n x = (fd n x).1 + (fd n x).2.1 from if_pos ht]
    ((with_reducible (refine mm_purC hM ?_ ?_)); (focus (first | exact trivial | assumption | omega)); (with_reducible (clear hM; intro _ hM; refine mop_c trivial ?_)))
    rw [decide_eq_true ht]
    ((with_reducible (refine mif_nt ?_; refine mm_purC hM ?_ ?_)); (focus (first | exact trivial | assumption | omega)); (with_reducible (clear hM; intro _ hM; (iterate 4 refine mop_c trivial ?_); refine mop_c ?_ ?_)); (focus omega))
    exact ⟨rfl, hM.st⟩
  · rw [fro_of ht, til_of ht]
    ((with_reducible (refine mm_purC hM ?_ ?_)); (focus (first | exact trivial | assumption | omega)); (with_reducible (clear hM; intro _ hM; refine mop_c trivial ?_)))
    rw [decide_eq_false ht]
    ((with_reducible (refine mif_nf ?_)))
    exact ⟨rfl, hM.st⟩
instance (n x : Int) : PurC Tryz.prog 79 [.int .i64 n, .int .i64 x] True (.tuple #[.int .i64 (fro n x), .int .i64 (til n x)]) := ⟨fun _ w => rleaves_ok n x w⟩
theorem rholds_ok (n x p : Int) (w : World) : Calls Tryz.prog 30 #[.int .i64 n, .int .i64 x, .int .i64 p] w fun en w' => en = .returned (.bool (decide (hld n x p))) ∧ St w [] w' := by
  have hM := Mem.start (Fz.of w)
  refine C_bevyref07_Holds ?_
  unfold F_bevyref07_Holds
  ((with_reducible (refine mm_purC hM ?_ ?_)); (focus (first | exact trivial | assumption | omega)); (with_reducible (clear hM; intro _ hM; refine mop_c trivial ?_; refine mop_c trivial ?_)))
  ((with_reducible (refine mop_cS trivial ?_ ?_)))
  · intro h1
    ((with_reducible (refine mguard_yes ?_; refine mop_c trivial ?_; refine mguard_yes ?_; refine mop_c trivial ?_; refine mguard_yes ?_)))
    ((with_reducible (refine mop_cS trivial ?_ ?_)))
    · intro h2
      ((with_reducible (refine mop_c trivial ?_)))
      exact ⟨by rw [decide_eq_true (show hld n x p from ⟨h1, h2⟩)], hM.st⟩
    · intro h2
      ((with_reducible (refine mop_c trivial ?_)))
      exact ⟨by rw [decide_eq_false (show ¬ hld n x p from fun h => h2 h.2)], hM.st⟩
  · intro h1
    ((with_reducible ((iterate 3 refine mguard_n2 ?_); refine mop_c trivial ?_)))
    exact ⟨by rw [decide_eq_false (show ¬ hld n x p from fun h => h1 h.1)], hM.st⟩
instance (n x p : Int) : PurC Tryz.prog 30 [.int .i64 n, .int .i64 x, .int .i64 p] True (.bool (decide (hld n x p))) := ⟨fun _ w => rholds_ok n x p w⟩
end
end Go.Proofs.YtopcnkejobomaaaGreat
namespace Go.Proofs.YtopcnkejobomaaaGreat
open Go.RowKit
def cand (k l : Nat) : Int := (l / 2 ^ k * 2 ^ (k + 1) + 2 ^ k - 1 : Nat)
def cands (n l : Nat) : List Int := ([1, 2, 3, 4, 5, 6].map fun k => cand k l).filter fun x => decide (x ≤ 2 * (n : Int) - 2)
set_option maxRecDepth 100000 in
theorem dir_fin : ∀ n : Fin 65, ∀ l : Fin 64, l.val < n.val → dirL n.val l.val = cands n.val l.val := by decide +kernel
set_option maxRecDepth 100000 in
theorem hold_fin : ∀ i : Fin 63, ∀ l : Fin 64, (1 ≤ level (2 * (i.val : Int) + 1) ∧ level (2 * (i.val : Int) + 1) ≤ 6) ∧ (((2 * (i.val : Int) + 1 + 1 - pw (level (2 * i.val + 1))) / 2 ≤ l.val ∧ (l.val : Int) < (2 * i.val + 1 + 1 + pw (level (2 * i.val + 1))) / 2) ↔ cand (level (2 * i.val + 1)).toNat l.val = 2 * i.val + 1) := by decide +kernel
set_option maxRecDepth 100000 in
theorem cand_fin : ∀ k : Fin 7, ∀ l : Fin 64, 1 ≤ k.val → cand k.val l.val % 2 = 1 ∧ 0 ≤ cand k.val l.val ∧ cand k.val l.val < 127 ∧ level (cand k.val l.val) = k.val := by decide +kernel
def okd : Nat → Int → Int → Bool
  | 0, n, x => decide (ab n x < 0)
  | f + 1, n, x => decide (ab n x < 0) || okd f n (ab n x)
set_option maxRecDepth 100000 in
theorem okd_fin : ∀ n : Fin 65, ∀ x : Fin 127, thr (n.val : Int) (x.val : Int) → okd 8 n.val x.val = true := by decide +kernel
set_option maxRecDepth 100000 in
theorem lvl_fin : ∀ n : Fin 65, ∀ x : Fin 127, thr (n.val : Int) (x.val : Int) → ab n.val x.val < 0 ∨ level x.val < level (ab n.val x.val) ∧ level (ab n.val x.val) ≤ 7 := by decide +kernel
end Go.Proofs.YtopcnkejobomaaaGreat
namespace Go.Proofs.YtopcnkejobomaaaGreat
open Go.RowKit Go.Lib
theorem okd_eq (n x : Int) : okd 8 n x = true := by
  by_cases h : thr n x
  · obtain ⟨h1, h2, h3⟩ := id h
    have := okd_fin ⟨n.toNat, by omega⟩ ⟨x.toNat, by omega⟩
    simp only [Int.toNat_of_nonneg h2, Int.toNat_of_nonneg (show 0 ≤ n by omega)] at this
    exact this h
  · simp [okd, ab_of h]
theorem dirF_end {f : Nat} {n x : Int} (h : ab n x < 0) : dirF f n x = [] := by
  cases f with
  | zero => rfl
  | succ f => rw [dirF, if_pos h]
theorem dirF_step {f : Nat} {n x : Int} (h : ¬ ab n x < 0) (ho : okd f n x = true) : ∃ g, f = g + 1 ∧ dirF f n x = ab n x :: dirF g n (ab n x) ∧ okd g n (ab n x) = true := by
  cases f with
  | zero => simp [okd] at ho; omega
  | succ f =>
    simp only [okd, Bool.or_eq_true, decide_eq_true_eq] at ho
    exact ⟨f, rfl, by rw [dirF, if_neg h], ho.resolve_left h⟩
theorem dirF_len : ∀ (f : Nat) (n x : Int), (dirF f n x).length ≤ f
  | 0, n, x => by simp [dirF]
  | f + 1, n, x => by
    rw [dirF]
    split
    · simp
    · have := dirF_len f n (ab n x)
      simp only [List.length_cons]
      omega
theorem dirL_len (n l : Int) : (dirL n l).length ≤ 8 := by
  unfold dirL
  split
  · exact dirF_len 8 n _
  · simp
abbrev ints8 (l : List Int) : List (List Fd) := l.map fun x => [.one (.int .i64 x)]
theorem ints8_app (a b : List Int) : ints8 (a ++ b) = ints8 a ++ ints8 b := by simp [ints8]
theorem els_ints8 (l : List Int) : Els 1 (ints8 l) := Els.map (f := fun x => [.one (.int .i64 x)]) l fun _ => ⟨inferInstance, rfl⟩
theorem ints8_at {l : List Int} {i : Nat} (h : i < l.length) : (ints8 l)[i]? = some [.one (.int .i64 l[i])] := by simp [ints8, h]
end Go.Proofs.YtopcnkejobomaaaGreat
namespace Go.Proofs.YtopcnkejobomaaaGreat
open Go.RowKit
structure Lf where
  name : Int
  pub : H32
  ver : H32
  abv : H32
deriving DecidableEq
abbrev Lf.fds (l : Lf) : List Fd := [.one (.int .i64 l.name), .arr 32 (u8s l.pub.1), .arr 32 (u8s l.ver.1), .arr 32 (u8s l.abv.1)]
abbrev lv (l : Lf) : Value := .agg (fl l.fds).toArray
def Lf.zero : Lf := ⟨0, hzero, hzero, hzero⟩
structure Pn where
  set : Bool
  pub : H32
  abv : H32
  loose : List Int
deriving DecidableEq
def Pn.zero : Pn := ⟨false, hzero, hzero, []⟩
structure Tr where
  ls : List Lf
  ps : List Pn
deriving DecidableEq
def Tr.none : Tr := ⟨[], []⟩
def nameAt (ls : List Lf) (p : Int) : Int := match ls[p.toNat]? with
  | some l => l.name
  | none => 0
def leavesB : List Int → List Lf → Bool
  | _, [] => true
  | s, l :: r => if l = Lf.zero then leavesB s r else decide ((1 ≤ l.name ∧ l.name ≤ 64) ∧ l.name ∉ s) && leavesB (l.name :: s) r
def looseB (n : Int) (ls : List Lf) (x : Int) : Option Int → List Int → Bool
  | _, [] => true
  | o, p :: r => decide (hld n x p ∧ nameAt ls p ≠ 0 ∧ ∀ q ∈ o, q < p) && looseB n ls x (some p) r
def Pn.isZero (p : Pn) : Prop := p.set = false ∧ p.pub = hzero ∧ p.abv = hzero ∧ p.loose = []
instance (p : Pn) : Decidable p.isZero := by unfold Pn.isZero; infer_instance
def parB (n : Int) (ls : List Lf) : Int → List Pn → Bool
  | _, [] => true
  | x, p :: r => (p.set || decide p.isZero) && looseB n ls x none p.loose && parB n ls (x + 2) r
abbrev Tr.size (t : Tr) : Int := t.ls.length
def Tr.right (t : Tr) : Bool := decide (t.ls.length ≤ 64 ∧ t.ps.length = t.ls.length - 1) && leavesB [] t.ls && parB t.size t.ls 1 t.ps && decide (t.ls = [] ∨ 0 < nameAt t.ls (t.size - 1))
def Tr.few (t : Tr) : Prop := t.ls.length ≤ 100 ∧ t.ps.length ≤ 100 ∧ ∀ p ∈ t.ps, p.loose.length ≤ 100
abbrev Pn.row (p : Pn) (C : Option Addr) (c : Nat) : List Fd := [.one (.bool p.set), .arr 32 (u8s p.pub.1), .arr 32 (u8s p.abv.1), .one (.slice C p.loose.length c)]
def PnF (H : Hp) (q : List Fd) (p : Pn) : Prop := ∃ C c, q = p.row C c ∧ Sl H 1 C (ints8 p.loose) ∧ p.loose.length ≤ maxLen
theorem PnF.mono {H H' : Hp} {q : List Fd} {p : Pn} (h : PnF H q p) (k : H.le H') : PnF H' q p := by
  obtain ⟨C, c, h1, h2, h3⟩ := h
  exact ⟨C, c, h1, h2.mono k, h3⟩
theorem All2.mono {α : Type} {r r' : List Fd → α → Prop} (h : ∀ q x, r q x → r' q x) : ∀ {ps : List (List Fd)} {xs : List α}, All2 r ps xs → All2 r' ps xs
  | [], [], _ => trivial
  | _ :: _, _ :: _, k => ⟨h _ _ k.1, k.2.mono h⟩
  | [], _ :: _, k => k.elim
  | _ :: _, [], k => k.elim
theorem All2.at_ {α : Type} {r : List Fd → α → Prop} : ∀ {ps : List (List Fd)} {xs : List α}, All2 r ps xs → ∀ {i : Nat} (h : i < xs.length), ∃ q, ps[i]? = some q ∧ r q xs[i]
  | [], [], _, i, h => by cases h
  | q :: ps, x :: xs, k, 0, _ => ⟨q, rfl, k.1⟩
  | q :: ps, x :: xs, k, i + 1, h => by
    obtain ⟨q', h1, h2⟩ := k.2.at_ (i := i) (by simpa using h)
    exact ⟨q', by simpa using h1, by simpa using h2⟩
  | [], _ :: _, k, _, _ => k.elim
  | _ :: _, [], k, _, _ => k.elim
abbrev tfd (A : Option Addr) (n a : Nat) (B : Option Addr) (m b : Nat) : List Fd := [.one (.slice A n a), .one (.slice B m b)]
abbrev tv (A : Option Addr) (n a : Nat) (B : Option Addr) (m b : Nat) : Value := .agg (fl (tfd A n a B m b)).toArray
theorem lf_zero (l : Lf) : l = Lf.zero ↔ (l.name = 0 ∧ l.pub = hzero ∧ l.ver = hzero ∧ l.abv = hzero) := by
  cases l
  simp [Lf.zero]
structure TrF (H : Hp) (v : Value) (t : Tr) : Prop where
  ex : ∃ A a B b qs, v = tv A t.ls.length a B t.ps.length b ∧ Sl H 97 A (t.ls.map Lf.fds) ∧ Sl H 66 B qs ∧ All2 (PnF H) qs t.ps
  len : t.ls.length ≤ maxLen ∧ t.ps.length ≤ maxLen
theorem TrF.mono {H H' : Hp} {v : Value} {t : Tr} (h : TrF H v t) (k : H.le H') : TrF H' v t := by
  obtain ⟨A, a, B, b, qs, h1, h2, h3, h4⟩ := h.ex
  exact ⟨⟨A, a, B, b, qs, h1, h2.mono k, h3.mono k, h4.mono fun _ _ h => h.mono k⟩, h.len⟩
end Go.Proofs.YtopcnkejobomaaaGreat
namespace Go.Proofs.YtopcnkejobomaaaGreat
open Go.RowKit
theorem rdr_hash : Rdr Tryz.prog 33 32 (fun _ fs (x : H32) => fs = [.arr 32 (u8s x.1)]) := rdr_h32 Tryz.underlying33 Tryz.underlying5 (by kernel_rfl) (by kernel_rfl)
theorem rdr_i64 : Rdr Tryz.prog 3 1 (fun _ fs (x : Int) => fs = [.one (.int .i64 x)] ∧ (Lit.int .i64 x).wf = true) := rdr_int Tryz.underlying3 (by kernel_rfl)
theorem rdr_bo : Rdr Tryz.prog 4 1 (fun _ fs (x : Bool) => fs = [.one (.bool x)]) := rdr_bool Tryz.underlying4 (by kernel_rfl)
theorem rdr_lf : Rdr Tryz.prog 57 97 (fun _ fs (x : Lf) => fs = x.fds ∧ True) :=
  (rdr_struct (sz := 97) Tryz.underlying57 (by kernel_rfl) (Rdf.cons rdr_i64 rfl rfl rfl (Rdf.cons rdr_hash rfl rfl rfl (Rdf.cons rdr_hash rfl rfl rfl (Rdf.cons rdr_hash rfl rfl rfl (Rdf.nil _)))))).map fun _ fs x _ h => by
    obtain ⟨g1, h1, rfl, _, ⟨rfl, _⟩, g2, h2, rfl, _, rfl, g3, h3, rfl, _, rfl, g4, h4, rfl, _, rfl, rfl⟩ := h
    exact ⟨⟨x.1, x.2.1, x.2.2.1, x.2.2.2.1⟩, rfl, trivial⟩
theorem rdr_ints8 : Rdr Tryz.prog 29 1 (fun H fs (xs : List Int) => ∃ A cap, fs = [.one (.slice A xs.length cap)] ∧ xs.length ≤ maxLen ∧ Sl H 1 A (ints8 xs)) :=
  (rdr_slice Tryz.underlying29 (by kernel_rfl) (by omega) rdr_i64).map fun H fs xs _ ⟨A, cap, ps, h1, h2, h3, h4⟩ => by
    obtain ⟨rfl, _⟩ := All2.eq_map h4
    exact ⟨xs, A, cap, h1, h2, h3⟩
theorem rdr_pn : Rdr Tryz.prog 61 66 PnF :=
  (rdr_struct (sz := 66) Tryz.underlying61 (by kernel_rfl) (Rdf.cons rdr_bo rfl rfl rfl (Rdf.cons rdr_hash rfl rfl rfl (Rdf.cons rdr_hash rfl rfl rfl (Rdf.cons rdr_ints8 rfl rfl rfl (Rdf.nil _)))))).map fun _ fs x _ h => by
    obtain ⟨g1, h1, rfl, _, rfl, g2, h2, rfl, _, rfl, g3, h3, rfl, _, rfl, g4, h4, rfl, _, ⟨A, c, rfl, hl, hs⟩, rfl⟩ := h
    exact ⟨⟨x.1, x.2.1, x.2.2.1, x.2.2.2.1⟩, A, c, rfl, hs, hl⟩
theorem rdr_lfs : Rdr Tryz.prog 22 1 (fun H fs (xs : List Lf) => ∃ A cap, fs = [.one (.slice A xs.length cap)] ∧ xs.length ≤ maxLen ∧ Sl H 97 A (xs.map Lf.fds)) :=
  (rdr_slice Tryz.underlying22 (by kernel_rfl) (by omega) rdr_lf).map fun H fs xs _ ⟨A, cap, ps, h1, h2, h3, h4⟩ => by
    obtain ⟨rfl, _⟩ := All2.eq_map h4
    exact ⟨xs, A, cap, h1, h2, h3⟩
theorem rdr_pns : Rdr Tryz.prog 23 1 (fun H fs (xs : List Pn) => ∃ A cap ps, fs = [.one (.slice A xs.length cap)] ∧ xs.length ≤ maxLen ∧ Sl H 66 A ps ∧ All2 (PnF H) ps xs) :=
  rdr_slice Tryz.underlying23 (by kernel_rfl) (by omega) rdr_pn
end Go.Proofs.YtopcnkejobomaaaGreat
namespace Go.Proofs.YtopcnkejobomaaaGreat
open Go.RowKit Go.Shelf Go.Lib
attribute [local go_sem] Oper.semAt_some
theorem lvl_eq {n x : Int} (h : thr n x) : ab n x < 0 ∨ level x < level (ab n x) ∧ level (ab n x) ≤ 7 := by
  obtain ⟨h1, h2, h3⟩ := id h
  have := lvl_fin ⟨n.toNat, by omega⟩ ⟨x.toNat, by omega⟩
  simp only [Int.toNat_of_nonneg h2, Int.toNat_of_nonneg (show 0 ≤ n by omega)] at this
  exact this h
theorem ab_pos {n x : Int} (h : ¬ ab n x < 0) : thr n x := Decidable.byContradiction fun hn => h (by rw [ab_of hn]; omega)
theorem Only.grown0 {w w' : World} (h : Only (fun k => ∃ b ∈ ([] : List Bk), b.nw = false ∧ b.g = k) w w') : w.grownBy w' none := ⟨h.os, h.tape, h.output, h.size, fun k hk _ => h.block k hk (by rintro ⟨_, hm, _⟩; cases hm)⟩
theorem bup_ok (n x : Int) (w : World) : Calls Tryz.prog 114 #[.int .i64 n, .int .i64 x] w fun en w' => ∃ b1 b2, en = .returned (.func (.func 142) #[] #[.pointer (some ⟨b1, 0, none⟩), .pointer (some ⟨b2, 0, none⟩)]) ∧ Mem (Hp.of w) w [fb b2 3 [.one (.int .i64 x)], fb b1 3 [.one (.int .i64 n)]] w' := by
  have hM := Mem.start (Fz.of w)
  refine C_bough_up ?_
  unfold F_bough_up
  ((with_reducible (refine mm_box hM ?_; clear hM; intro _ _ hM; refine mm_box hM ?_; clear hM; intro _ _ hM; refine mop_c trivial ?_)))
  exact ⟨_, _, rfl, hM⟩
def mea (v : Value) : Nat := match v with
  | .int _ k => if k < 0 then 0 else (9 - level k).toNat
  | _ => 0
set_option maxRecDepth 100000 in
set_option maxHeartbeats 1000000 in
theorem up1_in (m : Nat) (hm : 2 ≤ m) (l b1 b2 : Nat) (n x : Int) (W0 : Nat) (J Jx : List Int → World → Prop) (hJ : AbidesFrom W0 J)
    (hY : ∀ pre y W, J pre W → pre.length < (dirF 8 n x).length → YieldAt Fence.wide (m - 1) Tryz.prog l #[.int .i64 y] W fun e W' =>
      (e = .returned (.bool true) ∧ J (pre ++ [y]) W' ∧ W'.heap[b1]? = W.heap[b1]?) ∨ (e = .returned (.bool false) ∧ Jx (pre ++ [y]) W'))
    (W : World) (l1 : b1 < W.heap.size) (h1 : W.cell? ⟨b1, 0, none⟩ = some (.int .i64 n)) (h2 : W.cell? ⟨b2, 0, none⟩ = some (.int .i64 x)) (h0 : J [] W) :
    CallsIn Fence.wide m Tryz.prog 142 #[.func (.yield l) #[] #[], .pointer (some ⟨b1, 0, none⟩), .pointer (some ⟨b2, 0, none⟩)] W fun e W' => (∃ v, e = .returned v) ∧
      ((∃ ys, ys = dirF 8 n x ∧ J ys W') ∨ (∃ pre, pre <+: dirF 8 n x ∧ Jx pre W')) := by
  have f1 : Fence.wide.fn 143 := trivial
  have m1 : 1 ≤ m := by omega
  refine callsIn_of_wp Tryz.func142 rfl trivial ?_ rfl
  simp only [Tryz.ntmps142, List.size_toArray, List.length_cons, List.length_nil, Nat.reduceAdd, Nat.reduceSub, Array.replicate_succ, Array.replicate_zero, List.push_toArray, List.append_toArray, List.nil_append, List.cons_append]
  gi_wp2_with (gi_at_call 143; refine (callsIn_wide.2 (babove_ok n x _)).mono ?_; rintro e w1 ⟨rfl, hst⟩)
  have hg := Only.grown0 hst.only
  have hb1 : w1.heap[b1]? = W.heap[b1]? ∧ W.heap.size ≤ w1.heap.size := ⟨hg.block b1 l1 (by simp), hg.size⟩
  have hJ1 : J [] w1 := hJ [] W w1 none h0 hg (fun r e => by cases e)
  gi_loopw [4] (fun p wr => ∃ (f : Nat) (y : Int) (pre : List Int), p = .int .i64 (ab n y) ∧ dirF 8 n x = pre ++ dirF f n y ∧ okd f n y = true ∧ J pre wr ∧ wr.heap[b1]? = W.heap[b1]?) (fun p _ => mea p)
  case atStart =>
    exact ⟨8, x, [], rfl, rfl, okd_eq _ _, hJ1, hb1.1⟩
  case round =>
    obtain ⟨f, y, pre, rfl, hx, ho, hJs, hB⟩ := hrel
    have c1 : wr.cell? ⟨b1, 0, none⟩ = some (.int .i64 n) := (World.cell?_of_block (w := W) (a := ⟨b1, 0, none⟩) hB).trans h1
    by_cases hp : ab n y < 0
    · have hq : ¬ 0 ≤ ab n y := by omega
      gi_wp2
      refine ⟨fun _ h => (by cases h), ?_⟩
      gi_wp2
      go_end0
      exact ⟨⟨_, rfl⟩, .inl ⟨pre, by rw [hx, dirF_end hp, List.append_nil], hJs⟩⟩
    · have hq : 0 ≤ ab n y := by omega
      obtain ⟨g, rfl, e2, ho⟩ := dirF_step hp ho
      obtain ⟨fn, tmps, assign, body, hy, hR⟩ := hY pre (ab n y) wr hJs (by rw [hx, e2]; simp)
      gi_wp2
      refine hR.mono ?_
      rintro e W3 (⟨rfl, hJ3, hk3⟩ | ⟨rfl, hJx3⟩)
      · have c3 : W3.cell? ⟨b1, 0, none⟩ = some (.int .i64 n) := (World.cell?_of_block (w := wr) (a := ⟨b1, 0, none⟩) hk3).trans c1
        gi_wp2_with (gi_at_call 143; refine (callsIn_wide.2 (babove_ok n (ab n y) _)).mono ?_; rintro e w4 ⟨rfl, hst4⟩)
        have hg4 := Only.grown0 hst4.only
        have hB3 := hk3.trans hB
        have hl3 : b1 < W3.heap.size := by
          have e : W3.heap[b1]? = some W.heap[b1] := by rw [hB3]; simp [l1]
          exact (Array.getElem?_eq_some_iff.1 e).1
        have hB4 : w4.heap[b1]? = W3.heap[b1]? := hg4.block b1 hl3 (by simp)
        have hJ4 : J (pre ++ [ab n y]) w4 := hJ _ W3 w4 none hJ3 hg4 (fun r e => by cases e)
        go_roundw
        case rel => exact ⟨g, ab n y, pre ++ [ab n y], rfl, by rw [hx, e2]; simp, ho, hJ4, hB4.trans hB3⟩
        case measure =>
          have hp : ¬ ab n y < 0 := by omega
          have ht := ab_thr (ab_pos hp) hp
          have := lvl_eq ht
          have h8 := level_rng (ab n y)
          have h7 := (lvl_eq (ab_pos hp)).resolve_left hp
          show mea (.int .i64 (ab n (ab n y))) < mea (.int .i64 (ab n y))
          simp only [mea]
          rw [if_neg hp]
          split <;> omega
      · gi_wp2
        go_end0
        exact ⟨⟨_, rfl⟩, .inr ⟨pre ++ [ab n y], ⟨dirF g n (ab n y), by rw [hx, e2]; simp⟩, hJx3⟩⟩
theorem up_stops (m : Nat) (hm : 2 ≤ m) (b1 b2 : Nat) (n x : Int) (w : World) (l1 : b1 < w.heap.size) (l2 : b2 < w.heap.size) (h1 : w.cell? ⟨b1, 0, none⟩ = some (.int .i64 n)) (h2 : w.cell? ⟨b2, 0, none⟩ = some (.int .i64 x)) :
    SeqStopsK Fence.wide m Tryz.prog 142 #[.pointer (some ⟨b1, 0, none⟩), .pointer (some ⟨b2, 0, none⟩)] (fun y : Int => #[Value.int .i64 y]) (fun A B => B.heap[b1]? = A.heap[b1]?) (fun ys => ys = dirF 8 n x) (fun pre => pre <+: dirF 8 n x) (dirF 8 n x).length w := fun l J Jx W hW hJ _ hY h0 =>
  up1_in m hm l b1 b2 n x W.heap.size J Jx hJ hY W (Nat.lt_of_lt_of_le l1 hW.size) ((hW.cell (p := ⟨b1, 0, none⟩) l1).trans h1) ((hW.cell (p := ⟨b2, 0, none⟩) l2).trans h2) h0
theorem Boxed.app2 {W w1 : World} {n₀ n1 B : Nat} {t e : TypeId} {size : Nat} {v v' : Value} {k m : Nat} {xs ys : List Value} {tmp : Obj}
    (hv : Boxed W B t v) (hte : t ≠ e) (hrow : W.ownsRow n₀ e size v k xs) (hn₀ : n₀ ≤ W.heap.size) (hn1 : n1 ≤ n₀) (hB : n1 ≤ B)
    (hown' : w1.ownsRow n₀ e size v' m ys) (hgrow : (W.alloc tmp).grownBy w1 v.ownBlock) :
    Boxed w1 B t v ∧ Boxed (w1.setCell ⟨B, 0, none⟩ v') B t v' ∧ (w1.setCell ⟨B, 0, none⟩ v').ownsRow n₀ e size v' m ys ∧ KeepsOthers W (w1.setCell ⟨B, 0, none⟩ v') ∧ Below n1 W (w1.setCell ⟨B, 0, none⟩ v') ∧ ∀ i, i < n₀ → i ≠ B → (w1.setCell ⟨B, 0, none⟩ v').heap[i]? = W.heap[i]? := by
  have hv1 : Boxed w1 B t v := (hv.alloc tmp).kept hgrow (hv.not_row hte hrow)
  have hge : ∀ j, v.ownBlock = some j → n₀ ≤ j := fun j ej => by
    rcases hrow.2 with ⟨rfl, _⟩ | ⟨g, cap, cur, rfl, hb, _, _⟩
    · simp [Value.ownBlock] at ej
    · obtain rfl : g = j := by simpa [Value.ownBlock] using ej
      exact hb
  refine ⟨hv1, hv1.set v', hown'.kept (grownBy_setCell' w1 B v') (.inr (hv1.not_row hte hown').symm), ?_, ?_, ?_⟩
  · refine ((KeepsOthers.alloc W tmp).trans (KeepsOthers.of_grownBy hgrow fun j o ej hj => ?_)).trans (KeepsOthers.setCell _ _ _)
    rcases (hrow.alloc tmp).2 with ⟨rfl, _⟩ | ⟨g, cap, cur, rfl, _, hgb, _⟩
    · simp [Value.ownBlock] at ej
    · obtain rfl : g = j := by simpa [Value.ownBlock] using ej
      rw [hgb] at hj; cases hj; rfl
  · refine (((Below.refl n1 W).alloc (Nat.le_trans hn1 hn₀) tmp).grown hgrow (by simp; omega) fun j ej => ?_).setCell (p := ⟨B, 0, none⟩) hB v'
    exact Nat.le_trans hn1 (hge j ej)
  · intro i hi hne
    have hs : w1.heap.size ≥ (W.alloc tmp).heap.size := hgrow.size
    rw [World.size_alloc] at hs
    rw [(grownBy_setCell' w1 B v').block i (by omega) (by simpa using hne)]
    rw [hgrow.block i (by rw [World.size_alloc]; omega) (fun e => by have := hge i e.symm; omega)]
    exact Below.heap_alloc W tmp i (by omega)
theorem info3 : (Tryz.prog.info? 3).map (fun i => (i.zero, i.size, i.bytes)) = some (some (.int .i64 0), 1, 8) := by kernel_rfl
set_option maxRecDepth 100000 in
set_option maxHeartbeats 2000000 in
theorem dir_in (n l : Int) (hl : 0 ≤ l ∧ l < n) (hb : l ≤ 1000000) (w : World) :
    Calls Tryz.prog 74 #[.int .i64 n, .int .i64 l] w fun e W' => ∃ v, e = .returned v ∧ W'.ownsRow w.heap.size 3 1 v (dirL n l).length ((dirL n l).map (Value.int .i64)) ∧ Below w.heap.size w W' := by
  have hD : dirL n l = dirF 8 n (2 * l) := if_pos hl
  have hlen := dirL_len n l
  rw [hD] at hlen ⊢
  have hw : IntKind.i64.wrap (2 * l) = 2 * l := wrap_in (by omega)
  obtain ⟨i0, hi, hz0, hz1, hz2⟩ := info_parts info3
  have f1 : Fence.wide.fn 114 := trivial
  have hn1 : ¬ l < 0 := by omega
  have hn2 : ¬ n ≤ l := by omega
  have hmx : 9 ≤ maxLen := by decide
  refine (callsIn_wide (n := 8)).1 ?_
  refine callsIn_of_wp_marks Tryz.func74 rfl trivial ?_ rfl
  simp only [Tryz.ntmps74, List.size_toArray, List.length_cons, List.length_nil, Nat.reduceAdd, Nat.reduceSub, Array.replicate_succ, Array.replicate_zero, List.push_toArray, List.append_toArray, List.nil_append, List.cons_append]
  gi_wp2_with (gi_at_call 114; refine (callsIn_wide.2 (bup_ok n (2 * l) _)).mono ?_; rintro e w2 ⟨b1, b2, rfl, hM⟩)
  have hgr := Only.grown0 hM.st.only
  have bO : Boxed w2 w.heap.size 29 (.slice none 0 0) := (Boxed.new w _ _).kept hgr (by simp)
  have hsz : w.heap.size + 1 ≤ w2.heap.size := by have := hgr.size; rwa [World.size_alloc] at this
  have hB0 : Below w.heap.size w w2 := ((Below.refl _ w).alloc (Nat.le_refl _) _).trans (hM.st.only.below (by simp) (fun i _ h => by obtain ⟨_, hm, _⟩ := h; cases hm))
  obtain ⟨k1, _⟩ := Mem.blf (g := b1) (hM.upB b1) inferInstance
  obtain ⟨k2, _⟩ := Mem.blf (g := b2) (hM.upB b2) inferInstance
  have hne : b1 ≠ w.heap.size := by
    rintro rfl
    obtain ⟨fr, h1, _⟩ := k1
    rw [show w2.heap[w.heap.size]? = _ from bO] at h1
    simp at h1
  refine wpIn_rangeFunc_ownG rfl (by omega) (gf := 142) (lb := #[.pointer (some ⟨b1, 0, none⟩), .pointer (some ⟨b2, 0, none⟩)]) rfl trivial (enters_of Tryz.func142 (by kernel_rfl) rfl)
    (up_stops _ (by omega) b1 b2 n (2 * l) w2 k1.lt k2.lt (by rw [k1.cell]; rfl) (by rw [k2.cell]; rfl)) (fun h k => Eq.trans k h) (fun W j o o' hj _ _ _ => ?kb) (Below.refl _ _) (fun _ => rfl)
    (fun pre W => (∃ v, Boxed W w.heap.size 29 v ∧ W.ownsRow w2.heap.size 3 1 v pre.length (pre.map (Value.int .i64)) ∧ True) ∧ Below w.heap.size w W ∧ w2.heap.size ≤ W.heap.size)
    (fun _ _ _ => False)
    (OwnFrom.and (Own.from (holdsRow_own w2.heap.size w.heap.size 29 3 1 (fun pre : List Int => pre.length) (fun pre => pre.map (Value.int .i64)) (fun _ _ => True)) _) (OwnFrom.and (ownFrom_below (Nat.le_refl _) (by omega)) (fun s A B row hs hg hr => Nat.le_trans hs hg.size)))
    (fun _ _ _ _ _ hs _ _ => hs)
    ⟨⟨_, bO, World.ownsRow_nil _ _ _ _, trivial⟩, hB0, Nat.le_refl _⟩
    (fun x => { tmps := #[.int .i64 n, .int .i64 l, undef, undef, .slice none 0 0, .pointer (some ⟨w.heap.size, 0, none⟩), .int .i64 x, .int .i64 l, .bool false, .bool false, .int .i64 l, .int .i64 n, .bool false, .bool false, .int .i64 n, .int .i64 l, .int .i64 (2 * l), .func (.func 142) #[] #[.pointer (some ⟨b1, 0, none⟩), .pointer (some ⟨b2, 0, none⟩)], .int .i64 x, undef, undef, undef, undef, undef], defers := [] }) ?assign ?body ?done ?stop
  case kb => exact (grownBy_putObj' W j o').block b1 (by have := k1.lt; have := (Array.getElem?_eq_some_iff.1 ‹W.heap[j]? = some o›).1; omega) (by have := k1.lt; simp; omega)
  case assign =>
    intro l x W K hK
    gi_wp2
    exact hK
  case body =>
    rintro l pre x W ⟨⟨v, hv, hrow, -⟩, hB, hsw⟩ hlt
    have hc := hv.cell
    gi_wp2_with (gi_at_builtin; refine wpListIn_append_own _ rfl _ _ 29 rfl w2.heap.size 3 i0 (.int .i64 0) 1 8 (by kernel_rfl) hi hz0 hz1 hz2 rfl (by decide) _ _ _ rfl (hrow.alloc _) ⟨W.heap.size, 0, none⟩ 1 1 [.int .i64 x] rfl rfl (cell_one_new _ _ _) (by simp [Value.oneCell']) (by omega) (by omega) (by simp; omega) ?_; intro v' w1 hown' hgrow _; obtain ⟨g', cap', rfl⟩ := ownsRow_succ hown'; obtain ⟨hv1, hv2, hr2, hk2, hb2, hx2⟩ := Boxed.app2 hv (n1 := w.heap.size) (by decide) hrow hsw (by omega) (Nat.le_refl _) hown' hgrow; have hc1 := hv1.cell; have hf1 := hv1.frozen)
    exact ⟨hk2.from _, hx2 b1 k1.lt hne, ⟨_, hv2, by simpa using hr2, trivial⟩, hB.trans hb2, Nat.le_trans hsw hb2.size⟩
  case done =>
    rintro D ys W hD rfl ⟨⟨v, hv, hrow, -⟩, hB, hsw⟩ hK
    have hc := hv.cell
    gi_wp2
    refine ⟨by simp, .inl ⟨_, _, rfl, run_takeDeferred hK, ?_⟩⟩
    exact ⟨_, results_tmp rfl _ _ _, v, rfl, ⟨(ownsRow_putObj hrow (.deferred none) hK rfl).1, (ownsRow_putObj hrow (.deferred none) hK rfl).2.imp id fun ⟨g, cap, cur, h1, h2, h3⟩ => ⟨g, cap, cur, h1, by omega, h3⟩⟩, hB.trans (belowK_b (w := w) (Nat.le_refl _) W D _ _ (by omega) hK rfl rfl)⟩
  case stop =>
    rintro D c pre W _ _ h _
    exact h.elim
set_option maxRecDepth 100000 in
set_option maxHeartbeats 2000000 in
theorem dir_nil (n l : Int) (hl : l < 0 ∨ n ≤ l) (w : World) : Calls Tryz.prog 74 #[.int .i64 n, .int .i64 l] w fun e W' => e = .returned (.slice none 0 0) ∧ Below w.heap.size w W' := by
  refine (callsIn_wide (n := 8)).1 ?_
  refine callsIn_of_wp_marks Tryz.func74 rfl trivial ?_ rfl
  simp only [Tryz.ntmps74, List.size_toArray, List.length_cons, List.length_nil, Nat.reduceAdd, Nat.reduceSub, Array.replicate_succ, Array.replicate_zero, List.push_toArray, List.append_toArray, List.nil_append, List.cons_append]
  by_cases h1 : l < 0
  · gi_wp2
    exact ⟨_, results_tmp rfl _ _ _, rfl, Below.refl _ _⟩
  · have h2 : n ≤ l := by omega
    gi_wp2
    exact ⟨_, results_tmp rfl _ _ _, rfl, Below.refl _ _⟩
theorem fls_ints8 (l : List Int) : fls (ints8 l) = l.map (Value.int .i64) := by
  induction l with
  | nil => rfl
  | cons x r ih =>
    show fls ([.one (.int .i64 x)] :: ints8 r) = _
    rw [fls_cons, ih]
    rfl
theorem own_out {H : Hp} {w W' : World} {e : TypeId} {v : Value} {D : List Int} (hf : Fz H w) (ho : W'.ownsRow w.heap.size e 1 v D.length (D.map (Value.int .i64))) (hb : Below w.heap.size w W') :
    Outp H w (fun H' v => ∃ A cap, v = .slice A D.length cap ∧ Sl H' 1 A (ints8 D)) (.returned v) W' := by
  have hst : St w [] W' := ⟨(fun _ h => by cases h), .nil, (fun _ h => by cases h), Only.of_below hb fun i hi hge => by omega⟩
  have hF : ∀ b c, H b = some c → ∃ t fr, W'.heap[b]? = some (.cells c t fr) := fun b c hc => by
    obtain ⟨t, fr, h⟩ := hf b c hc
    exact ⟨t, fr, (hb.block b (hf.lt hc)).trans h⟩
  rcases ho.2 with ⟨rfl, hn⟩ | ⟨g, cap, cur, rfl, hge, hgb, hnc, hcm, hsz, htk⟩
  · have hD : D = [] := List.eq_nil_of_length_eq_zero hn
    subst hD
    exact ⟨_, H, rfl, Le.refl _ _, ⟨⟨[], rfl, hst, fun _ h => by cases h⟩, hF⟩, none, 0, rfl, Sl.nil _ _ _⟩
  · have hg0 : H g = none := by
      cases hh : H g with
      | none => rfl
      | some c => have := hf.lt hh; omega
    refine ⟨_, fun k => if k = g then some cur else H k, rfl, ⟨fun b c hc => ?_, fun b hb' hn => ?_⟩, ⟨⟨[], rfl, hst, fun _ h => by cases h⟩, fun b c hc => ?_⟩, some ⟨g, 0, none⟩, cap, rfl, els_ints8 D, .inr ⟨g, 0, cur, rfl, if_pos rfl, fun j u hu => ?_⟩⟩
    · show (if b = g then some cur else H b) = some c
      rw [if_neg (by rintro rfl; rw [hg0] at hc; cases hc)]
      exact hc
    · show (if b = g then some cur else H b) = none
      rw [if_neg (by omega)]
      exact hn
    · have hc : (if b = g then some cur else H b) = some c := hc
      by_cases e : b = g
      · rw [if_pos e] at hc
        cases hc
        exact ⟨_, _, by rw [e]; exact hgb⟩
      · rw [if_neg e] at hc
        exact hF b c hc
    · rw [fls_ints8, ← htk] at hu
      rw [Nat.zero_add, ← Array.getElem?_toList]
      rw [List.getElem?_take] at hu
      split at hu
      · exact hu
      · cases hu
theorem bdirect_ok {H : Hp} {w : World} (n l : Int) (hb : l ≤ 1000000) (hf : Fz H w) : Calls Tryz.prog 74 #[.int .i64 n, .int .i64 l] w (Outp H w (fun H' v => ∃ A cap, v = .slice A (dirL n l).length cap ∧ Sl H' 1 A (ints8 (dirL n l)))) := by
  by_cases hl : 0 ≤ l ∧ l < n
  · refine (dir_in n l hl hb w).mono ?_
    rintro e W' ⟨v, rfl, ho, hB⟩
    exact own_out hf ho hB
  · refine (dir_nil n l (by omega) w).mono ?_
    rintro e W' ⟨rfl, hB⟩
    have : dirL n l = [] := if_neg hl
    rw [this]
    exact own_out (e := 3) (D := []) hf ⟨rfl, .inl ⟨rfl, rfl⟩⟩ hB
end Go.Proofs.YtopcnkejobomaaaGreat
namespace Go.Proofs.YtopcnkejobomaaaGreat
open Go.RowKit
theorem qguard_un {want : Bool} {run : (Value → Prop) → Prop} {K : Value → Prop} (h : K undef) : qguard undef want run K := qguard_no (by intro h; cases h) h
theorem mguard_un {want : Bool} {w : World} {run : (Value → World → Prop) → Prop} {K : Value → World → Prop} (h : K undef w) : mguard undef want run w K := mguard_no (by intro h; cases h) h
theorem lay_in (A X B Y : List Value) (o : Nat) (h : o + Y.length ≤ X.length) : lay (A ++ (X ++ B)) Y (A.length + o) = A ++ (lay X Y o ++ B) := by
  unfold lay
  rw [List.take_length_add_append, Nat.add_assoc, List.drop_length_add_append, List.take_append_of_le_length (by omega), List.drop_append_of_le_length (by omega)]
  simp
section
variable {P : Program} {H : Hp} {w0 w : World} {L : List Res} {n cap e sz by_ : Nat} {t : TypeId} {A : Option Addr} {ps : List (List Fd)} {X : List PanicEntry → World → Prop}
theorem Mem.setFld {R1 : List Res} {g k off : Nat} {fs gs fs' : List Fd} (h : Mem H w0 (rowR e sz (some ⟨g, 0, none⟩) n cap ps :: R1) w) (hk : ps[k]? = some fs) (hp : Put fs off gs fs') (hg : FOk gs) : ∃ w', (storeCells ⟨g, 0 + k * sz + off, none⟩ (fl gs) 0).run P w = .ok () w' ∧ Mem H w0 (rowR e sz (some ⟨g, 0, none⟩) n cap (ps.set k fs') :: R1) w' := by
  obtain ⟨B, ⟨B1, B2, rfl, ⟨h1, h2, h3⟩, h4⟩, hs', hb⟩ := h.own
  obtain ⟨hk', rfl⟩ := List.getElem?_eq_some_iff.1 hk
  rcases h3 with ⟨hA, h3, _⟩ | ⟨g', sp, hA, rfl, h5, h6⟩
  · cases hA
  · cases hA
    have hs' : St w0 (⟨g, e, fls ps ++ sp, true⟩ :: B2) w := hs'
    have hfl : (fls ps).length = n * sz := by rw [h1.len, h2]
    obtain ⟨hxo, hxs⟩ := h1.ok ps[k] (List.getElem_mem _)
    obtain ⟨hf', hly, hle0⟩ := hp.cells hxo hg
    have hxl : (fl ps[k]).length = sz := by rw [hxo.len, hxs]
    have hle : k * sz + sz ≤ n * sz := by rw [← Nat.succ_mul]; exact Nat.mul_le_mul_right _ (by omega)
    have hst := run_storeCells_blf (P := P) (0 + k * sz + off) (fl gs) 0 (fls ps ++ sp) w hs'.head (by rw [List.length_append, hfl]; omega) hg.one
    have ht : (fls (ps.take k)).length = k * sz := by rw [(h1.take k).len, List.length_take, Nat.min_eq_left (by omega)]
    have hlay : lay (fls ps ++ sp) (fl gs) (0 + k * sz + off + 0) = fls (ps.set k fs') ++ sp := by
      have e1 : ps = ps.take k ++ ps[k] :: ps.drop (k + 1) := by rw [List.getElem_cons_drop, List.take_append_drop]
      rw [List.set_eq_take_append_cons_drop, if_pos hk']
      conv => lhs; rw [e1]
      rw [show 0 + k * sz + off + 0 = (fls (ps.take k)).length + off by rw [ht]; omega, fls_app, fls_app, fls_cons, fls_cons, ← hly, List.append_assoc, List.append_assoc, lay_in _ _ _ _ _ hle0]
      simp
    refine ⟨_, hst, ?_⟩
    rw [hlay]
    have hl2 : (fls (ps.set k fs') ++ sp).length = (fls ps ++ sp).length := by
      rw [← hlay]
      exact lay_length _ _ _ (by rw [List.length_append, hfl]; omega)
    have hsz' : fsz fs' = sz := by
      have hh := congrArg List.length hly
      rw [lay_length _ _ _ hle0, hxl, hf'.len] at hh
      omega
    have hels : Els sz (ps.set k fs') := ⟨fun q hq => by
      rcases List.mem_or_eq_of_mem_set hq with hq | rfl
      · exact h1.ok q hq
      · exact ⟨hf', hsz'⟩⟩
    have hgg := hb ⟨g, e, fls ps ++ sp, true⟩ (by simp)
    refine ⟨⟨⟨g, e, fls (ps.set k fs') ++ sp, true⟩ :: B2, ⟨[⟨g, e, fls (ps.set k fs') ++ sp, true⟩], B2, rfl, ⟨hels, by simpa using h2, .inr ⟨g, sp, rfl, rfl, by rw [hl2]; exact h5, h6⟩⟩, h4⟩, hs'.setRow hl2, fun b hm => ?_⟩, h.fz.same fun b c hc => setRow_other w g b _ ?_⟩
    · rcases List.mem_cons.1 hm with rfl | hm
      · exact ⟨rfl, hgg.2⟩
      · exact hb b (List.mem_append.2 (.inr hm))
    · rintro rfl
      have := hgg.2
      simp only [hc] at this
      cases this
theorem run_msf {R1 : List Res} {g k off m : Nat} {tt : TypeId} {q : Bool} {v : Value} {fs gs fs' : List Fd} (h : Mem H w0 L w) (c : ShpC P tt q m) (a : AtA L (some ⟨g, 0, none⟩) n cap e sz ps R1) (hk : ps[k]? = some fs) (f : Vf v m gs) (p : Put fs off gs fs') :
    ∃ w', (o_store tt (.pointer (some ⟨g, 0 + k * sz + off, none⟩)) v).run P w = .ok .skip w' ∧ Mem H w0 (rowR e sz (some ⟨g, 0, none⟩) n cap (ps.set k fs') :: R1) w' := by
  obtain ⟨ev, hn, hp⟩ := f.ok
  obtain ⟨w', hr, hm⟩ := (h.perm a.perm).setFld (P := P) hk p hp
  refine ⟨w', ?_, hm⟩
  have e2 : v.cells.size = m := by rw [← Array.length_toList, ev, hp.len, hn]
  simp [o_store, su, Instr.storeAt, Instr.sureAddr, storeVar, run_size (shp_agg (w := w) c.ok).2, ev, e2]
  simp only [Nat.zero_add] at hr
  simp [hr]
theorem mm_stf {R1 : List Res} {g k off m : Nat} {tt : TypeId} {q : Bool} {v : Value} {fs gs fs' : List Fd} {K : Value → World → Prop} (h : Mem H w0 L w) [c : ShpC P tt q m] [a : AtA L (some ⟨g, 0, none⟩) n cap e sz ps R1] (hk : ps[k]? = some fs) [f : Vf v m gs] [p : Put fs off gs fs']
    (hK : ∀ w', Mem H w0 (rowR e sz (some ⟨g, 0, none⟩) n cap (ps.set k fs') :: R1) w' → K undef w') : mop P (o_store tt (.pointer (some ⟨g, 0 + k * sz + off, none⟩)) v) w K X := by
  obtain ⟨w', hr, hm⟩ := run_msf (P := P) h c a hk f p
  exact mop_skip hr (hK w' hm)
theorem dm_stf {R1 : List Res} {g k off m : Nat} {tt : TypeId} {q : Bool} {v : Value} {fs gs fs' : List Fd} {K : Value → World → Prop} (h : Mem H w0 L w) [c : ShpC P tt q m] [a : AtA L (some ⟨g, 0, none⟩) n cap e sz ps R1] (hk : ps[k]? = some fs) [f : Vf v m gs] [p : Put fs off gs fs']
    (hK : ∀ w', Mem H w0 (rowR e sz (some ⟨g, 0, none⟩) n cap (ps.set k fs') :: R1) w' → K undef w') : df P w (o_store tt (.pointer (some ⟨g, 0 + k * sz + off, none⟩)) v) false K := df_mop fun w1 hd => mop_mono (mm_stf (X := fun _ _ => False) (h.drawn hd) hk hK) (fun v w' h => ⟨(fun e => by cases e), h⟩) (fun _ _ h => h)
end
end Go.Proofs.YtopcnkejobomaaaGreat
namespace Go.Proofs.YtopcnkejobomaaaGreat
open Go.RowKit Go.Lib
instance {P : Program} {ts : Array TypeId} {ty : TypeId} {cs : List Bool} {k k' : IntKind} (x y : Int) : StepC P (o_builtin .max ts ty cs [.int k x, .int k' y]) True (.int k (if x < y then y else x)) := ⟨fun _ w => by simp [o_builtin, invoke, go_sem]⟩
def seenL (s : List Int) : List Value := (List.range 65).map fun (i : Nat) => .bool (decide ((i : Int) ∈ s))
theorem seenL_at (s : List Int) {i : Int} (h : 0 ≤ i ∧ i ≤ 64) : (seenL s)[i.toNat]? = some (.bool (decide (i ∈ s))) := by
  unfold seenL
  have hi : i.toNat < 65 := by omega
  simp [hi, Int.toNat_of_nonneg h.1]
theorem seenL_set (s : List Int) {i : Int} (h : 0 ≤ i ∧ i ≤ 64) : (seenL s).set i.toNat (.bool true) = seenL (i :: s) := by
  unfold seenL
  refine List.ext_getElem (by simp) fun k h1 h2 => ?_
  simp only [List.getElem_set, List.getElem_map, List.getElem_range, List.mem_cons]
  split
  · rename_i e
    have : (k : Int) = i := by omega
    simp [this]
  · rename_i e
    have : (k : Int) ≠ i := by omega
    simp [this]
theorem seenL_ok (s : List Int) : FdOk (.arr 65 (seenL s)) := ⟨by simp [Fd.cells, Fd.size, seenL], fun u hu => by
  simp only [Fd.cells, seenL, List.mem_map] at hu
  obtain ⟨_, _, rfl⟩ := hu
  rfl⟩
theorem seenL_nil : List.replicate 65 (Value.bool false) = seenL [] := rfl
theorem leavesB_drop {s : List Int} {ls : List Lf} {i : Nat} (h : i < ls.length) : leavesB s (ls.drop i) = if ls[i] = Lf.zero then leavesB s (ls.drop (i + 1)) else decide ((1 ≤ ls[i].name ∧ ls[i].name ≤ 64) ∧ ls[i].name ∉ s) && leavesB (ls[i].name :: s) (ls.drop (i + 1)) := by
  rw [List.drop_eq_getElem_cons h, leavesB]
theorem parB_drop {n : Int} {ls : List Lf} {x : Int} {ps : List Pn} {i : Nat} (h : i < ps.length) : parB n ls x (ps.drop i) = ((ps[i].set || decide ps[i].isZero) && looseB n ls x none ps[i].loose && parB n ls (x + 2) (ps.drop (i + 1))) := by
  rw [List.drop_eq_getElem_cons h, parB]
theorem looseB_drop {n : Int} {ls : List Lf} {x : Int} {o : Option Int} {l : List Int} {i : Nat} (h : i < l.length) : looseB n ls x o (l.drop i) = (decide (hld n x l[i] ∧ nameAt ls l[i] ≠ 0 ∧ ∀ q ∈ o, q < l[i]) && looseB n ls x (some l[i]) (l.drop (i + 1))) := by
  rw [List.drop_eq_getElem_cons h, looseB]
def prv (l : List Int) : Nat → Option Int
  | 0 => none
  | k + 1 => l[k]?
theorem nameAt_at {ls : List Lf} {p : Int} (h0 : 0 ≤ p) (h : p.toNat < ls.length) : nameAt ls p = ls[p.toNat].name := by
  unfold nameAt
  rw [List.getElem?_eq_getElem h]
theorem hld_rng {n x p : Int} (h : hld n x p) : 0 ≤ p ∧ p < n ∧ thr n x := by
  by_cases ht : thr n x
  · obtain ⟨-, -, -, -, -, hT, -⟩ := bough_eq ht
    have h1 : fro n x = (fd n x).1 := if_pos ht
    have h2 := (fd_eq ht).1
    have h3 : pTo n x ≤ n := by unfold pTo; rw [if_pos ht]; omega
    obtain ⟨a, b⟩ := h
    exact ⟨by omega, by omega, ht⟩
  · obtain ⟨a, b⟩ := h
    rw [fro_of ht] at a
    rw [til_of ht] at b
    omega
section
variable {H : Hp} {w0 w : World} {L : List Res} {A B : Option Addr} {a b : Nat} {t : Tr} {qs : List (List Fd)}
theorem zero_ok (p : Pn) (C : Option Addr) (c : Nat) (w : World) : Calls Tryz.prog 31 #[.agg (fl (p.row C c)).toArray] w fun en w' => en = .returned (.bool (decide p.isZero)) ∧ St w [] w' := by
  have hM := Mem.start (Fz.of w)
  refine C_tree_zero ?_
  unfold F_tree_zero
  ((with_reducible (refine mm_box hM ?_; clear hM; intro _ _ hM; refine mop_c trivial ?_; refine mm_ld hM ?_; refine mop_c trivial ?_)))
  cases hs : p.set
  · rw [Bool.not_false]
    ((with_reducible (refine mguard_yes ?_; refine mop_c trivial ?_; refine mguard_yes ?_; refine mm_ld hM ?_; refine mguard_yes ?_; refine mop_c trivial ?_; refine mguard_yes ?_)))
    ((with_reducible (refine mop_cS trivial ?_ ?_)))
    · intro h1
      ((with_reducible (refine mop_c trivial ?_; refine mguard_yes ?_; refine mop_c trivial ?_; refine mguard_yes ?_; refine mm_ld hM ?_; refine mguard_yes ?_; refine mop_c trivial ?_; refine mguard_yes ?_)))
      ((with_reducible (refine mop_cS trivial ?_ ?_)))
      · intro h2
        ((with_reducible (refine mop_c trivial ?_; refine mguard_yes ?_; refine mop_c trivial ?_; refine mguard_yes ?_; refine mm_ld hM ?_; refine mguard_yes ?_; refine mop_c trivial ?_; refine mguard_yes ?_)))
        ((with_reducible (refine mop_cS trivial ?_ ?_)))
        · intro h3
          ((with_reducible (refine mop_c trivial ?_)))
          exact ⟨by rw [decide_eq_true (show p.isZero from ⟨hs, h1, h2, List.eq_nil_of_length_eq_zero (by omega)⟩)], hM.st⟩
        · intro h3
          ((with_reducible (refine mop_c trivial ?_)))
          exact ⟨by rw [decide_eq_false (show ¬ p.isZero from fun h => h3 (by rw [h.2.2.2]; rfl))], hM.st⟩
      · intro h2
        ((with_reducible (refine mop_c trivial ?_; (iterate 4 refine mguard_n2 ?_); refine mop_c trivial ?_)))
        exact ⟨by rw [decide_eq_false (show ¬ p.isZero from fun h => h2 h.2.2.1)], hM.st⟩
    · intro h1
      ((with_reducible (refine mop_c trivial ?_; (iterate 4 refine mguard_n2 ?_); refine mop_c trivial ?_; (iterate 4 refine mguard_n2 ?_); refine mop_c trivial ?_)))
      exact ⟨by rw [decide_eq_false (show ¬ p.isZero from fun h => h1 h.2.1)], hM.st⟩
  · rw [Bool.not_true]
    ((with_reducible ((iterate 4 refine mguard_n2 ?_); refine mop_c trivial ?_; (iterate 4 refine mguard_n2 ?_); refine mop_c trivial ?_; (iterate 4 refine mguard_n2 ?_); refine mop_c trivial ?_)))
    exact ⟨by rw [decide_eq_false (show ¬ p.isZero from fun h => by rw [h.1] at hs; cases hs)], hM.st⟩
instance (p : Pn) (C : Option Addr) (c : Nat) : PurC Tryz.prog 31 [.agg (fl (p.row C c)).toArray] True (.bool (decide p.isZero)) := ⟨fun _ w => zero_ok p C c w⟩
theorem right_ok (h1 : Sl H 97 A (t.ls.map Lf.fds)) (h2 : Sl H 66 B qs) (h3 : All2 (PnF H) qs t.ps) (hl : t.ls.length ≤ maxLen) (hp : t.ps.length ≤ maxLen) (hf : Fz H w) :
    Calls Tryz.prog 8 #[tv A t.ls.length a B t.ps.length b] w fun en w' => en = .returned (.bool t.right) ∧ St w [] w' := by
  have hM := Mem.start hf
  refine C_tree_Right ?_
  unfold F_tree_Right
  have hl' : t.ls.length ≤ 9223372036854775807 := hl
  have hp' : t.ps.length ≤ 9223372036854775807 := hp
  have hq : qs.length = t.ps.length := h3.len
  have hts : t.size = t.ls.length := rfl
  ((with_reducible (refine mm_box hM ?_; clear hM; intro _ _ hM; refine mop_c trivial ?_; refine mm_ld hM ?_; refine mop_c trivial ?_)))
  rename_i g1 _
  refine ⟨fun v w' => v = .bool (!decide (t.ls.length ≤ 64 ∧ t.ps.length = t.ls.length - 1)) ∧ hM.now w', ?_, ?_⟩
  · ((with_reducible (refine mop_cS trivial ?_ ?_)))
    · intro h
      ((with_reducible ((iterate 7 refine mguard_n1 ?_); refine mop_c trivial ?_)))
      exact ⟨by rw [decide_eq_false (by omega)]; rfl, hM⟩
    · intro h
      ((with_reducible (refine mguard_yes ?_; refine mop_c trivial ?_; refine mguard_yes ?_; refine mm_ld hM ?_; refine mguard_yes ?_; refine mop_c trivial ?_; refine mguard_yes ?_; refine mop_c trivial ?_; refine mguard_yes ?_; refine mop_c ?_ ?_)); (focus omega); (with_reducible (refine mguard_yes ?_; refine mop_c trivial ?_; refine mguard_yes ?_)))
      rw [show (if (t.ls.length : Int) - 1 < 0 then 0 else (t.ls.length : Int) - 1) = ((t.ls.length - 1 : Nat) : Int) by split <;> omega]
      ((with_reducible (refine mop_cS trivial ?_ ?_)))
      · intro h4
        ((with_reducible (refine mop_c trivial ?_)))
        exact ⟨by rw [decide_eq_false (by omega)]; rfl, hM⟩
      · intro h4
        ((with_reducible (refine mop_c trivial ?_)))
        exact ⟨by rw [decide_eq_true (by omega)]; rfl, hM⟩
  rintro v u w2 ⟨rfl, hM⟩
  by_cases hsz : t.ls.length ≤ 64 ∧ t.ps.length = t.ls.length - 1
  case neg =>
    rw [decide_eq_false hsz]
    ((with_reducible (refine mif_nf ?_)))
    refine ⟨?_, hM.st⟩
    unfold Tr.right
    rw [decide_eq_false hsz]
    rfl
  rw [decide_eq_true hsz]
  ((with_reducible (refine mif_nt ?_; refine mm_new hM ?_; clear hM; intro _ _ hM; refine mop_c trivial ?_; refine mm_ld hM ?_; refine mop_c trivial ?_)))
  rename_i g2 _
  rw [seenL_nil] at hM
  refine ⟨fun v w' => ∃ (i : Nat) (s : List Int), v = .int .i64 i ∧ i ≤ t.ls.length ∧ leavesB [] t.ls = leavesB s (t.ls.drop i) ∧ Mem H w [fb g2 63 [.arr 65 (seenL s)], fb g1 25 (tfd A t.ls.length a B t.ps.length b)] w', fun v _ => match v with | .int _ k => t.ls.length - k.toNat | _ => 0, ⟨0, [], rfl, by omega, rfl, hM⟩, ?_⟩
  clear hM
  rintro v u2 w3 ⟨i, s, rfl, hi, hb, hM⟩
  have hso := seenL_ok s
  ((with_reducible (refine mop_cS trivial ?_ ?_)))
  · intro hlt
    have hdr := leavesB_drop (s := s) (ls := t.ls) (i := i) (by omega)
    ((with_reducible (refine mif_true ?_)))
    refine ⟨fun w' => ∃ s', leavesB [] t.ls = leavesB s' (t.ls.drop (i + 1)) ∧ Mem H w [fb g2 63 [.arr 65 (seenL s')], fb g1 25 (tfd A t.ls.length a B t.ps.length b)] w', ?_, ?_⟩
    · ((with_reducible refine mm_ixs ‹_› ?_ ?_ ?_); (focus (simp only [List.length_map]; omega)); (focus (simp only [List.length_map]; first | done | omega)); (with_reducible (intro _ _ hA)); (cases hA); (with_reducible refine mm_lds0 hM ‹_› (map_atI ?_) ?_); (focus omega); (with_reducible (refine mm_new hM ?_; clear hM; intro _ _ hM; refine mm_st hM ?_; clear hM; intro _ hM; refine mm_ld hM ?_; refine mop_c trivial ?_)))
      ((with_reducible (refine mop_cS trivial ?_ ?_)))
      · intro hz
        ((with_reducible (refine mif_true ?_)))
        exact ⟨s, by rw [hb, hdr, if_pos ((lf_zero _).2 hz)], hM.sub⟩
      · intro hz
        rw [if_neg (fun e => hz ((lf_zero _).1 e))] at hdr
        ((with_reducible (refine mif_false ?_)))
        refine ⟨fun v w' => v = .bool (!decide ((1 ≤ t.ls[i].name ∧ t.ls[i].name ≤ 64) ∧ t.ls[i].name ∉ s)) ∧ hM.now w', ?_, ?_⟩
        · ((with_reducible (refine mop_c trivial ?_; refine mm_ld hM ?_)))
          ((with_reducible (refine mop_cS trivial ?_ ?_)))
          · intro h
            ((with_reducible ((iterate 3 refine mguard_n1 ?_); refine mop_c trivial ?_; (iterate 4 refine mguard_n1 ?_); refine mop_c trivial ?_)))
            exact ⟨by rw [decide_eq_false (by omega)]; rfl, hM⟩
          · intro h
            ((with_reducible (refine mguard_yes ?_; refine mop_c trivial ?_; refine mguard_yes ?_; refine mm_ld hM ?_; refine mguard_yes ?_)))
            ((with_reducible (refine mop_cS trivial ?_ ?_)))
            · intro h4
              ((with_reducible (refine mop_c trivial ?_; (iterate 4 refine mguard_n1 ?_); refine mop_c trivial ?_)))
              exact ⟨by rw [decide_eq_false (by omega)]; rfl, hM⟩
            · intro h4
              have hs := seenL_at s (i := t.ls[i].name) (by omega)
              ((with_reducible (refine mop_c trivial ?_; refine mguard_yes ?_; refine mop_c trivial ?_; refine mguard_yes ?_; refine mm_ld hM ?_; refine mguard_yes ?_; refine mop_c ?_ ?_)); (focus omega); (with_reducible (refine mguard_yes ?_)))
              refine mm_ldj hM hs ?_
              ((with_reducible (refine mop_c trivial ?_)))
              exact ⟨by simp [show 1 ≤ t.ls[i].name by omega, show t.ls[i].name ≤ 64 by omega], hM⟩
        rintro v u4 w5 ⟨rfl, hM⟩
        by_cases hc : (1 ≤ t.ls[i].name ∧ t.ls[i].name ≤ 64) ∧ t.ls[i].name ∉ s
        · rw [decide_eq_true hc]
          ((with_reducible (refine mif_nt ?_; refine mop_c trivial ?_; refine mm_ld hM ?_; refine mop_c ?_ ?_)); (focus omega); (with_reducible (refine mm_sta hM ?_ ?_)); (focus omega); (with_reducible (clear hM; intro _ hM)))
          rw [seenL_set s (by omega)] at hM
          exact ⟨t.ls[i].name :: s, by rw [hb, hdr, decide_eq_true hc, Bool.true_and], hM.sub⟩
        · rw [decide_eq_false hc]
          ((with_reducible (refine mif_nf ?_)))
          refine ⟨?_, hM.st⟩
          unfold Tr.right
          rw [hb, hdr, decide_eq_false hc]
          simp
    · rintro u3 w4 ⟨s', hb', hM⟩
      ((with_reducible (refine mop_c ?_ ?_)); (focus omega))
      exact ⟨⟨i + 1, s', rfl, by omega, hb', hM⟩, by simp only; omega⟩
  · intro hge
    have hls : leavesB [] t.ls = true := by
      rw [hb, List.drop_eq_nil_of_le (by omega)]
      rfl
    ((with_reducible (refine mif_false ?_; refine mop_c trivial ?_; refine mm_ld hM ?_; refine mop_c trivial ?_)))
    have hM := hM.at_ (fb g1 25 (tfd A t.ls.length a B t.ps.length b))
    refine ⟨fun v w' => ∃ i : Nat, v = .int .i64 i ∧ i ≤ t.ps.length ∧ parB t.size t.ls 1 t.ps = parB t.size t.ls (2 * i + 1) (t.ps.drop i) ∧ Mem H w [fb g1 25 (tfd A t.ls.length a B t.ps.length b)] w', fun v _ => match v with | .int _ k => t.ps.length - k.toNat | _ => 0, ⟨0, rfl, by omega, rfl, hM.sub⟩, ?_⟩
    clear hM hi hb hge hso
    rintro v u5 w5 ⟨i, rfl, hi, hb, hM⟩
    ((with_reducible (refine mop_cS trivial ?_ ?_)))
    · intro hlt
      obtain ⟨p, hpe⟩ : ∃ p, t.ps[i] = p := ⟨_, rfl⟩
      obtain ⟨q, hq1, C, c, rfl, hC, hcl⟩ := h3.at_ (i := i) (by omega)
      have hdr := parB_drop (n := t.size) (ls := t.ls) (x := 2 * i + 1) (ps := t.ps) (i := i) (by omega)
      rw [hpe] at hq1 hC hcl hdr
      have hcl' : p.loose.length ≤ 9223372036854775807 := hcl
      ((with_reducible (refine mif_true ?_)))
      refine mm_ixs h2 (by omega) hq.symm (fun bb oo hB => ?_)
      cases hB
      refine mm_lds0 hM h2 hq1 ?_
      ((with_reducible (refine mm_new hM ?_; clear hM; intro _ _ hM; refine mm_st hM ?_; clear hM; intro _ hM)))
      rename_i g3 _ _
      refine ⟨fun v w' => v = .bool (!(p.set || decide p.isZero)) ∧ hM.now w', ?_, ?_⟩
      · ((with_reducible (refine mop_c trivial ?_; refine mm_ld hM ?_; refine mop_c trivial ?_)))
        rcases Bool.eq_false_or_eq_true p.set with hs | hs
        · have e : (!p.set) = false := by rw [hs]; rfl
          rw [e]
          ((with_reducible ((iterate 3 refine mguard_n2 ?_); refine mop_c trivial ?_)))
          exact ⟨by rw [hs, Bool.true_or]; rfl, hM⟩
        · have e : (!p.set) = true := by rw [hs]; rfl
          rw [e]
          ((with_reducible (refine mguard_yes ?_; refine mm_ld hM ?_; refine mguard_yes ?_; refine mm_purC hM ?_ (fun _ hM2 => ?_))); (focus (first | exact trivial | assumption | omega)); (with_reducible (replace hM := hM2; clear hM2; refine mguard_yes ?_; refine mop_c trivial ?_; refine mop_c trivial ?_)))
          exact ⟨by rw [hs, Bool.false_or], hM⟩
      rintro v u6 w6 ⟨rfl, hM⟩
      cases hz : (p.set || decide p.isZero)
      · rw [Bool.not_false]
        ((with_reducible (refine mif_true ?_)))
        refine ⟨?_, hM.st⟩
        unfold Tr.right
        rw [hb, hdr, hz]
        simp
      rw [hz, Bool.true_and] at hdr
      rw [Bool.not_true]
      ((with_reducible (refine mif_false ?_; refine mop_c trivial ?_; refine mm_ld hM ?_; refine mop_c trivial ?_)))
      refine ⟨fun v w' => ∃ k : Nat, v = .int .i64 k ∧ k ≤ p.loose.length ∧ looseB t.size t.ls (2 * i + 1) none p.loose = looseB t.size t.ls (2 * i + 1) (prv p.loose k) (p.loose.drop k) ∧ hM.now w', fun v _ => match v with | .int _ k => p.loose.length - k.toNat | _ => 0, ⟨0, rfl, by omega, rfl, hM⟩, ?_⟩
      rintro v u7 w7 ⟨k, rfl, hk, hlb, hM⟩
      ((with_reducible (refine mop_cS trivial ?_ ?_)))
      · intro hlt2
        obtain ⟨x, hx⟩ : ∃ x, p.loose[k] = x := ⟨_, rfl⟩
        have hdl := looseB_drop (n := t.size) (ls := t.ls) (x := 2 * i + 1) (o := prv p.loose k) (l := p.loose) (i := k) (by omega)
        rw [hx] at hdl
        ((with_reducible (refine mif_true ?_)); (with_reducible refine mm_ixs ‹_› ?_ ?_ ?_); (focus (simp only [List.length_map]; omega)); (focus (simp only [List.length_map]; first | done | omega)); (with_reducible (intro _ _ hA)); (cases hA); (with_reducible refine mm_lds0 hM ‹_› (map_atI ?_) ?_); (focus omega))
        rw [hx]
        refine ⟨fun v w' => v = .bool (!decide (hld t.size (2 * i + 1) x ∧ nameAt t.ls x ≠ 0 ∧ ∀ q ∈ prv p.loose k, q < x)) ∧ hM.now w', ?_, ?_⟩
        · ((with_reducible (refine mop_c ?_ ?_)); (focus omega); (with_reducible (refine mop_c ?_ ?_)); (focus omega); (with_reducible (refine mm_purC hM ?_ (fun _ hM2 => ?_))); (focus (first | exact trivial | assumption | omega)); (with_reducible (replace hM := hM2; clear hM2; refine mop_c trivial ?_)))
          by_cases hh : hld t.size (2 * i + 1) x
          · obtain ⟨r1, r2, -⟩ := hld_rng hh
            have hna := nameAt_at (ls := t.ls) (p := x) r1 (by omega)
            rw [decide_eq_true hh, Bool.not_true]
            ((with_reducible (refine mguard_yes ?_; refine mop_c trivial ?_; refine mguard_yes ?_; refine mm_ld hM ?_; refine mguard_yes ?_; refine mop_c trivial ?_; refine mguard_yes ?_)); (with_reducible refine mm_ixs ‹_› ?_ ?_ ?_); (focus (simp only [List.length_map]; omega)); (focus (simp only [List.length_map]; first | done | omega)); (with_reducible (intro _ _ hA)); (cases hA); (with_reducible (refine mguard_yes ?_; refine mop_c trivial ?_; refine mguard_yes ?_)); (with_reducible refine mm_lds hM ‹_› (map_at ?_) ?_); (focus omega); (with_reducible (refine mguard_yes ?_)))
            rw [← hna]
            ((with_reducible (refine mop_cS trivial ?_ ?_)))
            · intro h5
              ((with_reducible (refine mop_c trivial ?_; (iterate 3 refine mguard_n1 ?_); (iterate 8 refine mguard_un ?_); refine mguard_n1 ?_; refine mop_c trivial ?_)))
              exact ⟨by rw [decide_eq_false (fun h => h.2.1 h5)]; rfl, hM⟩
            · intro h5
              cases k with
              | zero =>
                ((with_reducible (refine mop_c trivial ?_; refine mguard_yes ?_; refine mop_c trivial ?_; refine mguard_yes ?_; refine mop_cF trivial ?_ ?_)); (focus (first | assumption | omega | with_reducible rfl | exact fun h => Bool.noConfusion h)); (with_reducible (refine mguard_yes ?_; refine mop_c trivial ?_; (iterate 8 refine mguard_n2 ?_); refine mguard_yes ?_; refine mop_c trivial ?_; refine mop_c trivial ?_)))
                exact ⟨by rw [decide_eq_true ⟨hh, h5, by simp [prv]⟩]; rfl, hM⟩
              | succ k =>
                have hix : (((k + 1 : Nat) : Int) - 1).toNat = k := by omega
                have hpv : prv p.loose (k + 1) = some p.loose[k] := List.getElem?_eq_getElem (by omega)
                ((with_reducible (refine mop_c trivial ?_; refine mguard_yes ?_; refine mop_c trivial ?_; refine mguard_yes ?_; refine mop_cT trivial ?_ ?_)); (focus (first | assumption | omega | with_reducible rfl | exact fun h => Bool.noConfusion h)); (with_reducible (refine mguard_yes ?_; refine mop_c trivial ?_; refine mguard_yes ?_; refine mop_c trivial ?_; refine mguard_yes ?_; refine mop_c trivial ?_; refine mguard_yes ?_; refine mm_ld hM ?_; refine mguard_yes ?_; refine mop_c trivial ?_; refine mguard_yes ?_; refine mop_c ?_ ?_)); (focus omega); (with_reducible (refine mguard_yes ?_)); (with_reducible refine mm_ixs ‹_› ?_ ?_ ?_); (focus (simp only [List.length_map]; omega)); (focus (simp only [List.length_map]; first | done | omega)); (with_reducible (intro _ _ hA)); (cases hA); (with_reducible (refine mguard_yes ?_)); (with_reducible refine mm_lds0 hM ‹_› (map_at ?_) ?_); (focus omega); (with_reducible (refine mguard_yes ?_)))
                ((with_reducible (refine mop_cS trivial ?_ ?_)))
                · intro h6
                  simp only [hix] at h6
                  ((with_reducible (refine mguard_yes ?_; refine mop_c trivial ?_; refine mop_c trivial ?_)))
                  exact ⟨by rw [decide_eq_false (fun h => by have := h.2.2 _ hpv; omega)]; rfl, hM⟩
                · intro h6
                  simp only [hix] at h6
                  ((with_reducible (refine mguard_yes ?_; refine mop_c trivial ?_; refine mop_c trivial ?_)))
                  exact ⟨by rw [decide_eq_true ⟨hh, h5, fun q hq => by rw [hpv] at hq; cases hq; omega⟩]; rfl, hM⟩
          · rw [decide_eq_false hh, Bool.not_false]
            ((with_reducible ((iterate 7 refine mguard_n1 ?_); refine mop_c trivial ?_; (iterate 3 refine mguard_n1 ?_); (iterate 8 refine mguard_un ?_); refine mguard_n1 ?_; refine mop_c trivial ?_)))
            exact ⟨by rw [decide_eq_false (fun h => hh h.1)]; rfl, hM⟩
        rintro v u8 w8 ⟨rfl, hM⟩
        by_cases hc : hld t.size (2 * i + 1) x ∧ nameAt t.ls x ≠ 0 ∧ ∀ q ∈ prv p.loose k, q < x
        · rw [decide_eq_true hc, Bool.not_true]
          rw [decide_eq_true hc, Bool.true_and] at hdl
          ((with_reducible (refine mif_false ?_; refine mop_c ?_ ?_)); (focus omega))
          refine ⟨⟨k + 1, rfl, by omega, ?_, hM⟩, by simp only; omega⟩
          rw [hlb, hdl, prv, List.getElem?_eq_getElem (by omega), hx]
        · rw [decide_eq_false hc, Bool.not_false]
          ((with_reducible (refine mif_true ?_)))
          refine ⟨?_, hM.st⟩
          unfold Tr.right
          rw [hb, hdr, hlb, hdl, decide_eq_false hc]
          simp
      · intro hge2
        have hl2 : looseB t.size t.ls (2 * i + 1) none p.loose = true := by
          rw [hlb, List.drop_eq_nil_of_le (by omega)]
          rfl
        rw [hl2, Bool.true_and] at hdr
        ((with_reducible (refine mif_false ?_; refine mop_c ?_ ?_)); (focus omega))
        refine ⟨⟨i + 1, rfl, by omega, ?_, hM.sub⟩, by simp only; omega⟩
        rw [hb, hdr]
        congr 1
    · intro hge
      have hps : parB t.size t.ls 1 t.ps = true := by
        rw [hb, List.drop_eq_nil_of_le (by omega)]
        rfl
      have hR : t.right = decide (t.ls = [] ∨ 0 < nameAt t.ls (t.size - 1)) := by
        unfold Tr.right
        rw [hls, hps, decide_eq_true hsz]
        simp
      ((with_reducible (refine mif_false ?_)))
      ((with_reducible (refine mop_cS trivial ?_ ?_)))
      · intro h0
        ((with_reducible ((iterate 8 refine mguard_n1 ?_); refine mop_c trivial ?_)))
        exact ⟨by rw [hR, decide_eq_true (.inl (List.eq_nil_of_length_eq_zero (by omega)))], hM.st⟩
      · intro h0
        ((with_reducible (refine mguard_yes ?_; refine mop_c trivial ?_; refine mguard_yes ?_; refine mm_ld hM ?_; refine mguard_yes ?_; refine mop_c trivial ?_; refine mguard_yes ?_; refine mop_c ?_ ?_)); (focus omega); (with_reducible (refine mguard_yes ?_)); (with_reducible refine mm_ixs ‹_› ?_ ?_ ?_); (focus (simp only [List.length_map]; omega)); (focus (simp only [List.length_map]; first | done | omega)); (with_reducible (intro _ _ hA)); (cases hA); (with_reducible (refine mguard_yes ?_; refine mop_c trivial ?_; refine mguard_yes ?_)); (with_reducible refine mm_lds hM ‹_› (map_at ?_) ?_); (focus omega); (with_reducible (refine mguard_yes ?_)))
        rw [← nameAt_at (ls := t.ls) (p := (t.ls.length : Int) - 1) (by omega) (by omega)]
        ((with_reducible (refine mop_cS trivial ?_ ?_)))
        · intro h9
          ((with_reducible (refine mop_c trivial ?_)))
          exact ⟨by rw [hR, decide_eq_true (.inr h9)], hM.st⟩
        · intro h9
          ((with_reducible (refine mop_c trivial ?_)))
          exact ⟨by rw [hR, decide_eq_false (fun h => h.elim (fun h => h0 (by rw [h]; rfl)) h9)], hM.st⟩
end
end Go.Proofs.YtopcnkejobomaaaGreat
namespace Go.Proofs.YtopcnkejobomaaaGreat
open Go.RowKit
theorem dir_cands {n l : Int} (h : 0 ≤ l ∧ l < n ∧ n ≤ 64) : dirL n l = cands n.toNat l.toNat := by
  have := dir_fin ⟨n.toNat, by omega⟩ ⟨l.toNat, by omega⟩ (by simp only; omega)
  simpa only [Int.toNat_of_nonneg h.1, Int.toNat_of_nonneg (show 0 ≤ n by omega)] using this
theorem mem_cands {n l : Nat} {x : Int} : x ∈ cands n l ↔ ∃ k, (1 ≤ k ∧ k ≤ 6) ∧ cand k l = x ∧ x ≤ 2 * n - 2 := by
  unfold cands
  simp only [List.mem_filter, List.mem_map, decide_eq_true_eq]
  constructor
  · rintro ⟨⟨k, hk, rfl⟩, h⟩
    exact ⟨k, by simp at hk; omega, rfl, h⟩
  · rintro ⟨k, hk, rfl, h⟩
    refine ⟨⟨k, ?_, rfl⟩, h⟩
    simp only [List.mem_cons, List.not_mem_nil, or_false]
    omega
theorem cand_eq {k l : Nat} (hk : 1 ≤ k ∧ k ≤ 6) (hl : l < 64) : cand k l % 2 = 1 ∧ 0 ≤ cand k l ∧ cand k l < 127 ∧ level (cand k l) = k := cand_fin ⟨k, by omega⟩ ⟨l, hl⟩ hk.1
theorem mem_dir {n l : Int} {i : Nat} (h : 0 ≤ l ∧ l < n ∧ n ≤ 64) (hi : (i : Int) + 1 < n) : 2 * (i : Int) + 1 ∈ dirL n l ↔ hld n (2 * i + 1) l := by
  have ht : thr n (2 * i + 1) := ⟨by omega, by omega, by omega⟩
  obtain ⟨-, -, -, -, hF, hT, -⟩ := bough_eq ht
  obtain ⟨⟨h1, h2⟩, h3⟩ := hold_fin ⟨i, by omega⟩ ⟨l.toNat, by omega⟩
  simp only [Int.toNat_of_nonneg h.1] at h1 h2 h3
  rw [dir_cands h, mem_cands]
  unfold hld
  rw [← hF, ← hT]
  unfold pFrom pTo
  rw [if_pos ht, if_pos ht]
  have hmin : l < min ((2 * (i : Int) + 1 + 1 + pw (level (2 * i + 1))) / 2) n ↔ l < (2 * (i : Int) + 1 + 1 + pw (level (2 * i + 1))) / 2 := by omega
  rw [hmin, h3]
  constructor
  · rintro ⟨k, hk, hc, -⟩
    have hl := (cand_eq (l := l.toNat) hk (by omega)).2.2.2
    rw [hc] at hl
    rw [hl]
    exact hc
  · intro hc
    exact ⟨(level (2 * i + 1)).toNat, by omega, hc, by omega⟩
theorem dir_mem {n l x : Int} (h : n ≤ 64) (hx : x ∈ dirL n l) : (0 ≤ l ∧ l < n) ∧ x = 2 * (x / 2) + 1 ∧ 0 ≤ x / 2 ∧ x / 2 + 1 < n := by
  by_cases hl : 0 ≤ l ∧ l < n
  · rw [dir_cands ⟨hl.1, hl.2, h⟩, mem_cands] at hx
    obtain ⟨k, hk, rfl, hle⟩ := hx
    obtain ⟨h1, h2, -⟩ := cand_eq (l := l.toNat) hk (by omega)
    refine ⟨hl, ?_⟩
    have : ((n.toNat : Nat) : Int) = n := Int.toNat_of_nonneg (by omega)
    omega
  · unfold dirL at hx
    rw [if_neg hl] at hx
    cases hx
theorem dir_nodup {n l : Int} (h : n ≤ 64) : (dirL n l).Nodup := by
  by_cases hl : 0 ≤ l ∧ l < n
  · rw [dir_cands ⟨hl.1, hl.2, h⟩]
    unfold cands
    have hc : ∀ k, 1 ≤ k → k ≤ 6 → level (cand k l.toNat) = k := fun k h1 h2 => (cand_eq (l := l.toNat) ⟨h1, h2⟩ (by omega)).2.2.2
    have hne : ∀ a b : Nat, 1 ≤ a → a ≤ 6 → 1 ≤ b → b ≤ 6 → a ≠ b → cand a l.toNat ≠ cand b l.toNat := fun a b h1 h2 h3 h4 hn e => by
      have := hc a h1 h2
      rw [e, hc b h3 h4] at this
      omega
    have hm : ([1, 2, 3, 4, 5, 6].map fun k => cand k l.toNat).Nodup := by
      simp only [List.map_cons, List.map_nil, List.nodup_cons, List.mem_cons, List.not_mem_nil, or_false, not_or, not_false_eq_true, List.nodup_nil, and_true]
      refine ⟨⟨?_, ?_, ?_, ?_, ?_⟩, ⟨?_, ?_, ?_, ?_⟩, ⟨?_, ?_, ?_⟩, ⟨?_, ?_⟩, ?_⟩ <;> exact hne _ _ (by omega) (by omega) (by omega) (by omega) (by omega)
    exact List.Pairwise.filter _ hm
  · unfold dirL
    rw [if_neg hl]
    exact List.nodup_nil
def fix {α : Type} (f : α → Bool) (l : List α) : Int := if l.findIdx f < l.length then (l.findIdx f : Int) else -1
theorem findIdx_at {α : Type} {f : α → Bool} {l : List α} {i : Nat} (h : i < l.length) (hb : ∀ j (hj : j < l.length), j < i → f l[j] = false) (ht : f l[i] = true) : l.findIdx f = i := by
  rw [List.findIdx_eq h]
  exact ⟨ht, fun j hj => by simpa using hb j (by omega) hj⟩
theorem findIdx_none {α : Type} {f : α → Bool} {l : List α} (hb : ∀ j (hj : j < l.length), f l[j] = false) : l.findIdx f = l.length := by
  rw [List.findIdx_eq_length]
  intro x hx
  obtain ⟨j, hj, rfl⟩ := List.getElem_of_mem hx
  simpa using hb j hj
theorem fix_at {α : Type} {f : α → Bool} {l : List α} {i : Nat} (h : i < l.length) (hb : ∀ j (hj : j < l.length), j < i → f l[j] = false) (ht : f l[i] = true) : fix f l = i := by
  unfold fix
  rw [findIdx_at h hb ht, if_pos h]
theorem fix_none {α : Type} {f : α → Bool} {l : List α} (hb : ∀ j (hj : j < l.length), f l[j] = false) : fix f l = -1 := by
  unfold fix
  rw [findIdx_none hb, if_neg (by omega)]
def Tr.place (t : Tr) (name : Int) : Int := if name < 1 then -1 else fix (fun l => decide (l.name = name)) t.ls
def Tr.sound (t : Tr) : Tr := if t.right then t else Tr.none
def putL (l : List Int) (x : Int) : List Int := l.takeWhile (· ≤ x) ++ x :: l.dropWhile (· ≤ x)
def bs' (l : List Int) (x : Int) : Nat := l.findIdx (fun y => decide (x ≤ y))
def ins (l : List Int) (x : Int) : List Int := l.take (bs' l x) ++ x :: l.drop (bs' l x)
theorem put_ins : ∀ {l : List Int} {x : Int}, x ∉ l → ins l x = putL l x
  | [], x, _ => by simp [ins, putL]
  | y :: r, x, h => by
    simp only [List.mem_cons, not_or] at h
    have ih := put_ins h.2
    by_cases hy : y ≤ x
    · have h1 : bs' (y :: r) x = bs' r x + 1 := by
        unfold bs'
        rw [List.findIdx_cons, decide_eq_false (by omega)]
        rfl
      have e1 : ins (y :: r) x = y :: ins r x := by unfold ins; rw [h1]; rfl
      have e2 : putL (y :: r) x = y :: putL r x := by
        unfold putL
        rw [List.takeWhile_cons, List.dropWhile_cons, decide_eq_true hy]
        rfl
      rw [e1, e2, ih]
    · have h1 : bs' (y :: r) x = 0 := by
        unfold bs'
        rw [List.findIdx_cons, decide_eq_true (by omega)]
        rfl
      have e1 : ins (y :: r) x = x :: y :: r := by unfold ins; rw [h1]; rfl
      have e2 : putL (y :: r) x = x :: y :: r := by
        unfold putL
        rw [List.takeWhile_cons, List.dropWhile_cons, decide_eq_false hy]
        rfl
      rw [e1, e2]
theorem looseB_spec {n : Int} {ls : List Lf} {x : Int} : ∀ {o : Option Int} {l : List Int}, looseB n ls x o l = true → (∀ p ∈ l, hld n x p ∧ nameAt ls p ≠ 0 ∧ ∀ q ∈ o, q < p) ∧ l.Pairwise (· < ·)
  | _, [], _ => ⟨fun _ h => (by cases h), .nil⟩
  | o, p :: r, h => by
    simp only [looseB, Bool.and_eq_true, decide_eq_true_eq] at h
    obtain ⟨h1, h2⟩ := h
    obtain ⟨h3, h4⟩ := looseB_spec h2
    refine ⟨fun y hy => ?_, .cons (fun y hy => (h3 y hy).2.2 p rfl) h4⟩
    rcases List.mem_cons.1 hy with rfl | hy
    · exact h1
    · obtain ⟨a, b, c⟩ := h3 y hy
      exact ⟨a, b, fun q hq => by have := h1.2.2 q hq; have := c p rfl; omega⟩
theorem parB_spec {n : Int} {ls : List Lf} : ∀ {x : Int} {ps : List Pn}, parB n ls x ps = true → ∀ i (hi : i < ps.length), (ps[i].set = true ∨ ps[i].isZero) ∧ looseB n ls (x + 2 * i) none ps[i].loose = true
  | _, [], _, i, hi => by cases hi
  | x, p :: r, h, i, hi => by
    simp only [parB, Bool.and_eq_true, Bool.or_eq_true, decide_eq_true_eq] at h
    cases i with
    | zero => simpa using h.1
    | succ i =>
      have := parB_spec h.2 i (by simpa using hi)
      have e : x + 2 * ((i + 1 : Nat) : Int) = x + 2 + 2 * (i : Int) := by omega
      rw [e]
      simpa using this
theorem leavesB_spec : ∀ {s : List Int} {ls : List Lf}, leavesB s ls = true → ∀ l ∈ ls, l = Lf.zero ∨ (1 ≤ l.name ∧ l.name ≤ 64)
  | _, [], _, _, h => by cases h
  | s, l :: r, h, x, hx => by
    unfold leavesB at h
    split at h
    · rename_i hz
      rcases List.mem_cons.1 hx with rfl | hx
      · exact .inl hz
      · exact leavesB_spec h x hx
    · simp only [Bool.and_eq_true, decide_eq_true_eq] at h
      rcases List.mem_cons.1 hx with rfl | hx
      · exact .inr h.1.1
      · exact leavesB_spec h.2 x hx
structure Tr.Rt (t : Tr) : Prop where
  len : t.ls.length ≤ 64 ∧ t.ps.length = t.ls.length - 1
  leaves : leavesB [] t.ls = true
  par : parB t.size t.ls 1 t.ps = true
  last : t.ls = [] ∨ 0 < nameAt t.ls (t.size - 1)
theorem Tr.rt {t : Tr} : t.right = true ↔ t.Rt := by
  unfold Tr.right
  simp only [Bool.and_eq_true, decide_eq_true_eq]
  exact ⟨fun ⟨⟨⟨a, b⟩, c⟩, d⟩ => ⟨a, b, c, d⟩, fun ⟨a, b, c, d⟩ => ⟨⟨⟨a, b⟩, c⟩, d⟩⟩
theorem Lf.zero_name {l : Lf} (h : l = Lf.zero ∨ (1 ≤ l.name ∧ l.name ≤ 64)) : l = Lf.zero ↔ l.name = 0 := by
  constructor
  · rintro rfl
    rfl
  · intro e
    exact h.resolve_right (by omega)
def Tr.gap (t : Tr) : Nat := t.ls.findIdx fun l => decide (l.name = 0)
theorem Tr.gap_le (t : Tr) : t.gap ≤ t.ls.length := List.findIdx_le_length
theorem Tr.Rt.gap_eq {t : Tr} (h : t.Rt) : (t.ls.findIdx fun l => decide (l = Lf.zero)) = t.gap := by
  have := leavesB_spec h.leaves
  unfold Tr.gap
  revert this
  generalize t.ls = ls
  intro hl
  induction ls with
  | nil => rfl
  | cons l r ih =>
    rw [List.findIdx_cons, List.findIdx_cons, ih fun x hx => hl x (List.mem_cons_of_mem _ hx)]
    simp only [Lf.zero_name (hl l (List.mem_cons_self ..))]
def addL (t : Tr) (l : Lf) : List Lf := (if t.gap = t.ls.length then t.ls ++ [l] else t.ls).set t.gap l
def addPs (t : Tr) : List Pn := if t.gap = t.ls.length ∧ 0 < t.gap then t.ps ++ [Pn.zero] else t.ps
theorem addL_len (t : Tr) (l : Lf) : (addL t l).length = if t.gap = t.ls.length then t.ls.length + 1 else t.ls.length := by
  unfold addL
  split <;> simp
def Tr.addR (t : Tr) (l : Lf) : Tr × Int × Int :=
  if l.name < 1 ∨ 64 < l.name then (Tr.none, 0, 1) else if 0 ≤ t.place l.name then (Tr.none, 0, 8) else if t.gap = 64 then (Tr.none, 0, 9) else
  (⟨addL t l, (addPs t).mapIdx fun i p => if p.set = true ∧ hld (addL t l).length (2 * i + 1) t.gap then { p with loose := putL p.loose t.gap } else p⟩, t.gap, 0)
def updA (x : Int) (p : Pn) : Pn := if p.set = true then { p with loose := ins p.loose x } else p
def onDir (f : Pn → Pn) (D : List Int) (ps : List Pn) : List Pn := D.foldl (fun ps x => ps.modify (x / 2).toNat f) ps
def Tr.addP (t : Tr) (l : Lf) : Tr × Int × Int :=
  if ¬ t.right = true ∨ l.name < 1 ∨ 64 < l.name then (Tr.none, 0, 1) else if 0 ≤ t.place l.name then (Tr.none, 0, 8) else if t.gap = t.ls.length ∧ t.gap = 64 then (Tr.none, 0, 9) else
  (⟨addL t l, onDir (updA t.gap) (dirL (addL t l).length t.gap) (addPs t)⟩, t.gap, 0)
theorem onDir_eq {f : Pn → Pn} : ∀ {D : List Int} {ps : List Pn}, D.Nodup → (∀ x ∈ D, x = 2 * (x / 2) + 1 ∧ 0 ≤ x / 2) → onDir f D ps = ps.mapIdx fun i p => if 2 * (i : Int) + 1 ∈ D then f p else p
  | [], ps, _, _ => by
    unfold onDir
    refine List.ext_getElem (by simp) fun i h1 h2 => ?_
    simp
  | x :: D, ps, hn, hD => by
    have hn' := List.nodup_cons.1 hn
    have ih := onDir_eq (f := f) (D := D) (ps := ps.modify (x / 2).toNat f) hn'.2 fun y hy => hD y (List.mem_cons_of_mem _ hy)
    have hx := hD x (List.mem_cons_self ..)
    unfold onDir at ih ⊢
    rw [List.foldl_cons, ih]
    refine List.ext_getElem (by simp) fun i h1 h2 => ?_
    simp only [List.getElem_mapIdx, List.getElem_modify, List.mem_cons]
    by_cases e : (x / 2).toNat = i
    · have e2 : 2 * (i : Int) + 1 = x := by omega
      rw [if_pos e, if_neg (by rw [e2]; exact hn'.1), if_pos (.inl e2)]
    · have e2 : ¬ 2 * (i : Int) + 1 = x := by omega
      rw [if_neg e]
      simp only [e2, false_or]
theorem onDir_dir {f : Pn → Pn} {n l : Int} {ps : List Pn} (h : 0 ≤ l ∧ l < n ∧ n ≤ 64) (hp : (ps.length : Int) + 1 = n) : onDir f (dirL n l) ps = ps.mapIdx fun i p => if hld n (2 * i + 1) l then f p else p := by
  rw [onDir_eq (dir_nodup h.2.2) fun x hx => by have := dir_mem h.2.2 hx; omega]
  refine List.ext_getElem (by simp) fun i h1 h2 => ?_
  simp only [List.getElem_mapIdx, List.length_mapIdx] at h1 ⊢
  simp only [mem_dir h (show (i : Int) + 1 < n by omega)]
theorem addPs_len {t : Tr} (h : t.Rt) (l : Lf) : ((addPs t).length : Int) + 1 = (addL t l).length := by
  have := t.gap_le
  have := h.len
  rw [addL_len]
  unfold addPs
  by_cases h1 : t.gap = t.ls.length
  · rw [if_pos h1]
    by_cases h2 : 0 < t.gap
    · rw [if_pos ⟨h1, h2⟩, List.length_append]
      simp
      omega
    · rw [if_neg (fun h => h2 h.2)]
      omega
  · rw [if_neg h1, if_neg (fun h => h1 h.1)]
    omega
theorem Tr.Rt.gap_free {t : Tr} (h : t.Rt) {i : Nat} (hi : i < t.ps.length) : (t.gap : Int) ∉ t.ps[i].loose := fun hm => by
  obtain ⟨h1, h2, -⟩ := (looseB_spec (parB_spec h.par i hi).2).1 _ hm
  unfold nameAt at h2
  rw [Int.toNat_natCast] at h2
  by_cases hg : t.gap < t.ls.length
  · rw [List.getElem?_eq_getElem hg] at h2
    have := List.findIdx_getElem (p := fun l : Lf => decide (l.name = 0)) (xs := t.ls) (w := hg)
    simp only [decide_eq_true_eq] at this
    exact h2 this
  · rw [List.getElem?_eq_none (by omega)] at h2
    exact h2 rfl
theorem add_same {t : Tr} (h : t.Rt) (l : Lf) : t.addP l = t.addR l := by
  unfold Tr.addP Tr.addR
  have hr : t.right = true := Tr.rt.2 h
  have hg := t.gap_le
  have hl := h.len
  simp only [hr, not_true_eq_false, false_or]
  by_cases h1 : l.name < 1 ∨ 64 < l.name
  · rw [if_pos h1, if_pos h1]
  rw [if_neg h1, if_neg h1]
  by_cases h2 : 0 ≤ t.place l.name
  · rw [if_pos h2, if_pos h2]
  rw [if_neg h2, if_neg h2]
  by_cases h3 : t.gap = 64
  · rw [if_pos h3, if_pos ⟨by omega, h3⟩]
  rw [if_neg h3, if_neg (fun h => h3 h.2)]
  have hn := addPs_len h l
  have hln : (addL t l).length ≤ 64 ∧ t.gap < (addL t l).length := by
    rw [addL_len]
    split <;> omega
  rw [onDir_dir ⟨by omega, by omega, by omega⟩ hn]
  congr 2
  refine List.ext_getElem (by simp) fun i k1 k2 => ?_
  simp only [List.getElem_mapIdx, List.length_mapIdx] at k1 ⊢
  have hfree : (t.gap : Int) ∉ (addPs t)[i].loose := by
    unfold addPs at k1 ⊢
    by_cases hc : t.gap = t.ls.length ∧ 0 < t.gap
    · simp only [if_pos hc, List.getElem_append]
      split
      · exact h.gap_free _
      · simp [Pn.zero]
    · simp only [if_neg hc] at k1 ⊢
      exact h.gap_free _
  by_cases hh : hld (addL t l).length (2 * i + 1) t.gap
  · simp only [hh, if_true, and_true, updA, put_ins hfree]
  · simp only [hh, if_false, and_false]
def Tr.nobody (t : Tr) (p : Int) : Prop := (p < 0 ∨ t.size ≤ p) ∨ nameAt t.ls p = 0
instance (t : Tr) (p : Int) : Decidable (t.nobody p) := by unfold Tr.nobody; infer_instance
def blankR (n p : Int) (ps : List Pn) : List Pn := ps.mapIdx fun i q => if hld n (2 * i + 1) p then Pn.zero else q
def blankP (n p : Int) (ps : List Pn) : List Pn := onDir (fun _ => Pn.zero) (dirL n p) ps
theorem blank_same {n l : Int} {ps : List Pn} (h : 0 ≤ l ∧ l < n ∧ n ≤ 64) (hp : (ps.length : Int) + 1 = n) : blankP n l ps = blankR n l ps := onDir_dir h hp
def keepN (ls : List Lf) : Nat → Nat
  | 0 => 0
  | n + 1 => if nameAt ls n = 0 then keepN ls n else n + 1
theorem keepN_le (ls : List Lf) : ∀ n, keepN ls n ≤ n
  | 0 => Nat.le_refl _
  | n + 1 => by
    unfold keepN
    split
    · exact Nat.le_trans (keepN_le ls n) (by omega)
    · exact Nat.le_refl _
def cut (ls : List Lf) (ps : List Pn) : Tr := ⟨ls.take (keepN ls ls.length), ps.take (keepN ls ls.length - 1)⟩
def Tr.remR (t : Tr) (p : Int) : Tr × Int := if t.nobody p then (Tr.none, 7) else (cut (t.ls.set p.toNat Lf.zero) (blankR t.size p t.ps), 0)
def Tr.remP (t : Tr) (p : Int) : Tr × Int := if ¬ t.right = true then (Tr.none, 1) else if t.nobody p then (Tr.none, 7) else (cut (t.ls.set p.toNat Lf.zero) (blankP t.size p t.ps), 0)
def Lf.key (l : Lf) (pub abv : H32) : Lf := ⟨l.name, pub, l.ver, abv⟩
def Tr.renR (t : Tr) (p : Int) (pub : H32) : Tr × Int := if t.nobody p then (Tr.none, 7) else (⟨t.ls.modify p.toNat (·.key pub hzero), blankR t.size p t.ps⟩, 0)
def Tr.renP (t : Tr) (p : Int) (pub : H32) : Tr × Int := if ¬ t.right = true then (Tr.none, 1) else if t.nobody p then (Tr.none, 7) else (⟨t.ls.modify p.toNat (·.key pub hzero), blankP t.size p t.ps⟩, 0)
theorem Tr.Rt.blank {t : Tr} (h : t.Rt) {p : Int} (hp : ¬ t.nobody p) : blankP t.size p t.ps = blankR t.size p t.ps := by
  have := h.len
  unfold Tr.nobody Tr.size at hp
  exact blank_same ⟨by omega, by unfold Tr.size; omega, by unfold Tr.size; omega⟩ (by unfold Tr.size; omega)
theorem rem_same {t : Tr} (h : t.Rt) (p : Int) : t.remP p = t.remR p := by
  unfold Tr.remP Tr.remR
  rw [if_neg (fun hh => hh (Tr.rt.2 h))]
  by_cases hp : t.nobody p
  · rw [if_pos hp, if_pos hp]
  · rw [if_neg hp, if_neg hp, h.blank hp]
theorem ren_same {t : Tr} (h : t.Rt) (p : Int) (pub : H32) : t.renP p pub = t.renR p pub := by
  unfold Tr.renP Tr.renR
  rw [if_neg (fun hh => hh (Tr.rt.2 h))]
  by_cases hp : t.nobody p
  · rw [if_pos hp, if_pos hp]
  · rw [if_neg hp, if_neg hp, h.blank hp]
end Go.Proofs.YtopcnkejobomaaaGreat
namespace Go.Proofs.YtopcnkejobomaaaGreat
open Go.RowKit Go.Lib
def bk (g e : Nat) (cs : List Value) : Res := fun B => B = [⟨g, e, cs, true⟩]
class AtK (L : List Res) (g : Nat) (e : outParam Nat) (cs : outParam (List Value)) (R : outParam (List Res)) : Prop where
  perm : L.Perm (bk g e cs :: R)
instance (L : List Res) (g e : Nat) (cs : List Value) : AtK (bk g e cs :: L) g e cs L := ⟨.refl _⟩
instance (priority := 900) (L R : List Res) (g e : Nat) (cs : List Value) (x : Res) [h : AtK L g e cs R] : AtK (x :: L) g e cs (x :: R) := ⟨(h.perm.cons x).trans (.swap ..)⟩
section
variable {P : Program} {H : Hp} {w0 w : World} {L R : List Res} {n cap e sz by_ g : Nat} {t : TypeId} {A : Option Addr} {ps : List (List Fd)} {cs : List Value} {X : List PanicEntry → World → Prop} {K : Value → World → Prop}
theorem Mem.raw (h : Mem H w0 L w) [k : AtA L (some ⟨g, 0, none⟩) n cap e sz ps R] : ∃ sp, (fls ps ++ sp).length = cap * sz ∧ n ≤ cap ∧ cap ≤ maxLen ∧ Els sz ps ∧ ps.length = n ∧ Mem H w0 (bk g e (fls ps ++ sp) :: R) w := by
  obtain ⟨B, ⟨B1, B2, rfl, ⟨h1, h2, h3⟩, h4⟩, hs', hb⟩ := (h.perm k.perm).own
  rcases h3 with ⟨hA, _⟩ | ⟨g', sp, hA, rfl, h5, h6, h7⟩
  · cases hA
  · cases hA
    exact ⟨sp, h5, h6, h7, h1, h2, ⟨_, ⟨_, B2, rfl, rfl, h4⟩, hs', hb⟩, h.fz⟩
theorem Mem.unraw {sp : List Value} (h : Mem H w0 (bk g e (fls ps ++ sp) :: R) w) (h1 : Els sz ps) (h2 : ps.length = n) (h5 : (fls ps ++ sp).length = cap * sz) (h6 : n ≤ cap) (h7 : cap ≤ maxLen) : Mem H w0 (rowR e sz (some ⟨g, 0, none⟩) n cap ps :: R) w := by
  obtain ⟨B, ⟨B1, B2, rfl, rfl, h4⟩, hs', hb⟩ := h.own
  exact ⟨⟨_, ⟨_, B2, rfl, ⟨h1, h2, .inr ⟨g, sp, rfl, rfl, h5, h6, h7⟩⟩, h4⟩, hs', hb⟩, h.fz⟩
theorem Mem.bkBlf (h : Mem H w0 L w) [k : AtK L g e cs R] : Blf w g e cs := by
  obtain ⟨B, ⟨B1, B2, rfl, rfl, _⟩, hs, _⟩ := (h.perm k.perm).own
  exact (hs.own ⟨g, e, cs, true⟩ (by simp)).blf
theorem Mem.setBk {cs' : List Value} (h : Mem H w0 (bk g e cs :: R) w) (hl : cs'.length = cs.length) : Mem H w0 (bk g e cs' :: R) (w.setRow g cs'.toArray) := by
  obtain ⟨B, ⟨B1, B2, rfl, rfl, h4⟩, hs, hb⟩ := h.own
  have hs' : St w0 (⟨g, e, cs, true⟩ :: B2) w := hs
  have hgg := hb ⟨g, e, cs, true⟩ (by simp)
  refine ⟨⟨_, ⟨[⟨g, e, cs', true⟩], B2, rfl, rfl, h4⟩, hs'.setRow hl, fun b hm => ?_⟩, h.fz.same fun b c hc => setRow_other w g b _ ?_⟩
  · rcases List.mem_cons.1 hm with rfl | hm
    · exact ⟨rfl, hgg.2⟩
    · exact hb b (List.mem_append.2 (.inr hm))
  · rintro rfl
    have := hgg.2
    simp only [hc] at this
    cases this
theorem Mem.allocBk (h : Mem H w0 L w) (e : TypeId) (cs : List Value) : Mem H w0 (bk w.heap.size e cs :: L) (w.alloc (.cells cs.toArray e)) := by
  obtain ⟨B, hl, hs', hb'⟩ := h.own
  refine ⟨⟨⟨w.heap.size, e, cs, true⟩ :: B, ⟨[⟨w.heap.size, e, cs, true⟩], B, rfl, rfl, hl⟩, hs'.alloc e cs, fun b hm => ?_⟩, h.fz.ext ((Only.refl _ w).alloc _)⟩
  rcases List.mem_cons.1 hm with rfl | hm
  · refine ⟨rfl, ?_⟩
    cases hh : H w.heap.size with
    | none => rfl
    | some c => have := h.fz.lt hh; omega
  · exact hb' b hm
theorem run_copy_blf {o dl dc sl sc : Nat} {a : Addr} {vs : List Value} {dT sT ty e2 : TypeId} {ks : List Bool} (hb : Blf w g e cs) (hu : P.underlying dT = some (.slice e2)) (hs : (P.info? e2).map (·.size) = some 1) (hn : vs.length = min sl dl) (hsrc : ∀ j v, vs[j]? = some v → w.cell? (a.add j) = some v) (hle : o + vs.length ≤ cs.length) (h1 : ∀ v ∈ vs, v.oneCell' = true) :
    (o_builtin .copy #[dT, sT] ty ks [.slice (some ⟨g, o, none⟩) dl dc, .slice (some a) sl sc]).run P w = .ok (.value (.int .i64 vs.length)) (w.setRow g (lay cs vs o).toArray) := by
  have hl := run_loadCells_list (P := P) w a vs hsrc
  have hst := run_storeCells_blf (P := P) o vs 0 cs w hb (by omega) h1
  rw [Nat.add_zero] at hst
  have hn' : Nat.min sl dl = vs.length := hn.symm
  cases hq : P.info? e2 with
  | none => simp [hq] at hs
  | some i =>
    have hi : i.size = 1 := by simpa [hq] using hs
    simp [o_builtin, invoke, builtin, Builtin.copy_, run_underlying hu, Builtin.lenOf, Builtin.firstCells, sizeOf, typeInfo, hq, hi, hn', hl, hst, goInt]
theorem mm_cpk {o dl dc sl sc : Nat} {a : Addr} {vs : List Value} {dT sT ty e2 : TypeId} {ks : List Bool} (h : Mem H w0 L w) [c : SliC P dT e2 1 by_] [k : AtK L g e cs R] (hn : vs.length = min sl dl) (hsrc : ∀ j v, vs[j]? = some v → w.cell? (a.add j) = some v) (hle : o + vs.length ≤ cs.length) (h1 : ∀ v ∈ vs, v.oneCell' = true)
    (hk : ∀ w', Mem H w0 (bk g e (lay cs vs o) :: R) w' → K (.int .i64 vs.length) w') : mop P (o_builtin .copy #[dT, sT] ty ks [.slice (some ⟨g, o, none⟩) dl dc, .slice (some a) sl sc]) w K X := by
  obtain ⟨ht, i, z, hi, -, h3, -⟩ := sli_spec c.ok
  exact mop_run (run_copy_blf h.bkBlf ht (by simp [hi, h3]) hn hsrc hle h1) (hk _ ((h.perm k.perm).setBk (lay_length _ _ _ hle)))
theorem dm_cpk {o dl dc sl sc : Nat} {a : Addr} {vs : List Value} {dT sT ty e2 : TypeId} {ks : List Bool} (h : Mem H w0 L w) [c : SliC P dT e2 1 by_] [k : AtK L g e cs R] (hn : vs.length = min sl dl) (hsrc : ∀ w', Mem H w0 L w' → ∀ j v, vs[j]? = some v → w'.cell? (a.add j) = some v) (hle : o + vs.length ≤ cs.length) (h1 : ∀ v ∈ vs, v.oneCell' = true)
    (hk : ∀ w', Mem H w0 (bk g e (lay cs vs o) :: R) w' → K (.int .i64 vs.length) w') : df P w (o_builtin .copy #[dT, sT] ty ks [.slice (some ⟨g, o, none⟩) dl dc, .slice (some a) sl sc]) false K :=
  df_no h fun w' h' => mm_cpk h' hn (hsrc w' h') hle h1 hk
theorem mm_apz {i k c e2 : Nat} {tn ty : TypeId} {ks : List Bool} {kn : IntKind} {z : Value} (h : Mem H w0 L w) [cc : SliC P t e2 1 by_] (htn : P.underlying tn = some (.int kn)) (hz : ((P.info? e2).bind (·.zero)) = some z) (hz1 : z.cells = #[z]) [a : AtK L g e cs R] (hi : i ≤ cs.length) (hk0 : 0 < k) (hg : c < i + k) (hb : (i + k) ≤ 9223372036854775807 ∧ (i + k) * by_ ≤ 70368744177664)
    (hk : ∀ g' cap' m w', i + k + m = cap' → cap' ≤ maxLen → Mem H w0 (bk g' e2 (cs.take i ++ List.replicate (k + m) z) :: L) w' → K (.slice (some ⟨g', 0, none⟩) (i + k) cap') w') : mop P (o_builtin .append #[t, tn] ty ks [.slice (some ⟨g, 0, none⟩) i c, .int .i64 k]) w K X := by
  obtain ⟨ht, ii, zv, hii, hzz, h3, h4, h5⟩ := sli_spec cc.ok
  obtain rfl : zv = z := by simpa [hii, hzz] using hz
  have hB := h.bkBlf (g := g)
  have hold : (Builtin.firstCells ii.size i (.slice (some ⟨g, 0, none⟩) i c)).run P w.drew = .ok (cs.take i).toArray w.drew := by
    rw [h3]
    exact run_firstCells_some w.drew 1 i ⟨g, 0, none⟩ i c (cs.take i) (by rw [List.length_take]; omega) (fun j v hj => by
      rw [Addr.add_lit, Nat.zero_add]
      show w.cell? ⟨g, j, none⟩ = some v
      rw [hB.cell]
      rw [List.getElem?_take] at hj
      split at hj
      · exact hj
      · cases hj)
  have hr1 := Lib.run_append_grow_zeros w t tn ty e2 ii zv .i64 kn ht htn hii hzz (some ⟨g, 0, none⟩) i c (cs.take i) hold k hk0 (by omega) hg (by omega) (by rw [h4]; have : k * by_ ≤ (i + k) * by_ := Nat.mul_le_mul_right _ (by omega); omega) (by rw [h4]; exact growslice_fits hg (by omega))
  have hge := grownCap_ge w (i + k) c e2
  have hle := grownCap_le_maxLen w (i + k) c e2 (by simp only [maxLen]; omega)
  obtain ⟨m, hm⟩ : ∃ m, i + k + m = grownCap w (i + k) c e2 := ⟨grownCap w (i + k) c e2 - (i + k), by omega⟩
  have hzc : ∀ q, Builtin.zeroCells zv.cells q = (List.replicate q zv).toArray := fun q => by
    rw [hz1]
    refine Array.ext (by simp [Builtin.zeroCells]) fun j h1 h2 => ?_
    simp [Builtin.zeroCells, Nat.mod_one]
  refine mop_run (u := .slice (some ⟨w.heap.size, 0, none⟩) (i + k) (grownCap w (i + k) c e2)) (w' := w.drew.alloc (.cells (cs.take i ++ List.replicate (k + m) zv).toArray e2)) ?_ (hk _ _ m _ hm hle ?_)
  · simp only [o_builtin, invoke, builtin]
    rw [Sem.run_bind, hr1, Result.andThen_ok]
    have e1 : (cs.take i).toArray ++ Builtin.zeroCells zv.cells k ++ Builtin.zeroCells zv.cells (grownCap w (i + k) c e2 - (i + k)) = (cs.take i ++ List.replicate (k + m) zv).toArray := by
      rw [hzc, hzc, ← hm, Nat.add_sub_cancel_left]
      simp
    rw [e1]
    rfl
  · exact (h.drawn ⟨1, rfl⟩).allocBk e2 _
end
end Go.Proofs.YtopcnkejobomaaaGreat
