/- Small words for the formulas of the bodies. -/
import Derived.Test.YtmjpbomonhjebaaProg
import Derived.Test.YtmjpbomonhjebaaMby
import Derived.KernelRfl
namespace Go.Proofs.Ytmjpbomonhjebaa
def pX (R : Ending → World → Prop) : List PanicEntry → World → Prop := fun c w => R (.panicked c) w
abbrev m (R : Ending → World → Prop) (s : Sem Next) (w : World) (K : Value → World → Prop) : Prop := mop Try.prog s w K (pX R)
theorem mixed : Try.prog.follows .mixedOrders = true := by kernel_rfl
abbrev ml0 (w : World) (F : Env → World → (World → Prop) → Prop) : Prop :=
  ∃ (I : World → Prop) (μ : World → Nat), I w ∧ ∀ (u : Env) (w : World), I w → F u w (fun w2 => I w2 ∧ μ w2 < μ w)
abbrev ml1 (a0 : Value) (w : World) (F : Value → Env → World → (Value → World → Prop) → Prop) : Prop :=
  ∃ (I : Value → World → Prop) (μ : Value → World → Nat), I a0 w ∧ ∀ (x0 : Value) (u : Env) (w : World), I x0 w → F x0 u w (fun y0 w2 => I y0 w2 ∧ μ y0 w2 < μ x0 w)
abbrev ml2 (a0 a1 : Value) (w : World) (F : Value → Value → Env → World → (Value → Value → World → Prop) → Prop) : Prop :=
  ∃ (I : Value → Value → World → Prop) (μ : Value → Value → World → Nat), I a0 a1 w ∧ ∀ (x0 x1 : Value) (u : Env) (w : World), I x0 x1 w → F x0 x1 u w (fun y0 y1 w2 => I y0 y1 w2 ∧ μ y0 y1 w2 < μ x0 x1 w)
abbrev ml3 (a0 a1 a2 : Value) (w : World) (F : Value → Value → Value → Env → World → (Value → Value → Value → World → Prop) → Prop) : Prop :=
  ∃ (I : Value → Value → Value → World → Prop) (μ : Value → Value → Value → World → Nat), I a0 a1 a2 w ∧ ∀ (x0 x1 x2 : Value) (u : Env) (w : World), I x0 x1 x2 w → F x0 x1 x2 u w (fun y0 y1 y2 w2 => I y0 y1 y2 w2 ∧ μ y0 y1 y2 w2 < μ x0 x1 x2 w)
abbrev mj0 (F : (World → Prop) → Prop) (G : Env → World → Prop) : Prop :=
  ∃ J : World → Prop, F J ∧ ∀ (u : Env) (w : World), J w → G u w
abbrev mj1 (F : (Value → World → Prop) → Prop) (G : Value → Env → World → Prop) : Prop :=
  ∃ J : Value → World → Prop, F J ∧ ∀ (x0 : Value) (u : Env) (w : World), J x0 w → G x0 u w
abbrev mj2 (F : (Value → Value → World → Prop) → Prop) (G : Value → Value → Env → World → Prop) : Prop :=
  ∃ J : Value → Value → World → Prop, F J ∧ ∀ (x0 x1 : Value) (u : Env) (w : World), J x0 x1 w → G x0 x1 u w
instance : ShpC Try.prog 49 true 2 := ⟨by kernel_rfl⟩
instance : FunC Try.prog 33 := ⟨by kernel_rfl⟩
instance : FunC Try.prog 31 := ⟨by kernel_rfl⟩
instance : FunC Try.prog 32 := ⟨by kernel_rfl⟩
instance : FunC Try.prog 34 := ⟨by kernel_rfl⟩
instance : IsBo Try.prog 4 := ⟨by kernel_rfl⟩
instance : ShpC Try.prog 52 true 97 := ⟨by kernel_rfl⟩
instance : FunC Try.prog 35 := ⟨by kernel_rfl⟩
instance : ZerF Try.prog 49 [.one (.slice none 0 0), .one (.slice none 0 0)] := ⟨by kernel_rfl, inferInstance⟩
instance : FunC Try.prog 36 := ⟨by kernel_rfl⟩
instance : FunC Try.prog 37 := ⟨by kernel_rfl⟩
instance : FunC Try.prog 38 := ⟨by kernel_rfl⟩
instance : FunC Try.prog 39 := ⟨by kernel_rfl⟩
instance : ShpC Try.prog 23 true 32 := ⟨by kernel_rfl⟩
instance : FunC Try.prog 40 := ⟨by kernel_rfl⟩
instance : FunC Try.prog 41 := ⟨by kernel_rfl⟩
instance (priority := 1100) (b : Nat) : StepC Try.prog (o_fieldAddr 49 (.pointer (some ⟨b, 0, none⟩)) 0) True (.pointer (some ⟨b, 0, none⟩)) := ⟨fun _ => p_fieldAddr 49 b 0 0 0 1 (by kernel_rfl) (by decide)⟩
instance (b o : Nat) : StepC Try.prog (o_fieldAddr 49 (.pointer (some ⟨b, o, none⟩)) 0) True (.pointer (some ⟨b, o + 0, none⟩)) := ⟨fun _ => p_fieldAddr 49 b o 0 0 1 (by kernel_rfl) (by decide)⟩
instance : ShpC Try.prog 46 false 1 := ⟨by kernel_rfl⟩
instance (ty : TypeId) (cs : List Bool) (a : Option Addr) (n c : Nat) : StepC Try.prog (o_builtin .len #[46] ty cs [.slice a n c]) True (.int .i64 n) := ⟨fun _ => p_len_slice 46 ty 52 cs a n c (by kernel_rfl)⟩
instance (priority := 1100) (b : Nat) : StepC Try.prog (o_fieldAddr 49 (.pointer (some ⟨b, 0, none⟩)) 1) True (.pointer (some ⟨b, 1, none⟩)) := ⟨fun _ => p_fieldAddr 49 b 0 1 1 1 (by kernel_rfl) (by decide)⟩
instance (b o : Nat) : StepC Try.prog (o_fieldAddr 49 (.pointer (some ⟨b, o, none⟩)) 1) True (.pointer (some ⟨b, o + 1, none⟩)) := ⟨fun _ => p_fieldAddr 49 b o 1 1 1 (by kernel_rfl) (by decide)⟩
instance : ShpC Try.prog 47 false 1 := ⟨by kernel_rfl⟩
instance (ty : TypeId) (cs : List Bool) (a : Option Addr) (n c : Nat) : StepC Try.prog (o_builtin .len #[47] ty cs [.slice a n c]) True (.int .i64 n) := ⟨fun _ => p_len_slice 47 ty 104 cs a n c (by kernel_rfl)⟩
instance (b o n c : Nat) (k : IntKind) (i : Int) : StepC Try.prog (o_indexAddr 47 (.slice (some ⟨b, o, none⟩) n c) (.int k i)) (0 ≤ i ∧ i < n) (.pointer (some ⟨b, o + i.toNat * 66, none⟩)) := ⟨fun h => p_indexAddr_slice (P := Try.prog) 47 b o n c k i 66 (by kernel_rfl) (by kernel_rfl) h.1 h.2⟩
instance : SliS Try.prog 47 66 := ⟨by kernel_rfl, by kernel_rfl⟩
instance (priority := 1100) (b : Nat) : StepC Try.prog (o_fieldAddr 104 (.pointer (some ⟨b, 0, none⟩)) 3) True (.pointer (some ⟨b, 65, none⟩)) := ⟨fun _ => p_fieldAddr 104 b 0 3 65 1 (by kernel_rfl) (by decide)⟩
instance (b o : Nat) : StepC Try.prog (o_fieldAddr 104 (.pointer (some ⟨b, o, none⟩)) 3) True (.pointer (some ⟨b, o + 65, none⟩)) := ⟨fun _ => p_fieldAddr 104 b o 3 65 1 (by kernel_rfl) (by decide)⟩
instance : ShpC Try.prog 69 false 1 := ⟨by kernel_rfl⟩
instance (ty : TypeId) (cs : List Bool) (a : Option Addr) (n c : Nat) : StepC Try.prog (o_builtin .len #[69] ty cs [.slice a n c]) True (.int .i64 n) := ⟨fun _ => p_len_slice 69 ty 3 cs a n c (by kernel_rfl)⟩
instance : ZerF Try.prog 105 [.one (.int .i64 0), .one (.int .i64 0), .one (.int .i64 0)] := ⟨by kernel_rfl, inferInstance⟩
instance : BltC Try.prog 105 := ⟨by kernel_rfl⟩
instance : PlC Try.prog 105 0 0 1 := ⟨by kernel_rfl⟩
instance : PlC Try.prog 105 1 1 1 := ⟨by kernel_rfl⟩
instance : PlC Try.prog 105 2 2 1 := ⟨by kernel_rfl⟩
instance : ZerF Try.prog 52 [.one (.int .i64 0), .arr 32 (u8s hzero.1), .arr 32 (u8s hzero.1), .arr 32 (u8s hzero.1)] := ⟨by kernel_rfl, inferInstance⟩
instance : BltC Try.prog 52 := ⟨by kernel_rfl⟩
instance : PlC Try.prog 52 0 0 1 := ⟨by kernel_rfl⟩
instance : ZerF Try.prog 106 [.arr 65 (List.replicate 65 (.bool false))] := ⟨by kernel_rfl, inferInstance⟩
instance : ZerC Try.prog 106 (List.replicate 65 (.bool false)) := ⟨by kernel_rfl⟩
instance (b o n c : Nat) (k : IntKind) (i : Int) : StepC Try.prog (o_indexAddr 46 (.slice (some ⟨b, o, none⟩) n c) (.int k i)) (0 ≤ i ∧ i < n) (.pointer (some ⟨b, o + i.toNat * 97, none⟩)) := ⟨fun h => p_indexAddr_slice (P := Try.prog) 46 b o n c k i 97 (by kernel_rfl) (by kernel_rfl) h.1 h.2⟩
instance : SliS Try.prog 46 97 := ⟨by kernel_rfl, by kernel_rfl⟩
instance : ZerC Try.prog 52 ([.int .i64 0] ++ (List.replicate 96 (.int .u8 0))) := ⟨by kernel_rfl⟩
instance : KindC Try.prog 52 ((.int .i64) :: (List.replicate 32 (.int .u8) ++ (List.replicate 32 (.int .u8) ++ (List.replicate 32 (.int .u8))))) := ⟨by kernel_rfl, by kernel_rfl, by kernel_rfl⟩
instance (priority := 1100) (b : Nat) : StepC Try.prog (o_fieldAddr 52 (.pointer (some ⟨b, 0, none⟩)) 0) True (.pointer (some ⟨b, 0, none⟩)) := ⟨fun _ => p_fieldAddr 52 b 0 0 0 1 (by kernel_rfl) (by decide)⟩
instance (b o : Nat) : StepC Try.prog (o_fieldAddr 52 (.pointer (some ⟨b, o, none⟩)) 0) True (.pointer (some ⟨b, o + 0, none⟩)) := ⟨fun _ => p_fieldAddr 52 b o 0 0 1 (by kernel_rfl) (by decide)⟩
instance : ShpC Try.prog 3 false 1 := ⟨by kernel_rfl⟩
instance (b o : Nat) (k : IntKind) (i : Int) : StepC Try.prog (o_indexAddr 106 (.pointer (some ⟨b, o, none⟩)) (.int k i)) (0 ≤ i ∧ i < 65) (.pointer (some ⟨b, o + i.toNat, none⟩)) := ⟨fun h => by have := p_indexAddr_array (P := Try.prog) 106 b o 65 k i 1 (by kernel_rfl) (by kernel_rfl) (by kernel_rfl) h.1 h.2; rwa [Nat.mul_one] at this⟩
instance : ShpC Try.prog 4 false 1 := ⟨by kernel_rfl⟩
instance : ShpC Try.prog 104 true 66 := ⟨by kernel_rfl⟩
instance : ZerF Try.prog 104 [.one (.bool false), .arr 32 (u8s hzero.1), .arr 32 (u8s hzero.1), .one (.slice none 0 0)] := ⟨by kernel_rfl, inferInstance⟩
instance : ZerC Try.prog 104 ([.bool false] ++ (List.replicate 64 (.int .u8 0) ++ ([.slice none 0 0]))) := ⟨by kernel_rfl⟩
instance (priority := 1100) (b : Nat) : StepC Try.prog (o_fieldAddr 104 (.pointer (some ⟨b, 0, none⟩)) 0) True (.pointer (some ⟨b, 0, none⟩)) := ⟨fun _ => p_fieldAddr 104 b 0 0 0 1 (by kernel_rfl) (by decide)⟩
instance (b o : Nat) : StepC Try.prog (o_fieldAddr 104 (.pointer (some ⟨b, o, none⟩)) 0) True (.pointer (some ⟨b, o + 0, none⟩)) := ⟨fun _ => p_fieldAddr 104 b o 0 0 1 (by kernel_rfl) (by decide)⟩
instance : FunC Try.prog 70 := ⟨by kernel_rfl⟩
instance (b o n c : Nat) (k : IntKind) (i : Int) : StepC Try.prog (o_indexAddr 69 (.slice (some ⟨b, o, none⟩) n c) (.int k i)) (0 ≤ i ∧ i < n) (.pointer (some ⟨b, o + i.toNat, none⟩)) := ⟨fun h => by have := p_indexAddr_slice (P := Try.prog) 69 b o n c k i 1 (by kernel_rfl) (by kernel_rfl) h.1 h.2; rwa [Nat.mul_one] at this⟩
instance : SliS Try.prog 69 1 := ⟨by kernel_rfl, by kernel_rfl⟩
instance : FunC Try.prog 71 := ⟨by kernel_rfl⟩
instance (priority := 1100) (b : Nat) : StepC Try.prog (o_fieldAddr 104 (.pointer (some ⟨b, 0, none⟩)) 1) True (.pointer (some ⟨b, 1, none⟩)) := ⟨fun _ => p_fieldAddr 104 b 0 1 1 32 (by kernel_rfl) (by decide)⟩
instance (b o : Nat) : StepC Try.prog (o_fieldAddr 104 (.pointer (some ⟨b, o, none⟩)) 1) True (.pointer (some ⟨b, o + 1, none⟩)) := ⟨fun _ => p_fieldAddr 104 b o 1 1 32 (by kernel_rfl) (by decide)⟩
instance : ZerF Try.prog 23 [.arr 32 (u8s hzero.1)] := ⟨by kernel_rfl, inferInstance⟩
instance : HshC Try.prog 23 := ⟨⟨5, by kernel_rfl, by kernel_rfl⟩, by kernel_rfl⟩
instance : BltC Try.prog 23 := ⟨by kernel_rfl⟩
instance : KindC Try.prog 23 (List.replicate 32 (.int .u8)) := ⟨by kernel_rfl, by kernel_rfl, by kernel_rfl⟩
instance (priority := 1100) (b : Nat) : StepC Try.prog (o_fieldAddr 104 (.pointer (some ⟨b, 0, none⟩)) 2) True (.pointer (some ⟨b, 33, none⟩)) := ⟨fun _ => p_fieldAddr 104 b 0 2 33 32 (by kernel_rfl) (by decide)⟩
instance (b o : Nat) : StepC Try.prog (o_fieldAddr 104 (.pointer (some ⟨b, o, none⟩)) 2) True (.pointer (some ⟨b, o + 33, none⟩)) := ⟨fun _ => p_fieldAddr 104 b o 2 33 32 (by kernel_rfl) (by decide)⟩
instance : FunC Try.prog 45 := ⟨by kernel_rfl⟩
instance : BltC Try.prog 49 := ⟨by kernel_rfl⟩
instance : FunC Try.prog 72 := ⟨by kernel_rfl⟩
instance : FunC Try.prog 73 := ⟨by kernel_rfl⟩
instance : FunC Try.prog 74 := ⟨by kernel_rfl⟩
instance : BltC Try.prog 104 := ⟨by kernel_rfl⟩
instance : FunC Try.prog 75 := ⟨by kernel_rfl⟩
instance : FunC Try.prog 76 := ⟨by kernel_rfl⟩
instance : FunC Try.prog 77 := ⟨by kernel_rfl⟩
instance : FunC Try.prog 78 := ⟨by kernel_rfl⟩
instance : FunC Try.prog 79 := ⟨by kernel_rfl⟩
instance : FunC Try.prog 80 := ⟨by kernel_rfl⟩
instance : FunC Try.prog 81 := ⟨by kernel_rfl⟩
instance : FunC Try.prog 82 := ⟨by kernel_rfl⟩
instance : FunC Try.prog 83 := ⟨by kernel_rfl⟩
instance : FunC Try.prog 84 := ⟨by kernel_rfl⟩
instance : FunC Try.prog 85 := ⟨by kernel_rfl⟩
instance (priority := 1100) (b : Nat) : StepC Try.prog (o_fieldAddr 52 (.pointer (some ⟨b, 0, none⟩)) 1) True (.pointer (some ⟨b, 1, none⟩)) := ⟨fun _ => p_fieldAddr 52 b 0 1 1 32 (by kernel_rfl) (by decide)⟩
instance (b o : Nat) : StepC Try.prog (o_fieldAddr 52 (.pointer (some ⟨b, o, none⟩)) 1) True (.pointer (some ⟨b, o + 1, none⟩)) := ⟨fun _ => p_fieldAddr 52 b o 1 1 32 (by kernel_rfl) (by decide)⟩
instance (priority := 1100) (b : Nat) : StepC Try.prog (o_fieldAddr 52 (.pointer (some ⟨b, 0, none⟩)) 3) True (.pointer (some ⟨b, 65, none⟩)) := ⟨fun _ => p_fieldAddr 52 b 0 3 65 32 (by kernel_rfl) (by decide)⟩
instance (b o : Nat) : StepC Try.prog (o_fieldAddr 52 (.pointer (some ⟨b, o, none⟩)) 3) True (.pointer (some ⟨b, o + 65, none⟩)) := ⟨fun _ => p_fieldAddr 52 b o 3 65 32 (by kernel_rfl) (by decide)⟩
instance : FunC Try.prog 91 := ⟨by kernel_rfl⟩
instance : FunC Try.prog 92 := ⟨by kernel_rfl⟩
instance : FunC Try.prog 93 := ⟨by kernel_rfl⟩
instance : FunC Try.prog 119 := ⟨by kernel_rfl⟩
instance : FunC Try.prog 87 := ⟨by kernel_rfl⟩
instance : FdC Try.prog 49 0 0 1 false := ⟨by kernel_rfl⟩
instance : FunC Try.prog 121 := ⟨by kernel_rfl⟩
instance : FunC Try.prog 120 := ⟨by kernel_rfl⟩
instance : FunC Try.prog 122 := ⟨by kernel_rfl⟩
instance : FunC Try.prog 123 := ⟨by kernel_rfl⟩
instance : PlC Try.prog 49 0 0 1 := ⟨by kernel_rfl⟩
instance : PlC Try.prog 49 1 1 1 := ⟨by kernel_rfl⟩
instance : FunC Try.prog 124 := ⟨by kernel_rfl⟩
instance : ZerF Try.prog 69 [.one (.slice none 0 0)] := ⟨by kernel_rfl, inferInstance⟩
instance : ZerC Try.prog 69 ([.slice none 0 0]) := ⟨by kernel_rfl⟩
instance : FunC Try.prog 125 := ⟨by kernel_rfl⟩
instance (a : Int) : StepC Try.prog (o_conv 3 143 (.int .i64 a)) True (.int .u64 (a % 18446744073709551616)) := ⟨fun _ => by have := p_conv_int (P := Try.prog) 3 143 .i64 .u64 a (by kernel_rfl) (by kernel_rfl); rwa [show IntKind.wrap .u64 a = a % 18446744073709551616 by simp [IntKind.wrap, IntKind.bits, IntKind.signed]] at this⟩
instance (a : Int) : StepC Try.prog (o_conv 143 3 (.int .u64 a)) ((-9223372036854775808) ≤ a ∧ a < 9223372036854775808) (.int .i64 a) := ⟨fun h => by have := p_conv_int (P := Try.prog) 143 3 .u64 .i64 a (by kernel_rfl) (by kernel_rfl); rwa [show IntKind.wrap .i64 a = a by simp [IntKind.wrap, IntKind.bits, IntKind.signed]; omega] at this⟩
instance : FunC Try.prog 126 := ⟨by kernel_rfl⟩
instance : FunC Try.prog 127 := ⟨by kernel_rfl⟩
instance : FunC Try.prog 129 := ⟨by kernel_rfl⟩
instance : FunC Try.prog 130 := ⟨by kernel_rfl⟩
instance : FunC Try.prog 131 := ⟨by kernel_rfl⟩
instance : FunC Try.prog 132 := ⟨by kernel_rfl⟩
instance : FunC Try.prog 133 := ⟨by kernel_rfl⟩
instance : FunC Try.prog 141 := ⟨by kernel_rfl⟩
instance : FunC Try.prog 142 := ⟨by kernel_rfl⟩
instance : FunC Try.prog 90 := ⟨by kernel_rfl⟩
instance : FunC Try.prog 89 := ⟨by kernel_rfl⟩
instance : IsSl Try.prog 46 := isSl_of (by kernel_rfl)
instance : IsSl Try.prog 47 := isSl_of (by kernel_rfl)
instance : IsSl Try.prog 69 := isSl_of (by kernel_rfl)
instance : FunC Try.prog 147 := ⟨by kernel_rfl⟩
instance : FunC Try.prog 148 := ⟨by kernel_rfl⟩
instance : FunC Try.prog 149 := ⟨by kernel_rfl⟩
instance : FunC Try.prog 95 := ⟨by kernel_rfl⟩
instance : SliC Try.prog 47 104 66 96 := ⟨by kernel_rfl⟩
instance : SliC Try.prog 46 52 97 104 := ⟨by kernel_rfl⟩
instance : SliC Try.prog 69 3 1 8 := ⟨by kernel_rfl⟩
end Go.Proofs.Ytmjpbomonhjebaa
