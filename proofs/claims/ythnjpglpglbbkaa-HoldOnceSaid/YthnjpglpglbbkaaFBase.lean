/- Small words for the formulas of the bodies. -/
import Derived.Test.YthnjpglpglbbkaaProg
import Derived.Test.YthnjpglpglbbkaaMgo
import Derived.KernelRfl
namespace Go.Proofs.Ythnjpglpglbbkaa
def pX (R : Ending → World → Prop) : List PanicEntry → World → Prop := fun c w => R (.panicked c) w
abbrev m (R : Ending → World → Prop) (s : Sem Next) (w : World) (K : Value → World → Prop) : Prop := mop Try.prog s w K (pX R)
theorem mixed : Try.prog.follows .mixedOrders = true := by kernel_rfl
abbrev ml0 (w : World) (F : Env → World → (World → Prop) → Prop) : Prop :=
  ∃ (I : World → Prop) (μ : World → Nat), I w ∧ ∀ (u : Env) (w : World), I w → F u w (fun w2 => I w2 ∧ μ w2 < μ w)
abbrev ml1 (a0 : Value) (w : World) (F : Value → Env → World → (Value → World → Prop) → Prop) : Prop :=
  ∃ (I : Value → World → Prop) (μ : Value → World → Nat), I a0 w ∧ ∀ (x0 : Value) (u : Env) (w : World), I x0 w → F x0 u w (fun y0 w2 => I y0 w2 ∧ μ y0 w2 < μ x0 w)
abbrev ml2 (a0 a1 : Value) (w : World) (F : Value → Value → Env → World → (Value → Value → World → Prop) → Prop) : Prop :=
  ∃ (I : Value → Value → World → Prop) (μ : Value → Value → World → Nat), I a0 a1 w ∧ ∀ (x0 x1 : Value) (u : Env) (w : World), I x0 x1 w → F x0 x1 u w (fun y0 y1 w2 => I y0 y1 w2 ∧ μ y0 y1 w2 < μ x0 x1 w)
abbrev ml3 (a0 a1 a2 : Value) (w : World) (F : Value → Value → Value → Env → World → (Value → Value → Value → World → Prop) → Prop) : Prop :=
  ∃ (I : Value → Value → Value → World → Prop) (μ : Value → Value → Value → World → Nat), I a0 a1 a2 w ∧ ∀ (x0 x1 x2 : Value) (u : Env) (w : World), I x0 x1 x2 w → F x0 x1 x2 u w (fun y0 y1 y2 w2 => I y0 y1 y2 w2 ∧ μ y0 y1 y2 w2 < μ x0 x1 x2 w)
abbrev mj0 (F : (World → Prop) → Prop) (G : Env → World → Prop) : Prop :=
  ∃ J : World → Prop, F J ∧ ∀ (u : Env) (w : World), J w → G u w
abbrev mj1 (F : (Value → World → Prop) → Prop) (G : Value → Env → World → Prop) : Prop :=
  ∃ J : Value → World → Prop, F J ∧ ∀ (x0 : Value) (u : Env) (w : World), J x0 w → G x0 u w
abbrev mj2 (F : (Value → Value → World → Prop) → Prop) (G : Value → Value → Env → World → Prop) : Prop :=
  ∃ J : Value → Value → World → Prop, F J ∧ ∀ (x0 x1 : Value) (u : Env) (w : World), J x0 x1 w → G x0 x1 u w
instance : FunC Try.prog 14 := ⟨by kernel_rfl⟩
instance (ty : TypeId) (cs : List Bool) (a : Option Addr) (n c : Nat) : StepC Try.prog (o_builtin .len #[22] ty cs [.slice a n c]) True (.int .i64 n) := ⟨fun _ => p_len_slice 22 ty 34 cs a n c (by kernel_rfl)⟩
instance (a : Int) : StepC Try.prog (o_conv 5 3 (.int .u8 a)) (0 ≤ a ∧ a < 256) (.int .i64 a) := ⟨fun h => by have := p_conv_int (P := Try.prog) 5 3 .u8 .i64 a (by kernel_rfl) (by kernel_rfl); rwa [show IntKind.wrap .i64 a = a by simp [IntKind.wrap, IntKind.bits, IntKind.signed]; omega] at this⟩
instance : FunC Try.prog 15 := ⟨by kernel_rfl⟩
instance (b o n c : Nat) (k : IntKind) (i : Int) : StepC Try.prog (o_indexAddr 22 (.slice (some ⟨b, o, none⟩) n c) (.int k i)) (0 ≤ i ∧ i < n) (.pointer (some ⟨b, o + i.toNat * 66, none⟩)) := ⟨fun h => p_indexAddr_slice (P := Try.prog) 22 b o n c k i 66 (by kernel_rfl) (by kernel_rfl) h.1 h.2⟩
instance : SliS Try.prog 22 66 := ⟨by kernel_rfl, by kernel_rfl⟩
instance : ShpC Try.prog 34 true 66 := ⟨by kernel_rfl⟩
instance : FunC Try.prog 17 := ⟨by kernel_rfl⟩
instance : FunC Try.prog 16 := ⟨by kernel_rfl⟩
instance : FunC Try.prog 18 := ⟨by kernel_rfl⟩
instance (priority := 1100) (b : Nat) : StepC Try.prog (o_fieldAddr 34 (.pointer (some ⟨b, 0, none⟩)) 1) True (.pointer (some ⟨b, 32, none⟩)) := ⟨fun _ => p_fieldAddr 34 b 0 1 32 32 (by kernel_rfl) (by decide)⟩
instance (b o : Nat) : StepC Try.prog (o_fieldAddr 34 (.pointer (some ⟨b, o, none⟩)) 1) True (.pointer (some ⟨b, o + 32, none⟩)) := ⟨fun _ => p_fieldAddr 34 b o 1 32 32 (by kernel_rfl) (by decide)⟩
instance : ShpC Try.prog 30 true 32 := ⟨by kernel_rfl⟩
instance : FunC Try.prog 20 := ⟨by kernel_rfl⟩
instance : FunC Try.prog 19 := ⟨by kernel_rfl⟩
instance : KindC Try.prog 30 (List.replicate 32 (.int .u8)) := ⟨by kernel_rfl, by kernel_rfl, by kernel_rfl⟩
instance : KindC Try.prog 34 (List.replicate 32 (.int .u8) ++ (List.replicate 32 (.int .u8) ++ ((.int .i64) :: [.str]))) := ⟨by kernel_rfl, by kernel_rfl, by kernel_rfl⟩
instance (ty : TypeId) (cs : List Bool) (a : Option Addr) (n c : Nat) : StepC Try.prog (o_builtin .len #[75] ty cs [.slice a n c]) True (.int .i64 n) := ⟨fun _ => p_len_slice 75 ty 79 cs a n c (by kernel_rfl)⟩
instance : IsPt Try.prog 24 := isPt_of (by kernel_rfl)
instance : ZerF Try.prog 77 [.one (.int .i64 0), .one (.slice none 0 0)] := ⟨by kernel_rfl, inferInstance⟩
instance : BltC Try.prog 77 := ⟨by kernel_rfl⟩
instance : PlC Try.prog 77 0 0 1 := ⟨by kernel_rfl⟩
instance : ZerC Try.prog 77 ([.int .i64 0, .slice none 0 0]) := ⟨by kernel_rfl⟩
instance : ShpC Try.prog 77 true 2 := ⟨by kernel_rfl⟩
instance (b o n c : Nat) (k : IntKind) (i : Int) : StepC Try.prog (o_indexAddr 75 (.slice (some ⟨b, o, none⟩) n c) (.int k i)) (0 ≤ i ∧ i < n) (.pointer (some ⟨b, o + i.toNat * 67, none⟩)) := ⟨fun h => p_indexAddr_slice (P := Try.prog) 75 b o n c k i 67 (by kernel_rfl) (by kernel_rfl) h.1 h.2⟩
instance : SliS Try.prog 75 67 := ⟨by kernel_rfl, by kernel_rfl⟩
instance (priority := 1100) (b : Nat) : StepC Try.prog (o_fieldAddr 79 (.pointer (some ⟨b, 0, none⟩)) 1) True (.pointer (some ⟨b, 1, none⟩)) := ⟨fun _ => p_fieldAddr 79 b 0 1 1 66 (by kernel_rfl) (by decide)⟩
instance (b o : Nat) : StepC Try.prog (o_fieldAddr 79 (.pointer (some ⟨b, o, none⟩)) 1) True (.pointer (some ⟨b, o + 1, none⟩)) := ⟨fun _ => p_fieldAddr 79 b o 1 1 66 (by kernel_rfl) (by decide)⟩
instance : ZerF Try.prog 34 [.arr 32 (u8s h0.1), .arr 32 (u8s h0.1), .one (.int .i64 0), .one (.string (ByteArray.mk #[]))] := ⟨by kernel_rfl, inferInstance⟩
instance : ZerC Try.prog 34 (List.replicate 64 (.int .u8 0) ++ ([.int .i64 0, .string (ByteArray.mk #[])])) := ⟨by kernel_rfl⟩
instance (priority := 1100) (b : Nat) : StepC Try.prog (o_fieldAddr 79 (.pointer (some ⟨b, 0, none⟩)) 0) True (.pointer (some ⟨b, 0, none⟩)) := ⟨fun _ => p_fieldAddr 79 b 0 0 0 1 (by kernel_rfl) (by decide)⟩
instance (b o : Nat) : StepC Try.prog (o_fieldAddr 79 (.pointer (some ⟨b, o, none⟩)) 0) True (.pointer (some ⟨b, o + 0, none⟩)) := ⟨fun _ => p_fieldAddr 79 b o 0 0 1 (by kernel_rfl) (by decide)⟩
instance : ShpC Try.prog 5 false 1 := ⟨by kernel_rfl⟩
instance : FunC Try.prog 39 := ⟨by kernel_rfl⟩
instance : FunC Try.prog 40 := ⟨by kernel_rfl⟩
instance : FunC Try.prog 41 := ⟨by kernel_rfl⟩
instance (priority := 1100) (b : Nat) : StepC Try.prog (o_fieldAddr 34 (.pointer (some ⟨b, 0, none⟩)) 2) True (.pointer (some ⟨b, 64, none⟩)) := ⟨fun _ => p_fieldAddr 34 b 0 2 64 1 (by kernel_rfl) (by decide)⟩
instance (b o : Nat) : StepC Try.prog (o_fieldAddr 34 (.pointer (some ⟨b, o, none⟩)) 2) True (.pointer (some ⟨b, o + 64, none⟩)) := ⟨fun _ => p_fieldAddr 34 b o 2 64 1 (by kernel_rfl) (by decide)⟩
instance : ShpC Try.prog 3 false 1 := ⟨by kernel_rfl⟩
instance : FunC Try.prog 42 := ⟨by kernel_rfl⟩
instance : FunC Try.prog 43 := ⟨by kernel_rfl⟩
instance : FunC Try.prog 44 := ⟨by kernel_rfl⟩
instance (priority := 1100) (b : Nat) : StepC Try.prog (o_fieldAddr 34 (.pointer (some ⟨b, 0, none⟩)) 0) True (.pointer (some ⟨b, 0, none⟩)) := ⟨fun _ => p_fieldAddr 34 b 0 0 0 32 (by kernel_rfl) (by decide)⟩
instance (b o : Nat) : StepC Try.prog (o_fieldAddr 34 (.pointer (some ⟨b, o, none⟩)) 0) True (.pointer (some ⟨b, o + 0, none⟩)) := ⟨fun _ => p_fieldAddr 34 b o 0 0 32 (by kernel_rfl) (by decide)⟩
instance : FunC Try.prog 45 := ⟨by kernel_rfl⟩
instance : IsBo Try.prog 4 := ⟨by kernel_rfl⟩
instance : FunC Try.prog 46 := ⟨by kernel_rfl⟩
instance (priority := 1100) (b : Nat) : StepC Try.prog (o_fieldAddr 77 (.pointer (some ⟨b, 0, none⟩)) 1) True (.pointer (some ⟨b, 1, none⟩)) := ⟨fun _ => p_fieldAddr 77 b 0 1 1 1 (by kernel_rfl) (by decide)⟩
instance (b o : Nat) : StepC Try.prog (o_fieldAddr 77 (.pointer (some ⟨b, o, none⟩)) 1) True (.pointer (some ⟨b, o + 1, none⟩)) := ⟨fun _ => p_fieldAddr 77 b o 1 1 1 (by kernel_rfl) (by decide)⟩
instance : ShpC Try.prog 22 false 1 := ⟨by kernel_rfl⟩
instance (ty : TypeId) (cs : List Bool) (a : Option Addr) (n c : Nat) : StepC Try.prog (o_builtin .len #[37] ty cs [.slice a n c]) True (.int .i64 n) := ⟨fun _ => p_len_slice 37 ty 32 cs a n c (by kernel_rfl)⟩
instance : ZerF Try.prog 30 [.arr 32 (u8s h0.1)] := ⟨by kernel_rfl, inferInstance⟩
instance : HshC Try.prog 30 := ⟨⟨5, by kernel_rfl, by kernel_rfl⟩, by kernel_rfl⟩
instance : BltC Try.prog 30 := ⟨by kernel_rfl⟩
instance : PlC Try.prog 30 0 0 1 := ⟨by kernel_rfl⟩
instance : ZerF Try.prog 32 [.arr 32 (u8s h0.1), .arr 32 (u8s h0.1), .one (.int .i64 0), .one (.string (ByteArray.mk #[]))] := ⟨by kernel_rfl, inferInstance⟩
instance : BltC Try.prog 32 := ⟨by kernel_rfl⟩
instance : PlC Try.prog 32 0 0 32 := ⟨by kernel_rfl⟩
instance : PlC Try.prog 32 1 32 32 := ⟨by kernel_rfl⟩
instance : PlC Try.prog 32 3 65 1 := ⟨by kernel_rfl⟩
instance (b o n c : Nat) (k : IntKind) (i : Int) : StepC Try.prog (o_indexAddr 37 (.slice (some ⟨b, o, none⟩) n c) (.int k i)) (0 ≤ i ∧ i < n) (.pointer (some ⟨b, o + i.toNat * 66, none⟩)) := ⟨fun h => p_indexAddr_slice (P := Try.prog) 37 b o n c k i 66 (by kernel_rfl) (by kernel_rfl) h.1 h.2⟩
instance : SliS Try.prog 37 66 := ⟨by kernel_rfl, by kernel_rfl⟩
instance (priority := 1100) (b : Nat) : StepC Try.prog (o_fieldAddr 32 (.pointer (some ⟨b, 0, none⟩)) 3) True (.pointer (some ⟨b, 65, none⟩)) := ⟨fun _ => p_fieldAddr 32 b 0 3 65 1 (by kernel_rfl) (by decide)⟩
instance (b o : Nat) : StepC Try.prog (o_fieldAddr 32 (.pointer (some ⟨b, o, none⟩)) 3) True (.pointer (some ⟨b, o + 65, none⟩)) := ⟨fun _ => p_fieldAddr 32 b o 3 65 1 (by kernel_rfl) (by decide)⟩
instance : ShpC Try.prog 9 false 1 := ⟨by kernel_rfl⟩
instance : ZerF Try.prog 145 [.one (.int .i64 0), .one (.slice none 0 0)] := ⟨by kernel_rfl, inferInstance⟩
instance : BltC Try.prog 145 := ⟨by kernel_rfl⟩
instance : PlC Try.prog 145 0 0 1 := ⟨by kernel_rfl⟩
instance : ShpC Try.prog 145 true 2 := ⟨by kernel_rfl⟩
instance : ShpC Try.prog 32 true 66 := ⟨by kernel_rfl⟩
instance (priority := 1100) (b : Nat) : StepC Try.prog (o_fieldAddr 145 (.pointer (some ⟨b, 0, none⟩)) 1) True (.pointer (some ⟨b, 1, none⟩)) := ⟨fun _ => p_fieldAddr 145 b 0 1 1 1 (by kernel_rfl) (by decide)⟩
instance (b o : Nat) : StepC Try.prog (o_fieldAddr 145 (.pointer (some ⟨b, o, none⟩)) 1) True (.pointer (some ⟨b, o + 1, none⟩)) := ⟨fun _ => p_fieldAddr 145 b o 1 1 1 (by kernel_rfl) (by decide)⟩
instance : ShpC Try.prog 37 false 1 := ⟨by kernel_rfl⟩
instance : FunC Try.prog 78 := ⟨by kernel_rfl⟩
instance : FunC Try.prog 77 := ⟨by kernel_rfl⟩
instance (priority := 1100) (b : Nat) : StepC Try.prog (o_fieldAddr 145 (.pointer (some ⟨b, 0, none⟩)) 0) True (.pointer (some ⟨b, 0, none⟩)) := ⟨fun _ => p_fieldAddr 145 b 0 0 0 1 (by kernel_rfl) (by decide)⟩
instance (b o : Nat) : StepC Try.prog (o_fieldAddr 145 (.pointer (some ⟨b, o, none⟩)) 0) True (.pointer (some ⟨b, o + 0, none⟩)) := ⟨fun _ => p_fieldAddr 145 b o 0 0 1 (by kernel_rfl) (by decide)⟩
instance : ZerC Try.prog 32 (List.replicate 64 (.int .u8 0) ++ ([.int .i64 0, .string (ByteArray.mk #[])])) := ⟨by kernel_rfl⟩
instance (priority := 1100) (b : Nat) : StepC Try.prog (o_fieldAddr 34 (.pointer (some ⟨b, 0, none⟩)) 3) True (.pointer (some ⟨b, 65, none⟩)) := ⟨fun _ => p_fieldAddr 34 b 0 3 65 1 (by kernel_rfl) (by decide)⟩
instance (b o : Nat) : StepC Try.prog (o_fieldAddr 34 (.pointer (some ⟨b, o, none⟩)) 3) True (.pointer (some ⟨b, o + 65, none⟩)) := ⟨fun _ => p_fieldAddr 34 b o 3 65 1 (by kernel_rfl) (by decide)⟩
instance : PlC Try.prog 32 2 64 1 := ⟨by kernel_rfl⟩
instance (priority := 1100) (b : Nat) : StepC Try.prog (o_fieldAddr 32 (.pointer (some ⟨b, 0, none⟩)) 0) True (.pointer (some ⟨b, 0, none⟩)) := ⟨fun _ => p_fieldAddr 32 b 0 0 0 32 (by kernel_rfl) (by decide)⟩
instance (b o : Nat) : StepC Try.prog (o_fieldAddr 32 (.pointer (some ⟨b, o, none⟩)) 0) True (.pointer (some ⟨b, o + 0, none⟩)) := ⟨fun _ => p_fieldAddr 32 b o 0 0 32 (by kernel_rfl) (by decide)⟩
instance (priority := 1100) (b : Nat) : StepC Try.prog (o_fieldAddr 32 (.pointer (some ⟨b, 0, none⟩)) 1) True (.pointer (some ⟨b, 32, none⟩)) := ⟨fun _ => p_fieldAddr 32 b 0 1 32 32 (by kernel_rfl) (by decide)⟩
instance (b o : Nat) : StepC Try.prog (o_fieldAddr 32 (.pointer (some ⟨b, o, none⟩)) 1) True (.pointer (some ⟨b, o + 32, none⟩)) := ⟨fun _ => p_fieldAddr 32 b o 1 32 32 (by kernel_rfl) (by decide)⟩
instance (priority := 1100) (b : Nat) : StepC Try.prog (o_fieldAddr 32 (.pointer (some ⟨b, 0, none⟩)) 2) True (.pointer (some ⟨b, 64, none⟩)) := ⟨fun _ => p_fieldAddr 32 b 0 2 64 1 (by kernel_rfl) (by decide)⟩
instance (b o : Nat) : StepC Try.prog (o_fieldAddr 32 (.pointer (some ⟨b, o, none⟩)) 2) True (.pointer (some ⟨b, o + 64, none⟩)) := ⟨fun _ => p_fieldAddr 32 b o 2 64 1 (by kernel_rfl) (by decide)⟩
instance : BltC Try.prog 34 := ⟨by kernel_rfl⟩
instance : PlC Try.prog 34 0 0 32 := ⟨by kernel_rfl⟩
instance : PlC Try.prog 34 1 32 32 := ⟨by kernel_rfl⟩
instance : PlC Try.prog 34 2 64 1 := ⟨by kernel_rfl⟩
instance : PlC Try.prog 34 3 65 1 := ⟨by kernel_rfl⟩
instance : FunC Try.prog 80 := ⟨by kernel_rfl⟩
instance : FunC Try.prog 79 := ⟨by kernel_rfl⟩
instance (priority := 1100) (b : Nat) : StepC Try.prog (o_fieldAddr 77 (.pointer (some ⟨b, 0, none⟩)) 0) True (.pointer (some ⟨b, 0, none⟩)) := ⟨fun _ => p_fieldAddr 77 b 0 0 0 1 (by kernel_rfl) (by decide)⟩
instance (b o : Nat) : StepC Try.prog (o_fieldAddr 77 (.pointer (some ⟨b, o, none⟩)) 0) True (.pointer (some ⟨b, o + 0, none⟩)) := ⟨fun _ => p_fieldAddr 77 b o 0 0 1 (by kernel_rfl) (by decide)⟩
instance : PlC Try.prog 77 1 1 1 := ⟨by kernel_rfl⟩
instance : FunC Try.prog 85 := ⟨by kernel_rfl⟩
instance : FunC Try.prog 86 := ⟨by kernel_rfl⟩
instance : FunC Try.prog 87 := ⟨by kernel_rfl⟩
instance : FunC Try.prog 95 := ⟨by kernel_rfl⟩
instance : IsSl Try.prog 37 := isSl_of (by kernel_rfl)
instance : SliC Try.prog 22 34 66 88 := ⟨by kernel_rfl⟩
instance : SliC Try.prog 37 32 66 88 := ⟨by kernel_rfl⟩
end Go.Proofs.Ythnjpglpglbbkaa
