/- Small words for the formulas of the bodies. -/
import Derived.Test.YtopcnkejobomaaaProg
import Derived.Test.YtopcnkejobomaaaMby
import Derived.KernelRfl
namespace Go.Proofs.Ytopcnkejobomaaa
def pX (R : Ending → World → Prop) : List PanicEntry → World → Prop := fun c w => R (.panicked c) w
abbrev m (R : Ending → World → Prop) (s : Sem Next) (w : World) (K : Value → World → Prop) : Prop := mop Try.prog s w K (pX R)
theorem mixed : Try.prog.follows .mixedOrders = true := by kernel_rfl
abbrev ml0 (w : World) (F : Env → World → (World → Prop) → Prop) : Prop :=
  ∃ (I : World → Prop) (μ : World → Nat), I w ∧ ∀ (u : Env) (w : World), I w → F u w (fun w2 => I w2 ∧ μ w2 < μ w)
abbrev ml1 (a0 : Value) (w : World) (F : Value → Env → World → (Value → World → Prop) → Prop) : Prop :=
  ∃ (I : Value → World → Prop) (μ : Value → World → Nat), I a0 w ∧ ∀ (x0 : Value) (u : Env) (w : World), I x0 w → F x0 u w (fun y0 w2 => I y0 w2 ∧ μ y0 w2 < μ x0 w)
abbrev ml2 (a0 a1 : Value) (w : World) (F : Value → Value → Env → World → (Value → Value → World → Prop) → Prop) : Prop :=
  ∃ (I : Value → Value → World → Prop) (μ : Value → Value → World → Nat), I a0 a1 w ∧ ∀ (x0 x1 : Value) (u : Env) (w : World), I x0 x1 w → F x0 x1 u w (fun y0 y1 w2 => I y0 y1 w2 ∧ μ y0 y1 w2 < μ x0 x1 w)
abbrev ml3 (a0 a1 a2 : Value) (w : World) (F : Value → Value → Value → Env → World → (Value → Value → Value → World → Prop) → Prop) : Prop :=
  ∃ (I : Value → Value → Value → World → Prop) (μ : Value → Value → Value → World → Nat), I a0 a1 a2 w ∧ ∀ (x0 x1 x2 : Value) (u : Env) (w : World), I x0 x1 x2 w → F x0 x1 x2 u w (fun y0 y1 y2 w2 => I y0 y1 y2 w2 ∧ μ y0 y1 y2 w2 < μ x0 x1 x2 w)
abbrev ml4 (a0 a1 a2 a3 : Value) (w : World) (F : Value → Value → Value → Value → Env → World → (Value → Value → Value → Value → World → Prop) → Prop) : Prop :=
  ∃ (I : Value → Value → Value → Value → World → Prop) (μ : Value → Value → Value → Value → World → Nat), I a0 a1 a2 a3 w ∧ ∀ (x0 x1 x2 x3 : Value) (u : Env) (w : World), I x0 x1 x2 x3 w → F x0 x1 x2 x3 u w (fun y0 y1 y2 y3 w2 => I y0 y1 y2 y3 w2 ∧ μ y0 y1 y2 y3 w2 < μ x0 x1 x2 x3 w)
abbrev ml5 (a0 a1 a2 a3 a4 : Value) (w : World) (F : Value → Value → Value → Value → Value → Env → World → (Value → Value → Value → Value → Value → World → Prop) → Prop) : Prop :=
  ∃ (I : Value → Value → Value → Value → Value → World → Prop) (μ : Value → Value → Value → Value → Value → World → Nat), I a0 a1 a2 a3 a4 w ∧ ∀ (x0 x1 x2 x3 x4 : Value) (u : Env) (w : World), I x0 x1 x2 x3 x4 w → F x0 x1 x2 x3 x4 u w (fun y0 y1 y2 y3 y4 w2 => I y0 y1 y2 y3 y4 w2 ∧ μ y0 y1 y2 y3 y4 w2 < μ x0 x1 x2 x3 x4 w)
abbrev ml6 (a0 a1 a2 a3 a4 a5 : Value) (w : World) (F : Value → Value → Value → Value → Value → Value → Env → World → (Value → Value → Value → Value → Value → Value → World → Prop) → Prop) : Prop :=
  ∃ (I : Value → Value → Value → Value → Value → Value → World → Prop) (μ : Value → Value → Value → Value → Value → Value → World → Nat), I a0 a1 a2 a3 a4 a5 w ∧ ∀ (x0 x1 x2 x3 x4 x5 : Value) (u : Env) (w : World), I x0 x1 x2 x3 x4 x5 w → F x0 x1 x2 x3 x4 x5 u w (fun y0 y1 y2 y3 y4 y5 w2 => I y0 y1 y2 y3 y4 y5 w2 ∧ μ y0 y1 y2 y3 y4 y5 w2 < μ x0 x1 x2 x3 x4 x5 w)
abbrev ml7 (a0 a1 a2 a3 a4 a5 a6 : Value) (w : World) (F : Value → Value → Value → Value → Value → Value → Value → Env → World → (Value → Value → Value → Value → Value → Value → Value → World → Prop) → Prop) : Prop :=
  ∃ (I : Value → Value → Value → Value → Value → Value → Value → World → Prop) (μ : Value → Value → Value → Value → Value → Value → Value → World → Nat), I a0 a1 a2 a3 a4 a5 a6 w ∧ ∀ (x0 x1 x2 x3 x4 x5 x6 : Value) (u : Env) (w : World), I x0 x1 x2 x3 x4 x5 x6 w → F x0 x1 x2 x3 x4 x5 x6 u w (fun y0 y1 y2 y3 y4 y5 y6 w2 => I y0 y1 y2 y3 y4 y5 y6 w2 ∧ μ y0 y1 y2 y3 y4 y5 y6 w2 < μ x0 x1 x2 x3 x4 x5 x6 w)
abbrev ml8 (a0 a1 a2 a3 a4 a5 a6 a7 : Value) (w : World) (F : Value → Value → Value → Value → Value → Value → Value → Value → Env → World → (Value → Value → Value → Value → Value → Value → Value → Value → World → Prop) → Prop) : Prop :=
  ∃ (I : Value → Value → Value → Value → Value → Value → Value → Value → World → Prop) (μ : Value → Value → Value → Value → Value → Value → Value → Value → World → Nat), I a0 a1 a2 a3 a4 a5 a6 a7 w ∧ ∀ (x0 x1 x2 x3 x4 x5 x6 x7 : Value) (u : Env) (w : World), I x0 x1 x2 x3 x4 x5 x6 x7 w → F x0 x1 x2 x3 x4 x5 x6 x7 u w (fun y0 y1 y2 y3 y4 y5 y6 y7 w2 => I y0 y1 y2 y3 y4 y5 y6 y7 w2 ∧ μ y0 y1 y2 y3 y4 y5 y6 y7 w2 < μ x0 x1 x2 x3 x4 x5 x6 x7 w)
abbrev ml9 (a0 a1 a2 a3 a4 a5 a6 a7 a8 : Value) (w : World) (F : Value → Value → Value → Value → Value → Value → Value → Value → Value → Env → World → (Value → Value → Value → Value → Value → Value → Value → Value → Value → World → Prop) → Prop) : Prop :=
  ∃ (I : Value → Value → Value → Value → Value → Value → Value → Value → Value → World → Prop) (μ : Value → Value → Value → Value → Value → Value → Value → Value → Value → World → Nat), I a0 a1 a2 a3 a4 a5 a6 a7 a8 w ∧ ∀ (x0 x1 x2 x3 x4 x5 x6 x7 x8 : Value) (u : Env) (w : World), I x0 x1 x2 x3 x4 x5 x6 x7 x8 w → F x0 x1 x2 x3 x4 x5 x6 x7 x8 u w (fun y0 y1 y2 y3 y4 y5 y6 y7 y8 w2 => I y0 y1 y2 y3 y4 y5 y6 y7 y8 w2 ∧ μ y0 y1 y2 y3 y4 y5 y6 y7 y8 w2 < μ x0 x1 x2 x3 x4 x5 x6 x7 x8 w)
abbrev mj0 (F : (World → Prop) → Prop) (G : Env → World → Prop) : Prop :=
  ∃ J : World → Prop, F J ∧ ∀ (u : Env) (w : World), J w → G u w
abbrev mj1 (F : (Value → World → Prop) → Prop) (G : Value → Env → World → Prop) : Prop :=
  ∃ J : Value → World → Prop, F J ∧ ∀ (x0 : Value) (u : Env) (w : World), J x0 w → G x0 u w
abbrev mj2 (F : (Value → Value → World → Prop) → Prop) (G : Value → Value → Env → World → Prop) : Prop :=
  ∃ J : Value → Value → World → Prop, F J ∧ ∀ (x0 x1 : Value) (u : Env) (w : World), J x0 x1 w → G x0 x1 u w
instance : FunC Try.prog 13 := ⟨by kernel_rfl⟩
instance (ty : TypeId) (cs : List Bool) (a : Option Addr) (n c : Nat) : StepC Try.prog (o_builtin .len #[22] ty cs [.slice a n c]) True (.int .i64 n) := ⟨fun _ => p_len_slice 22 ty 53 cs a n c (by kernel_rfl)⟩
instance : FunC Try.prog 14 := ⟨by kernel_rfl⟩
instance : ZerF Try.prog 27 [.one (.slice none 0 0), .one (.slice none 0 0)] := ⟨by kernel_rfl, inferInstance⟩
instance : ShpC Try.prog 27 true 2 := ⟨by kernel_rfl⟩
instance (priority := 1100) (b : Nat) : StepC Try.prog (o_fieldAddr 27 (.pointer (some ⟨b, 0, none⟩)) 0) True (.pointer (some ⟨b, 0, none⟩)) := ⟨fun _ => p_fieldAddr 27 b 0 0 0 1 (by kernel_rfl) (by decide)⟩
instance (b o : Nat) : StepC Try.prog (o_fieldAddr 27 (.pointer (some ⟨b, o, none⟩)) 0) True (.pointer (some ⟨b, o + 0, none⟩)) := ⟨fun _ => p_fieldAddr 27 b o 0 0 1 (by kernel_rfl) (by decide)⟩
instance : ShpC Try.prog 24 false 1 := ⟨by kernel_rfl⟩
instance (ty : TypeId) (cs : List Bool) (a : Option Addr) (n c : Nat) : StepC Try.prog (o_builtin .len #[24] ty cs [.slice a n c]) True (.int .i64 n) := ⟨fun _ => p_len_slice 24 ty 36 cs a n c (by kernel_rfl)⟩
instance : FunC Try.prog 15 := ⟨by kernel_rfl⟩
instance (ty : TypeId) (cs : List Bool) (a : Option Addr) (n c : Nat) : StepC Try.prog (o_builtin .len #[29] ty cs [.slice a n c]) True (.int .i64 n) := ⟨fun _ => p_len_slice 29 ty 3 cs a n c (by kernel_rfl)⟩
instance : FunC Try.prog 16 := ⟨by kernel_rfl⟩
instance (b o n c : Nat) (k : IntKind) (i : Int) : StepC Try.prog (o_indexAddr 29 (.slice (some ⟨b, o, none⟩) n c) (.int k i)) (0 ≤ i ∧ i < n) (.pointer (some ⟨b, o + i.toNat, none⟩)) := ⟨fun h => by have := p_indexAddr_slice (P := Try.prog) 29 b o n c k i 1 (by kernel_rfl) (by kernel_rfl) h.1 h.2; rwa [Nat.mul_one] at this⟩
instance : SliS Try.prog 29 1 := ⟨by kernel_rfl, by kernel_rfl⟩
instance : ShpC Try.prog 3 false 1 := ⟨by kernel_rfl⟩
instance : FunC Try.prog 17 := ⟨by kernel_rfl⟩
instance (b o n c : Nat) (k : IntKind) (i : Int) : StepC Try.prog (o_indexAddr 24 (.slice (some ⟨b, o, none⟩) n c) (.int k i)) (0 ≤ i ∧ i < n) (.pointer (some ⟨b, o + i.toNat * 97, none⟩)) := ⟨fun h => p_indexAddr_slice (P := Try.prog) 24 b o n c k i 97 (by kernel_rfl) (by kernel_rfl) h.1 h.2⟩
instance : SliS Try.prog 24 97 := ⟨by kernel_rfl, by kernel_rfl⟩
instance (priority := 1100) (b : Nat) : StepC Try.prog (o_fieldAddr 36 (.pointer (some ⟨b, 0, none⟩)) 0) True (.pointer (some ⟨b, 0, none⟩)) := ⟨fun _ => p_fieldAddr 36 b 0 0 0 1 (by kernel_rfl) (by decide)⟩
instance (b o : Nat) : StepC Try.prog (o_fieldAddr 36 (.pointer (some ⟨b, o, none⟩)) 0) True (.pointer (some ⟨b, o + 0, none⟩)) := ⟨fun _ => p_fieldAddr 36 b o 0 0 1 (by kernel_rfl) (by decide)⟩
instance : ShpC Try.prog 34 true 32 := ⟨by kernel_rfl⟩
instance : FunC Try.prog 18 := ⟨by kernel_rfl⟩
instance : FunC Try.prog 19 := ⟨by kernel_rfl⟩
instance : FunC Try.prog 22 := ⟨by kernel_rfl⟩
instance : FunC Try.prog 23 := ⟨by kernel_rfl⟩
instance : FunC Try.prog 24 := ⟨by kernel_rfl⟩
instance : FunC Try.prog 25 := ⟨by kernel_rfl⟩
instance : FunC Try.prog 34 := ⟨by kernel_rfl⟩
instance : FunC Try.prog 37 := ⟨by kernel_rfl⟩
instance : FunC Try.prog 35 := ⟨by kernel_rfl⟩
instance : FunC Try.prog 38 := ⟨by kernel_rfl⟩
instance : FunC Try.prog 36 := ⟨by kernel_rfl⟩
instance : ZerF Try.prog 92 [.one (.int .i64 0), .one (.int .i64 0), .one (.int .i64 0)] := ⟨by kernel_rfl, inferInstance⟩
instance : BltC Try.prog 92 := ⟨by kernel_rfl⟩
instance : PlC Try.prog 92 0 0 1 := ⟨by kernel_rfl⟩
instance : PlC Try.prog 92 1 1 1 := ⟨by kernel_rfl⟩
instance : PlC Try.prog 92 2 2 1 := ⟨by kernel_rfl⟩
instance : ZerF Try.prog 36 [.one (.int .i64 0), .arr 32 (u8s hzero.1), .arr 32 (u8s hzero.1), .arr 32 (u8s hzero.1)] := ⟨by kernel_rfl, inferInstance⟩
instance : BltC Try.prog 36 := ⟨by kernel_rfl⟩
instance : PlC Try.prog 36 0 0 1 := ⟨by kernel_rfl⟩
instance : FunC Try.prog 28 := ⟨by kernel_rfl⟩
instance : FunC Try.prog 30 := ⟨by kernel_rfl⟩
instance : FunC Try.prog 27 := ⟨by kernel_rfl⟩
instance : BltC Try.prog 27 := ⟨by kernel_rfl⟩
instance (b o n c : Nat) (k : IntKind) (i : Int) : StepC Try.prog (o_indexAddr 22 (.slice (some ⟨b, o, none⟩) n c) (.int k i)) (0 ≤ i ∧ i < n) (.pointer (some ⟨b, o + i.toNat * 4, none⟩)) := ⟨fun h => p_indexAddr_slice (P := Try.prog) 22 b o n c k i 4 (by kernel_rfl) (by kernel_rfl) h.1 h.2⟩
instance : SliS Try.prog 22 4 := ⟨by kernel_rfl, by kernel_rfl⟩
instance : ShpC Try.prog 53 true 4 := ⟨by kernel_rfl⟩
instance : ZerF Try.prog 53 [.one (.int .u8 0), .one (.int .i64 0), .one (.int .i64 0), .one (.int .u8 0)] := ⟨by kernel_rfl, inferInstance⟩
instance : ZerC Try.prog 53 ([.int .u8 0, .int .i64 0, .int .i64 0, .int .u8 0]) := ⟨by kernel_rfl⟩
instance : FunC Try.prog 39 := ⟨by kernel_rfl⟩
instance (priority := 1100) (b : Nat) : StepC Try.prog (o_fieldAddr 53 (.pointer (some ⟨b, 0, none⟩)) 0) True (.pointer (some ⟨b, 0, none⟩)) := ⟨fun _ => p_fieldAddr 53 b 0 0 0 1 (by kernel_rfl) (by decide)⟩
instance (b o : Nat) : StepC Try.prog (o_fieldAddr 53 (.pointer (some ⟨b, o, none⟩)) 0) True (.pointer (some ⟨b, o + 0, none⟩)) := ⟨fun _ => p_fieldAddr 53 b o 0 0 1 (by kernel_rfl) (by decide)⟩
instance : ShpC Try.prog 5 false 1 := ⟨by kernel_rfl⟩
instance (priority := 1100) (b : Nat) : StepC Try.prog (o_fieldAddr 53 (.pointer (some ⟨b, 0, none⟩)) 1) True (.pointer (some ⟨b, 1, none⟩)) := ⟨fun _ => p_fieldAddr 53 b 0 1 1 1 (by kernel_rfl) (by decide)⟩
instance (b o : Nat) : StepC Try.prog (o_fieldAddr 53 (.pointer (some ⟨b, o, none⟩)) 1) True (.pointer (some ⟨b, o + 1, none⟩)) := ⟨fun _ => p_fieldAddr 53 b o 1 1 1 (by kernel_rfl) (by decide)⟩
instance (priority := 1100) (b : Nat) : StepC Try.prog (o_fieldAddr 53 (.pointer (some ⟨b, 0, none⟩)) 3) True (.pointer (some ⟨b, 3, none⟩)) := ⟨fun _ => p_fieldAddr 53 b 0 3 3 1 (by kernel_rfl) (by decide)⟩
instance (b o : Nat) : StepC Try.prog (o_fieldAddr 53 (.pointer (some ⟨b, o, none⟩)) 3) True (.pointer (some ⟨b, o + 3, none⟩)) := ⟨fun _ => p_fieldAddr 53 b o 3 3 1 (by kernel_rfl) (by decide)⟩
instance : ZerF Try.prog 34 [.arr 32 (u8s hzero.1)] := ⟨by kernel_rfl, inferInstance⟩
instance : HshC Try.prog 34 := ⟨⟨5, by kernel_rfl, by kernel_rfl⟩, by kernel_rfl⟩
instance : BltC Try.prog 34 := ⟨by kernel_rfl⟩
instance : PlC Try.prog 34 0 0 1 := ⟨by kernel_rfl⟩
instance : PlC Try.prog 34 1 1 1 := ⟨by kernel_rfl⟩
instance : PlC Try.prog 36 1 1 32 := ⟨by kernel_rfl⟩
instance : FunC Try.prog 31 := ⟨by kernel_rfl⟩
instance : FunC Try.prog 32 := ⟨by kernel_rfl⟩
instance : FunC Try.prog 33 := ⟨by kernel_rfl⟩
instance : FunC Try.prog 50 := ⟨by kernel_rfl⟩
instance : FunC Try.prog 51 := ⟨by kernel_rfl⟩
instance : FunC Try.prog 52 := ⟨by kernel_rfl⟩
instance (priority := 1100) (b : Nat) : StepC Try.prog (o_fieldAddr 27 (.pointer (some ⟨b, 0, none⟩)) 1) True (.pointer (some ⟨b, 1, none⟩)) := ⟨fun _ => p_fieldAddr 27 b 0 1 1 1 (by kernel_rfl) (by decide)⟩
instance (b o : Nat) : StepC Try.prog (o_fieldAddr 27 (.pointer (some ⟨b, o, none⟩)) 1) True (.pointer (some ⟨b, o + 1, none⟩)) := ⟨fun _ => p_fieldAddr 27 b o 1 1 1 (by kernel_rfl) (by decide)⟩
instance : ShpC Try.prog 25 false 1 := ⟨by kernel_rfl⟩
instance (ty : TypeId) (cs : List Bool) (a : Option Addr) (n c : Nat) : StepC Try.prog (o_builtin .len #[25] ty cs [.slice a n c]) True (.int .i64 n) := ⟨fun _ => p_len_slice 25 ty 96 cs a n c (by kernel_rfl)⟩
instance (b o n c : Nat) (k : IntKind) (i : Int) : StepC Try.prog (o_indexAddr 25 (.slice (some ⟨b, o, none⟩) n c) (.int k i)) (0 ≤ i ∧ i < n) (.pointer (some ⟨b, o + i.toNat * 66, none⟩)) := ⟨fun h => p_indexAddr_slice (P := Try.prog) 25 b o n c k i 66 (by kernel_rfl) (by kernel_rfl) h.1 h.2⟩
instance : SliS Try.prog 25 66 := ⟨by kernel_rfl, by kernel_rfl⟩
instance (priority := 1100) (b : Nat) : StepC Try.prog (o_fieldAddr 96 (.pointer (some ⟨b, 0, none⟩)) 3) True (.pointer (some ⟨b, 65, none⟩)) := ⟨fun _ => p_fieldAddr 96 b 0 3 65 1 (by kernel_rfl) (by decide)⟩
instance (b o : Nat) : StepC Try.prog (o_fieldAddr 96 (.pointer (some ⟨b, o, none⟩)) 3) True (.pointer (some ⟨b, o + 65, none⟩)) := ⟨fun _ => p_fieldAddr 96 b o 3 65 1 (by kernel_rfl) (by decide)⟩
instance : ShpC Try.prog 29 false 1 := ⟨by kernel_rfl⟩
instance : ShpC Try.prog 36 true 97 := ⟨by kernel_rfl⟩
instance : ZerC Try.prog 36 ([.int .i64 0] ++ (List.replicate 96 (.int .u8 0))) := ⟨by kernel_rfl⟩
instance : KindC Try.prog 36 ((.int .i64) :: (List.replicate 32 (.int .u8) ++ (List.replicate 32 (.int .u8) ++ (List.replicate 32 (.int .u8))))) := ⟨by kernel_rfl, by kernel_rfl, by kernel_rfl⟩
instance : ShpC Try.prog 96 true 66 := ⟨by kernel_rfl⟩
instance : ZerF Try.prog 96 [.one (.bool false), .arr 32 (u8s hzero.1), .arr 32 (u8s hzero.1), .one (.slice none 0 0)] := ⟨by kernel_rfl, inferInstance⟩
instance : ZerC Try.prog 96 ([.bool false] ++ (List.replicate 64 (.int .u8 0) ++ ([.slice none 0 0]))) := ⟨by kernel_rfl⟩
instance (priority := 1100) (b : Nat) : StepC Try.prog (o_fieldAddr 96 (.pointer (some ⟨b, 0, none⟩)) 0) True (.pointer (some ⟨b, 0, none⟩)) := ⟨fun _ => p_fieldAddr 96 b 0 0 0 1 (by kernel_rfl) (by decide)⟩
instance (b o : Nat) : StepC Try.prog (o_fieldAddr 96 (.pointer (some ⟨b, o, none⟩)) 0) True (.pointer (some ⟨b, o + 0, none⟩)) := ⟨fun _ => p_fieldAddr 96 b o 0 0 1 (by kernel_rfl) (by decide)⟩
instance : ShpC Try.prog 4 false 1 := ⟨by kernel_rfl⟩
instance (priority := 1100) (b : Nat) : StepC Try.prog (o_fieldAddr 96 (.pointer (some ⟨b, 0, none⟩)) 1) True (.pointer (some ⟨b, 1, none⟩)) := ⟨fun _ => p_fieldAddr 96 b 0 1 1 32 (by kernel_rfl) (by decide)⟩
instance (b o : Nat) : StepC Try.prog (o_fieldAddr 96 (.pointer (some ⟨b, o, none⟩)) 1) True (.pointer (some ⟨b, o + 1, none⟩)) := ⟨fun _ => p_fieldAddr 96 b o 1 1 32 (by kernel_rfl) (by decide)⟩
instance : KindC Try.prog 34 (List.replicate 32 (.int .u8)) := ⟨by kernel_rfl, by kernel_rfl, by kernel_rfl⟩
instance (priority := 1100) (b : Nat) : StepC Try.prog (o_fieldAddr 96 (.pointer (some ⟨b, 0, none⟩)) 2) True (.pointer (some ⟨b, 33, none⟩)) := ⟨fun _ => p_fieldAddr 96 b 0 2 33 32 (by kernel_rfl) (by decide)⟩
instance (b o : Nat) : StepC Try.prog (o_fieldAddr 96 (.pointer (some ⟨b, o, none⟩)) 2) True (.pointer (some ⟨b, o + 33, none⟩)) := ⟨fun _ => p_fieldAddr 96 b o 2 33 32 (by kernel_rfl) (by decide)⟩
instance : ZerC Try.prog 34 (List.replicate 32 (.int .u8 0)) := ⟨by kernel_rfl⟩
instance : FunC Try.prog 46 := ⟨by kernel_rfl⟩
instance : FunC Try.prog 53 := ⟨by kernel_rfl⟩
instance : FunC Try.prog 55 := ⟨by kernel_rfl⟩
instance : FunC Try.prog 54 := ⟨by kernel_rfl⟩
instance : ZerF Try.prog 33 [.arr 32 (u8s hzero.1)] := ⟨by kernel_rfl, inferInstance⟩
instance : ZerC Try.prog 33 (List.replicate 32 (.int .u8 0)) := ⟨by kernel_rfl⟩
instance : FunC Try.prog 56 := ⟨by kernel_rfl⟩
instance : ShpC Try.prog 33 true 32 := ⟨by kernel_rfl⟩
instance : FunC Try.prog 57 := ⟨by kernel_rfl⟩
instance : FunC Try.prog 58 := ⟨by kernel_rfl⟩
instance (a : Int) : StepC Try.prog (o_conv 3 5 (.int .i64 a)) True (.int .u8 (a % 256)) := ⟨fun _ => by have := p_conv_int (P := Try.prog) 3 5 .i64 .u8 a (by kernel_rfl) (by kernel_rfl); rwa [show IntKind.wrap .u8 a = a % 256 by simp [IntKind.wrap, IntKind.bits, IntKind.signed]] at this⟩
instance : FunC Try.prog 59 := ⟨by kernel_rfl⟩
instance : FunC Try.prog 60 := ⟨by kernel_rfl⟩
instance (ty : TypeId) (cs : List Bool) (a : Option Addr) (n c : Nat) : StepC Try.prog (o_builtin .len #[41] ty cs [.slice a n c]) True (.int .i64 n) := ⟨fun _ => p_len_slice 41 ty 34 cs a n c (by kernel_rfl)⟩
instance : FunC Try.prog 61 := ⟨by kernel_rfl⟩
instance (b o n c : Nat) (k : IntKind) (i : Int) : StepC Try.prog (o_indexAddr 41 (.slice (some ⟨b, o, none⟩) n c) (.int k i)) (0 ≤ i ∧ i < n) (.pointer (some ⟨b, o + i.toNat * 32, none⟩)) := ⟨fun h => p_indexAddr_slice (P := Try.prog) 41 b o n c k i 32 (by kernel_rfl) (by kernel_rfl) h.1 h.2⟩
instance : SliS Try.prog 41 32 := ⟨by kernel_rfl, by kernel_rfl⟩
instance : BltC Try.prog 96 := ⟨by kernel_rfl⟩
instance : PlC Try.prog 96 0 0 1 := ⟨by kernel_rfl⟩
instance : PlC Try.prog 96 1 1 32 := ⟨by kernel_rfl⟩
instance : PlC Try.prog 96 2 33 32 := ⟨by kernel_rfl⟩
instance : FunC Try.prog 63 := ⟨by kernel_rfl⟩
instance : FunC Try.prog 62 := ⟨by kernel_rfl⟩
instance (b o : Nat) (k : IntKind) (l : Int) : StepC Try.prog (o_slice 34 (.pointer (some ⟨b, o, none⟩)) (some (.int k l)) none none) (0 ≤ l ∧ l < 32) (.slice (some ⟨b, o + l.toNat, none⟩) (32 - l.toNat) (32 - l.toNat)) := ⟨fun h => by have := p_slice_array_l (P := Try.prog) 34 b o 32 k l 1 (by kernel_rfl) (by kernel_rfl) (by kernel_rfl) h.1 h.2; rwa [Nat.mul_one] at this⟩
instance (b o : Nat) (k : IntKind) (l : Int) : StepC Try.prog (o_slice 34 (.pointer (some ⟨b, o, none⟩)) none (some (.int k l)) none) (0 ≤ l ∧ l ≤ 32) (.slice (some ⟨b, o, none⟩) l.toNat 32) := ⟨fun h => p_slice_array_h (P := Try.prog) 34 b o 32 k l 1 (by kernel_rfl) (by kernel_rfl) (by kernel_rfl) h.1 h.2⟩
instance (b o : Nat) : StepC Try.prog (o_slice 34 (.pointer (some ⟨b, o, none⟩)) none none none) True (.slice (some ⟨b, o, none⟩) 32 32) := ⟨fun _ => p_slice_array_all (P := Try.prog) 34 b o 32 1 (by kernel_rfl) (by kernel_rfl) (by kernel_rfl)⟩
instance : StrC Try.prog 106 9 := ⟨⟨5, by kernel_rfl, by kernel_rfl⟩, by kernel_rfl⟩
instance (priority := 1100) (b : Nat) : StepC Try.prog (o_fieldAddr 36 (.pointer (some ⟨b, 0, none⟩)) 1) True (.pointer (some ⟨b, 1, none⟩)) := ⟨fun _ => p_fieldAddr 36 b 0 1 1 32 (by kernel_rfl) (by decide)⟩
instance (b o : Nat) : StepC Try.prog (o_fieldAddr 36 (.pointer (some ⟨b, o, none⟩)) 1) True (.pointer (some ⟨b, o + 1, none⟩)) := ⟨fun _ => p_fieldAddr 36 b o 1 1 32 (by kernel_rfl) (by decide)⟩
instance (priority := 1100) (b : Nat) : StepC Try.prog (o_fieldAddr 36 (.pointer (some ⟨b, 0, none⟩)) 3) True (.pointer (some ⟨b, 65, none⟩)) := ⟨fun _ => p_fieldAddr 36 b 0 3 65 32 (by kernel_rfl) (by decide)⟩
instance (b o : Nat) : StepC Try.prog (o_fieldAddr 36 (.pointer (some ⟨b, o, none⟩)) 3) True (.pointer (some ⟨b, o + 65, none⟩)) := ⟨fun _ => p_fieldAddr 36 b o 3 65 32 (by kernel_rfl) (by decide)⟩
instance : FunC Try.prog 64 := ⟨by kernel_rfl⟩
instance : FunC Try.prog 65 := ⟨by kernel_rfl⟩
instance : FunC Try.prog 66 := ⟨by kernel_rfl⟩
instance : IsBo Try.prog 4 := ⟨by kernel_rfl⟩
instance : ZerF Try.prog 67 [.arr 65 (List.replicate 65 (.bool false))] := ⟨by kernel_rfl, inferInstance⟩
instance : ZerC Try.prog 67 (List.replicate 65 (.bool false)) := ⟨by kernel_rfl⟩
instance (b o : Nat) (k : IntKind) (i : Int) : StepC Try.prog (o_indexAddr 67 (.pointer (some ⟨b, o, none⟩)) (.int k i)) (0 ≤ i ∧ i < 65) (.pointer (some ⟨b, o + i.toNat, none⟩)) := ⟨fun h => by have := p_indexAddr_array (P := Try.prog) 67 b o 65 k i 1 (by kernel_rfl) (by kernel_rfl) (by kernel_rfl) h.1 h.2; rwa [Nat.mul_one] at this⟩
instance : FunC Try.prog 67 := ⟨by kernel_rfl⟩
instance : FunC Try.prog 68 := ⟨by kernel_rfl⟩
instance : FunC Try.prog 69 := ⟨by kernel_rfl⟩
instance : FunC Try.prog 70 := ⟨by kernel_rfl⟩
instance : FunC Try.prog 71 := ⟨by kernel_rfl⟩
instance : FunC Try.prog 72 := ⟨by kernel_rfl⟩
instance : FunC Try.prog 73 := ⟨by kernel_rfl⟩
instance : FunC Try.prog 74 := ⟨by kernel_rfl⟩
instance : FdC Try.prog 27 0 0 1 false := ⟨by kernel_rfl⟩
instance : FunC Try.prog 76 := ⟨by kernel_rfl⟩
instance : FunC Try.prog 75 := ⟨by kernel_rfl⟩
instance : FunC Try.prog 77 := ⟨by kernel_rfl⟩
instance (priority := 1100) (b : Nat) : StepC Try.prog (o_fieldAddr 53 (.pointer (some ⟨b, 0, none⟩)) 2) True (.pointer (some ⟨b, 2, none⟩)) := ⟨fun _ => p_fieldAddr 53 b 0 2 2 1 (by kernel_rfl) (by decide)⟩
instance (b o : Nat) : StepC Try.prog (o_fieldAddr 53 (.pointer (some ⟨b, o, none⟩)) 2) True (.pointer (some ⟨b, o + 2, none⟩)) := ⟨fun _ => p_fieldAddr 53 b o 2 2 1 (by kernel_rfl) (by decide)⟩
instance (a : Int) : StepC Try.prog (o_conv 3 120 (.int .i64 a)) True (.int .u64 (a % 18446744073709551616)) := ⟨fun _ => by have := p_conv_int (P := Try.prog) 3 120 .i64 .u64 a (by kernel_rfl) (by kernel_rfl); rwa [show IntKind.wrap .u64 a = a % 18446744073709551616 by simp [IntKind.wrap, IntKind.bits, IntKind.signed]] at this⟩
instance (a : Int) : StepC Try.prog (o_conv 120 3 (.int .u64 a)) ((-9223372036854775808) ≤ a ∧ a < 9223372036854775808) (.int .i64 a) := ⟨fun h => by have := p_conv_int (P := Try.prog) 120 3 .u64 .i64 a (by kernel_rfl) (by kernel_rfl); rwa [show IntKind.wrap .i64 a = a by simp [IntKind.wrap, IntKind.bits, IntKind.signed]; omega] at this⟩
instance : FunC Try.prog 89 := ⟨by kernel_rfl⟩
instance : FunC Try.prog 90 := ⟨by kernel_rfl⟩
instance : FunC Try.prog 91 := ⟨by kernel_rfl⟩
instance : FunC Try.prog 92 := ⟨by kernel_rfl⟩
instance : ZerF Try.prog 140 [.one (.int .u32 0), .one (.int .u32 0), .one (.int .u32 0), .one (.int .u32 0), .one (.int .u32 0), .one (.int .u32 0), .one (.int .u32 0), .one (.int .u32 0)] := ⟨by kernel_rfl, inferInstance⟩
instance : BltC Try.prog 140 := ⟨by kernel_rfl⟩
instance : PlC Try.prog 140 0 0 1 := ⟨by kernel_rfl⟩
instance : PlC Try.prog 140 1 1 1 := ⟨by kernel_rfl⟩
instance : PlC Try.prog 140 2 2 1 := ⟨by kernel_rfl⟩
instance : PlC Try.prog 140 3 3 1 := ⟨by kernel_rfl⟩
instance : PlC Try.prog 140 4 4 1 := ⟨by kernel_rfl⟩
instance : PlC Try.prog 140 5 5 1 := ⟨by kernel_rfl⟩
instance : PlC Try.prog 140 6 6 1 := ⟨by kernel_rfl⟩
instance : PlC Try.prog 140 7 7 1 := ⟨by kernel_rfl⟩
instance : FunC Try.prog 93 := ⟨by kernel_rfl⟩
instance : ZerF Try.prog 145 [.one (.int .u32 0), .one (.int .u32 0), .one (.int .u32 0), .one (.int .u32 0), .one (.int .u32 0), .one (.int .u32 0), .one (.int .u32 0), .one (.int .u32 0), .arr 64 (List.replicate 64 (.int .u8 0)), .one (.int .i64 0), .arr 64 (List.replicate 64 (.int .u32 0))] := ⟨by kernel_rfl, inferInstance⟩
instance : BltC Try.prog 145 := ⟨by kernel_rfl⟩
instance : PlC Try.prog 145 0 0 8 := ⟨by kernel_rfl⟩
instance : PlC Try.prog 145 3 73 64 := ⟨by kernel_rfl⟩
instance : ShpC Try.prog 145 true 137 := ⟨by kernel_rfl⟩
instance (ty : TypeId) (cs : List Bool) (a : Option Addr) (n c : Nat) : StepC Try.prog (o_builtin .len #[137] ty cs [.slice a n c]) True (.int .i64 n) := ⟨fun _ => p_len_slice 137 ty 9 cs a n c (by kernel_rfl)⟩
instance (b o n c : Nat) (k : IntKind) (i : Int) : StepC Try.prog (o_indexAddr 137 (.slice (some ⟨b, o, none⟩) n c) (.int k i)) (0 ≤ i ∧ i < n) (.pointer (some ⟨b, o + i.toNat, none⟩)) := ⟨fun h => by have := p_indexAddr_slice (P := Try.prog) 137 b o n c k i 1 (by kernel_rfl) (by kernel_rfl) h.1 h.2; rwa [Nat.mul_one] at this⟩
instance : SliS Try.prog 137 1 := ⟨by kernel_rfl, by kernel_rfl⟩
instance : ShpC Try.prog 9 false 1 := ⟨by kernel_rfl⟩
instance : FunC Try.prog 94 := ⟨by kernel_rfl⟩
instance : ZerF Try.prog 147 [.arr 72 (List.replicate 72 (.int .u8 0))] := ⟨by kernel_rfl, inferInstance⟩
instance : ZerC Try.prog 147 (List.replicate 72 (.int .u8 0)) := ⟨by kernel_rfl⟩
instance (b o : Nat) (k : IntKind) (i : Int) : StepC Try.prog (o_indexAddr 147 (.pointer (some ⟨b, o, none⟩)) (.int k i)) (0 ≤ i ∧ i < 72) (.pointer (some ⟨b, o + i.toNat, none⟩)) := ⟨fun h => by have := p_indexAddr_array (P := Try.prog) 147 b o 72 k i 1 (by kernel_rfl) (by kernel_rfl) (by kernel_rfl) h.1 h.2; rwa [Nat.mul_one] at this⟩
instance (priority := 1100) (b : Nat) : StepC Try.prog (o_fieldAddr 145 (.pointer (some ⟨b, 0, none⟩)) 2) True (.pointer (some ⟨b, 72, none⟩)) := ⟨fun _ => p_fieldAddr 145 b 0 2 72 1 (by kernel_rfl) (by decide)⟩
instance (b o : Nat) : StepC Try.prog (o_fieldAddr 145 (.pointer (some ⟨b, o, none⟩)) 2) True (.pointer (some ⟨b, o + 72, none⟩)) := ⟨fun _ => p_fieldAddr 145 b o 2 72 1 (by kernel_rfl) (by decide)⟩
instance (a : Int) : StepC Try.prog (o_conv 3 148 (.int .i64 a)) True (.int .u64 (a % 18446744073709551616)) := ⟨fun _ => by have := p_conv_int (P := Try.prog) 3 148 .i64 .u64 a (by kernel_rfl) (by kernel_rfl); rwa [show IntKind.wrap .u64 a = a % 18446744073709551616 by simp [IntKind.wrap, IntKind.bits, IntKind.signed]] at this⟩
instance (a : Int) : StepC Try.prog (o_conv 148 5 (.int .u64 a)) True (.int .u8 (a % 256)) := ⟨fun _ => by have := p_conv_int (P := Try.prog) 148 5 .u64 .u8 a (by kernel_rfl) (by kernel_rfl); rwa [show IntKind.wrap .u8 a = a % 256 by simp [IntKind.wrap, IntKind.bits, IntKind.signed]] at this⟩
instance (b o : Nat) (k : IntKind) (l : Int) : StepC Try.prog (o_slice 147 (.pointer (some ⟨b, o, none⟩)) (some (.int k l)) none none) (0 ≤ l ∧ l < 72) (.slice (some ⟨b, o + l.toNat, none⟩) (72 - l.toNat) (72 - l.toNat)) := ⟨fun h => by have := p_slice_array_l (P := Try.prog) 147 b o 72 k l 1 (by kernel_rfl) (by kernel_rfl) (by kernel_rfl) h.1 h.2; rwa [Nat.mul_one] at this⟩
instance (b o : Nat) (k : IntKind) (l : Int) : StepC Try.prog (o_slice 147 (.pointer (some ⟨b, o, none⟩)) none (some (.int k l)) none) (0 ≤ l ∧ l ≤ 72) (.slice (some ⟨b, o, none⟩) l.toNat 72) := ⟨fun h => p_slice_array_h (P := Try.prog) 147 b o 72 k l 1 (by kernel_rfl) (by kernel_rfl) (by kernel_rfl) h.1 h.2⟩
instance (b o : Nat) : StepC Try.prog (o_slice 147 (.pointer (some ⟨b, o, none⟩)) none none none) True (.slice (some ⟨b, o, none⟩) 72 72) := ⟨fun _ => p_slice_array_all (P := Try.prog) 147 b o 72 1 (by kernel_rfl) (by kernel_rfl) (by kernel_rfl)⟩
instance (priority := 1100) (b : Nat) : StepC Try.prog (o_fieldAddr 145 (.pointer (some ⟨b, 0, none⟩)) 0) True (.pointer (some ⟨b, 0, none⟩)) := ⟨fun _ => p_fieldAddr 145 b 0 0 0 8 (by kernel_rfl) (by decide)⟩
instance (b o : Nat) : StepC Try.prog (o_fieldAddr 145 (.pointer (some ⟨b, o, none⟩)) 0) True (.pointer (some ⟨b, o + 0, none⟩)) := ⟨fun _ => p_fieldAddr 145 b o 0 0 8 (by kernel_rfl) (by decide)⟩
instance (priority := 1200) (b : Nat) (k : IntKind) : StepC Try.prog (o_indexAddr 140 (.pointer (some ⟨b, 0, none⟩)) (.int k 0)) True (.pointer (some ⟨b, 0, none⟩)) := ⟨fun _ => by have := p_indexAddr_array (P := Try.prog) 140 b 0 8 k 0 1 (by kernel_rfl) (by kernel_rfl) (by kernel_rfl) (by omega) (by omega); exact this⟩
instance (priority := 1200) (b : Nat) (k : IntKind) : StepC Try.prog (o_indexAddr 140 (.pointer (some ⟨b, 0, none⟩)) (.int k 1)) True (.pointer (some ⟨b, 1, none⟩)) := ⟨fun _ => by have := p_indexAddr_array (P := Try.prog) 140 b 0 8 k 1 1 (by kernel_rfl) (by kernel_rfl) (by kernel_rfl) (by omega) (by omega); exact this⟩
instance (priority := 1200) (b : Nat) (k : IntKind) : StepC Try.prog (o_indexAddr 140 (.pointer (some ⟨b, 0, none⟩)) (.int k 2)) True (.pointer (some ⟨b, 2, none⟩)) := ⟨fun _ => by have := p_indexAddr_array (P := Try.prog) 140 b 0 8 k 2 1 (by kernel_rfl) (by kernel_rfl) (by kernel_rfl) (by omega) (by omega); exact this⟩
instance (priority := 1200) (b : Nat) (k : IntKind) : StepC Try.prog (o_indexAddr 140 (.pointer (some ⟨b, 0, none⟩)) (.int k 3)) True (.pointer (some ⟨b, 3, none⟩)) := ⟨fun _ => by have := p_indexAddr_array (P := Try.prog) 140 b 0 8 k 3 1 (by kernel_rfl) (by kernel_rfl) (by kernel_rfl) (by omega) (by omega); exact this⟩
instance (priority := 1200) (b : Nat) (k : IntKind) : StepC Try.prog (o_indexAddr 140 (.pointer (some ⟨b, 0, none⟩)) (.int k 4)) True (.pointer (some ⟨b, 4, none⟩)) := ⟨fun _ => by have := p_indexAddr_array (P := Try.prog) 140 b 0 8 k 4 1 (by kernel_rfl) (by kernel_rfl) (by kernel_rfl) (by omega) (by omega); exact this⟩
instance (priority := 1200) (b : Nat) (k : IntKind) : StepC Try.prog (o_indexAddr 140 (.pointer (some ⟨b, 0, none⟩)) (.int k 5)) True (.pointer (some ⟨b, 5, none⟩)) := ⟨fun _ => by have := p_indexAddr_array (P := Try.prog) 140 b 0 8 k 5 1 (by kernel_rfl) (by kernel_rfl) (by kernel_rfl) (by omega) (by omega); exact this⟩
instance (priority := 1200) (b : Nat) (k : IntKind) : StepC Try.prog (o_indexAddr 140 (.pointer (some ⟨b, 0, none⟩)) (.int k 6)) True (.pointer (some ⟨b, 6, none⟩)) := ⟨fun _ => by have := p_indexAddr_array (P := Try.prog) 140 b 0 8 k 6 1 (by kernel_rfl) (by kernel_rfl) (by kernel_rfl) (by omega) (by omega); exact this⟩
instance (priority := 1200) (b : Nat) (k : IntKind) : StepC Try.prog (o_indexAddr 140 (.pointer (some ⟨b, 0, none⟩)) (.int k 7)) True (.pointer (some ⟨b, 7, none⟩)) := ⟨fun _ => by have := p_indexAddr_array (P := Try.prog) 140 b 0 8 k 7 1 (by kernel_rfl) (by kernel_rfl) (by kernel_rfl) (by omega) (by omega); exact this⟩
instance (b o : Nat) (k : IntKind) (i : Int) : StepC Try.prog (o_indexAddr 140 (.pointer (some ⟨b, o, none⟩)) (.int k i)) (0 ≤ i ∧ i < 8) (.pointer (some ⟨b, o + i.toNat, none⟩)) := ⟨fun h => by have := p_indexAddr_array (P := Try.prog) 140 b o 8 k i 1 (by kernel_rfl) (by kernel_rfl) (by kernel_rfl) h.1 h.2; rwa [Nat.mul_one] at this⟩
instance : ShpC Try.prog 139 false 1 := ⟨by kernel_rfl⟩
instance (a : Int) : StepC Try.prog (o_conv 139 5 (.int .u32 a)) True (.int .u8 (a % 256)) := ⟨fun _ => by have := p_conv_int (P := Try.prog) 139 5 .u32 .u8 a (by kernel_rfl) (by kernel_rfl); rwa [show IntKind.wrap .u8 a = a % 256 by simp [IntKind.wrap, IntKind.bits, IntKind.signed]] at this⟩
instance (b o : Nat) (k : IntKind) (i : Int) : StepC Try.prog (o_indexAddr 34 (.pointer (some ⟨b, o, none⟩)) (.int k i)) (0 ≤ i ∧ i < 32) (.pointer (some ⟨b, o + i.toNat, none⟩)) := ⟨fun h => by have := p_indexAddr_array (P := Try.prog) 34 b o 32 k i 1 (by kernel_rfl) (by kernel_rfl) (by kernel_rfl) h.1 h.2; rwa [Nat.mul_one] at this⟩
instance : FunC Try.prog 95 := ⟨by kernel_rfl⟩
instance : FunC Try.prog 96 := ⟨by kernel_rfl⟩
instance : FunC Try.prog 97 := ⟨by kernel_rfl⟩
instance : FunC Try.prog 98 := ⟨by kernel_rfl⟩
instance : FunC Try.prog 48 := ⟨by kernel_rfl⟩
instance : FunC Try.prog 99 := ⟨by kernel_rfl⟩
instance : FunC Try.prog 49 := ⟨by kernel_rfl⟩
instance : ZerF Try.prog 141 [.arr 64 (List.replicate 64 (.int .u32 0))] := ⟨by kernel_rfl, inferInstance⟩
instance : BltC Try.prog 141 := ⟨by kernel_rfl⟩
instance : PlC Try.prog 141 0 0 1 := ⟨by kernel_rfl⟩
instance : PlC Try.prog 141 1 1 1 := ⟨by kernel_rfl⟩
instance : PlC Try.prog 141 2 2 1 := ⟨by kernel_rfl⟩
instance : PlC Try.prog 141 3 3 1 := ⟨by kernel_rfl⟩
instance : PlC Try.prog 141 4 4 1 := ⟨by kernel_rfl⟩
instance : PlC Try.prog 141 5 5 1 := ⟨by kernel_rfl⟩
instance : PlC Try.prog 141 6 6 1 := ⟨by kernel_rfl⟩
instance : PlC Try.prog 141 7 7 1 := ⟨by kernel_rfl⟩
instance : PlC Try.prog 141 8 8 1 := ⟨by kernel_rfl⟩
instance : PlC Try.prog 141 9 9 1 := ⟨by kernel_rfl⟩
instance : PlC Try.prog 141 10 10 1 := ⟨by kernel_rfl⟩
instance : PlC Try.prog 141 11 11 1 := ⟨by kernel_rfl⟩
instance : PlC Try.prog 141 12 12 1 := ⟨by kernel_rfl⟩
instance : PlC Try.prog 141 13 13 1 := ⟨by kernel_rfl⟩
instance : PlC Try.prog 141 14 14 1 := ⟨by kernel_rfl⟩
instance : PlC Try.prog 141 15 15 1 := ⟨by kernel_rfl⟩
instance : PlC Try.prog 141 16 16 1 := ⟨by kernel_rfl⟩
instance : PlC Try.prog 141 17 17 1 := ⟨by kernel_rfl⟩
instance : PlC Try.prog 141 18 18 1 := ⟨by kernel_rfl⟩
instance : PlC Try.prog 141 19 19 1 := ⟨by kernel_rfl⟩
instance : PlC Try.prog 141 20 20 1 := ⟨by kernel_rfl⟩
instance : PlC Try.prog 141 21 21 1 := ⟨by kernel_rfl⟩
instance : PlC Try.prog 141 22 22 1 := ⟨by kernel_rfl⟩
instance : PlC Try.prog 141 23 23 1 := ⟨by kernel_rfl⟩
instance : PlC Try.prog 141 24 24 1 := ⟨by kernel_rfl⟩
instance : PlC Try.prog 141 25 25 1 := ⟨by kernel_rfl⟩
instance : PlC Try.prog 141 26 26 1 := ⟨by kernel_rfl⟩
instance : PlC Try.prog 141 27 27 1 := ⟨by kernel_rfl⟩
instance : PlC Try.prog 141 28 28 1 := ⟨by kernel_rfl⟩
instance : PlC Try.prog 141 29 29 1 := ⟨by kernel_rfl⟩
instance : PlC Try.prog 141 30 30 1 := ⟨by kernel_rfl⟩
instance : PlC Try.prog 141 31 31 1 := ⟨by kernel_rfl⟩
instance : PlC Try.prog 141 32 32 1 := ⟨by kernel_rfl⟩
instance : PlC Try.prog 141 33 33 1 := ⟨by kernel_rfl⟩
instance : PlC Try.prog 141 34 34 1 := ⟨by kernel_rfl⟩
instance : PlC Try.prog 141 35 35 1 := ⟨by kernel_rfl⟩
instance : PlC Try.prog 141 36 36 1 := ⟨by kernel_rfl⟩
instance : PlC Try.prog 141 37 37 1 := ⟨by kernel_rfl⟩
instance : PlC Try.prog 141 38 38 1 := ⟨by kernel_rfl⟩
instance : PlC Try.prog 141 39 39 1 := ⟨by kernel_rfl⟩
instance : PlC Try.prog 141 40 40 1 := ⟨by kernel_rfl⟩
instance : PlC Try.prog 141 41 41 1 := ⟨by kernel_rfl⟩
instance : PlC Try.prog 141 42 42 1 := ⟨by kernel_rfl⟩
instance : PlC Try.prog 141 43 43 1 := ⟨by kernel_rfl⟩
instance : PlC Try.prog 141 44 44 1 := ⟨by kernel_rfl⟩
instance : PlC Try.prog 141 45 45 1 := ⟨by kernel_rfl⟩
instance : PlC Try.prog 141 46 46 1 := ⟨by kernel_rfl⟩
instance : PlC Try.prog 141 47 47 1 := ⟨by kernel_rfl⟩
instance : PlC Try.prog 141 48 48 1 := ⟨by kernel_rfl⟩
instance : PlC Try.prog 141 49 49 1 := ⟨by kernel_rfl⟩
instance : PlC Try.prog 141 50 50 1 := ⟨by kernel_rfl⟩
instance : PlC Try.prog 141 51 51 1 := ⟨by kernel_rfl⟩
instance : PlC Try.prog 141 52 52 1 := ⟨by kernel_rfl⟩
instance : PlC Try.prog 141 53 53 1 := ⟨by kernel_rfl⟩
instance : PlC Try.prog 141 54 54 1 := ⟨by kernel_rfl⟩
instance : PlC Try.prog 141 55 55 1 := ⟨by kernel_rfl⟩
instance : PlC Try.prog 141 56 56 1 := ⟨by kernel_rfl⟩
instance : PlC Try.prog 141 57 57 1 := ⟨by kernel_rfl⟩
instance : PlC Try.prog 141 58 58 1 := ⟨by kernel_rfl⟩
instance : PlC Try.prog 141 59 59 1 := ⟨by kernel_rfl⟩
instance : PlC Try.prog 141 60 60 1 := ⟨by kernel_rfl⟩
instance : PlC Try.prog 141 61 61 1 := ⟨by kernel_rfl⟩
instance : PlC Try.prog 141 62 62 1 := ⟨by kernel_rfl⟩
instance : PlC Try.prog 141 63 63 1 := ⟨by kernel_rfl⟩
instance : ZerC Try.prog 141 (List.replicate 64 (.int .u32 0)) := ⟨by kernel_rfl⟩
instance : ShpC Try.prog 141 true 64 := ⟨by kernel_rfl⟩
instance (ty : TypeId) (cs : List Bool) (a : Option Addr) (n c : Nat) : StepC Try.prog (o_builtin .len #[106] ty cs [.slice a n c]) True (.int .i64 n) := ⟨fun _ => p_len_slice 106 ty 5 cs a n c (by kernel_rfl)⟩
instance (ty : TypeId) (cs : List Bool) (s : ByteArray) : StepC Try.prog (o_builtin .len #[9] ty cs [.string s]) True (.int .i64 s.size) := ⟨fun _ => p_len_string 9 ty cs s (by kernel_rfl)⟩
instance : ZerC Try.prog 140 (List.replicate 8 (.int .u32 0)) := ⟨by kernel_rfl⟩
instance : ShpC Try.prog 140 true 8 := ⟨by kernel_rfl⟩
instance : FunC Try.prog 100 := ⟨by kernel_rfl⟩
instance (b o : Nat) (k : IntKind) (i : Int) : StepC Try.prog (o_indexAddr 141 (.pointer (some ⟨b, o, none⟩)) (.int k i)) (0 ≤ i ∧ i < 64) (.pointer (some ⟨b, o + i.toNat, none⟩)) := ⟨fun h => by have := p_indexAddr_array (P := Try.prog) 141 b o 64 k i 1 (by kernel_rfl) (by kernel_rfl) (by kernel_rfl) h.1 h.2; rwa [Nat.mul_one] at this⟩
instance : FunC Try.prog 101 := ⟨by kernel_rfl⟩
instance (b o : Nat) (k : IntKind) (i : Int) : StepC Try.prog (o_indexAddr 33 (.pointer (some ⟨b, o, none⟩)) (.int k i)) (0 ≤ i ∧ i < 32) (.pointer (some ⟨b, o + i.toNat, none⟩)) := ⟨fun h => by have := p_indexAddr_array (P := Try.prog) 33 b o 32 k i 1 (by kernel_rfl) (by kernel_rfl) (by kernel_rfl) h.1 h.2; rwa [Nat.mul_one] at this⟩
instance : FunC Try.prog 102 := ⟨by kernel_rfl⟩
instance : FunC Try.prog 103 := ⟨by kernel_rfl⟩
instance : FunC Try.prog 105 := ⟨by kernel_rfl⟩
instance : FunC Try.prog 104 := ⟨by kernel_rfl⟩
instance : FunC Try.prog 106 := ⟨by kernel_rfl⟩
instance : FunC Try.prog 107 := ⟨by kernel_rfl⟩
instance : ZerF Try.prog 29 [.one (.slice none 0 0)] := ⟨by kernel_rfl, inferInstance⟩
instance : ZerC Try.prog 29 ([.slice none 0 0]) := ⟨by kernel_rfl⟩
instance : FunC Try.prog 108 := ⟨by kernel_rfl⟩
instance : FunC Try.prog 83 := ⟨by kernel_rfl⟩
instance : FunC Try.prog 84 := ⟨by kernel_rfl⟩
instance : PlC Try.prog 27 0 0 1 := ⟨by kernel_rfl⟩
instance : PlC Try.prog 27 1 1 1 := ⟨by kernel_rfl⟩
instance : FunC Try.prog 85 := ⟨by kernel_rfl⟩
instance : FunC Try.prog 109 := ⟨by kernel_rfl⟩
instance : HshC Try.prog 33 := ⟨⟨5, by kernel_rfl, by kernel_rfl⟩, by kernel_rfl⟩
instance : BltC Try.prog 33 := ⟨by kernel_rfl⟩
instance : FunC Try.prog 110 := ⟨by kernel_rfl⟩
instance : FunC Try.prog 111 := ⟨by kernel_rfl⟩
instance : FunC Try.prog 112 := ⟨by kernel_rfl⟩
instance : FunC Try.prog 113 := ⟨by kernel_rfl⟩
instance : FunC Try.prog 115 := ⟨by kernel_rfl⟩
instance : IsSl Try.prog 24 := isSl_of (by kernel_rfl)
instance : IsSl Try.prog 25 := isSl_of (by kernel_rfl)
instance : IsSl Try.prog 29 := isSl_of (by kernel_rfl)
instance (priority := 1100) (b : Nat) : StepC Try.prog (o_fieldAddr 145 (.pointer (some ⟨b, 0, none⟩)) 1) True (.pointer (some ⟨b, 8, none⟩)) := ⟨fun _ => p_fieldAddr 145 b 0 1 8 64 (by kernel_rfl) (by decide)⟩
instance (b o : Nat) : StepC Try.prog (o_fieldAddr 145 (.pointer (some ⟨b, o, none⟩)) 1) True (.pointer (some ⟨b, o + 8, none⟩)) := ⟨fun _ => p_fieldAddr 145 b o 1 8 64 (by kernel_rfl) (by decide)⟩
instance (b o : Nat) (k : IntKind) (l : Int) : StepC Try.prog (o_slice 143 (.pointer (some ⟨b, o, none⟩)) (some (.int k l)) none none) (0 ≤ l ∧ l < 64) (.slice (some ⟨b, o + l.toNat, none⟩) (64 - l.toNat) (64 - l.toNat)) := ⟨fun h => by have := p_slice_array_l (P := Try.prog) 143 b o 64 k l 1 (by kernel_rfl) (by kernel_rfl) (by kernel_rfl) h.1 h.2; rwa [Nat.mul_one] at this⟩
instance (b o : Nat) (k : IntKind) (l : Int) : StepC Try.prog (o_slice 143 (.pointer (some ⟨b, o, none⟩)) none (some (.int k l)) none) (0 ≤ l ∧ l ≤ 64) (.slice (some ⟨b, o, none⟩) l.toNat 64) := ⟨fun h => p_slice_array_h (P := Try.prog) 143 b o 64 k l 1 (by kernel_rfl) (by kernel_rfl) (by kernel_rfl) h.1 h.2⟩
instance (b o : Nat) : StepC Try.prog (o_slice 143 (.pointer (some ⟨b, o, none⟩)) none none none) True (.slice (some ⟨b, o, none⟩) 64 64) := ⟨fun _ => p_slice_array_all (P := Try.prog) 143 b o 64 1 (by kernel_rfl) (by kernel_rfl) (by kernel_rfl)⟩
instance (s : ByteArray) (k : IntKind) (l : Int) : StepC Try.prog (o_slice 9 (.string s) (some (.int k l)) none none) (0 ≤ l ∧ l ≤ s.size) (.string (s.extract l.toNat s.size)) := ⟨fun h => p_slice_string_l (P := Try.prog) 9 s k l (by kernel_rfl) h.1 h.2⟩
instance (s : ByteArray) (k : IntKind) (l : Int) : StepC Try.prog (o_slice 9 (.string s) none (some (.int k l)) none) (0 ≤ l ∧ l ≤ s.size) (.string (s.extract 0 l.toNat)) := ⟨fun h => p_slice_string_h (P := Try.prog) 9 s k l (by kernel_rfl) h.1 h.2⟩
instance (s : ByteArray) (k k' : IntKind) (l h : Int) : StepC Try.prog (o_slice 9 (.string s) (some (.int k l)) (some (.int k' h)) none) (0 ≤ l ∧ l ≤ h ∧ h ≤ s.size) (.string (s.extract l.toNat h.toNat)) := ⟨fun q => p_slice_string_lh (P := Try.prog) 9 s k k' l h (by kernel_rfl) q.1 q.2.1 q.2.2⟩
instance : FunC Try.prog 127 := ⟨by kernel_rfl⟩
instance : ZerF Try.prog 173 [.one (.slice none 0 0), .one (.bool false)] := ⟨by kernel_rfl, inferInstance⟩
instance : BltC Try.prog 173 := ⟨by kernel_rfl⟩
instance : ShpC Try.prog 173 true 2 := ⟨by kernel_rfl⟩
instance : FunC Try.prog 128 := ⟨by kernel_rfl⟩
instance : FunC Try.prog 129 := ⟨by kernel_rfl⟩
instance (priority := 1100) (b : Nat) : StepC Try.prog (o_fieldAddr 36 (.pointer (some ⟨b, 0, none⟩)) 2) True (.pointer (some ⟨b, 33, none⟩)) := ⟨fun _ => p_fieldAddr 36 b 0 2 33 32 (by kernel_rfl) (by decide)⟩
instance (b o : Nat) : StepC Try.prog (o_fieldAddr 36 (.pointer (some ⟨b, o, none⟩)) 2) True (.pointer (some ⟨b, o + 33, none⟩)) := ⟨fun _ => p_fieldAddr 36 b o 2 33 32 (by kernel_rfl) (by decide)⟩
instance : IsPt Try.prog 149 := isPt_of (by kernel_rfl)
instance (priority := 1100) (b : Nat) : StepC Try.prog (o_fieldAddr 173 (.pointer (some ⟨b, 0, none⟩)) 1) True (.pointer (some ⟨b, 1, none⟩)) := ⟨fun _ => p_fieldAddr 173 b 0 1 1 1 (by kernel_rfl) (by decide)⟩
instance (b o : Nat) : StepC Try.prog (o_fieldAddr 173 (.pointer (some ⟨b, o, none⟩)) 1) True (.pointer (some ⟨b, o + 1, none⟩)) := ⟨fun _ => p_fieldAddr 173 b o 1 1 1 (by kernel_rfl) (by decide)⟩
instance (priority := 1100) (b : Nat) : StepC Try.prog (o_fieldAddr 173 (.pointer (some ⟨b, 0, none⟩)) 0) True (.pointer (some ⟨b, 0, none⟩)) := ⟨fun _ => p_fieldAddr 173 b 0 0 0 1 (by kernel_rfl) (by decide)⟩
instance (b o : Nat) : StepC Try.prog (o_fieldAddr 173 (.pointer (some ⟨b, o, none⟩)) 0) True (.pointer (some ⟨b, o + 0, none⟩)) := ⟨fun _ => p_fieldAddr 173 b o 0 0 1 (by kernel_rfl) (by decide)⟩
instance : ShpC Try.prog 106 false 1 := ⟨by kernel_rfl⟩
instance (b o n c : Nat) (k : IntKind) (i : Int) : StepC Try.prog (o_indexAddr 106 (.slice (some ⟨b, o, none⟩) n c) (.int k i)) (0 ≤ i ∧ i < n) (.pointer (some ⟨b, o + i.toNat, none⟩)) := ⟨fun h => by have := p_indexAddr_slice (P := Try.prog) 106 b o n c k i 1 (by kernel_rfl) (by kernel_rfl) h.1 h.2; rwa [Nat.mul_one] at this⟩
instance : SliS Try.prog 106 1 := ⟨by kernel_rfl, by kernel_rfl⟩
instance (a : Int) : StepC Try.prog (o_conv 5 139 (.int .u8 a)) (0 ≤ a ∧ a < 256) (.int .u32 a) := ⟨fun h => by have := p_conv_int (P := Try.prog) 5 139 .u8 .u32 a (by kernel_rfl) (by kernel_rfl); rwa [show IntKind.wrap .u32 a = a by simp [IntKind.wrap, IntKind.bits, IntKind.signed]; omega] at this⟩
instance : FunC Try.prog 130 := ⟨by kernel_rfl⟩
instance : FunC Try.prog 131 := ⟨by kernel_rfl⟩
instance (b o : Nat) (k : IntKind) (l : Int) : StepC Try.prog (o_slice 33 (.pointer (some ⟨b, o, none⟩)) (some (.int k l)) none none) (0 ≤ l ∧ l < 32) (.slice (some ⟨b, o + l.toNat, none⟩) (32 - l.toNat) (32 - l.toNat)) := ⟨fun h => by have := p_slice_array_l (P := Try.prog) 33 b o 32 k l 1 (by kernel_rfl) (by kernel_rfl) (by kernel_rfl) h.1 h.2; rwa [Nat.mul_one] at this⟩
instance (b o : Nat) (k : IntKind) (l : Int) : StepC Try.prog (o_slice 33 (.pointer (some ⟨b, o, none⟩)) none (some (.int k l)) none) (0 ≤ l ∧ l ≤ 32) (.slice (some ⟨b, o, none⟩) l.toNat 32) := ⟨fun h => p_slice_array_h (P := Try.prog) 33 b o 32 k l 1 (by kernel_rfl) (by kernel_rfl) (by kernel_rfl) h.1 h.2⟩
instance (b o : Nat) : StepC Try.prog (o_slice 33 (.pointer (some ⟨b, o, none⟩)) none none none) True (.slice (some ⟨b, o, none⟩) 32 32) := ⟨fun _ => p_slice_array_all (P := Try.prog) 33 b o 32 1 (by kernel_rfl) (by kernel_rfl) (by kernel_rfl)⟩
instance : FunC Try.prog 132 := ⟨by kernel_rfl⟩
instance : FunC Try.prog 133 := ⟨by kernel_rfl⟩
instance : FunC Try.prog 134 := ⟨by kernel_rfl⟩
instance (a : Int) : StepC Try.prog (o_conv 120 139 (.int .u64 a)) True (.int .u32 (a % 4294967296)) := ⟨fun _ => by have := p_conv_int (P := Try.prog) 120 139 .u64 .u32 a (by kernel_rfl) (by kernel_rfl); rwa [show IntKind.wrap .u32 a = a % 4294967296 by simp [IntKind.wrap, IntKind.bits, IntKind.signed]] at this⟩
instance : FunC Try.prog 143 := ⟨by kernel_rfl⟩
instance : FunC Try.prog 144 := ⟨by kernel_rfl⟩
instance : FunC Try.prog 151 := ⟨by kernel_rfl⟩
instance (priority := 1100) (b : Nat) : StepC Try.prog (o_fieldAddr 145 (.pointer (some ⟨b, 0, none⟩)) 3) True (.pointer (some ⟨b, 73, none⟩)) := ⟨fun _ => p_fieldAddr 145 b 0 3 73 64 (by kernel_rfl) (by decide)⟩
instance (b o : Nat) : StepC Try.prog (o_fieldAddr 145 (.pointer (some ⟨b, o, none⟩)) 3) True (.pointer (some ⟨b, o + 73, none⟩)) := ⟨fun _ => p_fieldAddr 145 b o 3 73 64 (by kernel_rfl) (by decide)⟩
instance : FunC Try.prog 152 := ⟨by kernel_rfl⟩
instance : ZerF Try.prog 191 [.one (.int .u8 0), .one (.int .u8 0), .one (.int .u8 0), .one (.int .u8 0), .one (.int .u8 0), .one (.int .u8 0), .one (.int .u8 0), .one (.int .u8 0)] := ⟨by kernel_rfl, inferInstance⟩
instance : ZerC Try.prog 191 (List.replicate 8 (.int .u8 0)) := ⟨by kernel_rfl⟩
instance (priority := 1200) (b : Nat) (k : IntKind) : StepC Try.prog (o_indexAddr 191 (.pointer (some ⟨b, 0, none⟩)) (.int k 0)) True (.pointer (some ⟨b, 0, none⟩)) := ⟨fun _ => by have := p_indexAddr_array (P := Try.prog) 191 b 0 8 k 0 1 (by kernel_rfl) (by kernel_rfl) (by kernel_rfl) (by omega) (by omega); exact this⟩
instance (priority := 1200) (b : Nat) (k : IntKind) : StepC Try.prog (o_indexAddr 191 (.pointer (some ⟨b, 0, none⟩)) (.int k 1)) True (.pointer (some ⟨b, 1, none⟩)) := ⟨fun _ => by have := p_indexAddr_array (P := Try.prog) 191 b 0 8 k 1 1 (by kernel_rfl) (by kernel_rfl) (by kernel_rfl) (by omega) (by omega); exact this⟩
instance (priority := 1200) (b : Nat) (k : IntKind) : StepC Try.prog (o_indexAddr 191 (.pointer (some ⟨b, 0, none⟩)) (.int k 2)) True (.pointer (some ⟨b, 2, none⟩)) := ⟨fun _ => by have := p_indexAddr_array (P := Try.prog) 191 b 0 8 k 2 1 (by kernel_rfl) (by kernel_rfl) (by kernel_rfl) (by omega) (by omega); exact this⟩
instance (priority := 1200) (b : Nat) (k : IntKind) : StepC Try.prog (o_indexAddr 191 (.pointer (some ⟨b, 0, none⟩)) (.int k 3)) True (.pointer (some ⟨b, 3, none⟩)) := ⟨fun _ => by have := p_indexAddr_array (P := Try.prog) 191 b 0 8 k 3 1 (by kernel_rfl) (by kernel_rfl) (by kernel_rfl) (by omega) (by omega); exact this⟩
instance (priority := 1200) (b : Nat) (k : IntKind) : StepC Try.prog (o_indexAddr 191 (.pointer (some ⟨b, 0, none⟩)) (.int k 4)) True (.pointer (some ⟨b, 4, none⟩)) := ⟨fun _ => by have := p_indexAddr_array (P := Try.prog) 191 b 0 8 k 4 1 (by kernel_rfl) (by kernel_rfl) (by kernel_rfl) (by omega) (by omega); exact this⟩
instance (priority := 1200) (b : Nat) (k : IntKind) : StepC Try.prog (o_indexAddr 191 (.pointer (some ⟨b, 0, none⟩)) (.int k 5)) True (.pointer (some ⟨b, 5, none⟩)) := ⟨fun _ => by have := p_indexAddr_array (P := Try.prog) 191 b 0 8 k 5 1 (by kernel_rfl) (by kernel_rfl) (by kernel_rfl) (by omega) (by omega); exact this⟩
instance (priority := 1200) (b : Nat) (k : IntKind) : StepC Try.prog (o_indexAddr 191 (.pointer (some ⟨b, 0, none⟩)) (.int k 6)) True (.pointer (some ⟨b, 6, none⟩)) := ⟨fun _ => by have := p_indexAddr_array (P := Try.prog) 191 b 0 8 k 6 1 (by kernel_rfl) (by kernel_rfl) (by kernel_rfl) (by omega) (by omega); exact this⟩
instance (priority := 1200) (b : Nat) (k : IntKind) : StepC Try.prog (o_indexAddr 191 (.pointer (some ⟨b, 0, none⟩)) (.int k 7)) True (.pointer (some ⟨b, 7, none⟩)) := ⟨fun _ => by have := p_indexAddr_array (P := Try.prog) 191 b 0 8 k 7 1 (by kernel_rfl) (by kernel_rfl) (by kernel_rfl) (by omega) (by omega); exact this⟩
instance (b o : Nat) (k : IntKind) (i : Int) : StepC Try.prog (o_indexAddr 191 (.pointer (some ⟨b, o, none⟩)) (.int k i)) (0 ≤ i ∧ i < 8) (.pointer (some ⟨b, o + i.toNat, none⟩)) := ⟨fun h => by have := p_indexAddr_array (P := Try.prog) 191 b o 8 k i 1 (by kernel_rfl) (by kernel_rfl) (by kernel_rfl) h.1 h.2; rwa [Nat.mul_one] at this⟩
instance (b o : Nat) (k : IntKind) (l : Int) : StepC Try.prog (o_slice 191 (.pointer (some ⟨b, o, none⟩)) (some (.int k l)) none none) (0 ≤ l ∧ l < 8) (.slice (some ⟨b, o + l.toNat, none⟩) (8 - l.toNat) (8 - l.toNat)) := ⟨fun h => by have := p_slice_array_l (P := Try.prog) 191 b o 8 k l 1 (by kernel_rfl) (by kernel_rfl) (by kernel_rfl) h.1 h.2; rwa [Nat.mul_one] at this⟩
instance (b o : Nat) (k : IntKind) (l : Int) : StepC Try.prog (o_slice 191 (.pointer (some ⟨b, o, none⟩)) none (some (.int k l)) none) (0 ≤ l ∧ l ≤ 8) (.slice (some ⟨b, o, none⟩) l.toNat 8) := ⟨fun h => p_slice_array_h (P := Try.prog) 191 b o 8 k l 1 (by kernel_rfl) (by kernel_rfl) (by kernel_rfl) h.1 h.2⟩
instance (b o : Nat) : StepC Try.prog (o_slice 191 (.pointer (some ⟨b, o, none⟩)) none none none) True (.slice (some ⟨b, o, none⟩) 8 8) := ⟨fun _ => p_slice_array_all (P := Try.prog) 191 b o 8 1 (by kernel_rfl) (by kernel_rfl) (by kernel_rfl)⟩
instance (a : Int) : StepC Try.prog (o_conv 5 3 (.int .u8 a)) (0 ≤ a ∧ a < 256) (.int .i64 a) := ⟨fun h => by have := p_conv_int (P := Try.prog) 5 3 .u8 .i64 a (by kernel_rfl) (by kernel_rfl); rwa [show IntKind.wrap .i64 a = a by simp [IntKind.wrap, IntKind.bits, IntKind.signed]; omega] at this⟩
instance : ZerF Try.prog 189 [.one (.int .i64 0), .one (.int .i64 0), .one (.int .i64 0), .one (.int .i64 0)] := ⟨by kernel_rfl, inferInstance⟩
instance : ZerC Try.prog 189 ([.int .i64 0, .int .i64 0, .int .i64 0, .int .i64 0]) := ⟨by kernel_rfl⟩
instance : BltC Try.prog 189 := ⟨by kernel_rfl⟩
instance : PlC Try.prog 189 0 0 1 := ⟨by kernel_rfl⟩
instance : PlC Try.prog 189 1 1 1 := ⟨by kernel_rfl⟩
instance : PlC Try.prog 189 2 2 1 := ⟨by kernel_rfl⟩
instance : PlC Try.prog 189 3 3 1 := ⟨by kernel_rfl⟩
instance : ShpC Try.prog 189 true 4 := ⟨by kernel_rfl⟩
instance : SliC Try.prog 137 9 1 16 := ⟨by kernel_rfl⟩
instance : SliC Try.prog 41 34 32 32 := ⟨by kernel_rfl⟩
instance : SliC Try.prog 25 96 66 96 := ⟨by kernel_rfl⟩
instance : SliC Try.prog 24 36 97 104 := ⟨by kernel_rfl⟩
instance : SliC Try.prog 29 3 1 8 := ⟨by kernel_rfl⟩
instance : SliC Try.prog 106 5 1 1 := ⟨by kernel_rfl⟩
end Go.Proofs.Ytopcnkejobomaaa
