/- Small words for the formulas of the bodies. -/
import Derived.Test.YthnjpglpglbbkaaProg
import Derived.Test.YthnjpglpglbbkaaMby
import Derived.KernelRfl
namespace Go.Proofs.Ythnjpglpglbbkaa
def pX (R : Ending → World → Prop) : List PanicEntry → World → Prop := fun c w => R (.panicked c) w
abbrev m (R : Ending → World → Prop) (s : Sem Next) (w : World) (K : Value → World → Prop) : Prop := mop Try.prog s w K (pX R)
theorem mixed : Try.prog.follows .mixedOrders = true := by kernel_rfl
abbrev ml0 (w : World) (F : Env → World → (World → Prop) → Prop) : Prop :=
  ∃ (I : World → Prop) (μ : World → Nat), I w ∧ ∀ (u : Env) (w : World), I w → F u w (fun w2 => I w2 ∧ μ w2 < μ w)
abbrev ml1 (a0 : Value) (w : World) (F : Value → Env → World → (Value → World → Prop) → Prop) : Prop :=
  ∃ (I : Value → World → Prop) (μ : Value → World → Nat), I a0 w ∧ ∀ (x0 : Value) (u : Env) (w : World), I x0 w → F x0 u w (fun y0 w2 => I y0 w2 ∧ μ y0 w2 < μ x0 w)
abbrev ml2 (a0 a1 : Value) (w : World) (F : Value → Value → Env → World → (Value → Value → World → Prop) → Prop) : Prop :=
  ∃ (I : Value → Value → World → Prop) (μ : Value → Value → World → Nat), I a0 a1 w ∧ ∀ (x0 x1 : Value) (u : Env) (w : World), I x0 x1 w → F x0 x1 u w (fun y0 y1 w2 => I y0 y1 w2 ∧ μ y0 y1 w2 < μ x0 x1 w)
abbrev ml3 (a0 a1 a2 : Value) (w : World) (F : Value → Value → Value → Env → World → (Value → Value → Value → World → Prop) → Prop) : Prop :=
  ∃ (I : Value → Value → Value → World → Prop) (μ : Value → Value → Value → World → Nat), I a0 a1 a2 w ∧ ∀ (x0 x1 x2 : Value) (u : Env) (w : World), I x0 x1 x2 w → F x0 x1 x2 u w (fun y0 y1 y2 w2 => I y0 y1 y2 w2 ∧ μ y0 y1 y2 w2 < μ x0 x1 x2 w)
abbrev mj0 (F : (World → Prop) → Prop) (G : Env → World → Prop) : Prop :=
  ∃ J : World → Prop, F J ∧ ∀ (u : Env) (w : World), J w → G u w
abbrev mj1 (F : (Value → World → Prop) → Prop) (G : Value → Env → World → Prop) : Prop :=
  ∃ J : Value → World → Prop, F J ∧ ∀ (x0 : Value) (u : Env) (w : World), J x0 w → G x0 u w
abbrev mj2 (F : (Value → Value → World → Prop) → Prop) (G : Value → Value → Env → World → Prop) : Prop :=
  ∃ J : Value → Value → World → Prop, F J ∧ ∀ (x0 x1 : Value) (u : Env) (w : World), J x0 x1 w → G x0 x1 u w
instance : FunC Try.prog 60 := ⟨by kernel_rfl⟩
instance : FunC Try.prog 61 := ⟨by kernel_rfl⟩
instance : FunC Try.prog 62 := ⟨by kernel_rfl⟩
instance (ty : TypeId) (cs : List Bool) (a : Option Addr) (n c : Nat) : StepC Try.prog (o_builtin .len #[112] ty cs [.slice a n c]) True (.int .i64 n) := ⟨fun _ => p_len_slice 112 ty 120 cs a n c (by kernel_rfl)⟩
instance (b o n c : Nat) (k : IntKind) (i : Int) : StepC Try.prog (o_indexAddr 112 (.slice (some ⟨b, o, none⟩) n c) (.int k i)) (0 ≤ i ∧ i < n) (.pointer (some ⟨b, o + i.toNat * 76, none⟩)) := ⟨fun h => p_indexAddr_slice (P := Try.prog) 112 b o n c k i 76 (by kernel_rfl) (by kernel_rfl) h.1 h.2⟩
instance : SliS Try.prog 112 76 := ⟨by kernel_rfl, by kernel_rfl⟩
instance : ShpC Try.prog 120 true 76 := ⟨by kernel_rfl⟩
instance : ZerF Try.prog 120 [.one (.int .u8 0), .one (.int .i64 0), .one (.int .i64 0), .arr 32 (u8s hzero.1), .arr 32 (u8s hzero.1), .one (.slice none 0 0), .arr 8 (List.replicate 8 (.int .i64 0))] := ⟨by kernel_rfl, inferInstance⟩
instance (priority := 1100) (b : Nat) : StepC Try.prog (o_fieldAddr 120 (.pointer (some ⟨b, 0, none⟩)) 0) True (.pointer (some ⟨b, 0, none⟩)) := ⟨fun _ => p_fieldAddr 120 b 0 0 0 1 (by kernel_rfl) (by decide)⟩
instance (b o : Nat) : StepC Try.prog (o_fieldAddr 120 (.pointer (some ⟨b, o, none⟩)) 0) True (.pointer (some ⟨b, o + 0, none⟩)) := ⟨fun _ => p_fieldAddr 120 b o 0 0 1 (by kernel_rfl) (by decide)⟩
instance : ShpC Try.prog 5 false 1 := ⟨by kernel_rfl⟩
instance (priority := 1100) (b : Nat) : StepC Try.prog (o_fieldAddr 120 (.pointer (some ⟨b, 0, none⟩)) 1) True (.pointer (some ⟨b, 1, none⟩)) := ⟨fun _ => p_fieldAddr 120 b 0 1 1 34 (by kernel_rfl) (by decide)⟩
instance (b o : Nat) : StepC Try.prog (o_fieldAddr 120 (.pointer (some ⟨b, o, none⟩)) 1) True (.pointer (some ⟨b, o + 1, none⟩)) := ⟨fun _ => p_fieldAddr 120 b o 1 1 34 (by kernel_rfl) (by decide)⟩
instance : ShpC Try.prog 117 true 34 := ⟨by kernel_rfl⟩
instance (priority := 1100) (b : Nat) : StepC Try.prog (o_fieldAddr 120 (.pointer (some ⟨b, 0, none⟩)) 2) True (.pointer (some ⟨b, 35, none⟩)) := ⟨fun _ => p_fieldAddr 120 b 0 2 35 32 (by kernel_rfl) (by decide)⟩
instance (b o : Nat) : StepC Try.prog (o_fieldAddr 120 (.pointer (some ⟨b, o, none⟩)) 2) True (.pointer (some ⟨b, o + 35, none⟩)) := ⟨fun _ => p_fieldAddr 120 b o 2 35 32 (by kernel_rfl) (by decide)⟩
instance : ShpC Try.prog 30 true 32 := ⟨by kernel_rfl⟩
instance : FunC Try.prog 63 := ⟨by kernel_rfl⟩
instance : FunC Try.prog 64 := ⟨by kernel_rfl⟩
instance : FunC Try.prog 66 := ⟨by kernel_rfl⟩
instance (priority := 1100) (b : Nat) : StepC Try.prog (o_fieldAddr 120 (.pointer (some ⟨b, 0, none⟩)) 3) True (.pointer (some ⟨b, 67, none⟩)) := ⟨fun _ => p_fieldAddr 120 b 0 3 67 1 (by kernel_rfl) (by decide)⟩
instance (b o : Nat) : StepC Try.prog (o_fieldAddr 120 (.pointer (some ⟨b, o, none⟩)) 3) True (.pointer (some ⟨b, o + 67, none⟩)) := ⟨fun _ => p_fieldAddr 120 b o 3 67 1 (by kernel_rfl) (by decide)⟩
instance : ShpC Try.prog 41 false 1 := ⟨by kernel_rfl⟩
instance (priority := 1100) (b : Nat) : StepC Try.prog (o_fieldAddr 120 (.pointer (some ⟨b, 0, none⟩)) 4) True (.pointer (some ⟨b, 68, none⟩)) := ⟨fun _ => p_fieldAddr 120 b 0 4 68 8 (by kernel_rfl) (by decide)⟩
instance (b o : Nat) : StepC Try.prog (o_fieldAddr 120 (.pointer (some ⟨b, o, none⟩)) 4) True (.pointer (some ⟨b, o + 68, none⟩)) := ⟨fun _ => p_fieldAddr 120 b o 4 68 8 (by kernel_rfl) (by decide)⟩
instance : ShpC Try.prog 118 true 8 := ⟨by kernel_rfl⟩
instance : FunC Try.prog 65 := ⟨by kernel_rfl⟩
instance (ty : TypeId) (cs : List Bool) (a : Option Addr) (n c : Nat) : StepC Try.prog (o_builtin .len #[123] ty cs [.slice a n c]) True (.int .i64 n) := ⟨fun _ => p_len_slice 123 ty 129 cs a n c (by kernel_rfl)⟩
instance : FunC Try.prog 67 := ⟨by kernel_rfl⟩
instance (b o n c : Nat) (k : IntKind) (i : Int) : StepC Try.prog (o_indexAddr 123 (.slice (some ⟨b, o, none⟩) n c) (.int k i)) (0 ≤ i ∧ i < n) (.pointer (some ⟨b, o + i.toNat * 68, none⟩)) := ⟨fun h => p_indexAddr_slice (P := Try.prog) 123 b o n c k i 68 (by kernel_rfl) (by kernel_rfl) h.1 h.2⟩
instance : SliS Try.prog 123 68 := ⟨by kernel_rfl, by kernel_rfl⟩
instance (priority := 1100) (b : Nat) : StepC Try.prog (o_fieldAddr 129 (.pointer (some ⟨b, 0, none⟩)) 0) True (.pointer (some ⟨b, 0, none⟩)) := ⟨fun _ => p_fieldAddr 129 b 0 0 0 1 (by kernel_rfl) (by decide)⟩
instance (b o : Nat) : StepC Try.prog (o_fieldAddr 129 (.pointer (some ⟨b, o, none⟩)) 0) True (.pointer (some ⟨b, o + 0, none⟩)) := ⟨fun _ => p_fieldAddr 129 b o 0 0 1 (by kernel_rfl) (by decide)⟩
instance : ShpC Try.prog 3 false 1 := ⟨by kernel_rfl⟩
instance (priority := 1100) (b : Nat) : StepC Try.prog (o_fieldAddr 129 (.pointer (some ⟨b, 0, none⟩)) 2) True (.pointer (some ⟨b, 35, none⟩)) := ⟨fun _ => p_fieldAddr 129 b 0 2 35 32 (by kernel_rfl) (by decide)⟩
instance (b o : Nat) : StepC Try.prog (o_fieldAddr 129 (.pointer (some ⟨b, o, none⟩)) 2) True (.pointer (some ⟨b, o + 35, none⟩)) := ⟨fun _ => p_fieldAddr 129 b o 2 35 32 (by kernel_rfl) (by decide)⟩
instance : KindC Try.prog 30 (List.replicate 32 (.int .u8)) := ⟨by kernel_rfl, by kernel_rfl, by kernel_rfl⟩
instance : FunC Try.prog 68 := ⟨by kernel_rfl⟩
instance (priority := 1100) (b : Nat) : StepC Try.prog (o_fieldAddr 129 (.pointer (some ⟨b, 0, none⟩)) 3) True (.pointer (some ⟨b, 67, none⟩)) := ⟨fun _ => p_fieldAddr 129 b 0 3 67 1 (by kernel_rfl) (by decide)⟩
instance (b o : Nat) : StepC Try.prog (o_fieldAddr 129 (.pointer (some ⟨b, o, none⟩)) 3) True (.pointer (some ⟨b, o + 67, none⟩)) := ⟨fun _ => p_fieldAddr 129 b o 3 67 1 (by kernel_rfl) (by decide)⟩
instance : ShpC Try.prog 25 false 1 := ⟨by kernel_rfl⟩
instance : IsBo Try.prog 4 := ⟨by kernel_rfl⟩
instance : FunC Try.prog 69 := ⟨by kernel_rfl⟩
instance (ty : TypeId) (cs : List Bool) (a : Option Addr) (n c : Nat) : StepC Try.prog (o_builtin .len #[41] ty cs [.slice a n c]) True (.int .i64 n) := ⟨fun _ => p_len_slice 41 ty 3 cs a n c (by kernel_rfl)⟩
instance : FunC Try.prog 70 := ⟨by kernel_rfl⟩
instance : ZerF Try.prog 135 [.one (.int .i64 0), .one (.slice none 0 0), .one (.slice none 0 0)] := ⟨by kernel_rfl, inferInstance⟩
instance : BltC Try.prog 135 := ⟨by kernel_rfl⟩
instance : ShpC Try.prog 135 true 3 := ⟨by kernel_rfl⟩
instance : FunC Try.prog 71 := ⟨by kernel_rfl⟩
instance : FunC Try.prog 72 := ⟨by kernel_rfl⟩
instance : FunC Try.prog 74 := ⟨by kernel_rfl⟩
instance : FunC Try.prog 73 := ⟨by kernel_rfl⟩
instance : FunC Try.prog 75 := ⟨by kernel_rfl⟩
instance (priority := 1100) (b : Nat) : StepC Try.prog (o_fieldAddr 135 (.pointer (some ⟨b, 0, none⟩)) 1) True (.pointer (some ⟨b, 1, none⟩)) := ⟨fun _ => p_fieldAddr 135 b 0 1 1 1 (by kernel_rfl) (by decide)⟩
instance (b o : Nat) : StepC Try.prog (o_fieldAddr 135 (.pointer (some ⟨b, o, none⟩)) 1) True (.pointer (some ⟨b, o + 1, none⟩)) := ⟨fun _ => p_fieldAddr 135 b o 1 1 1 (by kernel_rfl) (by decide)⟩
instance : ShpC Try.prog 133 false 1 := ⟨by kernel_rfl⟩
instance (priority := 1100) (b : Nat) : StepC Try.prog (o_fieldAddr 135 (.pointer (some ⟨b, 0, none⟩)) 2) True (.pointer (some ⟨b, 2, none⟩)) := ⟨fun _ => p_fieldAddr 135 b 0 2 2 1 (by kernel_rfl) (by decide)⟩
instance (b o : Nat) : StepC Try.prog (o_fieldAddr 135 (.pointer (some ⟨b, o, none⟩)) 2) True (.pointer (some ⟨b, o + 2, none⟩)) := ⟨fun _ => p_fieldAddr 135 b o 2 2 1 (by kernel_rfl) (by decide)⟩
instance (priority := 1100) (b : Nat) : StepC Try.prog (o_fieldAddr 135 (.pointer (some ⟨b, 0, none⟩)) 0) True (.pointer (some ⟨b, 0, none⟩)) := ⟨fun _ => p_fieldAddr 135 b 0 0 0 1 (by kernel_rfl) (by decide)⟩
instance (b o : Nat) : StepC Try.prog (o_fieldAddr 135 (.pointer (some ⟨b, o, none⟩)) 0) True (.pointer (some ⟨b, o + 0, none⟩)) := ⟨fun _ => p_fieldAddr 135 b o 0 0 1 (by kernel_rfl) (by decide)⟩
instance : FunC Try.prog 76 := ⟨by kernel_rfl⟩
instance : ZerF Try.prog 117 [.one (.int .i64 0), .one (.int .i64 0), .arr 32 (u8s hzero.1)] := ⟨by kernel_rfl, inferInstance⟩
instance : BltC Try.prog 117 := ⟨by kernel_rfl⟩
instance : PlC Try.prog 117 1 1 1 := ⟨by kernel_rfl⟩
instance : ZerF Try.prog 30 [.arr 32 (u8s hzero.1)] := ⟨by kernel_rfl, inferInstance⟩
instance : HshC Try.prog 30 := ⟨⟨5, by kernel_rfl, by kernel_rfl⟩, by kernel_rfl⟩
instance : BltC Try.prog 30 := ⟨by kernel_rfl⟩
instance : PlC Try.prog 30 0 0 1 := ⟨by kernel_rfl⟩
instance : ZerF Try.prog 118 [.arr 8 (List.replicate 8 (.int .i64 0))] := ⟨by kernel_rfl, inferInstance⟩
instance : BltC Try.prog 118 := ⟨by kernel_rfl⟩
instance : ZerF Try.prog 175 [.one (.int .i64 0), .one (.slice none 0 0), .one (.slice none 0 0)] := ⟨by kernel_rfl, inferInstance⟩
instance : BltC Try.prog 175 := ⟨by kernel_rfl⟩
instance : ShpC Try.prog 175 true 3 := ⟨by kernel_rfl⟩
instance : IsPt Try.prog 114 := isPt_of (by kernel_rfl)
instance (priority := 1100) (b : Nat) : StepC Try.prog (o_fieldAddr 175 (.pointer (some ⟨b, 0, none⟩)) 1) True (.pointer (some ⟨b, 1, none⟩)) := ⟨fun _ => p_fieldAddr 175 b 0 1 1 1 (by kernel_rfl) (by decide)⟩
instance (b o : Nat) : StepC Try.prog (o_fieldAddr 175 (.pointer (some ⟨b, o, none⟩)) 1) True (.pointer (some ⟨b, o + 1, none⟩)) := ⟨fun _ => p_fieldAddr 175 b o 1 1 1 (by kernel_rfl) (by decide)⟩
instance : ShpC Try.prog 123 false 1 := ⟨by kernel_rfl⟩
instance (priority := 1100) (b : Nat) : StepC Try.prog (o_fieldAddr 175 (.pointer (some ⟨b, 0, none⟩)) 0) True (.pointer (some ⟨b, 0, none⟩)) := ⟨fun _ => p_fieldAddr 175 b 0 0 0 1 (by kernel_rfl) (by decide)⟩
instance (b o : Nat) : StepC Try.prog (o_fieldAddr 175 (.pointer (some ⟨b, o, none⟩)) 0) True (.pointer (some ⟨b, o + 0, none⟩)) := ⟨fun _ => p_fieldAddr 175 b o 0 0 1 (by kernel_rfl) (by decide)⟩
instance : ZerF Try.prog 129 [.one (.int .i64 0), .one (.int .i64 0), .one (.int .i64 0), .arr 32 (u8s hzero.1), .arr 32 (u8s hzero.1), .one (.int .i64 0)] := ⟨by kernel_rfl, inferInstance⟩
instance : BltC Try.prog 129 := ⟨by kernel_rfl⟩
instance : PlC Try.prog 129 0 0 1 := ⟨by kernel_rfl⟩
instance : PlC Try.prog 129 1 1 34 := ⟨by kernel_rfl⟩
instance : PlC Try.prog 129 2 35 32 := ⟨by kernel_rfl⟩
instance : FunC Try.prog 89 := ⟨by kernel_rfl⟩
instance : ShpC Try.prog 129 true 68 := ⟨by kernel_rfl⟩
instance : ZerC Try.prog 129 ([.int .i64 0, .int .i64 0, .int .i64 0] ++ (List.replicate 64 (.int .u8 0) ++ ([.int .i64 0]))) := ⟨by kernel_rfl⟩
instance : FunC Try.prog 90 := ⟨by kernel_rfl⟩
instance (priority := 1100) (b : Nat) : StepC Try.prog (o_fieldAddr 129 (.pointer (some ⟨b, 0, none⟩)) 1) True (.pointer (some ⟨b, 1, none⟩)) := ⟨fun _ => p_fieldAddr 129 b 0 1 1 34 (by kernel_rfl) (by decide)⟩
instance (b o : Nat) : StepC Try.prog (o_fieldAddr 129 (.pointer (some ⟨b, o, none⟩)) 1) True (.pointer (some ⟨b, o + 1, none⟩)) := ⟨fun _ => p_fieldAddr 129 b o 1 1 34 (by kernel_rfl) (by decide)⟩
instance (priority := 1100) (b : Nat) : StepC Try.prog (o_fieldAddr 175 (.pointer (some ⟨b, 0, none⟩)) 2) True (.pointer (some ⟨b, 2, none⟩)) := ⟨fun _ => p_fieldAddr 175 b 0 2 2 1 (by kernel_rfl) (by decide)⟩
instance (b o : Nat) : StepC Try.prog (o_fieldAddr 175 (.pointer (some ⟨b, o, none⟩)) 2) True (.pointer (some ⟨b, o + 2, none⟩)) := ⟨fun _ => p_fieldAddr 175 b o 2 2 1 (by kernel_rfl) (by decide)⟩
instance : ZerF Try.prog 178 [.arr 8 (List.replicate 8 (.int .i64 0))] := ⟨by kernel_rfl, inferInstance⟩
instance : BltC Try.prog 178 := ⟨by kernel_rfl⟩
instance : PlC Try.prog 178 0 0 8 := ⟨by kernel_rfl⟩
instance : FunC Try.prog 91 := ⟨by kernel_rfl⟩
instance (b o n c : Nat) (k : IntKind) (i : Int) : StepC Try.prog (o_indexAddr 41 (.slice (some ⟨b, o, none⟩) n c) (.int k i)) (0 ≤ i ∧ i < n) (.pointer (some ⟨b, o + i.toNat, none⟩)) := ⟨fun h => by have := p_indexAddr_slice (P := Try.prog) 41 b o n c k i 1 (by kernel_rfl) (by kernel_rfl) h.1 h.2; rwa [Nat.mul_one] at this⟩
instance : SliS Try.prog 41 1 := ⟨by kernel_rfl, by kernel_rfl⟩
instance : FunC Try.prog 93 := ⟨by kernel_rfl⟩
instance : FunC Try.prog 92 := ⟨by kernel_rfl⟩
instance (ty : TypeId) (cs : List Bool) (a : Option Addr) (n c : Nat) : StepC Try.prog (o_builtin .len #[133] ty cs [.slice a n c]) True (.int .i64 n) := ⟨fun _ => p_len_slice 133 ty 182 cs a n c (by kernel_rfl)⟩
instance : ZerF Try.prog 182 [.one (.int .i64 0), .one (.int .i64 0), .one (.int .i64 0), .arr 32 (u8s hzero.1), .arr 32 (u8s hzero.1), .one (.int .i64 0)] := ⟨by kernel_rfl, inferInstance⟩
instance : BltC Try.prog 182 := ⟨by kernel_rfl⟩
instance : PlC Try.prog 182 0 0 1 := ⟨by kernel_rfl⟩
instance : PlC Try.prog 182 1 1 34 := ⟨by kernel_rfl⟩
instance : PlC Try.prog 182 2 35 32 := ⟨by kernel_rfl⟩
instance : PlC Try.prog 135 0 0 1 := ⟨by kernel_rfl⟩
instance (b o n c : Nat) (k : IntKind) (i : Int) : StepC Try.prog (o_indexAddr 133 (.slice (some ⟨b, o, none⟩) n c) (.int k i)) (0 ≤ i ∧ i < n) (.pointer (some ⟨b, o + i.toNat * 68, none⟩)) := ⟨fun h => p_indexAddr_slice (P := Try.prog) 133 b o n c k i 68 (by kernel_rfl) (by kernel_rfl) h.1 h.2⟩
instance : SliS Try.prog 133 68 := ⟨by kernel_rfl, by kernel_rfl⟩
instance : ShpC Try.prog 182 true 68 := ⟨by kernel_rfl⟩
instance : ZerC Try.prog 182 ([.int .i64 0, .int .i64 0, .int .i64 0] ++ (List.replicate 64 (.int .u8 0) ++ ([.int .i64 0]))) := ⟨by kernel_rfl⟩
instance (priority := 1100) (b : Nat) : StepC Try.prog (o_fieldAddr 182 (.pointer (some ⟨b, 0, none⟩)) 0) True (.pointer (some ⟨b, 0, none⟩)) := ⟨fun _ => p_fieldAddr 182 b 0 0 0 1 (by kernel_rfl) (by decide)⟩
instance (b o : Nat) : StepC Try.prog (o_fieldAddr 182 (.pointer (some ⟨b, o, none⟩)) 0) True (.pointer (some ⟨b, o + 0, none⟩)) := ⟨fun _ => p_fieldAddr 182 b o 0 0 1 (by kernel_rfl) (by decide)⟩
instance (priority := 1100) (b : Nat) : StepC Try.prog (o_fieldAddr 182 (.pointer (some ⟨b, 0, none⟩)) 2) True (.pointer (some ⟨b, 35, none⟩)) := ⟨fun _ => p_fieldAddr 182 b 0 2 35 32 (by kernel_rfl) (by decide)⟩
instance (b o : Nat) : StepC Try.prog (o_fieldAddr 182 (.pointer (some ⟨b, o, none⟩)) 2) True (.pointer (some ⟨b, o + 35, none⟩)) := ⟨fun _ => p_fieldAddr 182 b o 2 35 32 (by kernel_rfl) (by decide)⟩
instance (priority := 1100) (b : Nat) : StepC Try.prog (o_fieldAddr 182 (.pointer (some ⟨b, 0, none⟩)) 1) True (.pointer (some ⟨b, 1, none⟩)) := ⟨fun _ => p_fieldAddr 182 b 0 1 1 34 (by kernel_rfl) (by decide)⟩
instance (b o : Nat) : StepC Try.prog (o_fieldAddr 182 (.pointer (some ⟨b, o, none⟩)) 1) True (.pointer (some ⟨b, o + 1, none⟩)) := ⟨fun _ => p_fieldAddr 182 b o 1 1 34 (by kernel_rfl) (by decide)⟩
instance : FunC Try.prog 94 := ⟨by kernel_rfl⟩
instance (b o : Nat) (k : IntKind) (i : Int) : StepC Try.prog (o_indexAddr 118 (.pointer (some ⟨b, o, none⟩)) (.int k i)) (0 ≤ i ∧ i < 8) (.pointer (some ⟨b, o + i.toNat, none⟩)) := ⟨fun h => by have := p_indexAddr_array (P := Try.prog) 118 b o 8 k i 1 (by kernel_rfl) (by kernel_rfl) (by kernel_rfl) h.1 h.2; rwa [Nat.mul_one] at this⟩
instance (priority := 1100) (b : Nat) : StepC Try.prog (o_fieldAddr 182 (.pointer (some ⟨b, 0, none⟩)) 3) True (.pointer (some ⟨b, 67, none⟩)) := ⟨fun _ => p_fieldAddr 182 b 0 3 67 1 (by kernel_rfl) (by decide)⟩
instance (b o : Nat) : StepC Try.prog (o_fieldAddr 182 (.pointer (some ⟨b, o, none⟩)) 3) True (.pointer (some ⟨b, o + 67, none⟩)) := ⟨fun _ => p_fieldAddr 182 b o 3 67 1 (by kernel_rfl) (by decide)⟩
instance : KindC Try.prog 182 ((.int .i64) :: ((.int .i64) :: ((.int .i64) :: (List.replicate 32 (.int .u8) ++ (List.replicate 32 (.int .u8) ++ ([.int .i64])))))) := ⟨by kernel_rfl, by kernel_rfl, by kernel_rfl⟩
instance : PlC Try.prog 182 3 67 1 := ⟨by kernel_rfl⟩
instance : PlC Try.prog 135 2 2 1 := ⟨by kernel_rfl⟩
instance : PlC Try.prog 175 0 0 1 := ⟨by kernel_rfl⟩
instance : PlC Try.prog 175 1 1 1 := ⟨by kernel_rfl⟩
instance : PlC Try.prog 175 2 2 1 := ⟨by kernel_rfl⟩
instance : IsSl Try.prog 123 := isSl_of (by kernel_rfl)
instance : FunC Try.prog 100 := ⟨by kernel_rfl⟩
instance : ShpC Try.prog 178 true 8 := ⟨by kernel_rfl⟩
instance (priority := 1100) (b : Nat) : StepC Try.prog (o_fieldAddr 178 (.pointer (some ⟨b, 0, none⟩)) 0) True (.pointer (some ⟨b, 0, none⟩)) := ⟨fun _ => p_fieldAddr 178 b 0 0 0 8 (by kernel_rfl) (by decide)⟩
instance (b o : Nat) : StepC Try.prog (o_fieldAddr 178 (.pointer (some ⟨b, o, none⟩)) 0) True (.pointer (some ⟨b, o + 0, none⟩)) := ⟨fun _ => p_fieldAddr 178 b o 0 0 8 (by kernel_rfl) (by decide)⟩
instance : FunC Try.prog 101 := ⟨by kernel_rfl⟩
instance (priority := 1100) (b : Nat) : StepC Try.prog (o_fieldAddr 117 (.pointer (some ⟨b, 0, none⟩)) 1) True (.pointer (some ⟨b, 1, none⟩)) := ⟨fun _ => p_fieldAddr 117 b 0 1 1 1 (by kernel_rfl) (by decide)⟩
instance (b o : Nat) : StepC Try.prog (o_fieldAddr 117 (.pointer (some ⟨b, o, none⟩)) 1) True (.pointer (some ⟨b, o + 1, none⟩)) := ⟨fun _ => p_fieldAddr 117 b o 1 1 1 (by kernel_rfl) (by decide)⟩
instance (a : Int) : StepC Try.prog (o_conv 3 49 (.int .i64 a)) True (.int .u64 (a % 18446744073709551616)) := ⟨fun _ => by have := p_conv_int (P := Try.prog) 3 49 .i64 .u64 a (by kernel_rfl) (by kernel_rfl); rwa [show IntKind.wrap .u64 a = a % 18446744073709551616 by simp [IntKind.wrap, IntKind.bits, IntKind.signed]] at this⟩
instance (a : Int) : StepC Try.prog (o_conv 49 3 (.int .u64 a)) ((-9223372036854775808) ≤ a ∧ a < 9223372036854775808) (.int .i64 a) := ⟨fun h => by have := p_conv_int (P := Try.prog) 49 3 .u64 .i64 a (by kernel_rfl) (by kernel_rfl); rwa [show IntKind.wrap .i64 a = a by simp [IntKind.wrap, IntKind.bits, IntKind.signed]; omega] at this⟩
instance : SliC Try.prog 123 129 68 96 := ⟨by kernel_rfl⟩
instance : SliC Try.prog 133 182 68 96 := ⟨by kernel_rfl⟩
end Go.Proofs.Ythnjpglpglbbkaa
