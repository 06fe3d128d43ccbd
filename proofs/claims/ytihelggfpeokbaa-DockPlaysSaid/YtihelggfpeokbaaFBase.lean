/- Small words for the formulas of the bodies. -/
import Derived.Test.YtihelggfpeokbaaProg
import Derived.Test.YtihelggfpeokbaaMby
import Derived.KernelRfl
namespace Go.Proofs.Ytihelggfpeokbaa
def pX (R : Ending → World → Prop) : List PanicEntry → World → Prop := fun c w => R (.panicked c) w
abbrev m (R : Ending → World → Prop) (s : Sem Next) (w : World) (K : Value → World → Prop) : Prop := mop Try.prog s w K (pX R)
theorem mixed : Try.prog.follows .mixedOrders = true := by kernel_rfl
abbrev ml0 (w : World) (F : Env → World → (World → Prop) → Prop) : Prop :=
  ∃ (I : World → Prop) (μ : World → Nat), I w ∧ ∀ (u : Env) (w : World), I w → F u w (fun w2 => I w2 ∧ μ w2 < μ w)
abbrev ml1 (a0 : Value) (w : World) (F : Value → Env → World → (Value → World → Prop) → Prop) : Prop :=
  ∃ (I : Value → World → Prop) (μ : Value → World → Nat), I a0 w ∧ ∀ (x0 : Value) (u : Env) (w : World), I x0 w → F x0 u w (fun y0 w2 => I y0 w2 ∧ μ y0 w2 < μ x0 w)
abbrev ml2 (a0 a1 : Value) (w : World) (F : Value → Value → Env → World → (Value → Value → World → Prop) → Prop) : Prop :=
  ∃ (I : Value → Value → World → Prop) (μ : Value → Value → World → Nat), I a0 a1 w ∧ ∀ (x0 x1 : Value) (u : Env) (w : World), I x0 x1 w → F x0 x1 u w (fun y0 y1 w2 => I y0 y1 w2 ∧ μ y0 y1 w2 < μ x0 x1 w)
abbrev ml3 (a0 a1 a2 : Value) (w : World) (F : Value → Value → Value → Env → World → (Value → Value → Value → World → Prop) → Prop) : Prop :=
  ∃ (I : Value → Value → Value → World → Prop) (μ : Value → Value → Value → World → Nat), I a0 a1 a2 w ∧ ∀ (x0 x1 x2 : Value) (u : Env) (w : World), I x0 x1 x2 w → F x0 x1 x2 u w (fun y0 y1 y2 w2 => I y0 y1 y2 w2 ∧ μ y0 y1 y2 w2 < μ x0 x1 x2 w)
abbrev ml4 (a0 a1 a2 a3 : Value) (w : World) (F : Value → Value → Value → Value → Env → World → (Value → Value → Value → Value → World → Prop) → Prop) : Prop :=
  ∃ (I : Value → Value → Value → Value → World → Prop) (μ : Value → Value → Value → Value → World → Nat), I a0 a1 a2 a3 w ∧ ∀ (x0 x1 x2 x3 : Value) (u : Env) (w : World), I x0 x1 x2 x3 w → F x0 x1 x2 x3 u w (fun y0 y1 y2 y3 w2 => I y0 y1 y2 y3 w2 ∧ μ y0 y1 y2 y3 w2 < μ x0 x1 x2 x3 w)
abbrev mj0 (F : (World → Prop) → Prop) (G : Env → World → Prop) : Prop :=
  ∃ J : World → Prop, F J ∧ ∀ (u : Env) (w : World), J w → G u w
abbrev mj1 (F : (Value → World → Prop) → Prop) (G : Value → Env → World → Prop) : Prop :=
  ∃ J : Value → World → Prop, F J ∧ ∀ (x0 : Value) (u : Env) (w : World), J x0 w → G x0 u w
abbrev mj2 (F : (Value → Value → World → Prop) → Prop) (G : Value → Value → Env → World → Prop) : Prop :=
  ∃ J : Value → Value → World → Prop, F J ∧ ∀ (x0 x1 : Value) (u : Env) (w : World), J x0 x1 w → G x0 x1 u w
abbrev mj3 (F : (Value → Value → Value → World → Prop) → Prop) (G : Value → Value → Value → Env → World → Prop) : Prop :=
  ∃ J : Value → Value → Value → World → Prop, F J ∧ ∀ (x0 x1 x2 : Value) (u : Env) (w : World), J x0 x1 x2 w → G x0 x1 x2 u w
instance : FunC Try.prog 6 := ⟨by kernel_rfl⟩
instance (ty : TypeId) (cs : List Bool) (a : Option Addr) (n c : Nat) : StepC Try.prog (o_builtin .len #[22] ty cs [.slice a n c]) True (.int .i64 n) := ⟨fun _ => p_len_slice 22 ty 3 cs a n c (by kernel_rfl)⟩
instance (ty : TypeId) (cs : List Bool) (a : Option Addr) (n c : Nat) : StepC Try.prog (o_builtin .len #[23] ty cs [.slice a n c]) True (.int .i64 n) := ⟨fun _ => p_len_slice 23 ty 4 cs a n c (by kernel_rfl)⟩
instance (a : Int) : StepC Try.prog (o_conv 5 3 (.int .u8 a)) (0 ≤ a ∧ a < 256) (.int .i64 a) := ⟨fun h => by have := p_conv_int (P := Try.prog) 5 3 .u8 .i64 a (by kernel_rfl) (by kernel_rfl); rwa [show IntKind.wrap .i64 a = a by simp [IntKind.wrap, IntKind.bits, IntKind.signed]; omega] at this⟩
instance : FunC Try.prog 7 := ⟨by kernel_rfl⟩
instance (b o n c : Nat) (k : IntKind) (i : Int) : StepC Try.prog (o_indexAddr 22 (.slice (some ⟨b, o, none⟩) n c) (.int k i)) (0 ≤ i ∧ i < n) (.pointer (some ⟨b, o + i.toNat, none⟩)) := ⟨fun h => by have := p_indexAddr_slice (P := Try.prog) 22 b o n c k i 1 (by kernel_rfl) (by kernel_rfl) h.1 h.2; rwa [Nat.mul_one] at this⟩
instance : SliS Try.prog 22 1 := ⟨by kernel_rfl, by kernel_rfl⟩
instance : ShpC Try.prog 3 false 1 := ⟨by kernel_rfl⟩
instance : FunC Try.prog 8 := ⟨by kernel_rfl⟩
instance (b o n c : Nat) (k : IntKind) (i : Int) : StepC Try.prog (o_indexAddr 23 (.slice (some ⟨b, o, none⟩) n c) (.int k i)) (0 ≤ i ∧ i < n) (.pointer (some ⟨b, o + i.toNat, none⟩)) := ⟨fun h => by have := p_indexAddr_slice (P := Try.prog) 23 b o n c k i 1 (by kernel_rfl) (by kernel_rfl) h.1 h.2; rwa [Nat.mul_one] at this⟩
instance : SliS Try.prog 23 1 := ⟨by kernel_rfl, by kernel_rfl⟩
instance : ShpC Try.prog 4 false 1 := ⟨by kernel_rfl⟩
instance : FunC Try.prog 9 := ⟨by kernel_rfl⟩
instance : FunC Try.prog 10 := ⟨by kernel_rfl⟩
instance : FunC Try.prog 11 := ⟨by kernel_rfl⟩
instance : ShpC Try.prog 34 true 3 := ⟨by kernel_rfl⟩
instance (ty : TypeId) (cs : List Bool) (a : Option Addr) (n c : Nat) : StepC Try.prog (o_builtin .len #[35] ty cs [.slice a n c]) True (.int .i64 n) := ⟨fun _ => p_len_slice 35 ty 41 cs a n c (by kernel_rfl)⟩
instance : ZerF Try.prog 36 [.arr 3 (List.replicate 3 (.pointer none))] := ⟨by kernel_rfl, inferInstance⟩
instance : ZerC Try.prog 36 ([.pointer none, .pointer none, .pointer none]) := ⟨by kernel_rfl⟩
instance : ZerF Try.prog 39 [.one (.int .i64 0), .one (.int .i64 0), .one (.bool false), .one (.slice none 0 0), .one (.int .i64 0), .one (.int .i64 0), .one (.bool false), .one (.slice none 0 0), .one (.int .i64 0), .one (.int .i64 0), .one (.bool false), .one (.slice none 0 0)] := ⟨by kernel_rfl, inferInstance⟩
instance (priority := 1200) (b : Nat) (k : IntKind) : StepC Try.prog (o_indexAddr 34 (.pointer (some ⟨b, 0, none⟩)) (.int k 0)) True (.pointer (some ⟨b, 0, none⟩)) := ⟨fun _ => by have := p_indexAddr_array (P := Try.prog) 34 b 0 3 k 0 1 (by kernel_rfl) (by kernel_rfl) (by kernel_rfl) (by omega) (by omega); exact this⟩
instance (priority := 1200) (b : Nat) (k : IntKind) : StepC Try.prog (o_indexAddr 34 (.pointer (some ⟨b, 0, none⟩)) (.int k 1)) True (.pointer (some ⟨b, 1, none⟩)) := ⟨fun _ => by have := p_indexAddr_array (P := Try.prog) 34 b 0 3 k 1 1 (by kernel_rfl) (by kernel_rfl) (by kernel_rfl) (by omega) (by omega); exact this⟩
instance (priority := 1200) (b : Nat) (k : IntKind) : StepC Try.prog (o_indexAddr 34 (.pointer (some ⟨b, 0, none⟩)) (.int k 2)) True (.pointer (some ⟨b, 2, none⟩)) := ⟨fun _ => by have := p_indexAddr_array (P := Try.prog) 34 b 0 3 k 2 1 (by kernel_rfl) (by kernel_rfl) (by kernel_rfl) (by omega) (by omega); exact this⟩
instance (b o : Nat) (k : IntKind) (i : Int) : StepC Try.prog (o_indexAddr 34 (.pointer (some ⟨b, o, none⟩)) (.int k i)) (0 ≤ i ∧ i < 3) (.pointer (some ⟨b, o + i.toNat, none⟩)) := ⟨fun h => by have := p_indexAddr_array (P := Try.prog) 34 b o 3 k i 1 (by kernel_rfl) (by kernel_rfl) (by kernel_rfl) h.1 h.2; rwa [Nat.mul_one] at this⟩
instance : ShpC Try.prog 5 false 1 := ⟨by kernel_rfl⟩
instance (priority := 1200) (b : Nat) (k : IntKind) : StepC Try.prog (o_indexAddr 36 (.pointer (some ⟨b, 0, none⟩)) (.int k 0)) True (.pointer (some ⟨b, 0, none⟩)) := ⟨fun _ => by have := p_indexAddr_array (P := Try.prog) 36 b 0 3 k 0 1 (by kernel_rfl) (by kernel_rfl) (by kernel_rfl) (by omega) (by omega); exact this⟩
instance (priority := 1200) (b : Nat) (k : IntKind) : StepC Try.prog (o_indexAddr 36 (.pointer (some ⟨b, 0, none⟩)) (.int k 1)) True (.pointer (some ⟨b, 1, none⟩)) := ⟨fun _ => by have := p_indexAddr_array (P := Try.prog) 36 b 0 3 k 1 1 (by kernel_rfl) (by kernel_rfl) (by kernel_rfl) (by omega) (by omega); exact this⟩
instance (priority := 1200) (b : Nat) (k : IntKind) : StepC Try.prog (o_indexAddr 36 (.pointer (some ⟨b, 0, none⟩)) (.int k 2)) True (.pointer (some ⟨b, 2, none⟩)) := ⟨fun _ => by have := p_indexAddr_array (P := Try.prog) 36 b 0 3 k 2 1 (by kernel_rfl) (by kernel_rfl) (by kernel_rfl) (by omega) (by omega); exact this⟩
instance (b o : Nat) (k : IntKind) (i : Int) : StepC Try.prog (o_indexAddr 36 (.pointer (some ⟨b, o, none⟩)) (.int k i)) (0 ≤ i ∧ i < 3) (.pointer (some ⟨b, o + i.toNat, none⟩)) := ⟨fun h => by have := p_indexAddr_array (P := Try.prog) 36 b o 3 k i 1 (by kernel_rfl) (by kernel_rfl) (by kernel_rfl) h.1 h.2; rwa [Nat.mul_one] at this⟩
instance : ShpC Try.prog 25 false 1 := ⟨by kernel_rfl⟩
instance (priority := 1200) (b : Nat) (k : IntKind) : StepC Try.prog (o_indexAddr 39 (.pointer (some ⟨b, 0, none⟩)) (.int k 0)) True (.pointer (some ⟨b, 0, none⟩)) := ⟨fun _ => by have := p_indexAddr_array (P := Try.prog) 39 b 0 3 k 0 4 (by kernel_rfl) (by kernel_rfl) (by kernel_rfl) (by omega) (by omega); exact this⟩
instance (priority := 1200) (b : Nat) (k : IntKind) : StepC Try.prog (o_indexAddr 39 (.pointer (some ⟨b, 0, none⟩)) (.int k 1)) True (.pointer (some ⟨b, 4, none⟩)) := ⟨fun _ => by have := p_indexAddr_array (P := Try.prog) 39 b 0 3 k 1 4 (by kernel_rfl) (by kernel_rfl) (by kernel_rfl) (by omega) (by omega); exact this⟩
instance (priority := 1200) (b : Nat) (k : IntKind) : StepC Try.prog (o_indexAddr 39 (.pointer (some ⟨b, 0, none⟩)) (.int k 2)) True (.pointer (some ⟨b, 8, none⟩)) := ⟨fun _ => by have := p_indexAddr_array (P := Try.prog) 39 b 0 3 k 2 4 (by kernel_rfl) (by kernel_rfl) (by kernel_rfl) (by omega) (by omega); exact this⟩
instance (b o : Nat) (k : IntKind) (i : Int) : StepC Try.prog (o_indexAddr 39 (.pointer (some ⟨b, o, none⟩)) (.int k i)) (0 ≤ i ∧ i < 3) (.pointer (some ⟨b, o + i.toNat * 4, none⟩)) := ⟨fun h => p_indexAddr_array (P := Try.prog) 39 b o 3 k i 4 (by kernel_rfl) (by kernel_rfl) (by kernel_rfl) h.1 h.2⟩
instance (priority := 1100) (b : Nat) : StepC Try.prog (o_fieldAddr 38 (.pointer (some ⟨b, 0, none⟩)) 0) True (.pointer (some ⟨b, 0, none⟩)) := ⟨fun _ => p_fieldAddr 38 b 0 0 0 1 (by kernel_rfl) (by decide)⟩
instance (b o : Nat) : StepC Try.prog (o_fieldAddr 38 (.pointer (some ⟨b, o, none⟩)) 0) True (.pointer (some ⟨b, o + 0, none⟩)) := ⟨fun _ => p_fieldAddr 38 b o 0 0 1 (by kernel_rfl) (by decide)⟩
instance (b o n c : Nat) (k : IntKind) (i : Int) : StepC Try.prog (o_indexAddr 35 (.slice (some ⟨b, o, none⟩) n c) (.int k i)) (0 ≤ i ∧ i < n) (.pointer (some ⟨b, o + i.toNat * 3, none⟩)) := ⟨fun h => p_indexAddr_slice (P := Try.prog) 35 b o n c k i 3 (by kernel_rfl) (by kernel_rfl) h.1 h.2⟩
instance : SliS Try.prog 35 3 := ⟨by kernel_rfl, by kernel_rfl⟩
instance : ShpC Try.prog 41 true 3 := ⟨by kernel_rfl⟩
instance : ZerF Try.prog 41 [.one (.int .u8 0), .one (.int .u8 0), .one (.int .i64 0)] := ⟨by kernel_rfl, inferInstance⟩
instance : ZerC Try.prog 41 ([.int .u8 0, .int .u8 0, .int .i64 0]) := ⟨by kernel_rfl⟩
instance (priority := 1100) (b : Nat) : StepC Try.prog (o_fieldAddr 41 (.pointer (some ⟨b, 0, none⟩)) 1) True (.pointer (some ⟨b, 1, none⟩)) := ⟨fun _ => p_fieldAddr 41 b 0 1 1 1 (by kernel_rfl) (by decide)⟩
instance (b o : Nat) : StepC Try.prog (o_fieldAddr 41 (.pointer (some ⟨b, o, none⟩)) 1) True (.pointer (some ⟨b, o + 1, none⟩)) := ⟨fun _ => p_fieldAddr 41 b o 1 1 1 (by kernel_rfl) (by decide)⟩
instance (priority := 1100) (b : Nat) : StepC Try.prog (o_fieldAddr 41 (.pointer (some ⟨b, 0, none⟩)) 0) True (.pointer (some ⟨b, 0, none⟩)) := ⟨fun _ => p_fieldAddr 41 b 0 0 0 1 (by kernel_rfl) (by decide)⟩
instance (b o : Nat) : StepC Try.prog (o_fieldAddr 41 (.pointer (some ⟨b, o, none⟩)) 0) True (.pointer (some ⟨b, o + 0, none⟩)) := ⟨fun _ => p_fieldAddr 41 b o 0 0 1 (by kernel_rfl) (by decide)⟩
instance (priority := 1100) (b : Nat) : StepC Try.prog (o_fieldAddr 41 (.pointer (some ⟨b, 0, none⟩)) 2) True (.pointer (some ⟨b, 2, none⟩)) := ⟨fun _ => p_fieldAddr 41 b 0 2 2 1 (by kernel_rfl) (by decide)⟩
instance (b o : Nat) : StepC Try.prog (o_fieldAddr 41 (.pointer (some ⟨b, o, none⟩)) 2) True (.pointer (some ⟨b, o + 2, none⟩)) := ⟨fun _ => p_fieldAddr 41 b o 2 2 1 (by kernel_rfl) (by decide)⟩
instance : FunC Try.prog 12 := ⟨by kernel_rfl⟩
instance : FunC Try.prog 13 := ⟨by kernel_rfl⟩
instance : IsBo Try.prog 4 := ⟨by kernel_rfl⟩
instance (priority := 1100) (b : Nat) : StepC Try.prog (o_fieldAddr 38 (.pointer (some ⟨b, 0, none⟩)) 2) True (.pointer (some ⟨b, 2, none⟩)) := ⟨fun _ => p_fieldAddr 38 b 0 2 2 1 (by kernel_rfl) (by decide)⟩
instance (b o : Nat) : StepC Try.prog (o_fieldAddr 38 (.pointer (some ⟨b, o, none⟩)) 2) True (.pointer (some ⟨b, o + 2, none⟩)) := ⟨fun _ => p_fieldAddr 38 b o 2 2 1 (by kernel_rfl) (by decide)⟩
instance : FunC Try.prog 14 := ⟨by kernel_rfl⟩
instance (priority := 1100) (b : Nat) : StepC Try.prog (o_fieldAddr 38 (.pointer (some ⟨b, 0, none⟩)) 3) True (.pointer (some ⟨b, 3, none⟩)) := ⟨fun _ => p_fieldAddr 38 b 0 3 3 1 (by kernel_rfl) (by decide)⟩
instance (b o : Nat) : StepC Try.prog (o_fieldAddr 38 (.pointer (some ⟨b, o, none⟩)) 3) True (.pointer (some ⟨b, o + 3, none⟩)) := ⟨fun _ => p_fieldAddr 38 b o 3 3 1 (by kernel_rfl) (by decide)⟩
instance : ShpC Try.prog 22 false 1 := ⟨by kernel_rfl⟩
instance : FunC Try.prog 15 := ⟨by kernel_rfl⟩
instance : FunC Try.prog 16 := ⟨by kernel_rfl⟩
instance (priority := 1100) (b : Nat) : StepC Try.prog (o_fieldAddr 38 (.pointer (some ⟨b, 0, none⟩)) 1) True (.pointer (some ⟨b, 1, none⟩)) := ⟨fun _ => p_fieldAddr 38 b 0 1 1 1 (by kernel_rfl) (by decide)⟩
instance (b o : Nat) : StepC Try.prog (o_fieldAddr 38 (.pointer (some ⟨b, o, none⟩)) 1) True (.pointer (some ⟨b, o + 1, none⟩)) := ⟨fun _ => p_fieldAddr 38 b o 1 1 1 (by kernel_rfl) (by decide)⟩
instance : FunC Try.prog 17 := ⟨by kernel_rfl⟩
instance : FunC Try.prog 18 := ⟨by kernel_rfl⟩
instance : FunC Try.prog 19 := ⟨by kernel_rfl⟩
instance : FunC Try.prog 20 := ⟨by kernel_rfl⟩
instance : FunC Try.prog 21 := ⟨by kernel_rfl⟩
instance : FunC Try.prog 22 := ⟨by kernel_rfl⟩
instance : IsPt Try.prog 47 := isPt_of (by kernel_rfl)
instance : FunC Try.prog 23 := ⟨by kernel_rfl⟩
instance : FunC Try.prog 24 := ⟨by kernel_rfl⟩
instance : ChC Try.prog 57 3 8 := chC_of (by kernel_rfl) (by kernel_rfl)
instance : ChC Try.prog 58 4 1 := chC_of (by kernel_rfl) (by kernel_rfl)
instance : ZerF Try.prog 68 [.one (.chan none), .one (.chan none), .one (.int .u32 0), .one (.int .i64 0)] := ⟨by kernel_rfl, inferInstance⟩
instance : BltC Try.prog 68 := ⟨by kernel_rfl⟩
instance : PlC Try.prog 68 0 0 1 := ⟨by kernel_rfl⟩
instance : PlC Try.prog 68 1 1 1 := ⟨by kernel_rfl⟩
instance : ShpC Try.prog 68 true 4 := ⟨by kernel_rfl⟩
instance : IsPt Try.prog 25 := isPt_of (by kernel_rfl)
instance : FunC Try.prog 25 := ⟨by kernel_rfl⟩
instance (priority := 1100) (b : Nat) : StepC Try.prog (o_fieldAddr 68 (.pointer (some ⟨b, 0, none⟩)) 0) True (.pointer (some ⟨b, 0, none⟩)) := ⟨fun _ => p_fieldAddr 68 b 0 0 0 1 (by kernel_rfl) (by decide)⟩
instance (b o : Nat) : StepC Try.prog (o_fieldAddr 68 (.pointer (some ⟨b, o, none⟩)) 0) True (.pointer (some ⟨b, o + 0, none⟩)) := ⟨fun _ => p_fieldAddr 68 b o 0 0 1 (by kernel_rfl) (by decide)⟩
instance : ShpC Try.prog 57 false 1 := ⟨by kernel_rfl⟩
instance : ZvC Try.prog 3 (.int .i64 0) := ⟨by kernel_rfl⟩
instance (priority := 1100) (b : Nat) : StepC Try.prog (o_fieldAddr 68 (.pointer (some ⟨b, 0, none⟩)) 3) True (.pointer (some ⟨b, 3, none⟩)) := ⟨fun _ => p_fieldAddr 68 b 0 3 3 1 (by kernel_rfl) (by decide)⟩
instance (b o : Nat) : StepC Try.prog (o_fieldAddr 68 (.pointer (some ⟨b, o, none⟩)) 3) True (.pointer (some ⟨b, o + 3, none⟩)) := ⟨fun _ => p_fieldAddr 68 b o 3 3 1 (by kernel_rfl) (by decide)⟩
instance : FunC Try.prog 26 := ⟨by kernel_rfl⟩
instance (priority := 1100) (b : Nat) : StepC Try.prog (o_fieldAddr 68 (.pointer (some ⟨b, 0, none⟩)) 2) True (.pointer (some ⟨b, 2, none⟩)) := ⟨fun _ => p_fieldAddr 68 b 0 2 2 1 (by kernel_rfl) (by decide)⟩
instance (b o : Nat) : StepC Try.prog (o_fieldAddr 68 (.pointer (some ⟨b, o, none⟩)) 2) True (.pointer (some ⟨b, o + 2, none⟩)) := ⟨fun _ => p_fieldAddr 68 b o 2 2 1 (by kernel_rfl) (by decide)⟩
instance : FunC Try.prog 27 := ⟨by kernel_rfl⟩
instance (priority := 1100) (b : Nat) : StepC Try.prog (o_fieldAddr 68 (.pointer (some ⟨b, 0, none⟩)) 1) True (.pointer (some ⟨b, 1, none⟩)) := ⟨fun _ => p_fieldAddr 68 b 0 1 1 1 (by kernel_rfl) (by decide)⟩
instance (b o : Nat) : StepC Try.prog (o_fieldAddr 68 (.pointer (some ⟨b, o, none⟩)) 1) True (.pointer (some ⟨b, o + 1, none⟩)) := ⟨fun _ => p_fieldAddr 68 b o 1 1 1 (by kernel_rfl) (by decide)⟩
instance : ShpC Try.prog 58 false 1 := ⟨by kernel_rfl⟩
instance : FunC Try.prog 28 := ⟨by kernel_rfl⟩
instance (ty : TypeId) (cs : List Bool) (a : Option Addr) (n c : Nat) : StepC Try.prog (o_builtin .len #[73] ty cs [.slice a n c]) True (.int .i64 n) := ⟨fun _ => p_len_slice 73 ty 25 cs a n c (by kernel_rfl)⟩
instance (b o n c : Nat) (k : IntKind) (i : Int) : StepC Try.prog (o_indexAddr 73 (.slice (some ⟨b, o, none⟩) n c) (.int k i)) (0 ≤ i ∧ i < n) (.pointer (some ⟨b, o + i.toNat, none⟩)) := ⟨fun h => by have := p_indexAddr_slice (P := Try.prog) 73 b o n c k i 1 (by kernel_rfl) (by kernel_rfl) h.1 h.2; rwa [Nat.mul_one] at this⟩
instance : SliS Try.prog 73 1 := ⟨by kernel_rfl, by kernel_rfl⟩
instance : ChC Try.prog 74 9 16 := chC_of (by kernel_rfl) (by kernel_rfl)
instance : ZerF Try.prog 76 [.one (.chan none), .one (.chan none), .one (.int .u32 0), .one (.int .i64 0)] := ⟨by kernel_rfl, inferInstance⟩
instance : BltC Try.prog 76 := ⟨by kernel_rfl⟩
instance : PlC Try.prog 76 0 0 1 := ⟨by kernel_rfl⟩
instance : PlC Try.prog 76 1 1 1 := ⟨by kernel_rfl⟩
instance : ShpC Try.prog 76 true 4 := ⟨by kernel_rfl⟩
instance (priority := 1100) (b : Nat) : StepC Try.prog (o_fieldAddr 76 (.pointer (some ⟨b, 0, none⟩)) 0) True (.pointer (some ⟨b, 0, none⟩)) := ⟨fun _ => p_fieldAddr 76 b 0 0 0 1 (by kernel_rfl) (by decide)⟩
instance (b o : Nat) : StepC Try.prog (o_fieldAddr 76 (.pointer (some ⟨b, o, none⟩)) 0) True (.pointer (some ⟨b, o + 0, none⟩)) := ⟨fun _ => p_fieldAddr 76 b o 0 0 1 (by kernel_rfl) (by decide)⟩
instance : ShpC Try.prog 74 false 1 := ⟨by kernel_rfl⟩
instance : FunC Try.prog 29 := ⟨by kernel_rfl⟩
instance (priority := 1100) (b : Nat) : StepC Try.prog (o_fieldAddr 76 (.pointer (some ⟨b, 0, none⟩)) 2) True (.pointer (some ⟨b, 2, none⟩)) := ⟨fun _ => p_fieldAddr 76 b 0 2 2 1 (by kernel_rfl) (by decide)⟩
instance (b o : Nat) : StepC Try.prog (o_fieldAddr 76 (.pointer (some ⟨b, o, none⟩)) 2) True (.pointer (some ⟨b, o + 2, none⟩)) := ⟨fun _ => p_fieldAddr 76 b o 2 2 1 (by kernel_rfl) (by decide)⟩
instance (priority := 1100) (b : Nat) : StepC Try.prog (o_fieldAddr 76 (.pointer (some ⟨b, 0, none⟩)) 1) True (.pointer (some ⟨b, 1, none⟩)) := ⟨fun _ => p_fieldAddr 76 b 0 1 1 1 (by kernel_rfl) (by decide)⟩
instance (b o : Nat) : StepC Try.prog (o_fieldAddr 76 (.pointer (some ⟨b, o, none⟩)) 1) True (.pointer (some ⟨b, o + 1, none⟩)) := ⟨fun _ => p_fieldAddr 76 b o 1 1 1 (by kernel_rfl) (by decide)⟩
instance : ZvC Try.prog 9 (.string (ByteArray.mk #[])) := ⟨by kernel_rfl⟩
instance (ty : TypeId) (cs : List Bool) (a : Option Addr) (n c : Nat) : StepC Try.prog (o_builtin .len #[77] ty cs [.slice a n c]) True (.int .i64 n) := ⟨fun _ => p_len_slice 77 ty 47 cs a n c (by kernel_rfl)⟩
instance (b o n c : Nat) (k : IntKind) (i : Int) : StepC Try.prog (o_indexAddr 77 (.slice (some ⟨b, o, none⟩) n c) (.int k i)) (0 ≤ i ∧ i < n) (.pointer (some ⟨b, o + i.toNat, none⟩)) := ⟨fun h => by have := p_indexAddr_slice (P := Try.prog) 77 b o n c k i 1 (by kernel_rfl) (by kernel_rfl) h.1 h.2; rwa [Nat.mul_one] at this⟩
instance : SliS Try.prog 77 1 := ⟨by kernel_rfl, by kernel_rfl⟩
instance : ShpC Try.prog 47 false 1 := ⟨by kernel_rfl⟩
instance (priority := 1100) (b : Nat) : StepC Try.prog (o_fieldAddr 76 (.pointer (some ⟨b, 0, none⟩)) 3) True (.pointer (some ⟨b, 3, none⟩)) := ⟨fun _ => p_fieldAddr 76 b 0 3 3 1 (by kernel_rfl) (by decide)⟩
instance (b o : Nat) : StepC Try.prog (o_fieldAddr 76 (.pointer (some ⟨b, o, none⟩)) 3) True (.pointer (some ⟨b, o + 3, none⟩)) := ⟨fun _ => p_fieldAddr 76 b o 3 3 1 (by kernel_rfl) (by decide)⟩
instance : ZvC Try.prog 4 (.bool false) := ⟨by kernel_rfl⟩
instance (priority := 1100) (b : Nat) : StepC Try.prog (o_fieldAddr 66 (.pointer (some ⟨b, 0, none⟩)) 2) True (.pointer (some ⟨b, 0, none⟩)) := ⟨fun _ => p_fieldAddr 66 b 0 2 0 1 (by kernel_rfl) (by decide)⟩
instance (b o : Nat) : StepC Try.prog (o_fieldAddr 66 (.pointer (some ⟨b, o, none⟩)) 2) True (.pointer (some ⟨b, o + 0, none⟩)) := ⟨fun _ => p_fieldAddr 66 b o 2 0 1 (by kernel_rfl) (by decide)⟩
instance (priority := 1100) (b : Nat) : StepC Try.prog (o_fieldAddr 63 (.pointer (some ⟨b, 0, none⟩)) 1) True (.pointer (some ⟨b, 0, none⟩)) := ⟨fun _ => p_fieldAddr 63 b 0 1 0 1 (by kernel_rfl) (by decide)⟩
instance (b o : Nat) : StepC Try.prog (o_fieldAddr 63 (.pointer (some ⟨b, o, none⟩)) 1) True (.pointer (some ⟨b, o + 0, none⟩)) := ⟨fun _ => p_fieldAddr 63 b o 1 0 1 (by kernel_rfl) (by decide)⟩
instance : FunC Try.prog 32 := ⟨by kernel_rfl⟩
instance : SliC Try.prog 22 3 1 8 := ⟨by kernel_rfl⟩
instance : SliC Try.prog 73 25 1 8 := ⟨by kernel_rfl⟩
instance : SliC Try.prog 77 47 1 8 := ⟨by kernel_rfl⟩
end Go.Proofs.Ytihelggfpeokbaa
