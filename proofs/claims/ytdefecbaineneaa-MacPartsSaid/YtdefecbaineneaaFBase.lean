/- Small words for the formulas of the bodies. -/
import Derived.Test.YtdefecbaineneaaProg
import Derived.Test.YtdefecbaineneaaMby
import Derived.KernelRfl
namespace Go.Proofs.Ytdefecbaineneaa
def pX (R : Ending → World → Prop) : List PanicEntry → World → Prop := fun c w => R (.panicked c) w
abbrev m (R : Ending → World → Prop) (s : Sem Next) (w : World) (K : Value → World → Prop) : Prop := mop Try.prog s w K (pX R)
theorem mixed : Try.prog.follows .mixedOrders = true := by kernel_rfl
abbrev ml0 (w : World) (F : Env → World → (World → Prop) → Prop) : Prop :=
  ∃ (I : World → Prop) (μ : World → Nat), I w ∧ ∀ (u : Env) (w : World), I w → F u w (fun w2 => I w2 ∧ μ w2 < μ w)
abbrev ml1 (a0 : Value) (w : World) (F : Value → Env → World → (Value → World → Prop) → Prop) : Prop :=
  ∃ (I : Value → World → Prop) (μ : Value → World → Nat), I a0 w ∧ ∀ (x0 : Value) (u : Env) (w : World), I x0 w → F x0 u w (fun y0 w2 => I y0 w2 ∧ μ y0 w2 < μ x0 w)
abbrev ml2 (a0 a1 : Value) (w : World) (F : Value → Value → Env → World → (Value → Value → World → Prop) → Prop) : Prop :=
  ∃ (I : Value → Value → World → Prop) (μ : Value → Value → World → Nat), I a0 a1 w ∧ ∀ (x0 x1 : Value) (u : Env) (w : World), I x0 x1 w → F x0 x1 u w (fun y0 y1 w2 => I y0 y1 w2 ∧ μ y0 y1 w2 < μ x0 x1 w)
abbrev ml3 (a0 a1 a2 : Value) (w : World) (F : Value → Value → Value → Env → World → (Value → Value → Value → World → Prop) → Prop) : Prop :=
  ∃ (I : Value → Value → Value → World → Prop) (μ : Value → Value → Value → World → Nat), I a0 a1 a2 w ∧ ∀ (x0 x1 x2 : Value) (u : Env) (w : World), I x0 x1 x2 w → F x0 x1 x2 u w (fun y0 y1 y2 w2 => I y0 y1 y2 w2 ∧ μ y0 y1 y2 w2 < μ x0 x1 x2 w)
abbrev ml4 (a0 a1 a2 a3 : Value) (w : World) (F : Value → Value → Value → Value → Env → World → (Value → Value → Value → Value → World → Prop) → Prop) : Prop :=
  ∃ (I : Value → Value → Value → Value → World → Prop) (μ : Value → Value → Value → Value → World → Nat), I a0 a1 a2 a3 w ∧ ∀ (x0 x1 x2 x3 : Value) (u : Env) (w : World), I x0 x1 x2 x3 w → F x0 x1 x2 x3 u w (fun y0 y1 y2 y3 w2 => I y0 y1 y2 y3 w2 ∧ μ y0 y1 y2 y3 w2 < μ x0 x1 x2 x3 w)
abbrev ml5 (a0 a1 a2 a3 a4 : Value) (w : World) (F : Value → Value → Value → Value → Value → Env → World → (Value → Value → Value → Value → Value → World → Prop) → Prop) : Prop :=
  ∃ (I : Value → Value → Value → Value → Value → World → Prop) (μ : Value → Value → Value → Value → Value → World → Nat), I a0 a1 a2 a3 a4 w ∧ ∀ (x0 x1 x2 x3 x4 : Value) (u : Env) (w : World), I x0 x1 x2 x3 x4 w → F x0 x1 x2 x3 x4 u w (fun y0 y1 y2 y3 y4 w2 => I y0 y1 y2 y3 y4 w2 ∧ μ y0 y1 y2 y3 y4 w2 < μ x0 x1 x2 x3 x4 w)
abbrev ml6 (a0 a1 a2 a3 a4 a5 : Value) (w : World) (F : Value → Value → Value → Value → Value → Value → Env → World → (Value → Value → Value → Value → Value → Value → World → Prop) → Prop) : Prop :=
  ∃ (I : Value → Value → Value → Value → Value → Value → World → Prop) (μ : Value → Value → Value → Value → Value → Value → World → Nat), I a0 a1 a2 a3 a4 a5 w ∧ ∀ (x0 x1 x2 x3 x4 x5 : Value) (u : Env) (w : World), I x0 x1 x2 x3 x4 x5 w → F x0 x1 x2 x3 x4 x5 u w (fun y0 y1 y2 y3 y4 y5 w2 => I y0 y1 y2 y3 y4 y5 w2 ∧ μ y0 y1 y2 y3 y4 y5 w2 < μ x0 x1 x2 x3 x4 x5 w)
abbrev ml7 (a0 a1 a2 a3 a4 a5 a6 : Value) (w : World) (F : Value → Value → Value → Value → Value → Value → Value → Env → World → (Value → Value → Value → Value → Value → Value → Value → World → Prop) → Prop) : Prop :=
  ∃ (I : Value → Value → Value → Value → Value → Value → Value → World → Prop) (μ : Value → Value → Value → Value → Value → Value → Value → World → Nat), I a0 a1 a2 a3 a4 a5 a6 w ∧ ∀ (x0 x1 x2 x3 x4 x5 x6 : Value) (u : Env) (w : World), I x0 x1 x2 x3 x4 x5 x6 w → F x0 x1 x2 x3 x4 x5 x6 u w (fun y0 y1 y2 y3 y4 y5 y6 w2 => I y0 y1 y2 y3 y4 y5 y6 w2 ∧ μ y0 y1 y2 y3 y4 y5 y6 w2 < μ x0 x1 x2 x3 x4 x5 x6 w)
abbrev ml8 (a0 a1 a2 a3 a4 a5 a6 a7 : Value) (w : World) (F : Value → Value → Value → Value → Value → Value → Value → Value → Env → World → (Value → Value → Value → Value → Value → Value → Value → Value → World → Prop) → Prop) : Prop :=
  ∃ (I : Value → Value → Value → Value → Value → Value → Value → Value → World → Prop) (μ : Value → Value → Value → Value → Value → Value → Value → Value → World → Nat), I a0 a1 a2 a3 a4 a5 a6 a7 w ∧ ∀ (x0 x1 x2 x3 x4 x5 x6 x7 : Value) (u : Env) (w : World), I x0 x1 x2 x3 x4 x5 x6 x7 w → F x0 x1 x2 x3 x4 x5 x6 x7 u w (fun y0 y1 y2 y3 y4 y5 y6 y7 w2 => I y0 y1 y2 y3 y4 y5 y6 y7 w2 ∧ μ y0 y1 y2 y3 y4 y5 y6 y7 w2 < μ x0 x1 x2 x3 x4 x5 x6 x7 w)
abbrev ml9 (a0 a1 a2 a3 a4 a5 a6 a7 a8 : Value) (w : World) (F : Value → Value → Value → Value → Value → Value → Value → Value → Value → Env → World → (Value → Value → Value → Value → Value → Value → Value → Value → Value → World → Prop) → Prop) : Prop :=
  ∃ (I : Value → Value → Value → Value → Value → Value → Value → Value → Value → World → Prop) (μ : Value → Value → Value → Value → Value → Value → Value → Value → Value → World → Nat), I a0 a1 a2 a3 a4 a5 a6 a7 a8 w ∧ ∀ (x0 x1 x2 x3 x4 x5 x6 x7 x8 : Value) (u : Env) (w : World), I x0 x1 x2 x3 x4 x5 x6 x7 x8 w → F x0 x1 x2 x3 x4 x5 x6 x7 x8 u w (fun y0 y1 y2 y3 y4 y5 y6 y7 y8 w2 => I y0 y1 y2 y3 y4 y5 y6 y7 y8 w2 ∧ μ y0 y1 y2 y3 y4 y5 y6 y7 y8 w2 < μ x0 x1 x2 x3 x4 x5 x6 x7 x8 w)
abbrev mj0 (F : (World → Prop) → Prop) (G : Env → World → Prop) : Prop :=
  ∃ J : World → Prop, F J ∧ ∀ (u : Env) (w : World), J w → G u w
abbrev mj1 (F : (Value → World → Prop) → Prop) (G : Value → Env → World → Prop) : Prop :=
  ∃ J : Value → World → Prop, F J ∧ ∀ (x0 : Value) (u : Env) (w : World), J x0 w → G x0 u w
instance (ty : TypeId) (cs : List Bool) (s : ByteArray) : StepC Try.prog (o_builtin .len #[9] ty cs [.string s]) True (.int .i64 s.size) := ⟨fun _ => p_len_string 9 ty cs s (by kernel_rfl)⟩
instance : FunC Try.prog 14 := ⟨by kernel_rfl⟩
instance : FunC Try.prog 15 := ⟨by kernel_rfl⟩
instance : KindC Try.prog 23 (List.replicate 32 (.int .u8)) := ⟨by kernel_rfl, by kernel_rfl, by kernel_rfl⟩
instance (ty : TypeId) (cs : List Bool) (a : Option Addr) (n c : Nat) : StepC Try.prog (o_builtin .len #[27] ty cs [.slice a n c]) True (.int .i64 n) := ⟨fun _ => p_len_slice 27 ty 9 cs a n c (by kernel_rfl)⟩
instance (b o n c : Nat) (k : IntKind) (i : Int) : StepC Try.prog (o_indexAddr 27 (.slice (some ⟨b, o, none⟩) n c) (.int k i)) (0 ≤ i ∧ i < n) (.pointer (some ⟨b, o + i.toNat, none⟩)) := ⟨fun h => by have := p_indexAddr_slice (P := Try.prog) 27 b o n c k i 1 (by kernel_rfl) (by kernel_rfl) h.1 h.2; rwa [Nat.mul_one] at this⟩
instance : SliS Try.prog 27 1 := ⟨by kernel_rfl, by kernel_rfl⟩
instance : ShpC Try.prog 9 false 1 := ⟨by kernel_rfl⟩
instance : FunC Try.prog 16 := ⟨by kernel_rfl⟩
instance : ShpC Try.prog 23 true 32 := ⟨by kernel_rfl⟩
instance : FunC Try.prog 17 := ⟨by kernel_rfl⟩
instance : FunC Try.prog 18 := ⟨by kernel_rfl⟩
instance : FunC Try.prog 19 := ⟨by kernel_rfl⟩
instance : FunC Try.prog 20 := ⟨by kernel_rfl⟩
instance : IsBo Try.prog 4 := ⟨by kernel_rfl⟩
instance : FunC Try.prog 21 := ⟨by kernel_rfl⟩
instance : FunC Try.prog 22 := ⟨by kernel_rfl⟩
instance : FunC Try.prog 23 := ⟨by kernel_rfl⟩
instance : FunC Try.prog 24 := ⟨by kernel_rfl⟩
instance : FunC Try.prog 25 := ⟨by kernel_rfl⟩
instance : FunC Try.prog 26 := ⟨by kernel_rfl⟩
instance : ZerF Try.prog 23 [.arr 32 (u8s hzero.1)] := ⟨by kernel_rfl, inferInstance⟩
instance : ZerC Try.prog 23 (List.replicate 32 (.int .u8 0)) := ⟨by kernel_rfl⟩
instance : HshC Try.prog 23 := ⟨⟨5, by kernel_rfl, by kernel_rfl⟩, by kernel_rfl⟩
instance : BltC Try.prog 23 := ⟨by kernel_rfl⟩
instance : FunC Try.prog 27 := ⟨by kernel_rfl⟩
instance : FunC Try.prog 28 := ⟨by kernel_rfl⟩
instance : FunC Try.prog 29 := ⟨by kernel_rfl⟩
instance (a : Int) : StepC Try.prog (o_conv 3 49 (.int .i64 a)) True (.int .u64 (a % 18446744073709551616)) := ⟨fun _ => by have := p_conv_int (P := Try.prog) 3 49 .i64 .u64 a (by kernel_rfl) (by kernel_rfl); rwa [show IntKind.wrap .u64 a = a % 18446744073709551616 by simp [IntKind.wrap, IntKind.bits, IntKind.signed]] at this⟩
instance (a : Int) : StepC Try.prog (o_conv 49 3 (.int .u64 a)) ((-9223372036854775808) ≤ a ∧ a < 9223372036854775808) (.int .i64 a) := ⟨fun h => by have := p_conv_int (P := Try.prog) 49 3 .u64 .i64 a (by kernel_rfl) (by kernel_rfl); rwa [show IntKind.wrap .i64 a = a by simp [IntKind.wrap, IntKind.bits, IntKind.signed]; omega] at this⟩
instance (a : Int) : StepC Try.prog (o_conv 3 5 (.int .i64 a)) True (.int .u8 (a % 256)) := ⟨fun _ => by have := p_conv_int (P := Try.prog) 3 5 .i64 .u8 a (by kernel_rfl) (by kernel_rfl); rwa [show IntKind.wrap .u8 a = a % 256 by simp [IntKind.wrap, IntKind.bits, IntKind.signed]] at this⟩
instance : StrC Try.prog 50 9 := ⟨⟨5, by kernel_rfl, by kernel_rfl⟩, by kernel_rfl⟩
instance (s : ByteArray) (k : IntKind) (l : Int) : StepC Try.prog (o_slice 9 (.string s) (some (.int k l)) none none) (0 ≤ l ∧ l ≤ s.size) (.string (s.extract l.toNat s.size)) := ⟨fun h => p_slice_string_l (P := Try.prog) 9 s k l (by kernel_rfl) h.1 h.2⟩
instance (s : ByteArray) (k : IntKind) (l : Int) : StepC Try.prog (o_slice 9 (.string s) none (some (.int k l)) none) (0 ≤ l ∧ l ≤ s.size) (.string (s.extract 0 l.toNat)) := ⟨fun h => p_slice_string_h (P := Try.prog) 9 s k l (by kernel_rfl) h.1 h.2⟩
instance (s : ByteArray) (k k' : IntKind) (l h : Int) : StepC Try.prog (o_slice 9 (.string s) (some (.int k l)) (some (.int k' h)) none) (0 ≤ l ∧ l ≤ h ∧ h ≤ s.size) (.string (s.extract l.toNat h.toNat)) := ⟨fun q => p_slice_string_lh (P := Try.prog) 9 s k k' l h (by kernel_rfl) q.1 q.2.1 q.2.2⟩
instance (b o : Nat) (k : IntKind) (l : Int) : StepC Try.prog (o_slice 23 (.pointer (some ⟨b, o, none⟩)) (some (.int k l)) none none) (0 ≤ l ∧ l < 32) (.slice (some ⟨b, o + l.toNat, none⟩) (32 - l.toNat) (32 - l.toNat)) := ⟨fun h => by have := p_slice_array_l (P := Try.prog) 23 b o 32 k l 1 (by kernel_rfl) (by kernel_rfl) (by kernel_rfl) h.1 h.2; rwa [Nat.mul_one] at this⟩
instance (b o : Nat) (k : IntKind) (l : Int) : StepC Try.prog (o_slice 23 (.pointer (some ⟨b, o, none⟩)) none (some (.int k l)) none) (0 ≤ l ∧ l ≤ 32) (.slice (some ⟨b, o, none⟩) l.toNat 32) := ⟨fun h => p_slice_array_h (P := Try.prog) 23 b o 32 k l 1 (by kernel_rfl) (by kernel_rfl) (by kernel_rfl) h.1 h.2⟩
instance (b o : Nat) : StepC Try.prog (o_slice 23 (.pointer (some ⟨b, o, none⟩)) none none none) True (.slice (some ⟨b, o, none⟩) 32 32) := ⟨fun _ => p_slice_array_all (P := Try.prog) 23 b o 32 1 (by kernel_rfl) (by kernel_rfl) (by kernel_rfl)⟩
instance : FunC Try.prog 30 := ⟨by kernel_rfl⟩
instance : FunC Try.prog 31 := ⟨by kernel_rfl⟩
instance : ZerF Try.prog 57 [.arr 8 (List.replicate 8 (.int .u32 0))] := ⟨by kernel_rfl, inferInstance⟩
instance : BltC Try.prog 57 := ⟨by kernel_rfl⟩
instance : PlC Try.prog 57 0 0 1 := ⟨by kernel_rfl⟩
instance : PlC Try.prog 57 1 1 1 := ⟨by kernel_rfl⟩
instance : PlC Try.prog 57 2 2 1 := ⟨by kernel_rfl⟩
instance : PlC Try.prog 57 3 3 1 := ⟨by kernel_rfl⟩
instance : PlC Try.prog 57 4 4 1 := ⟨by kernel_rfl⟩
instance : PlC Try.prog 57 5 5 1 := ⟨by kernel_rfl⟩
instance : PlC Try.prog 57 6 6 1 := ⟨by kernel_rfl⟩
instance : PlC Try.prog 57 7 7 1 := ⟨by kernel_rfl⟩
instance : FunC Try.prog 32 := ⟨by kernel_rfl⟩
instance : ZerF Try.prog 62 [.arr 8 (List.replicate 8 (.int .u32 0)), .arr 64 (List.replicate 64 (.int .u8 0)), .one (.int .i64 0), .arr 64 (List.replicate 64 (.int .u32 0))] := ⟨by kernel_rfl, inferInstance⟩
instance : BltC Try.prog 62 := ⟨by kernel_rfl⟩
instance : PlC Try.prog 62 0 0 8 := ⟨by kernel_rfl⟩
instance : PlC Try.prog 62 3 73 64 := ⟨by kernel_rfl⟩
instance : ShpC Try.prog 62 true 137 := ⟨by kernel_rfl⟩
instance : FunC Try.prog 33 := ⟨by kernel_rfl⟩
instance : ZerF Try.prog 64 [.arr 72 (List.replicate 72 (.int .u8 0))] := ⟨by kernel_rfl, inferInstance⟩
instance : ZerC Try.prog 64 (List.replicate 72 (.int .u8 0)) := ⟨by kernel_rfl⟩
instance (b o : Nat) (k : IntKind) (i : Int) : StepC Try.prog (o_indexAddr 64 (.pointer (some ⟨b, o, none⟩)) (.int k i)) (0 ≤ i ∧ i < 72) (.pointer (some ⟨b, o + i.toNat, none⟩)) := ⟨fun h => by have := p_indexAddr_array (P := Try.prog) 64 b o 72 k i 1 (by kernel_rfl) (by kernel_rfl) (by kernel_rfl) h.1 h.2; rwa [Nat.mul_one] at this⟩
instance : ShpC Try.prog 5 false 1 := ⟨by kernel_rfl⟩
instance (priority := 1100) (b : Nat) : StepC Try.prog (o_fieldAddr 62 (.pointer (some ⟨b, 0, none⟩)) 2) True (.pointer (some ⟨b, 72, none⟩)) := ⟨fun _ => p_fieldAddr 62 b 0 2 72 1 (by kernel_rfl) (by decide)⟩
instance (b o : Nat) : StepC Try.prog (o_fieldAddr 62 (.pointer (some ⟨b, o, none⟩)) 2) True (.pointer (some ⟨b, o + 72, none⟩)) := ⟨fun _ => p_fieldAddr 62 b o 2 72 1 (by kernel_rfl) (by decide)⟩
instance : ShpC Try.prog 3 false 1 := ⟨by kernel_rfl⟩
instance (a : Int) : StepC Try.prog (o_conv 3 65 (.int .i64 a)) True (.int .u64 (a % 18446744073709551616)) := ⟨fun _ => by have := p_conv_int (P := Try.prog) 3 65 .i64 .u64 a (by kernel_rfl) (by kernel_rfl); rwa [show IntKind.wrap .u64 a = a % 18446744073709551616 by simp [IntKind.wrap, IntKind.bits, IntKind.signed]] at this⟩
instance (a : Int) : StepC Try.prog (o_conv 65 5 (.int .u64 a)) True (.int .u8 (a % 256)) := ⟨fun _ => by have := p_conv_int (P := Try.prog) 65 5 .u64 .u8 a (by kernel_rfl) (by kernel_rfl); rwa [show IntKind.wrap .u8 a = a % 256 by simp [IntKind.wrap, IntKind.bits, IntKind.signed]] at this⟩
instance (b o : Nat) (k : IntKind) (l : Int) : StepC Try.prog (o_slice 64 (.pointer (some ⟨b, o, none⟩)) (some (.int k l)) none none) (0 ≤ l ∧ l < 72) (.slice (some ⟨b, o + l.toNat, none⟩) (72 - l.toNat) (72 - l.toNat)) := ⟨fun h => by have := p_slice_array_l (P := Try.prog) 64 b o 72 k l 1 (by kernel_rfl) (by kernel_rfl) (by kernel_rfl) h.1 h.2; rwa [Nat.mul_one] at this⟩
instance (b o : Nat) (k : IntKind) (l : Int) : StepC Try.prog (o_slice 64 (.pointer (some ⟨b, o, none⟩)) none (some (.int k l)) none) (0 ≤ l ∧ l ≤ 72) (.slice (some ⟨b, o, none⟩) l.toNat 72) := ⟨fun h => p_slice_array_h (P := Try.prog) 64 b o 72 k l 1 (by kernel_rfl) (by kernel_rfl) (by kernel_rfl) h.1 h.2⟩
instance (b o : Nat) : StepC Try.prog (o_slice 64 (.pointer (some ⟨b, o, none⟩)) none none none) True (.slice (some ⟨b, o, none⟩) 72 72) := ⟨fun _ => p_slice_array_all (P := Try.prog) 64 b o 72 1 (by kernel_rfl) (by kernel_rfl) (by kernel_rfl)⟩
instance (priority := 1100) (b : Nat) : StepC Try.prog (o_fieldAddr 62 (.pointer (some ⟨b, 0, none⟩)) 0) True (.pointer (some ⟨b, 0, none⟩)) := ⟨fun _ => p_fieldAddr 62 b 0 0 0 8 (by kernel_rfl) (by decide)⟩
instance (b o : Nat) : StepC Try.prog (o_fieldAddr 62 (.pointer (some ⟨b, o, none⟩)) 0) True (.pointer (some ⟨b, o + 0, none⟩)) := ⟨fun _ => p_fieldAddr 62 b o 0 0 8 (by kernel_rfl) (by decide)⟩
instance (b o : Nat) (k : IntKind) (i : Int) : StepC Try.prog (o_indexAddr 57 (.pointer (some ⟨b, o, none⟩)) (.int k i)) (0 ≤ i ∧ i < 8) (.pointer (some ⟨b, o + i.toNat, none⟩)) := ⟨fun h => by have := p_indexAddr_array (P := Try.prog) 57 b o 8 k i 1 (by kernel_rfl) (by kernel_rfl) (by kernel_rfl) h.1 h.2; rwa [Nat.mul_one] at this⟩
instance : ShpC Try.prog 56 false 1 := ⟨by kernel_rfl⟩
instance (a : Int) : StepC Try.prog (o_conv 56 5 (.int .u32 a)) True (.int .u8 (a % 256)) := ⟨fun _ => by have := p_conv_int (P := Try.prog) 56 5 .u32 .u8 a (by kernel_rfl) (by kernel_rfl); rwa [show IntKind.wrap .u8 a = a % 256 by simp [IntKind.wrap, IntKind.bits, IntKind.signed]] at this⟩
instance (b o : Nat) (k : IntKind) (i : Int) : StepC Try.prog (o_indexAddr 23 (.pointer (some ⟨b, o, none⟩)) (.int k i)) (0 ≤ i ∧ i < 32) (.pointer (some ⟨b, o + i.toNat, none⟩)) := ⟨fun h => by have := p_indexAddr_array (P := Try.prog) 23 b o 32 k i 1 (by kernel_rfl) (by kernel_rfl) (by kernel_rfl) h.1 h.2; rwa [Nat.mul_one] at this⟩
instance : ZerF Try.prog 22 [.arr 32 (u8s hzero.1)] := ⟨by kernel_rfl, inferInstance⟩
instance : ZerC Try.prog 22 (List.replicate 32 (.int .u8 0)) := ⟨by kernel_rfl⟩
instance : ZerF Try.prog 58 [.arr 64 (List.replicate 64 (.int .u32 0))] := ⟨by kernel_rfl, inferInstance⟩
instance : BltC Try.prog 58 := ⟨by kernel_rfl⟩
instance : PlC Try.prog 58 0 0 1 := ⟨by kernel_rfl⟩
instance : PlC Try.prog 58 1 1 1 := ⟨by kernel_rfl⟩
instance : PlC Try.prog 58 2 2 1 := ⟨by kernel_rfl⟩
instance : PlC Try.prog 58 3 3 1 := ⟨by kernel_rfl⟩
instance : PlC Try.prog 58 4 4 1 := ⟨by kernel_rfl⟩
instance : PlC Try.prog 58 5 5 1 := ⟨by kernel_rfl⟩
instance : PlC Try.prog 58 6 6 1 := ⟨by kernel_rfl⟩
instance : PlC Try.prog 58 7 7 1 := ⟨by kernel_rfl⟩
instance : PlC Try.prog 58 8 8 1 := ⟨by kernel_rfl⟩
instance : PlC Try.prog 58 9 9 1 := ⟨by kernel_rfl⟩
instance : PlC Try.prog 58 10 10 1 := ⟨by kernel_rfl⟩
instance : PlC Try.prog 58 11 11 1 := ⟨by kernel_rfl⟩
instance : PlC Try.prog 58 12 12 1 := ⟨by kernel_rfl⟩
instance : PlC Try.prog 58 13 13 1 := ⟨by kernel_rfl⟩
instance : PlC Try.prog 58 14 14 1 := ⟨by kernel_rfl⟩
instance : PlC Try.prog 58 15 15 1 := ⟨by kernel_rfl⟩
instance : PlC Try.prog 58 16 16 1 := ⟨by kernel_rfl⟩
instance : PlC Try.prog 58 17 17 1 := ⟨by kernel_rfl⟩
instance : PlC Try.prog 58 18 18 1 := ⟨by kernel_rfl⟩
instance : PlC Try.prog 58 19 19 1 := ⟨by kernel_rfl⟩
instance : PlC Try.prog 58 20 20 1 := ⟨by kernel_rfl⟩
instance : PlC Try.prog 58 21 21 1 := ⟨by kernel_rfl⟩
instance : PlC Try.prog 58 22 22 1 := ⟨by kernel_rfl⟩
instance : PlC Try.prog 58 23 23 1 := ⟨by kernel_rfl⟩
instance : PlC Try.prog 58 24 24 1 := ⟨by kernel_rfl⟩
instance : PlC Try.prog 58 25 25 1 := ⟨by kernel_rfl⟩
instance : PlC Try.prog 58 26 26 1 := ⟨by kernel_rfl⟩
instance : PlC Try.prog 58 27 27 1 := ⟨by kernel_rfl⟩
instance : PlC Try.prog 58 28 28 1 := ⟨by kernel_rfl⟩
instance : PlC Try.prog 58 29 29 1 := ⟨by kernel_rfl⟩
instance : PlC Try.prog 58 30 30 1 := ⟨by kernel_rfl⟩
instance : PlC Try.prog 58 31 31 1 := ⟨by kernel_rfl⟩
instance : PlC Try.prog 58 32 32 1 := ⟨by kernel_rfl⟩
instance : PlC Try.prog 58 33 33 1 := ⟨by kernel_rfl⟩
instance : PlC Try.prog 58 34 34 1 := ⟨by kernel_rfl⟩
instance : PlC Try.prog 58 35 35 1 := ⟨by kernel_rfl⟩
instance : PlC Try.prog 58 36 36 1 := ⟨by kernel_rfl⟩
instance : PlC Try.prog 58 37 37 1 := ⟨by kernel_rfl⟩
instance : PlC Try.prog 58 38 38 1 := ⟨by kernel_rfl⟩
instance : PlC Try.prog 58 39 39 1 := ⟨by kernel_rfl⟩
instance : PlC Try.prog 58 40 40 1 := ⟨by kernel_rfl⟩
instance : PlC Try.prog 58 41 41 1 := ⟨by kernel_rfl⟩
instance : PlC Try.prog 58 42 42 1 := ⟨by kernel_rfl⟩
instance : PlC Try.prog 58 43 43 1 := ⟨by kernel_rfl⟩
instance : PlC Try.prog 58 44 44 1 := ⟨by kernel_rfl⟩
instance : PlC Try.prog 58 45 45 1 := ⟨by kernel_rfl⟩
instance : PlC Try.prog 58 46 46 1 := ⟨by kernel_rfl⟩
instance : PlC Try.prog 58 47 47 1 := ⟨by kernel_rfl⟩
instance : PlC Try.prog 58 48 48 1 := ⟨by kernel_rfl⟩
instance : PlC Try.prog 58 49 49 1 := ⟨by kernel_rfl⟩
instance : PlC Try.prog 58 50 50 1 := ⟨by kernel_rfl⟩
instance : PlC Try.prog 58 51 51 1 := ⟨by kernel_rfl⟩
instance : PlC Try.prog 58 52 52 1 := ⟨by kernel_rfl⟩
instance : PlC Try.prog 58 53 53 1 := ⟨by kernel_rfl⟩
instance : PlC Try.prog 58 54 54 1 := ⟨by kernel_rfl⟩
instance : PlC Try.prog 58 55 55 1 := ⟨by kernel_rfl⟩
instance : PlC Try.prog 58 56 56 1 := ⟨by kernel_rfl⟩
instance : PlC Try.prog 58 57 57 1 := ⟨by kernel_rfl⟩
instance : PlC Try.prog 58 58 58 1 := ⟨by kernel_rfl⟩
instance : PlC Try.prog 58 59 59 1 := ⟨by kernel_rfl⟩
instance : PlC Try.prog 58 60 60 1 := ⟨by kernel_rfl⟩
instance : PlC Try.prog 58 61 61 1 := ⟨by kernel_rfl⟩
instance : PlC Try.prog 58 62 62 1 := ⟨by kernel_rfl⟩
instance : PlC Try.prog 58 63 63 1 := ⟨by kernel_rfl⟩
instance : ZerC Try.prog 58 (List.replicate 64 (.int .u32 0)) := ⟨by kernel_rfl⟩
instance : ShpC Try.prog 58 true 64 := ⟨by kernel_rfl⟩
instance (ty : TypeId) (cs : List Bool) (a : Option Addr) (n c : Nat) : StepC Try.prog (o_builtin .len #[50] ty cs [.slice a n c]) True (.int .i64 n) := ⟨fun _ => p_len_slice 50 ty 5 cs a n c (by kernel_rfl)⟩
instance : ZerC Try.prog 57 (List.replicate 8 (.int .u32 0)) := ⟨by kernel_rfl⟩
instance : ShpC Try.prog 57 true 8 := ⟨by kernel_rfl⟩
instance : FunC Try.prog 34 := ⟨by kernel_rfl⟩
instance (b o : Nat) (k : IntKind) (i : Int) : StepC Try.prog (o_indexAddr 58 (.pointer (some ⟨b, o, none⟩)) (.int k i)) (0 ≤ i ∧ i < 64) (.pointer (some ⟨b, o + i.toNat, none⟩)) := ⟨fun h => by have := p_indexAddr_array (P := Try.prog) 58 b o 64 k i 1 (by kernel_rfl) (by kernel_rfl) (by kernel_rfl) h.1 h.2; rwa [Nat.mul_one] at this⟩
instance : FunC Try.prog 35 := ⟨by kernel_rfl⟩
instance (b o : Nat) (k : IntKind) (i : Int) : StepC Try.prog (o_indexAddr 22 (.pointer (some ⟨b, o, none⟩)) (.int k i)) (0 ≤ i ∧ i < 32) (.pointer (some ⟨b, o + i.toNat, none⟩)) := ⟨fun h => by have := p_indexAddr_array (P := Try.prog) 22 b o 32 k i 1 (by kernel_rfl) (by kernel_rfl) (by kernel_rfl) h.1 h.2; rwa [Nat.mul_one] at this⟩
instance : ShpC Try.prog 22 true 32 := ⟨by kernel_rfl⟩
instance (b o : Nat) (k : IntKind) (l : Int) : StepC Try.prog (o_slice 22 (.pointer (some ⟨b, o, none⟩)) (some (.int k l)) none none) (0 ≤ l ∧ l < 32) (.slice (some ⟨b, o + l.toNat, none⟩) (32 - l.toNat) (32 - l.toNat)) := ⟨fun h => by have := p_slice_array_l (P := Try.prog) 22 b o 32 k l 1 (by kernel_rfl) (by kernel_rfl) (by kernel_rfl) h.1 h.2; rwa [Nat.mul_one] at this⟩
instance (b o : Nat) (k : IntKind) (l : Int) : StepC Try.prog (o_slice 22 (.pointer (some ⟨b, o, none⟩)) none (some (.int k l)) none) (0 ≤ l ∧ l ≤ 32) (.slice (some ⟨b, o, none⟩) l.toNat 32) := ⟨fun h => p_slice_array_h (P := Try.prog) 22 b o 32 k l 1 (by kernel_rfl) (by kernel_rfl) (by kernel_rfl) h.1 h.2⟩
instance (b o : Nat) : StepC Try.prog (o_slice 22 (.pointer (some ⟨b, o, none⟩)) none none none) True (.slice (some ⟨b, o, none⟩) 32 32) := ⟨fun _ => p_slice_array_all (P := Try.prog) 22 b o 32 1 (by kernel_rfl) (by kernel_rfl) (by kernel_rfl)⟩
instance : ZerF Try.prog 60 [.arr 64 (List.replicate 64 (.int .u8 0))] := ⟨by kernel_rfl, inferInstance⟩
instance : ZerC Try.prog 60 (List.replicate 64 (.int .u8 0)) := ⟨by kernel_rfl⟩
instance (b o : Nat) (k : IntKind) (l : Int) : StepC Try.prog (o_slice 60 (.pointer (some ⟨b, o, none⟩)) (some (.int k l)) none none) (0 ≤ l ∧ l < 64) (.slice (some ⟨b, o + l.toNat, none⟩) (64 - l.toNat) (64 - l.toNat)) := ⟨fun h => by have := p_slice_array_l (P := Try.prog) 60 b o 64 k l 1 (by kernel_rfl) (by kernel_rfl) (by kernel_rfl) h.1 h.2; rwa [Nat.mul_one] at this⟩
instance (b o : Nat) (k : IntKind) (l : Int) : StepC Try.prog (o_slice 60 (.pointer (some ⟨b, o, none⟩)) none (some (.int k l)) none) (0 ≤ l ∧ l ≤ 64) (.slice (some ⟨b, o, none⟩) l.toNat 64) := ⟨fun h => p_slice_array_h (P := Try.prog) 60 b o 64 k l 1 (by kernel_rfl) (by kernel_rfl) (by kernel_rfl) h.1 h.2⟩
instance (b o : Nat) : StepC Try.prog (o_slice 60 (.pointer (some ⟨b, o, none⟩)) none none none) True (.slice (some ⟨b, o, none⟩) 64 64) := ⟨fun _ => p_slice_array_all (P := Try.prog) 60 b o 64 1 (by kernel_rfl) (by kernel_rfl) (by kernel_rfl)⟩
instance (b o : Nat) (k : IntKind) (i : Int) : StepC Try.prog (o_indexAddr 60 (.pointer (some ⟨b, o, none⟩)) (.int k i)) (0 ≤ i ∧ i < 64) (.pointer (some ⟨b, o + i.toNat, none⟩)) := ⟨fun h => by have := p_indexAddr_array (P := Try.prog) 60 b o 64 k i 1 (by kernel_rfl) (by kernel_rfl) (by kernel_rfl) h.1 h.2; rwa [Nat.mul_one] at this⟩
instance : FunC Try.prog 36 := ⟨by kernel_rfl⟩
instance : FunC Try.prog 37 := ⟨by kernel_rfl⟩
instance : SliS Try.prog 50 1 := ⟨by kernel_rfl, by kernel_rfl⟩
instance (priority := 1100) (b : Nat) : StepC Try.prog (o_fieldAddr 62 (.pointer (some ⟨b, 0, none⟩)) 1) True (.pointer (some ⟨b, 8, none⟩)) := ⟨fun _ => p_fieldAddr 62 b 0 1 8 64 (by kernel_rfl) (by decide)⟩
instance (b o : Nat) : StepC Try.prog (o_fieldAddr 62 (.pointer (some ⟨b, o, none⟩)) 1) True (.pointer (some ⟨b, o + 8, none⟩)) := ⟨fun _ => p_fieldAddr 62 b o 1 8 64 (by kernel_rfl) (by decide)⟩
instance : FunC Try.prog 38 := ⟨by kernel_rfl⟩
instance (b o n c : Nat) (k : IntKind) (i : Int) : StepC Try.prog (o_indexAddr 50 (.slice (some ⟨b, o, none⟩) n c) (.int k i)) (0 ≤ i ∧ i < n) (.pointer (some ⟨b, o + i.toNat, none⟩)) := ⟨fun h => by have := p_indexAddr_slice (P := Try.prog) 50 b o n c k i 1 (by kernel_rfl) (by kernel_rfl) h.1 h.2; rwa [Nat.mul_one] at this⟩
instance (a : Int) : StepC Try.prog (o_conv 5 56 (.int .u8 a)) (0 ≤ a ∧ a < 256) (.int .u32 a) := ⟨fun h => by have := p_conv_int (P := Try.prog) 5 56 .u8 .u32 a (by kernel_rfl) (by kernel_rfl); rwa [show IntKind.wrap .u32 a = a by simp [IntKind.wrap, IntKind.bits, IntKind.signed]; omega] at this⟩
instance : FunC Try.prog 39 := ⟨by kernel_rfl⟩
instance (priority := 1100) (b : Nat) : StepC Try.prog (o_fieldAddr 62 (.pointer (some ⟨b, 0, none⟩)) 3) True (.pointer (some ⟨b, 73, none⟩)) := ⟨fun _ => p_fieldAddr 62 b 0 3 73 64 (by kernel_rfl) (by decide)⟩
instance (b o : Nat) : StepC Try.prog (o_fieldAddr 62 (.pointer (some ⟨b, o, none⟩)) 3) True (.pointer (some ⟨b, o + 73, none⟩)) := ⟨fun _ => p_fieldAddr 62 b o 3 73 64 (by kernel_rfl) (by decide)⟩
instance : SliC Try.prog 27 9 1 16 := ⟨by kernel_rfl⟩
instance : SliC Try.prog 50 5 1 1 := ⟨by kernel_rfl⟩
end Go.Proofs.Ytdefecbaineneaa
