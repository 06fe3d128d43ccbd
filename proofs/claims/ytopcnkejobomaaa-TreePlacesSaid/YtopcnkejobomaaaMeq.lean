/- Equality of fields; slices and pointers beside nil, found by the form. No program is named here. -/
import Derived.Test.YtopcnkejobomaaaMcl
namespace Go.Proofs.Ytopcnkejobomaaa
open Go.RowKit

def hzero : H32 := ⟨List.replicate 32 0, by simp, by intro x hx; rw [List.eq_of_mem_replicate hx]; omega⟩
/-- Fields beside fields: their kinds, and when they are alike. -/
class EqF (fs gs : List Fd) (ks : outParam (List CK)) (p : outParam Prop) : Prop where
  ok : Of (fl fs) ks ∧ Of (fl gs) ks ∧ (fl fs = fl gs ↔ p)
theorem one_app {a b : Value} {k : CK} {x y : List Value} {ks : List CK} {p q : Prop} (h : Of [a] [k] ∧ Of [b] [k] ∧ (a = b ↔ p)) (h' : Of x ks ∧ Of y ks ∧ (x = y ↔ q)) : Of ([a] ++ x) (k :: ks) ∧ Of ([b] ++ y) (k :: ks) ∧ ([a] ++ x = [b] ++ y ↔ p ∧ q) :=
  ⟨h.1.app h'.1, h.2.1.app h'.2.1, by rw [← h.2.2, ← h'.2.2]; simp⟩
theorem ok_int (k : IntKind) (a b : Int) : Of [.int k a] [.int k] ∧ Of [.int k b] [.int k] ∧ (Value.int k a = .int k b ↔ a = b) := ⟨rfl, rfl, by simp⟩
theorem ok_bool (a b : Bool) : Of [.bool a] [.bool] ∧ Of [.bool b] [.bool] ∧ (Value.bool a = .bool b ↔ a = b) := ⟨rfl, rfl, by simp⟩
theorem ok_str (a b : ByteArray) : Of [.string a] [.str] ∧ Of [.string b] [.str] ∧ (Value.string a = .string b ↔ a = b) := ⟨rfl, rfl, by simp⟩
instance (k : IntKind) (a b : Int) (fs gs : List Fd) (ks : List CK) (p : Prop) [h : EqF fs gs ks p] : EqF (.one (.int k a) :: fs) (.one (.int k b) :: gs) (.int k :: ks) (a = b ∧ p) := ⟨one_app (ok_int k a b) h.ok⟩
instance (a b : Bool) (fs gs : List Fd) (ks : List CK) (p : Prop) [h : EqF fs gs ks p] : EqF (.one (.bool a) :: fs) (.one (.bool b) :: gs) (.bool :: ks) (a = b ∧ p) := ⟨one_app (ok_bool a b) h.ok⟩
instance (a b : ByteArray) (fs gs : List Fd) (ks : List CK) (p : Prop) [h : EqF fs gs ks p] : EqF (.one (.string a) :: fs) (.one (.string b) :: gs) (.str :: ks) (a = b ∧ p) := ⟨one_app (ok_str a b) h.ok⟩
theorem EqF.last {f g : Fd} {k : List CK} {p : Prop} (h : Of f.cells k ∧ Of g.cells k ∧ (f.cells = g.cells ↔ p)) : Of (fl [f]) k ∧ Of (fl [g]) k ∧ (fl [f] = fl [g] ↔ p) := by simpa [fl] using h
instance (priority := 1100) (k : IntKind) (a b : Int) : EqF [.one (.int k a)] [.one (.int k b)] [.int k] (a = b) := ⟨EqF.last ⟨rfl, rfl, by simp [Fd.cells]⟩⟩
instance (priority := 1100) (a b : Bool) : EqF [.one (.bool a)] [.one (.bool b)] [.bool] (a = b) := ⟨EqF.last ⟨rfl, rfl, by simp [Fd.cells]⟩⟩
instance (priority := 1100) (a b : ByteArray) : EqF [.one (.string a)] [.one (.string b)] [.str] (a = b) := ⟨EqF.last ⟨rfl, rfl, by simp [Fd.cells]⟩⟩
theorem of_h32 (h : H32) : Of (u8s h.1) (List.replicate 32 (.int .u8)) := by have := of_u8s h.1; rwa [h.2.1] at this
theorem h32_eq {a b : H32} : u8s a.1 = u8s b.1 ↔ a = b := by rw [u8s_inj]; exact Subtype.ext_iff.symm
instance (a b : H32) (fs gs : List Fd) (ks : List CK) (p : Prop) [h : EqF fs gs ks p] : EqF (.arr 32 (u8s a.1) :: fs) (.arr 32 (u8s b.1) :: gs) (List.replicate 32 (.int .u8) ++ ks) (a = b ∧ p) := ⟨by
  obtain ⟨h1, h2, h3⟩ := h.ok
  refine ⟨(of_h32 a).app h1, (of_h32 b).app h2, ?_⟩
  show u8s a.1 ++ fl fs = u8s b.1 ++ fl gs ↔ _
  rw [← h3, ← h32_eq]
  constructor
  · intro e
    exact List.append_inj e (by simp [u8s, a.2.1, b.2.1])
  · rintro ⟨e1, e2⟩
    rw [e1, e2]⟩
instance (priority := 1100) (a b : H32) : EqF [.arr 32 (u8s a.1)] [.arr 32 (u8s b.1)] (List.replicate 32 (.int .u8)) (a = b) := ⟨EqF.last ⟨of_h32 a, of_h32 b, h32_eq⟩⟩
section
variable {P : Program} {t : TypeId} {q : Bool}
instance (fs gs : List Fd) (ks : List CK) (p : Prop) [Decidable p] [h : EqF fs gs ks p] [k : KindC P t ks] : StepC P (o_bin .eql t q (.agg (fl fs).toArray) (.agg (fl gs).toArray)) True (.bool (decide p)) := ⟨fun _ => p_eql_agg q h.ok.1 h.ok.2.1 h.ok.2.2⟩
instance (fs gs : List Fd) (ks : List CK) (p : Prop) [Decidable p] [h : EqF fs gs ks p] [k : KindC P t ks] : StepC P (o_bin .neq t q (.agg (fl fs).toArray) (.agg (fl gs).toArray)) True (.bool (!decide p)) := ⟨fun _ => p_neq_agg q h.ok.1 h.ok.2.1 h.ok.2.2⟩
instance (a b : H32) [k : KindC P t (List.replicate 32 (.int .u8))] : StepC P (o_bin .eql t q (.agg (u8s a.1).toArray) (.agg (u8s b.1).toArray)) True (.bool (decide (a = b))) := ⟨fun _ => p_eql_agg q (of_h32 a) (of_h32 b) h32_eq⟩
instance (a b : H32) [k : KindC P t (List.replicate 32 (.int .u8))] : StepC P (o_bin .neq t q (.agg (u8s a.1).toArray) (.agg (u8s b.1).toArray)) True (.bool (!decide (a = b))) := ⟨fun _ => p_neq_agg q (of_h32 a) (of_h32 b) h32_eq⟩
/-- Is the type a slice, a pointer? -/
class IsSl (P : Program) (t : TypeId) : Prop where
  ok : ∃ e, P.underlying t = some (.slice e)
class IsPt (P : Program) (t : TypeId) : Prop where
  ok : ∃ e, P.underlying t = some (.pointer e)
theorem isSl_of {P : Program} {t : TypeId} (h : (match P.underlying t with
    | some (.slice _) => true
    | _ => false) = true) : IsSl P t := ⟨by
  split at h
  · rename_i e hu; exact ⟨e, hu⟩
  · cases h⟩
theorem isPt_of {P : Program} {t : TypeId} (h : (match P.underlying t with
    | some (.pointer _) => true
    | _ => false) = true) : IsPt P t := ⟨by
  split at h
  · rename_i e hu; exact ⟨e, hu⟩
  · cases h⟩
instance (a : Option Addr) (n c : Nat) [h : IsSl P t] : StepC P (o_bin .eql t q (.slice a n c) (.slice none 0 0)) True (.bool a.isNone) := ⟨fun _ => by obtain ⟨e, he⟩ := h.ok; exact p_eq_nil t q a n c e he⟩
instance (a : Option Addr) (n c : Nat) [h : IsSl P t] : StepC P (o_bin .neq t q (.slice a n c) (.slice none 0 0)) True (.bool (!a.isNone)) := ⟨fun _ => by obtain ⟨e, he⟩ := h.ok; exact p_ne_nil t q a n c e he⟩
instance (a : Addr) [h : IsPt P t] : StepC P (o_bin .eql t q (.pointer (some a)) (.pointer none)) True (.bool false) := ⟨fun _ => by obtain ⟨e, he⟩ := h.ok; exact p_ptr_nil t q (some a) e he⟩
instance (a : Addr) [h : IsPt P t] : StepC P (o_bin .neq t q (.pointer (some a)) (.pointer none)) True (.bool true) := ⟨fun _ => by obtain ⟨e, he⟩ := h.ok; exact p_ptr_nnil t q (some a) e he⟩
instance [h : IsPt P t] : StepC P (o_bin .eql t q (.pointer none) (.pointer none)) True (.bool true) := ⟨fun _ => by obtain ⟨e, he⟩ := h.ok; exact p_ptr_nil t q none e he⟩
instance [h : IsPt P t] : StepC P (o_bin .neq t q (.pointer none) (.pointer none)) True (.bool false) := ⟨fun _ => by obtain ⟨e, he⟩ := h.ok; exact p_ptr_nnil t q none e he⟩
instance (x y : ByteArray) : StepC P (o_bin .neq t q (.string x) (.string y)) True (.bool (!(x.toList == y.toList))) := ⟨fun _ w => by
  simp [o_bin, sv, eqGuard, binOp, go_sem, Op.stringOp]⟩
end
end Go.Proofs.Ytopcnkejobomaaa
