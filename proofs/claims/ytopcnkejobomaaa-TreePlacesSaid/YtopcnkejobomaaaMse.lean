/- Equality of texts, as an equation. No program is named here. -/
import Derived.Test.YtopcnkejobomaaaMby
namespace Go.Proofs.Ytopcnkejobomaaa
open Go.RowKit

section
variable {P : Program} {t : TypeId} {q : Bool}
theorem str_beq (x y : ByteArray) : (x.toList == y.toList) = decide (x = y) := by
  rw [Bool.eq_iff_iff]
  simp only [beq_iff_eq, decide_eq_true_eq]
  rw [ByteArray.toList_eq, ByteArray.toList_eq]
  constructor
  · intro e
    obtain ⟨⟨a⟩⟩ := x
    obtain ⟨⟨b⟩⟩ := y
    simpa using e
  · rintro rfl; rfl
instance (priority := 1100) (x y : ByteArray) : StepC P (o_bin .eql t q (.string x) (.string y)) True (.bool (decide (x = y))) := ⟨fun _ => by rw [← str_beq]; exact p_eql_string t q x y⟩
instance (priority := 1100) (x y : ByteArray) : StepC P (o_bin .neq t q (.string x) (.string y)) True (.bool (decide (x ≠ y))) := ⟨fun _ w => by
  have := str_beq x y
  simp [o_bin, sv, eqGuard, binOp, go_sem, Op.stringOp, this]⟩
instance (a b : Bool) [h : IsBo P t] : StepC P (o_bin .eql t q (.bool a) (.bool b)) True (.bool (decide (a = b))) := ⟨fun _ w => by
  have := run_o_eql (P := P) (c := q) (w := w) (t := t) (x := .bool a) (y := .bool b) (fun _ _ => by simp only [eqGuard]; rfl) (by simp only [binOp]) (run_equalIn_bool' w 9999 t a b h.ok)
  rw [this]
  rfl⟩
instance (a b : Bool) [h : IsBo P t] : StepC P (o_bin .neq t q (.bool a) (.bool b)) True (.bool (decide (a ≠ b))) := ⟨fun _ w => by
  have := run_o_neq (P := P) (c := q) (w := w) (t := t) (x := .bool a) (y := .bool b) (fun _ _ => by simp only [eqGuard]; rfl) (by simp only [binOp]) (run_equalIn_bool' w 9999 t a b h.ok)
  rw [this]
  congr 3
  rw [Bool.eq_iff_iff]; simp⟩
instance (priority := 1100) : StepC P (o_un .not (.bool true)) True (.bool false) := ⟨fun _ w => by simp [o_un, sv, go_sem]⟩
instance (priority := 1100) : StepC P (o_un .not (.bool false)) True (.bool true) := ⟨fun _ w => by simp [o_un, sv, go_sem]⟩
end
end Go.Proofs.Ytopcnkejobomaaa
