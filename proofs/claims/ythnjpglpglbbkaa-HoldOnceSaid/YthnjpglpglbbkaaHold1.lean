/- Hold: items, and what is asked of them. -/
import Derived.Test.YthnjpglpglbbkaaF
namespace Go.Proofs.Ythnjpglpglbbkaa
open Go.RowKit

structure Item where
  id : H32
  wait : H32
  depth : Int
  text : ByteArray
  deriving DecidableEq
abbrev Item.fds (x : Item) : List Fd := [.arr 32 (u8s x.id.1), .arr 32 (u8s x.wait.1), .one (.int .i64 x.depth), .one (.string x.text)]
abbrev iv (x : Item) : Value := .agg (fl x.fds).toArray
theorem Item.ok (x : Item) : FOk x.fds ∧ fsz x.fds = 66 := ⟨inferInstance, rfl⟩
/-- A resource with hidden parts. -/
def exR {α : Type} (R : α → List Res) : Res := fun B => ∃ a, Hl (R a) B
theorem Mem.unex {α : Type} {R : α → List Res} {H : Hp} {w0 w : World} {L : List Res} (h : Mem H w0 (exR R :: L) w) : ∃ a, Mem H w0 (R a ++ L) w := by
  obtain ⟨B, ⟨B1, B2, rfl, ⟨a, h1⟩, h2⟩, hs⟩ := h.own
  exact ⟨a, ⟨B1 ++ B2, Hl.app.2 ⟨B1, B2, rfl, h1, h2⟩, hs⟩, h.fz⟩
theorem Mem.toex {α : Type} {R : α → List Res} {H : Hp} {w0 w : World} {L : List Res} (a : α) (h : Mem H w0 (R a ++ L) w) : Mem H w0 (exR R :: L) w := h.fold fun _ hb => ⟨a, hb⟩
/-- A closure over a resource that answers f. -/
def Clo {α : Type} (P : Program) (H : Hp) (w0 : World) (r : Res) (c : Value) (enc : α → Value) (f : α → Bool) : Prop :=
  ∀ (y : α) (R : List Res) (w : World) (K : Value → World → Prop) (X : List PanicEntry → World → Prop), Mem H w0 (r :: R) w → (∀ w', Mem H w0 (r :: R) w' → K (.bool (f y)) w') → mop P (o_call c [enc y]) w K X
/-- The first place at which f holds, or -1. -/
def idxOf {α : Type} (f : α → Bool) (l : List α) : Int := match l.findIdx? f with
  | some i => i
  | none => -1
theorem idxOf_nonneg {α : Type} (f : α → Bool) (l : List α) : 0 ≤ idxOf f l ↔ ∃ x ∈ l, f x = true := by
  unfold idxOf
  cases h : l.findIdx? f with
  | none =>
    simp only [List.findIdx?_eq_none_iff] at h
    constructor
    · intro h; simp at h
    · rintro ⟨x, hx, hf⟩
      rw [h x hx] at hf
      cases hf
  | some i =>
    simp only [Int.natCast_nonneg, true_iff]
    obtain ⟨h1, h2, _⟩ := List.findIdx?_eq_some_iff_getElem.1 h
    exact ⟨_, List.getElem_mem h1, h2⟩
theorem idxOf_at {α : Type} {f : α → Bool} {l : List α} {i : Nat} (hi : i < l.length) (h : ∀ j (hj : j < i), f (l[j]'(by omega)) = false) (hf : f l[i] = true) : idxOf f l = i := by
  unfold idxOf
  have : l.findIdx? f = some i := List.findIdx?_eq_some_iff_getElem.2 ⟨hi, hf, fun j hj => by simp [h j hj]⟩
  rw [this]
theorem idxOf_none {α : Type} {f : α → Bool} {l : List α} (h : ∀ j (hj : j < l.length), f l[j] = false) : idxOf f l = -1 := by
  unfold idxOf
  have : l.findIdx? f = none := by
    rw [List.findIdx?_eq_none_iff]
    intro x hx
    obtain ⟨j, hj, rfl⟩ := List.mem_iff_getElem.1 hx
    exact h j hj
  rw [this]

theorem item_ok {H : Hp} {w : World} (x : Item) (hf : Fz H w) : Calls Try.prog 17 #[iv x] w fun e w' => e = .returned (iv x) ∧ St w [] w' := by
  have hM := Mem.start hf
  refine C_bevylaw16_item ?_
  unfold F_bevylaw16_item
  ((with_reducible (refine mm_box hM ?_; clear hM; intro _ _ hM; refine mm_new hM ?_; clear hM; intro _ _ hM; refine mop_c trivial ?_; refine mm_ld hM ?_; refine mop_c trivial ?_; refine mm_ld hM ?_; refine mop_c trivial ?_; refine mm_ld hM ?_; refine mop_c trivial ?_; refine mm_ld hM ?_; refine mop_c trivial ?_; refine mm_st hM ?_; clear hM; intro _ hM; refine rm_ld hM ?_)))
  exact ⟨rfl, hM.st⟩

section
variable {H : Hp} {w0 w : World} {L R : List Res}
theorem put1_ok (g : Nat) (x y : Item) (hM : Mem H w0 (fb g 32 x.fds :: R) w) :
    Calls Try.prog 78 #[iv y, .pointer (some ⟨g, 0, none⟩)] w fun e w' => ∃ v, e = .returned v ∧ v = .bool (decide (y.id = x.id) && decide (y.text = x.text)) ∧ Mem H w0 (fb g 32 x.fds :: R) w' := by
  refine C_hold_Hold_Put_1 ?_
  unfold F_hold_Hold_Put_1
  ((with_reducible (refine mm_box hM ?_; clear hM; intro _ _ hM; refine mop_c trivial ?_; refine mm_ld hM ?_; refine mop_c trivial ?_; refine mm_ld hM ?_)))
  ((with_reducible (refine mop_cS trivial ?_ ?_)))
  all_goals
    intro hi
    (first | ((with_reducible (refine mguard_yes ?_; refine mop_c trivial ?_; refine mguard_yes ?_; refine mm_ld hM ?_; refine mguard_yes ?_; refine mop_c trivial ?_; refine mguard_yes ?_; refine mm_ld hM ?_; refine mguard_yes ?_))) | ((with_reducible ((iterate 5 refine mguard_n2 ?_); refine mop_c trivial ?_))))
  · ((with_reducible (refine mop_cS trivial ?_ ?_)))
    all_goals
      intro ht
      ((with_reducible (refine mop_c trivial ?_)))
      exact ⟨_, rfl, by simp [hi, ht], hM.drop⟩
  · exact ⟨_, rfl, by simp [hi], hM.drop⟩
theorem clo_put (g : Nat) (x : Item) : Clo Try.prog H w0 (fb g 32 x.fds) (.func (.func 78) #[] #[.pointer (some ⟨g, 0, none⟩)]) iv (fun y : Item => decide (y.id = x.id) && decide (y.text = x.text)) := fun y R w K X hM hk =>
  mop_callv (put1_ok g x y hM) (by rintro e w' ⟨v, rfl, rfl, h⟩; exact hk w' h)
theorem take1_ok (g : Nat) (a : H32) (y : Item) (hM : Mem H w0 (fb g 30 [.arr 32 (u8s a.1)] :: R) w) :
    Calls Try.prog 80 #[iv y, .pointer (some ⟨g, 0, none⟩)] w fun e w' => ∃ v, e = .returned v ∧ v = .bool (decide (y.wait = a)) ∧ Mem H w0 (fb g 30 [.arr 32 (u8s a.1)] :: R) w' := by
  refine C_hold_Hold_Take_1 ?_
  unfold F_hold_Hold_Take_1
  ((with_reducible (refine mm_box hM ?_; clear hM; intro _ _ hM; refine mop_c trivial ?_; refine mm_ld hM ?_; refine mm_ld hM ?_)))
  ((with_reducible (refine mop_cS trivial ?_ ?_)))
  all_goals
    intro hi
    skip
    exact ⟨_, rfl, by simp [hi], hM.drop⟩
theorem clo_take (g : Nat) (a : H32) : Clo Try.prog H w0 (fb g 30 [.arr 32 (u8s a.1)]) (.func (.func 80) #[] #[.pointer (some ⟨g, 0, none⟩)]) iv (fun y : Item => decide (y.wait = a)) := fun y R w K X hM hk =>
  mop_callv (take1_ok g a y hM) (by rintro e w' ⟨v, rfl, rfl, h⟩; exact hk w' h)
theorem has1_ok (g : Nat) (a : H32) (y : Item) (hM : Mem H w0 (fb g 30 [.arr 32 (u8s a.1)] :: R) w) :
    Calls Try.prog 86 #[iv y, .pointer (some ⟨g, 0, none⟩)] w fun e w' => ∃ v, e = .returned v ∧ v = .bool (decide (y.id = a)) ∧ Mem H w0 (fb g 30 [.arr 32 (u8s a.1)] :: R) w' := by
  refine C_hold_Hold_Has_1 ?_
  unfold F_hold_Hold_Has_1
  ((with_reducible (refine mm_box hM ?_; clear hM; intro _ _ hM; refine mop_c trivial ?_; refine mm_ld hM ?_; refine mm_ld hM ?_)))
  ((with_reducible (refine mop_cS trivial ?_ ?_)))
  all_goals
    intro hi
    skip
    exact ⟨_, rfl, by simp [hi], hM.drop⟩
theorem clo_has (g : Nat) (a : H32) : Clo Try.prog H w0 (fb g 30 [.arr 32 (u8s a.1)]) (.func (.func 86) #[] #[.pointer (some ⟨g, 0, none⟩)]) iv (fun y : Item => decide (y.id = a)) := fun y R w K X hM hk =>
  mop_callv (has1_ok g a y hM) (by rintro e w' ⟨v, rfl, rfl, h⟩; exact hk w' h)
theorem drop1_ok (g : Nat) (a : Int) (y : Item) (hM : Mem H w0 (fb g 3 [.one (.int .i64 a)] :: R) w) :
    Calls Try.prog 85 #[iv y, .pointer (some ⟨g, 0, none⟩)] w fun e w' => ∃ v, e = .returned v ∧ v = .bool (decide (y.depth < a)) ∧ Mem H w0 (fb g 3 [.one (.int .i64 a)] :: R) w' := by
  refine C_hold_Hold_Drop_1 ?_
  unfold F_hold_Hold_Drop_1
  ((with_reducible (refine mm_box hM ?_; clear hM; intro _ _ hM; refine mop_c trivial ?_; refine mm_ld hM ?_; refine mm_ld hM ?_)))
  ((with_reducible (refine mop_cS trivial ?_ ?_)))
  all_goals
    intro hi
    skip
    exact ⟨_, rfl, by simp [hi], hM.drop⟩
theorem clo_drop (g : Nat) (a : Int) : Clo Try.prog H w0 (fb g 3 [.one (.int .i64 a)]) (.func (.func 85) #[] #[.pointer (some ⟨g, 0, none⟩)]) iv (fun y : Item => decide (y.depth < a)) := fun y R w K X hM hk =>
  mop_callv (drop1_ok g a y hM) (by rintro e w' ⟨v, rfl, rfl, h⟩; exact hk w' h)
end
end Go.Proofs.Ythnjpglpglbbkaa
