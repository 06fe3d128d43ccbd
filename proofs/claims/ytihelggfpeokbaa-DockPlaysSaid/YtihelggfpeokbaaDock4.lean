/- Dock: the document's three boxes. (Printed by wip/gen_dock4.py.) -/
import Derived.Test.YtihelggfpeokbaaDock3
namespace Go.Proofs.Ytihelggfpeokbaa
open Go.RowKit

abbrev m3 (b0 b1 b2 : Bx) (A0 A1 A2 : Option Addr × Nat) : List Fd := [.one (.int .i64 b0.room), .one (.int .i64 b0.lost), .one (.bool b0.cl), .one (.slice A0.1 b0.xs.length A0.2), .one (.int .i64 b1.room), .one (.int .i64 b1.lost), .one (.bool b1.cl), .one (.slice A1.1 b1.xs.length A1.2), .one (.int .i64 b2.room), .one (.int .i64 b2.lost), .one (.bool b2.cl), .one (.slice A2.1 b2.xs.length A2.2)]
def refR (g : Nat) (b0 b1 b2 : Bx) : Res := exR (fun (p : (Option Addr × Nat) × (Option Addr × Nat) × (Option Addr × Nat)) => [fb g 39 (m3 b0 b1 b2 p.1 p.2.1 p.2.2), rowO 3 1 p.1.1 b0.xs.length p.1.2 (i64s b0.xs), rowO 3 1 p.2.1.1 b1.xs.length p.2.1.2 (i64s b1.xs), rowO 3 1 p.2.2.1 b2.xs.length p.2.2.2 (i64s b2.xs)])
section
variable {H : Hp} {w0 w : World} {L R : List Res} {g : Nat} {b0 b1 b2 : Bx}
theorem Mem.ref (h : Mem H w0 (refR g b0 b1 b2 :: L) w) : ∃ A0 c0 A1 c1 A2 c2, Mem H w0 (fb g 39 (m3 b0 b1 b2 (A0, c0) (A1, c1) (A2, c2)) :: rowO 3 1 A0 b0.xs.length c0 (i64s b0.xs) :: rowO 3 1 A1 b1.xs.length c1 (i64s b1.xs) :: rowO 3 1 A2 b2.xs.length c2 (i64s b2.xs) :: L) w := by
  obtain ⟨p, h⟩ := h.unex
  exact ⟨p.1.1, p.1.2, p.2.1.1, p.2.1.2, p.2.2.1, p.2.2.2, h⟩
theorem Mem.unref {A0 A1 A2 : Option Addr} {c0 c1 c2 : Nat} (h : Mem H w0 (fb g 39 (m3 b0 b1 b2 (A0, c0) (A1, c1) (A2, c2)) :: rowO 3 1 A0 b0.xs.length c0 (i64s b0.xs) :: rowO 3 1 A1 b1.xs.length c1 (i64s b1.xs) :: rowO 3 1 A2 b2.xs.length c2 (i64s b2.xs) :: L) w) : Mem H w0 (refR g b0 b1 b2 :: L) w :=
  Mem.toex (R := fun (p : (Option Addr × Nat) × (Option Addr × Nat) × (Option Addr × Nat)) => [fb g 39 (m3 b0 b1 b2 p.1 p.2.1 p.2.2), rowO 3 1 p.1.1 b0.xs.length p.1.2 (i64s b0.xs), rowO 3 1 p.2.1.1 b1.xs.length p.2.1.2 (i64s b1.xs), rowO 3 1 p.2.2.1 b2.xs.length p.2.2.2 (i64s b2.xs)]) ((A0, c0), (A1, c1), (A2, c2)) h
theorem rpost0_ok (x : Int) (hb : b0.xs.length ≤ 100000 ∧ b0.lost < 100000) (hM : Mem H w0 (refR g b0 b1 b2 :: L) w) :
    Calls Try.prog 12 #[.pointer (some ⟨g, 0, none⟩), .int .i64 x] w fun en w' => ∃ v, en = .returned v ∧ v = .int .i64 (bpost b0 x).1 ∧ Mem H w0 (refR g (bpost b0 x).2 b1 b2 :: L) w' := by
  obtain ⟨A0, c0, A1, c1, A2, c2, hM⟩ := hM.ref
  refine C_bevyref18_Box_Post ?_
  unfold F_bevyref18_Box_Post
  unfold bpost
  ((with_reducible (refine mop_c trivial ?_; refine mop_c trivial ?_; refine mm_ld hM ?_)))
  cases hcl : b0.cl
  · rw [if_neg (by simp)]
    ((with_reducible (refine mif_false ?_; refine dp_c trivial ?_; refine dp_c trivial ?_; refine dm_ld hM ?_; (iterate 3 refine dp_c trivial ?_); refine dm_ld hM ?_)))
    by_cases hroom : b0.xs.length < b0.room
    · rw [if_pos hroom]
      ((with_reducible (refine dp_cF trivial ?_ ?_)); (focus (first | assumption | omega | with_reducible rfl | exact fun h => Bool.noConfusion h)); (with_reducible (refine mm_end hM ?_; clear hM; intro _ hM; refine mif_false ?_; refine mop_c trivial ?_; refine mop_c trivial ?_; refine mm_ld hM ?_; refine mm_bsl hM ?_ ?_ ?_)); (focus rfl); (focus (constructor <;> simp)); (with_reducible (clear hM; intro _ _ hM)))
      refine mm_appO hM (by omega) (fun A' c' w2 hM => ?_)
      rw [isnoc] at hM
      ((with_reducible (refine mop_c trivial ?_; refine mop_c trivial ?_; refine mm_st hM ?_; clear hM; intro _ hM)))
      refine ⟨_, rfl, rfl, Mem.unref (A0 := A') (c0 := c') (A1 := A1) (c1 := c1) (A2 := A2) (c2 := c2) ?_⟩
      rw [hcl] at hM
      simp only [m3, List.length_append, List.length_cons, List.length_nil, Nat.zero_add] at hM ⊢
      exact hM.sub
    · rw [if_neg hroom]
      ((with_reducible (refine dp_cT trivial ?_ ?_)); (focus (first | assumption | omega | with_reducible rfl | exact fun h => Bool.noConfusion h)); (with_reducible (refine mm_end hM ?_; clear hM; intro _ hM; refine mif_true ?_; refine mop_c trivial ?_; refine mop_c trivial ?_; refine mm_ld hM ?_; refine mop_c ?_ ?_)); (focus omega); (with_reducible (refine mop_c trivial ?_; refine mop_c trivial ?_; refine mm_st hM ?_; clear hM; intro _ hM)))
      refine ⟨_, rfl, rfl, Mem.unref (A0 := A0) (c0 := c0) (A1 := A1) (c1 := c1) (A2 := A2) (c2 := c2) ?_⟩
      rw [hcl] at hM
      simp only [m3, Int.natCast_add, Int.cast_ofNat_Int] at hM ⊢
      exact hM.sub
  · rw [if_pos rfl]
    ((with_reducible (refine mif_true ?_)))
    exact ⟨_, rfl, rfl, hM.unref⟩
theorem rtake0_ok (hM : Mem H w0 (refR g b0 b1 b2 :: L) w) :
    Calls Try.prog 13 #[.pointer (some ⟨g, 0, none⟩)] w fun en w' => ∃ v, en = .returned v ∧ v = .tuple #[.int .i64 (b0.xs.headD 0), .bool (!b0.xs.isEmpty)] ∧ Mem H w0 (refR g b0.pop b1 b2 :: L) w' := by
  obtain ⟨A0, c0, A1, c1, A2, c2, hM⟩ := hM.ref
  refine C_bevyref18_Box_Take ?_
  unfold F_bevyref18_Box_Take
  ((with_reducible (refine mop_c trivial ?_; refine mop_c trivial ?_; refine mm_ld hM ?_; refine mop_c trivial ?_)))
  ((with_reducible (refine mop_cS trivial ?_ ?_)))
  · intro h
    have hx : b0.xs = [] := List.eq_nil_of_length_eq_zero (by omega)
    ((with_reducible (refine mif_true ?_)))
    rw [Bx.pop_nil hx]
    exact ⟨_, rfl, by rw [hx]; rfl, hM.unref⟩
  · intro h
    obtain ⟨y, rest, hx⟩ : ∃ y rest, b0.xs = y :: rest := by
      cases hx : b0.xs with
      | nil => rw [hx] at h; simp at h
      | cons y rest => exact ⟨y, rest, rfl⟩
    have hl : b0.xs.length = rest.length + 1 := by rw [hx]; rfl
    have e : i64s b0.xs = [.one (.int .i64 y)] :: i64s rest := by rw [hx]; rfl
    ((with_reducible (refine mif_false ?_; refine mop_c trivial ?_; refine mop_c trivial ?_; refine mm_ld hM ?_)))
    refine mm_ixo hM (by omega) ?_
    intro g5 o5 hA
    subst hA
    rw [e] at hM
    refine mm_ldo0 (k := 0) hM rfl ?_
    ((with_reducible (refine mop_c trivial ?_; refine mop_c trivial ?_; refine mm_ld hM ?_)))
    refine mm_tlo hM (by simp; omega) ?_
    intro A' c' hM
    ((with_reducible (refine mop_c trivial ?_; refine mop_c trivial ?_; refine mm_st hM ?_; clear hM; intro _ hM)))
    refine ⟨_, rfl, by rw [hx]; rfl, Mem.unref (A0 := A') (c0 := c') (A1 := A1) (c1 := c1) (A2 := A2) (c2 := c2) ?_⟩
    simp only [m3, Bx.pop, hx, List.tail_cons, List.length_map] at hM ⊢
    exact hM.sub
theorem rpost1_ok (x : Int) (hb : b1.xs.length ≤ 100000 ∧ b1.lost < 100000) (hM : Mem H w0 (refR g b0 b1 b2 :: L) w) :
    Calls Try.prog 12 #[.pointer (some ⟨g, 4, none⟩), .int .i64 x] w fun en w' => ∃ v, en = .returned v ∧ v = .int .i64 (bpost b1 x).1 ∧ Mem H w0 (refR g b0 (bpost b1 x).2 b2 :: L) w' := by
  obtain ⟨A0, c0, A1, c1, A2, c2, hM⟩ := hM.ref
  refine C_bevyref18_Box_Post ?_
  unfold F_bevyref18_Box_Post
  unfold bpost
  ((with_reducible (refine mop_c trivial ?_; refine mop_c trivial ?_; refine mm_ld hM ?_)))
  cases hcl : b1.cl
  · rw [if_neg (by simp)]
    ((with_reducible (refine mif_false ?_; refine dp_c trivial ?_; refine dp_c trivial ?_; refine dm_ld hM ?_; (iterate 3 refine dp_c trivial ?_); refine dm_ld hM ?_)))
    by_cases hroom : b1.xs.length < b1.room
    · rw [if_pos hroom]
      ((with_reducible (refine dp_cF trivial ?_ ?_)); (focus (first | assumption | omega | with_reducible rfl | exact fun h => Bool.noConfusion h)); (with_reducible (refine mm_end hM ?_; clear hM; intro _ hM; refine mif_false ?_; refine mop_c trivial ?_; refine mop_c trivial ?_; refine mm_ld hM ?_; refine mm_bsl hM ?_ ?_ ?_)); (focus rfl); (focus (constructor <;> simp)); (with_reducible (clear hM; intro _ _ hM)))
      refine mm_appO hM (by omega) (fun A' c' w2 hM => ?_)
      rw [isnoc] at hM
      ((with_reducible (refine mop_c trivial ?_; refine mop_c trivial ?_; refine mm_st hM ?_; clear hM; intro _ hM)))
      refine ⟨_, rfl, rfl, Mem.unref (A0 := A0) (c0 := c0) (A1 := A') (c1 := c') (A2 := A2) (c2 := c2) ?_⟩
      rw [hcl] at hM
      simp only [m3, List.length_append, List.length_cons, List.length_nil, Nat.zero_add] at hM ⊢
      exact hM.sub
    · rw [if_neg hroom]
      ((with_reducible (refine dp_cT trivial ?_ ?_)); (focus (first | assumption | omega | with_reducible rfl | exact fun h => Bool.noConfusion h)); (with_reducible (refine mm_end hM ?_; clear hM; intro _ hM; refine mif_true ?_; refine mop_c trivial ?_; refine mop_c trivial ?_; refine mm_ld hM ?_; refine mop_c ?_ ?_)); (focus omega); (with_reducible (refine mop_c trivial ?_; refine mop_c trivial ?_; refine mm_st hM ?_; clear hM; intro _ hM)))
      refine ⟨_, rfl, rfl, Mem.unref (A0 := A0) (c0 := c0) (A1 := A1) (c1 := c1) (A2 := A2) (c2 := c2) ?_⟩
      rw [hcl] at hM
      simp only [m3, Int.natCast_add, Int.cast_ofNat_Int] at hM ⊢
      exact hM.sub
  · rw [if_pos rfl]
    ((with_reducible (refine mif_true ?_)))
    exact ⟨_, rfl, rfl, hM.unref⟩
theorem rtake1_ok (hM : Mem H w0 (refR g b0 b1 b2 :: L) w) :
    Calls Try.prog 13 #[.pointer (some ⟨g, 4, none⟩)] w fun en w' => ∃ v, en = .returned v ∧ v = .tuple #[.int .i64 (b1.xs.headD 0), .bool (!b1.xs.isEmpty)] ∧ Mem H w0 (refR g b0 b1.pop b2 :: L) w' := by
  obtain ⟨A0, c0, A1, c1, A2, c2, hM⟩ := hM.ref
  refine C_bevyref18_Box_Take ?_
  unfold F_bevyref18_Box_Take
  ((with_reducible (refine mop_c trivial ?_; refine mop_c trivial ?_; refine mm_ld hM ?_; refine mop_c trivial ?_)))
  ((with_reducible (refine mop_cS trivial ?_ ?_)))
  · intro h
    have hx : b1.xs = [] := List.eq_nil_of_length_eq_zero (by omega)
    ((with_reducible (refine mif_true ?_)))
    rw [Bx.pop_nil hx]
    exact ⟨_, rfl, by rw [hx]; rfl, hM.unref⟩
  · intro h
    obtain ⟨y, rest, hx⟩ : ∃ y rest, b1.xs = y :: rest := by
      cases hx : b1.xs with
      | nil => rw [hx] at h; simp at h
      | cons y rest => exact ⟨y, rest, rfl⟩
    have hl : b1.xs.length = rest.length + 1 := by rw [hx]; rfl
    have e : i64s b1.xs = [.one (.int .i64 y)] :: i64s rest := by rw [hx]; rfl
    ((with_reducible (refine mif_false ?_; refine mop_c trivial ?_; refine mop_c trivial ?_; refine mm_ld hM ?_)))
    refine mm_ixo hM (by omega) ?_
    intro g5 o5 hA
    subst hA
    rw [e] at hM
    refine mm_ldo0 (k := 0) hM rfl ?_
    ((with_reducible (refine mop_c trivial ?_; refine mop_c trivial ?_; refine mm_ld hM ?_)))
    refine mm_tlo hM (by simp; omega) ?_
    intro A' c' hM
    ((with_reducible (refine mop_c trivial ?_; refine mop_c trivial ?_; refine mm_st hM ?_; clear hM; intro _ hM)))
    refine ⟨_, rfl, by rw [hx]; rfl, Mem.unref (A0 := A0) (c0 := c0) (A1 := A') (c1 := c') (A2 := A2) (c2 := c2) ?_⟩
    simp only [m3, Bx.pop, hx, List.tail_cons, List.length_map] at hM ⊢
    exact hM.sub
theorem rpost2_ok (x : Int) (hb : b2.xs.length ≤ 100000 ∧ b2.lost < 100000) (hM : Mem H w0 (refR g b0 b1 b2 :: L) w) :
    Calls Try.prog 12 #[.pointer (some ⟨g, 8, none⟩), .int .i64 x] w fun en w' => ∃ v, en = .returned v ∧ v = .int .i64 (bpost b2 x).1 ∧ Mem H w0 (refR g b0 b1 (bpost b2 x).2 :: L) w' := by
  obtain ⟨A0, c0, A1, c1, A2, c2, hM⟩ := hM.ref
  refine C_bevyref18_Box_Post ?_
  unfold F_bevyref18_Box_Post
  unfold bpost
  ((with_reducible (refine mop_c trivial ?_; refine mop_c trivial ?_; refine mm_ld hM ?_)))
  cases hcl : b2.cl
  · rw [if_neg (by simp)]
    ((with_reducible (refine mif_false ?_; refine dp_c trivial ?_; refine dp_c trivial ?_; refine dm_ld hM ?_; (iterate 3 refine dp_c trivial ?_); refine dm_ld hM ?_)))
    by_cases hroom : b2.xs.length < b2.room
    · rw [if_pos hroom]
      ((with_reducible (refine dp_cF trivial ?_ ?_)); (focus (first | assumption | omega | with_reducible rfl | exact fun h => Bool.noConfusion h)); (with_reducible (refine mm_end hM ?_; clear hM; intro _ hM; refine mif_false ?_; refine mop_c trivial ?_; refine mop_c trivial ?_; refine mm_ld hM ?_; refine mm_bsl hM ?_ ?_ ?_)); (focus rfl); (focus (constructor <;> simp)); (with_reducible (clear hM; intro _ _ hM)))
      refine mm_appO hM (by omega) (fun A' c' w2 hM => ?_)
      rw [isnoc] at hM
      ((with_reducible (refine mop_c trivial ?_; refine mop_c trivial ?_; refine mm_st hM ?_; clear hM; intro _ hM)))
      refine ⟨_, rfl, rfl, Mem.unref (A0 := A0) (c0 := c0) (A1 := A1) (c1 := c1) (A2 := A') (c2 := c') ?_⟩
      rw [hcl] at hM
      simp only [m3, List.length_append, List.length_cons, List.length_nil, Nat.zero_add] at hM ⊢
      exact hM.sub
    · rw [if_neg hroom]
      ((with_reducible (refine dp_cT trivial ?_ ?_)); (focus (first | assumption | omega | with_reducible rfl | exact fun h => Bool.noConfusion h)); (with_reducible (refine mm_end hM ?_; clear hM; intro _ hM; refine mif_true ?_; refine mop_c trivial ?_; refine mop_c trivial ?_; refine mm_ld hM ?_; refine mop_c ?_ ?_)); (focus omega); (with_reducible (refine mop_c trivial ?_; refine mop_c trivial ?_; refine mm_st hM ?_; clear hM; intro _ hM)))
      refine ⟨_, rfl, rfl, Mem.unref (A0 := A0) (c0 := c0) (A1 := A1) (c1 := c1) (A2 := A2) (c2 := c2) ?_⟩
      rw [hcl] at hM
      simp only [m3, Int.natCast_add, Int.cast_ofNat_Int] at hM ⊢
      exact hM.sub
  · rw [if_pos rfl]
    ((with_reducible (refine mif_true ?_)))
    exact ⟨_, rfl, rfl, hM.unref⟩
theorem rtake2_ok (hM : Mem H w0 (refR g b0 b1 b2 :: L) w) :
    Calls Try.prog 13 #[.pointer (some ⟨g, 8, none⟩)] w fun en w' => ∃ v, en = .returned v ∧ v = .tuple #[.int .i64 (b2.xs.headD 0), .bool (!b2.xs.isEmpty)] ∧ Mem H w0 (refR g b0 b1 b2.pop :: L) w' := by
  obtain ⟨A0, c0, A1, c1, A2, c2, hM⟩ := hM.ref
  refine C_bevyref18_Box_Take ?_
  unfold F_bevyref18_Box_Take
  ((with_reducible (refine mop_c trivial ?_; refine mop_c trivial ?_; refine mm_ld hM ?_; refine mop_c trivial ?_)))
  ((with_reducible (refine mop_cS trivial ?_ ?_)))
  · intro h
    have hx : b2.xs = [] := List.eq_nil_of_length_eq_zero (by omega)
    ((with_reducible (refine mif_true ?_)))
    rw [Bx.pop_nil hx]
    exact ⟨_, rfl, by rw [hx]; rfl, hM.unref⟩
  · intro h
    obtain ⟨y, rest, hx⟩ : ∃ y rest, b2.xs = y :: rest := by
      cases hx : b2.xs with
      | nil => rw [hx] at h; simp at h
      | cons y rest => exact ⟨y, rest, rfl⟩
    have hl : b2.xs.length = rest.length + 1 := by rw [hx]; rfl
    have e : i64s b2.xs = [.one (.int .i64 y)] :: i64s rest := by rw [hx]; rfl
    ((with_reducible (refine mif_false ?_; refine mop_c trivial ?_; refine mop_c trivial ?_; refine mm_ld hM ?_)))
    refine mm_ixo hM (by omega) ?_
    intro g5 o5 hA
    subst hA
    rw [e] at hM
    refine mm_ldo0 (k := 0) hM rfl ?_
    ((with_reducible (refine mop_c trivial ?_; refine mop_c trivial ?_; refine mm_ld hM ?_)))
    refine mm_tlo hM (by simp; omega) ?_
    intro A' c' hM
    ((with_reducible (refine mop_c trivial ?_; refine mop_c trivial ?_; refine mm_st hM ?_; clear hM; intro _ hM)))
    refine ⟨_, rfl, by rw [hx]; rfl, Mem.unref (A0 := A0) (c0 := c0) (A1 := A1) (c1 := c1) (A2 := A') (c2 := c') ?_⟩
    simp only [m3, Bx.pop, hx, List.tail_cons, List.length_map] at hM ⊢
    exact hM.sub
end
end Go.Proofs.Ytihelggfpeokbaa
