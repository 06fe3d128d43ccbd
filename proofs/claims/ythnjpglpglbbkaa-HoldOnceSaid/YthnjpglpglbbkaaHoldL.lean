/- Hold: the laws' walks: HoldNil. -/
import Derived.Test.YthnjpglpglbbkaaHoldR
namespace Go.Proofs.Ythnjpglpglbbkaa
open Go.RowKit

section
variable {H : Hp} {w0 w : World} {L R : List Res}
theorem nput_ok (x : Item) (hf : Fz H w) : Calls Try.prog 16 #[.pointer none, iv x] w fun en w' => en = .returned (.int .i64 1) ∧ St w [] w' := by
  have hM := Mem.start hf
  refine C_hold_Hold_Put ?_
  unfold F_hold_Hold_Put
  ((with_reducible (refine mm_box hM ?_; clear hM; intro _ _ hM; refine mop_c trivial ?_; refine mif_true ?_)))
  exact ⟨rfl, hM.st⟩
theorem nhas_ok (a : H32) (hf : Fz H w) : Calls Try.prog 44 #[.pointer none, ha a] w fun en w' => en = .returned (.bool false) ∧ St w [] w' := by
  have hM := Mem.start hf
  refine C_hold_Hold_Has ?_
  unfold F_hold_Hold_Has
  ((with_reducible (refine mm_box hM ?_; clear hM; intro _ _ hM; refine mop_c trivial ?_; (iterate 6 refine mguard_n2 ?_); refine mop_c trivial ?_)))
  exact ⟨rfl, hM.st⟩
theorem npart_ok (c : Value) (hf : Fz H w) : Calls Try.prog 79 #[.pointer none, c] w fun en w' => en = .returned (.slice none 0 0) ∧ St w [] w' := by
  have hM := Mem.start hf
  refine C_hold_Hold_part ?_
  unfold F_hold_Hold_part
  ((with_reducible (refine mop_c trivial ?_; refine mif_true ?_)))
  exact ⟨rfl, hM.st⟩
theorem ntake_ok (a : H32) (hf : Fz H w) : Calls Try.prog 20 #[.pointer none, ha a] w fun en w' => en = .returned (.slice none 0 0) ∧ St w [] w' := by
  have hM := Mem.start hf
  refine C_hold_Hold_Take ?_
  unfold F_hold_Hold_Take
  ((with_reducible (refine mm_box hM ?_; clear hM; intro _ _ hM; refine mop_c trivial ?_)))
  refine mm_pure hM (npart_ok _ hM.fz) (fun w hM => ?_)
  exact ⟨rfl, hM.st⟩
theorem ndrop_ok (a : Int) (hf : Fz H w) : Calls Try.prog 43 #[.pointer none, .int .i64 a] w fun en w' => en = .returned (.int .i64 0) ∧ St w [] w' := by
  have hM := Mem.start hf
  refine C_hold_Hold_Drop ?_
  unfold F_hold_Hold_Drop
  ((with_reducible (refine mm_box hM ?_; clear hM; intro _ _ hM; refine mop_c trivial ?_)))
  refine mm_pure hM (npart_ok _ hM.fz) (fun w hM => ?_)
  ((with_reducible (refine mop_c trivial ?_)))
  exact ⟨rfl, hM.st⟩
theorem nlen_ok (hf : Fz H w) : Calls Try.prog 18 #[.pointer none] w fun en w' => en = .returned (.int .i64 0) ∧ St w [] w' := by
  have hM := Mem.start hf
  refine C_hold_Hold_Len ?_
  unfold F_hold_Hold_Len
  ((with_reducible (refine mop_c trivial ?_; refine mif_true ?_)))
  exact ⟨rfl, hM.st⟩
theorem nall_ok (hf : Fz H w) : Calls Try.prog 46 #[.pointer none] w fun en w' => en = .returned (.slice none 0 0) ∧ St w [] w' := by
  have hM := Mem.start hf
  refine C_hold_Hold_All ?_
  unfold F_hold_Hold_All
  ((with_reducible (refine mop_c trivial ?_; refine mif_true ?_)))
  exact ⟨rfl, hM.st⟩
abbrev ex1 : Item := ⟨hset h0 0 1, hset h0 0 9, 0, ByteArray.mk #[97]⟩
abbrev ex2 : Item := ⟨hset h0 0 2, hset h0 0 9, 0, ByteArray.mk #[]⟩
theorem put1_eq : putL 1 [] ex1 = ([ex1], 0) := by decide
theorem put2_eq : putL 1 [ex1] ex2 = ([ex1], 9) := by decide
theorem take_eq : ([ex1].filter fun y => decide (y.wait = hset h0 0 9)) = [ex1] := by decide
theorem take_eq' : ([ex1].filter fun y => !decide (y.wait = hset h0 0 9)) = [] := by decide
theorem hawake_ok (hf : Fz H w) : Calls Try.prog 14 #[] w fun en w' => en = .returned (.bool true) ∧ St w [] w' := by
  have hM := Mem.start hf
  refine C_bevylaw16_awake ?_
  unfold F_bevylaw16_awake
  refine mm_own (new_ok 1 (by omega) hM) ?_
  rintro v w1 ⟨g, rfl, hM⟩
  ((with_reducible (refine mop_c trivial ?_; refine mop_c trivial ?_; refine mop_c ?_ ?_)); (focus (simp only [and_true]; omega)); (with_reducible (refine mop_c ?_ ?_)); (focus (simp only [and_true]; omega)); (with_reducible (refine mop_c trivial ?_)))
  refine mm_own (put_ok g 1 [] ex1 (by simp) hM) ?_
  rintro v w2 ⟨rfl, hM⟩
  rw [put1_eq] at hM ⊢
  ((with_reducible (refine mop_c ?_ ?_)); (focus (simp only [and_true]; omega)); (with_reducible (refine mop_c ?_ ?_)); (focus (simp only [and_true]; omega)); (with_reducible (refine mop_c trivial ?_)))
  refine mm_own (put_ok g 1 [ex1] ex2 (by simp) hM) ?_
  rintro v w3 ⟨rfl, hM⟩
  rw [put2_eq] at hM ⊢
  ((with_reducible (refine mop_c ?_ ?_)); (focus (simp only [and_true]; omega)))
  refine mm_own (take_ok g 1 [ex1] (hset h0 0 9) (by simp) hM) ?_
  rintro v w4 ⟨H', A, cap, rfl, hl, hs, hM⟩
  rw [take_eq] at hs ⊢
  rw [take_eq'] at hM
  ((with_reducible (refine mop_cT trivial ?_ ?_)); (focus (first | assumption | omega)); (with_reducible (refine mguard_yes ?_; refine mop_c trivial ?_; refine mguard_yes ?_; refine mop_cT trivial ?_ ?_)); (focus (first | assumption | omega)); (with_reducible (refine mop_c trivial ?_; refine mguard_yes ?_; refine mop_c trivial ?_; refine mguard_yes ?_; refine mop_cT trivial ?_ ?_)); (focus (first | assumption | omega)); (with_reducible (refine mop_c trivial ?_; refine mguard_yes ?_; refine mop_c trivial ?_; refine mguard_yes ?_; refine mop_c trivial ?_; refine mguard_yes ?_)))
  have e1 : ([ex1] : List Item).length = 1 := rfl
  rw [e1]
  ((with_reducible (refine mop_cT trivial ?_ ?_)); (focus (first | assumption | omega)); (with_reducible (refine mop_c trivial ?_; refine mguard_yes ?_; refine mop_c trivial ?_; refine mguard_yes ?_)); (with_reducible refine mm_ixs ‹_› ?_ ?_ ?_); (focus (simp only [List.length_map]; omega)); (focus (simp only [List.length_map]; first | done | omega)); (with_reducible (intro _ _ hA)); (cases hA); (with_reducible (refine mguard_yes ?_; refine mop_c trivial ?_; refine mguard_yes ?_)); (with_reducible refine mm_lds hM ‹_› (map_at ?_) ?_); (focus omega); (with_reducible (refine mguard_yes ?_)))
  refine mop_cT trivial rfl ?_
  ((with_reducible (refine mop_c trivial ?_; refine mguard_yes ?_; refine mop_c trivial ?_; refine mguard_yes ?_)))
  refine mop_same (len_ok g 1 [] hM) (by kernel_rfl) ?_
  refine mguard_yes ?_
  refine mop_cT trivial rfl ?_
  ((with_reducible (refine mop_c trivial ?_)))
  exact ⟨rfl, hM.st⟩
theorem holdNil_ok (x : Item) (hf : Fz H w) : Calls Try.prog 8 #[iv x] w fun en w' => en = .returned (.bool true) ∧ St w [] w' := by
  have hM := Mem.start hf
  refine C_bevylaw16_HoldNil ?_
  unfold F_bevylaw16_HoldNil
  ((with_reducible (refine mm_box hM ?_; clear hM; intro _ _ hM)))
  refine mm_pure hM (hawake_ok hM.fz) (fun w1 hM => ?_)
  ((with_reducible (refine mguard_yes ?_; refine mop_c trivial ?_; refine mguard_yes ?_; refine mm_ld hM ?_; refine mguard_yes ?_)))
  refine mm_pure hM (item_ok x hM.fz) (fun w1 hM => ?_)
  ((with_reducible (refine mguard_yes ?_)))
  refine mm_pure hM (nput_ok x hM.fz) (fun w1 hM => ?_)
  ((with_reducible (refine mguard_yes ?_; refine mop_cT trivial ?_ ?_)); (focus (first | assumption | omega)); (with_reducible (refine mop_c trivial ?_; refine mguard_yes ?_; refine mop_c trivial ?_; refine mguard_yes ?_; refine mop_c trivial ?_; refine mguard_yes ?_; refine mm_ld hM ?_; refine mguard_yes ?_)))
  refine mm_pure hM (nhas_ok x.id hM.fz) (fun w1 hM => ?_)
  ((with_reducible (refine mguard_yes ?_; refine mop_c trivial ?_; refine mop_c trivial ?_; refine mguard_yes ?_; refine mop_c trivial ?_; refine mguard_yes ?_; refine mop_c trivial ?_; refine mguard_yes ?_; refine mm_ld hM ?_; refine mguard_yes ?_)))
  refine mm_pure hM (ntake_ok x.wait hM.fz) (fun w1 hM => ?_)
  ((with_reducible (refine mguard_yes ?_; refine mop_c trivial ?_; refine mguard_yes ?_; refine mop_cT trivial ?_ ?_)); (focus (first | assumption | omega)); (with_reducible (refine mop_c trivial ?_; refine mguard_yes ?_; refine mop_c trivial ?_; refine mguard_yes ?_; refine mop_c trivial ?_; refine mguard_yes ?_; refine mm_ld hM ?_; refine mguard_yes ?_)))
  refine mm_pure hM (ndrop_ok x.depth hM.fz) (fun w1 hM => ?_)
  ((with_reducible (refine mguard_yes ?_; refine mop_cT trivial ?_ ?_)); (focus (first | assumption | omega)); (with_reducible (refine mop_c trivial ?_; refine mguard_yes ?_; refine mop_c trivial ?_; refine mguard_yes ?_)))
  refine mm_pure hM (nlen_ok hM.fz) (fun w1 hM => ?_)
  ((with_reducible (refine mguard_yes ?_; refine mop_cT trivial ?_ ?_)); (focus (first | assumption | omega)); (with_reducible (refine mop_c trivial ?_; refine mguard_yes ?_; refine mop_c trivial ?_; refine mguard_yes ?_)))
  refine mm_pure hM (nall_ok hM.fz) (fun w1 hM => ?_)
  ((with_reducible (refine mguard_yes ?_; refine mop_c trivial ?_; refine mguard_yes ?_; refine mop_cT trivial ?_ ?_)); (focus (first | assumption | omega)); (with_reducible (refine mop_c trivial ?_)))
  exact ⟨rfl, hM.st⟩
end
end Go.Proofs.Ythnjpglpglbbkaa
