/- Change: the document's example; three laws walked. -/
import Derived.Test.YtmjpbomonhjebaaCh2
namespace Go.Proofs.Ytmjpbomonhjebaa
open Go.RowKit

abbrev pA : Prp := ⟨hzero, 0, 3, 1, 2, 3, hzero, hzero⟩
abbrev pB : Prp := ⟨hzero, 0, 3, 2, 3, 2, hzero, hzero⟩
abbrev p0 : Prp := ⟨hzero, 0, 0, 0, 0, 0, hzero, hzero⟩
theorem checks_signed (p : Prp) (k : H32) (h : p.right) : (p.signed (verV k)).checks (verV k) := ⟨h, rfl⟩
theorem lt_irr (p : Prp) : ¬ p.lt p := by unfold Prp.lt; omega
theorem lt_asy {p q : Prp} (h : p.lt q) : ¬ q.lt p := by unfold Prp.lt at *; omega
theorem lt_tra {p q s : Prp} (h : p.lt q) (h2 : q.lt s) : p.lt s := by unfold Prp.lt at *; omega
section
variable {H : Hp} {w0 w : World} {L R : List Res} {g : Nat}
theorem lverify_ok (k : H32) (w : World) : Calls Try.prog 22 #[ha k] w fun en w' => en = .returned (.agg (u8s (verV k).1).toArray) ∧ St w [] w' := by
  have hM := Mem.start (Fz.of w)
  refine C_bevylaw10_verify ?_
  unfold F_bevylaw10_verify
  ((with_reducible (refine mm_box hM ?_; clear hM; intro _ _ hM; refine mm_new hM ?_; clear hM; intro _ _ hM; refine mm_ld hM ?_; refine mm_purC hM ?_ ?_)); (focus (first | exact trivial | assumption | omega)); (with_reducible (clear hM; intro _ hM; refine mm_st hM ?_; clear hM; intro _ hM; refine rm_ld hM ?_)))
  exact ⟨rfl, hM.st⟩
instance (k : H32) : PurC Try.prog 22 [.agg (u8s k.1).toArray] True (.agg (u8s (verV k).1).toArray) := ⟨fun _ w => lverify_ok k w⟩
theorem dp_neb {K : Value → Prop} (b : Bool) (hk : K (.bool false)) : dp Try.prog (o_bin .neq 4 false (.bool b) (.bool b)) K := by
  refine dp_pur (v := .bool false) (fun w => ?_) hk
  cases b <;> kernel_rfl
theorem awake_ok (w : World) : Calls Try.prog 17 #[] w fun en w' => en = .returned (.bool true) ∧ St w [] w' := by
  have hM := Mem.start (Fz.of w)
  refine C_bevylaw10_awake ?_
  unfold F_bevylaw10_awake
  ((with_reducible (refine mop_c trivial ?_; refine mop_c trivial ?_; refine mm_new hM ?_; clear hM; intro _ _ hM; refine mm_st hM ?_; clear hM; intro _ hM; refine mop_c trivial ?_; refine mop_c trivial ?_; refine mm_new hM ?_; clear hM; intro _ _ hM; refine mm_st hM ?_; clear hM; intro _ hM; refine mop_c ?_ ?_)); (focus (simp only [and_true]; omega)); (with_reducible (refine mm_new hM ?_; clear hM; intro _ _ hM; refine mm_st hM ?_; clear hM; intro _ hM; refine dm_ld hM ?_; refine dm_ld hM ?_)))
  refine dm_pure hM (fun w _ => less_ok pA pB w) (fun w2 _ hM => ?_)
  rw [decide_eq_true (show pA.lt pB by decide)]
  ((with_reducible (refine qguard_yes ?_; refine dm_ld hM ?_; refine qguard_yes ?_; refine dm_ld hM ?_; refine mguard_yes ?_)))
  refine dm_pure hM (fun w _ => less_ok pB pA w) (fun w2 _ hM => ?_)
  rw [decide_eq_false (show ¬ pB.lt pA by decide)]
  ((with_reducible (refine qguard_yes ?_; refine dp_c trivial ?_; refine dp_c trivial ?_; refine qguard_yes ?_; refine dm_ld hM ?_; refine qguard_yes ?_; refine dm_ld hM ?_; refine mguard_yes ?_)))
  refine dm_pure hM (fun w _ => csign_ok pA (hset hzero 0 1) w) (fun w2 _ hM => ?_)
  have hA : pA.right := by decide
  unfold signP
  rw [if_pos hA]
  ((with_reducible (refine qguard_yes ?_)); (with_reducible refine dm_ld ‹Mem _ _ _ _› ?_); (with_reducible (refine mguard_yes ?_; refine dm_purC hM ?_ (fun _ _ hM => ?_))); (focus (first | exact trivial | assumption | omega)); (with_reducible (refine mguard_yes ?_)))
  refine dm_pure hM (fun w _ => ccheck_ok (pA.signed (verV (hset hzero 0 1))) (verV (hset hzero 0 1)) w) (fun w2 _ hM => ?_)
  rw [decide_eq_true (checks_signed pA (hset hzero 0 1) hA)]
  ((with_reducible (refine dp_c trivial ?_; refine qguard_yes ?_; refine dm_ld hM ?_; refine mguard_yes ?_)))
  refine dm_pure hM (fun w _ => right_ok pB w) (fun w2 _ hM => ?_)
  rw [decide_eq_true (show pB.right by decide)]
  ((with_reducible (refine dp_c trivial ?_; refine qguard_yes ?_; refine dp_c trivial ?_; refine mguard_yes ?_)))
  refine dm_pure hM (fun w _ => right_ok p0 w) (fun w2 _ hM => ?_)
  rw [decide_eq_false (show ¬ p0.right by decide)]
  ((with_reducible (refine qguard_yes ?_; refine dp_c trivial ?_; refine dp_c trivial ?_; refine mm_end hM ?_; clear hM; intro _ hM)))
  exact ⟨rfl, hM.st⟩
instance : PurC Try.prog 17 [] True (.bool true) := ⟨fun _ w => awake_ok w⟩
theorem changeRights_ok {H : Hp} (p : Prp) (hf : Fz H w) : Calls Try.prog 5 #[prv p] w fun en w' => en = .returned (.bool true) ∧ St w [] w' := by
  have hM := Mem.start hf
  refine C_bevylaw10_ChangeRights ?_
  unfold F_bevylaw10_ChangeRights
  by_cases h : p.right
  · ((with_reducible (refine mm_box hM ?_; clear hM; intro _ _ hM; refine mm_ld hM ?_; refine mm_purC hM ?_ ?_)); (focus (first | exact trivial | assumption | omega)); (with_reducible (clear hM; intro _ hM; refine dm_purC hM ?_ (fun _ _ hM => ?_))); (focus (first | exact trivial | assumption | omega)); (with_reducible (refine qguard_yes ?_; refine dm_ld hM ?_; refine mguard_yes ?_; refine dm_purC hM ?_ (fun _ _ hM => ?_))); (focus (first | exact trivial | assumption | omega)); (with_reducible (refine qguard_yes ?_; refine dp_c trivial ?_; refine qguard_yes ?_; refine dp_cT trivial ?_ ?_)); (focus (first | assumption | omega | with_reducible rfl | exact fun h => Bool.noConfusion h)); (with_reducible (refine dp_c trivial ?_; refine qguard_yes ?_; refine dp_c trivial ?_; refine qguard_yes ?_; refine dp_c trivial ?_)))
    rw [decide_eq_true h]
    ((with_reducible (refine qguard_yes ?_; refine dm_ld hM ?_; refine mguard_yes ?_; refine dm_purC hM ?_ (fun _ _ hM => ?_))); (focus (first | exact trivial | assumption | omega)); (with_reducible (refine qguard_yes ?_)); (with_reducible refine dm_ld ‹Mem _ _ _ _› ?_); (with_reducible (refine mguard_yes ?_; refine dm_purC hM ?_ (fun _ _ hM => ?_))); (focus (first | exact trivial | assumption | omega)); (with_reducible (refine qguard_yes ?_)))
    rw [if_pos h]
    ((with_reducible (refine dp_cT trivial ?_ ?_)); (focus (first | assumption | omega | with_reducible rfl | exact fun h => Bool.noConfusion h)); (with_reducible (refine qguard_yes ?_; refine dp_c trivial ?_; refine qguard_yes ?_; refine dp_c trivial ?_; (iterate 3 refine qguard_n1 ?_); refine qguard_un ?_; refine mguard_un ?_; refine qguard_un ?_; refine qguard_n1 ?_; refine qguard_yes ?_; refine dp_c trivial ?_; refine dp_c trivial ?_; refine mm_end hM ?_; clear hM; intro _ hM)))
    exact ⟨rfl, hM.st⟩
  · ((with_reducible (refine mm_box hM ?_; clear hM; intro _ _ hM; refine mm_ld hM ?_; refine mm_purC hM ?_ ?_)); (focus (first | exact trivial | assumption | omega)); (with_reducible (clear hM; intro _ hM; refine dm_purC hM ?_ (fun _ _ hM => ?_))); (focus (first | exact trivial | assumption | omega)); (with_reducible (refine qguard_yes ?_; refine dm_ld hM ?_; refine mguard_yes ?_; refine dm_purC hM ?_ (fun _ _ hM => ?_))); (focus (first | exact trivial | assumption | omega)); (with_reducible (refine qguard_yes ?_; refine dp_c trivial ?_; refine qguard_yes ?_; refine dp_cT trivial ?_ ?_)); (focus (first | assumption | omega | with_reducible rfl | exact fun h => Bool.noConfusion h)); (with_reducible (refine dp_c trivial ?_; refine qguard_yes ?_; refine dp_c trivial ?_; refine qguard_yes ?_; refine dp_c trivial ?_)))
    rw [decide_eq_false h]
    ((with_reducible (refine qguard_n2 ?_; refine mguard_n2 ?_; refine qguard_n2 ?_; refine mguard_n2 ?_; refine qguard_n2 ?_; refine qguard_yes ?_; refine dp_c trivial ?_; refine qguard_yes ?_; refine dp_c trivial ?_; refine qguard_yes ?_; refine dp_c trivial ?_; refine qguard_yes ?_; refine dp_c trivial ?_; refine qguard_yes ?_; refine dp_c trivial ?_; refine qguard_yes ?_; refine dm_ld hM ?_; refine mguard_yes ?_; refine dm_purC hM ?_ (fun _ _ hM => ?_))); (focus (first | exact trivial | assumption | omega)); (with_reducible (refine qguard_yes ?_)))
    rw [if_neg h]
    ((with_reducible (refine dp_cT trivial ?_ ?_)); (focus (first | assumption | omega | with_reducible rfl | exact fun h => Bool.noConfusion h)); (with_reducible (refine qguard_yes ?_; refine dp_c trivial ?_; refine qguard_yes ?_; refine dp_c trivial ?_; refine dp_c trivial ?_; refine mm_end hM ?_; clear hM; intro _ hM)))
    exact ⟨rfl, hM.st⟩
theorem changeOrders_ok {H : Hp} (p q s : Prp) (hf : Fz H w) : Calls Try.prog 3 #[prv p, prv q, prv s] w fun en w' => en = .returned (.bool true) ∧ St w [] w' := by
  have hM := Mem.start hf
  refine C_bevylaw10_ChangeOrders ?_
  unfold F_bevylaw10_ChangeOrders
  ((with_reducible (refine mm_box hM ?_; clear hM; intro _ _ hM; refine mm_box hM ?_; clear hM; intro _ _ hM; refine mm_box hM ?_; clear hM; intro _ _ hM)))
  refine ⟨fun x w' => x = .bool false ∧ hM.now w', ?_, ?_⟩
  · ((with_reducible (refine dm_ld hM ?_; refine dm_ld hM ?_; refine dm_purC hM ?_ (fun _ _ hM => ?_))); (focus (first | exact trivial | assumption | omega)); (with_reducible refine dm_ld ‹Mem _ _ _ _› ?_); (with_reducible refine dm_ld ‹Mem _ _ _ _› ?_); (with_reducible (refine dm_purC hM ?_ (fun _ _ hM => ?_))); (focus (first | exact trivial | assumption | omega)))
    refine dp_neb _ ?_
    ((with_reducible (refine qguard_yes ?_; refine dm_ld hM ?_; refine qguard_yes ?_; refine dm_ld hM ?_; refine mguard_yes ?_; refine dm_purC hM ?_ (fun _ _ hM => ?_))); (focus (first | exact trivial | assumption | omega)); (with_reducible (refine dp_c trivial ?_)))
    rw [decide_eq_false (lt_irr p)]
    ((with_reducible (refine qguard_yes ?_; refine dm_ld hM ?_; refine qguard_yes ?_; refine dm_ld hM ?_; refine mguard_yes ?_; refine dm_purC hM ?_ (fun _ _ hM => ?_))); (focus (first | exact trivial | assumption | omega)); (with_reducible (refine qguard_yes ?_; refine dp_c trivial ?_)))
    by_cases h : p.lt q
    · rw [decide_eq_true h]
      ((with_reducible (refine qguard_yes ?_; refine dm_ld hM ?_; refine qguard_yes ?_; refine dm_ld hM ?_; refine mguard_yes ?_; refine dm_purC hM ?_ (fun _ _ hM => ?_))); (focus (first | exact trivial | assumption | omega)); (with_reducible (refine qguard_yes ?_; refine dp_c trivial ?_; refine dp_c trivial ?_; refine mm_end hM ?_; clear hM; intro _ hM)))
      rw [decide_eq_false (lt_asy h)]
      skip
      exact ⟨rfl, hM⟩
    · rw [decide_eq_false h]
      ((with_reducible (refine qguard_n2 ?_; refine qguard_n2 ?_; refine mguard_n2 ?_; refine qguard_yes ?_; refine dp_c trivial ?_; refine dp_c trivial ?_; refine mm_end hM ?_; clear hM; intro _ hM)))
      exact ⟨rfl, hM⟩
  · rintro x u w2 ⟨rfl, hM⟩
    ((with_reducible (refine mif_false ?_; refine mm_purC hM ?_ ?_)); (focus (first | exact trivial | assumption | omega)); (with_reducible (clear hM; intro _ hM; refine mguard_yes ?_; refine mm_ld hM ?_; refine mguard_yes ?_; refine mm_ld hM ?_; refine mguard_yes ?_; refine mm_purC hM ?_ ?_)); (focus (first | exact trivial | assumption | omega)); (with_reducible (clear hM; intro _ hM; refine mguard_yes ?_; refine mop_c trivial ?_; refine mguard_yes ?_; refine mop_c trivial ?_)))
    by_cases h : p.lt q
    · rw [decide_eq_true h]
      simp only [Bool.not_true]
      ((with_reducible (refine mguard_yes ?_; refine mm_ld hM ?_; refine mguard_yes ?_; refine mm_ld hM ?_; refine mguard_yes ?_; refine mm_purC hM ?_ ?_)); (focus (first | exact trivial | assumption | omega)); (with_reducible (clear hM; intro _ hM; refine mguard_yes ?_; refine mop_c trivial ?_; refine mguard_yes ?_; refine mop_c trivial ?_; refine mguard_yes ?_; refine mop_c trivial ?_)))
      by_cases h2 : q.lt s
      · rw [decide_eq_true h2]
        simp only [Bool.not_true]
        ((with_reducible (refine mguard_yes ?_; refine mm_ld hM ?_; refine mguard_yes ?_; refine mm_ld hM ?_; refine mguard_yes ?_; refine mm_purC hM ?_ ?_)); (focus (first | exact trivial | assumption | omega)); (with_reducible (clear hM; intro _ hM; refine mguard_yes ?_; refine mop_c trivial ?_; refine mop_c trivial ?_)))
        rw [decide_eq_true (lt_tra h h2)]
        skip
        exact ⟨rfl, hM.st⟩
      · rw [decide_eq_false h2]
        simp only [Bool.not_false]
        ((with_reducible ((iterate 3 refine mguard_n1 ?_); refine mguard_yes ?_; refine mop_c trivial ?_; refine mop_c trivial ?_)))
        exact ⟨rfl, hM.st⟩
    · rw [decide_eq_false h]
      simp only [Bool.not_false]
      ((with_reducible ((iterate 4 refine mguard_n1 ?_); refine mguard_yes ?_; refine mop_c trivial ?_; refine mguard_yes ?_; refine mop_c trivial ?_; (iterate 3 refine mguard_n1 ?_); refine mguard_yes ?_; refine mop_c trivial ?_; refine mop_c trivial ?_)))
      exact ⟨rfl, hM.st⟩
theorem changeSigns_ok {H : Hp} (p : Prp) (k o : H32) (hf : Fz H w) : Calls Try.prog 4 #[prv p, ha k, ha o] w fun en w' => en = .returned (.bool true) ∧ St w [] w' := by
  have hM := Mem.start hf
  refine C_bevylaw10_ChangeSigns ?_
  unfold F_bevylaw10_ChangeSigns
  ((with_reducible (refine mm_box hM ?_; clear hM; intro _ _ hM; refine mm_box hM ?_; clear hM; intro _ _ hM; refine mm_box hM ?_; clear hM; intro _ _ hM; refine mm_ld hM ?_; refine mm_purC hM ?_ ?_)); (focus (first | exact trivial | assumption | omega)); (with_reducible (clear hM; intro _ hM; refine mop_c trivial ?_)))
  by_cases h : p.right
  · rw [decide_eq_true h]
    simp only [Bool.not_true]
    ((with_reducible (refine mif_false ?_; refine mm_ld hM ?_; refine mm_ld hM ?_; refine mm_purC hM ?_ ?_)); (focus (first | exact trivial | assumption | omega)); (with_reducible (clear hM; intro _ hM; refine mm_new hM ?_; clear hM; intro _ _ hM; refine mm_st hM ?_; clear hM; intro _ hM; refine dm_purC hM ?_ (fun _ _ hM => ?_))); (focus (first | exact trivial | assumption | omega)); (with_reducible (refine qguard_yes ?_; refine dm_ld hM ?_; refine qguard_yes ?_; refine dm_ld hM ?_; refine qguard_yes ?_; refine dm_ld hM ?_; refine mguard_yes ?_; refine dm_purC hM ?_ (fun _ _ hM => ?_))); (focus (first | exact trivial | assumption | omega)); (with_reducible (refine qguard_yes ?_)))
    unfold signP
    rw [if_pos h]
    skip
    refine dp_cT trivial (by simp) ?_
    ((with_reducible (refine dp_c trivial ?_; refine qguard_yes ?_; refine dm_ld hM ?_; refine qguard_yes ?_; refine dm_ld hM ?_; refine mguard_yes ?_; refine dm_purC hM ?_ (fun _ _ hM => ?_))); (focus (first | exact trivial | assumption | omega)); (with_reducible (refine mguard_yes ?_; refine dm_purC hM ?_ (fun _ _ hM => ?_))); (focus (first | exact trivial | assumption | omega)); (with_reducible (refine dp_c trivial ?_)))
    rw [decide_eq_true (show (signP p k).checks (verV k) by unfold signP; rw [if_pos h]; exact checks_signed p k h)]
    ((with_reducible (refine qguard_yes ?_; refine dm_ld hM ?_; refine qguard_yes ?_; refine dm_ld hM ?_; refine mguard_yes ?_; refine dm_purC hM ?_ (fun _ _ hM => ?_))); (focus (first | exact trivial | assumption | omega)); (with_reducible (refine qguard_yes ?_)); (with_reducible refine dm_ld ‹Mem _ _ _ _› ?_); (with_reducible (refine qguard_yes ?_)); (with_reducible refine dm_ld ‹Mem _ _ _ _› ?_); (with_reducible (refine mguard_yes ?_; refine dm_purC hM ?_ (fun _ _ hM => ?_))); (focus (first | exact trivial | assumption | omega)); (with_reducible (refine qguard_yes ?_; refine dp_cT trivial ?_ ?_)); (focus (first | assumption | omega | with_reducible rfl | exact fun h => Bool.noConfusion h)); (with_reducible (refine dp_c trivial ?_; refine mm_end hM ?_; clear hM; intro _ hM)))
    exact ⟨rfl, hM.st⟩
  · rw [decide_eq_false h]
    simp only [Bool.not_false]
    ((with_reducible (refine mif_true ?_; refine dm_purC hM ?_ (fun _ _ hM => ?_))); (focus (first | exact trivial | assumption | omega)); (with_reducible (refine qguard_yes ?_; refine dm_ld hM ?_; refine qguard_yes ?_; refine dm_ld hM ?_; refine mguard_yes ?_; refine dm_purC hM ?_ (fun _ _ hM => ?_))); (focus (first | exact trivial | assumption | omega)); (with_reducible (refine qguard_yes ?_)); (with_reducible refine dm_ld ‹Mem _ _ _ _› ?_); (with_reducible (refine qguard_yes ?_)))
    unfold signP
    rw [if_neg h]
    skip
    refine dp_cT trivial (by simp) ?_
    ((with_reducible (refine dp_c trivial ?_; refine mm_end hM ?_; clear hM; intro _ hM)))
    exact ⟨rfl, hM.st⟩
end
end Go.Proofs.Ytmjpbomonhjebaa
