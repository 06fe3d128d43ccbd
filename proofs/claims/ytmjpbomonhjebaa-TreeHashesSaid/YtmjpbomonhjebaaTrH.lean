/- The hash of any right tree is the document's. -/
import Derived.Test.YtmjpbomonhjebaaGhs
namespace Go.Proofs.Ytmjpbomonhjebaa
open Go.RowKit Go.Lib

section
variable {H : Hp} {w0 w : World} {L R : List Res} {v : Value} {t : Tr}
theorem treeHashes_ok (h : TrF H v t) (hf : Fz H w) : Calls Try.prog 13 #[v] w fun en w' => en = .returned (.bool true) ∧ St w [] w' := by
  obtain ⟨A, a, B, b, q, rfl, -⟩ := h.ex
  have hM := Mem.start hf
  refine C_bevylaw08_TreeHashes ?_
  unfold F_bevylaw08_TreeHashes
  ((with_reducible (refine mm_box hM ?_; clear hM; intro _ _ hM)))
  refine ⟨fun v w' => v = .bool (decide (¬ t.few ∨ ¬ t.right = true)) ∧ hM.now w', ?_, ?_⟩
  · ((with_reducible (refine mm_ld hM ?_)))
    refine mm_pure hM (few_c h hM.fz) (fun w hM => ?_)
    by_cases hc : t.few
    · rw [decide_eq_true hc]
      ((with_reducible (refine mop_c trivial ?_; refine mguard_yes ?_; refine mm_ld hM ?_; refine mguard_yes ?_)))
      refine mm_pure hM (tright_c h hM.fz) (fun w hM => ?_)
      cases hr : t.right
      · ((with_reducible (refine mguard_yes ?_; refine mop_c trivial ?_; refine mop_c trivial ?_)))
        exact ⟨by simp, hM⟩
      · ((with_reducible (refine mguard_yes ?_; refine mop_c trivial ?_; refine mop_c trivial ?_)))
        exact ⟨by simp [hc], hM⟩
    · rw [decide_eq_false hc]
      ((with_reducible (refine mop_c trivial ?_; (iterate 3 refine mguard_n1 ?_); refine mop_c trivial ?_)))
      exact ⟨by simp [hc], hM⟩
  rintro v u w2 ⟨rfl, hM⟩
  by_cases hc : ¬ t.few ∨ ¬ t.right = true
  · rw [decide_eq_true hc]
    ((with_reducible (refine mif_true ?_; refine mm_purC hM ?_ ?_)); (focus (first | exact trivial | assumption | omega)); (with_reducible (clear hM; intro _ hM)))
    exact ⟨rfl, hM.st⟩
  rw [decide_eq_false hc]
  have hr : t.right = true := Decidable.byContradiction fun h => hc (.inr h)
  have hR := Tr.rt.1 hr
  ((with_reducible (refine mif_false ?_; refine dm_purC hM ?_ (fun _ _ hM => ?_))); (focus (first | exact trivial | assumption | omega)); (with_reducible (refine qguard_yes ?_; refine dm_ld hM ?_; refine mguard_yes ?_)))
  refine dm_pure hM (fun w hM => hash_c h hM.fz hR) (fun w' hx hM => ?_)
  ((with_reducible (refine qguard_yes ?_)); (with_reducible refine dm_ld ‹Mem _ _ _ _› ?_); (with_reducible (refine mguard_yes ?_)))
  refine dm_pure hM (fun w hM => rhash_c h hM.fz hR) (fun w' hx hM => ?_)
  ((with_reducible (refine qguard_yes ?_; refine dp_cT trivial ?_ ?_)); (focus (first | assumption | omega | with_reducible rfl | exact fun h => Bool.noConfusion h)); (with_reducible (refine dp_c trivial ?_; refine mm_end hM ?_; clear hM; intro _ hM)))
  exact ⟨rfl, hM.st⟩
end
end Go.Proofs.Ytmjpbomonhjebaa
