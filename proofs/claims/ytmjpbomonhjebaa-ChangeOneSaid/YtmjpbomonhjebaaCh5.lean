/- Change: two laws walked. -/
import Derived.Test.YtmjpbomonhjebaaCh4
namespace Go.Proofs.Ytmjpbomonhjebaa
open Go.RowKit

section
variable {H : Hp} {w0 w : World} {L R : List Res} {g : Nat} {s : RdS}
theorem prpU_right (s : RdS) (h : (prpU s).2 = 0) : (prpU s).1.right ∧ packB (prpU s).1 = strOfNums s.l := by
  unfold prpU at h ⊢
  by_cases h1 : prpE s = 0
  · rw [if_neg (by simp [h1])] at h ⊢
    by_cases h2 : (prpR s).right
    · rw [if_neg (by simp [h2])] at h ⊢
      exact ⟨h2, by unfold packB; rw [(prp_read h1).2]⟩
    · rw [if_pos h2] at h
      cases h
  · rw [if_pos h1] at h
    exact absurd h h1
theorem changeReads_ok {H : Hp} (t : ByteArray) (hf : Fz H w) : Calls Try.prog 6 #[.string t] w fun en w' => en = .returned (.bool true) ∧ St w [] w' := by
  have hM := Mem.start hf
  refine C_bevylaw10_ChangeReads ?_
  unfold F_bevylaw10_ChangeReads
  ((with_reducible (refine mop_c trivial ?_)))
  ((with_reducible (refine mop_cS trivial ?_ ?_)))
  · intro h
    ((with_reducible (refine mif_true ?_; refine mm_purC hM ?_ ?_)); (focus (first | exact trivial | assumption | omega)); (with_reducible (clear hM; intro _ hM)))
    exact ⟨rfl, hM.st⟩
  · intro h
    obtain ⟨s, hs, he⟩ : ∃ s : RdS, t = strOfNums s.l ∧ s.e = 0 := ⟨⟨ints t, 0, ints_range t, by rw [ints_length]; omega⟩, (str_ints t).symm, rfl⟩
    rw [hs]
    ((with_reducible (refine mif_false ?_; refine mm_purC hM ?_ ?_)); (focus (first | exact trivial | assumption | omega)); (with_reducible (clear hM; intro _ hM; refine mop_c trivial ?_; refine mop_c trivial ?_; refine mm_new hM ?_; clear hM; intro _ _ hM; refine mm_st hM ?_; clear hM; intro _ hM; refine mm_purC hM ?_ ?_)); (focus (first | exact trivial | assumption | omega)); (with_reducible (clear hM; intro _ hM; refine mop_c trivial ?_; refine mop_c trivial ?_; refine mm_new hM ?_; clear hM; intro _ _ hM; refine mm_st hM ?_; clear hM; intro _ hM; refine mm_purC hM ?_ ?_)); (focus (first | exact trivial | assumption | omega)); (with_reducible (clear hM; intro _ hM; refine mguard_yes ?_; refine mop_c trivial ?_; refine mguard_yes ?_; refine mop_c trivial ?_; refine mguard_yes ?_; refine mop_cT trivial ?_ ?_)); (focus (first | assumption | omega | with_reducible rfl | exact fun h => Bool.noConfusion h)); (with_reducible (refine mop_c trivial ?_; refine mguard_yes ?_; refine mm_ld hM ?_; refine mguard_yes ?_; refine mm_ld hM ?_; refine mguard_yes ?_)))
    refine mop_cT trivial (by simp) ?_
    by_cases h0 : (prpU s).2 = 0
    · obtain ⟨h1, h2⟩ := prpU_right s h0
      ((with_reducible (refine mop_c trivial ?_; refine mguard_yes ?_; refine mop_c trivial ?_; refine mguard_yes ?_; refine mop_cF trivial ?_ ?_)); (focus (first | assumption | omega | with_reducible rfl | exact fun h => Bool.noConfusion h)); (with_reducible (refine mguard_yes ?_; refine mop_c trivial ?_; refine mguard_yes ?_; refine mm_ld hM ?_; refine mguard_yes ?_; refine mm_purC hM ?_ ?_)); (focus (first | exact trivial | assumption | omega)); (with_reducible (clear hM; intro _ hM; refine mguard_yes ?_; refine mop_c trivial ?_; refine mguard_yes ?_)))
      rw [if_pos h1, h2]
      refine mop_cT trivial rfl ?_
      ((with_reducible (refine mguard_yes ?_; refine mop_c trivial ?_; refine mop_c trivial ?_)))
      exact ⟨rfl, hM.st⟩
    · ((with_reducible (refine mop_c trivial ?_; refine mguard_yes ?_; refine mop_c trivial ?_; refine mguard_yes ?_; refine mop_cT trivial ?_ ?_)); (focus (first | assumption | omega | with_reducible rfl | exact fun h => Bool.noConfusion h)); (with_reducible (refine mguard_yes ?_; refine mop_c trivial ?_; (iterate 4 refine mguard_n1 ?_); refine mguard_yes ?_; refine mop_c trivial ?_; refine mop_c trivial ?_)))
      exact ⟨rfl, hM.st⟩
theorem Byt.app {a b : List Int} (h : Byt a) (k : Byt b) : Byt (a ++ b) := fun x hx => (List.mem_append.1 hx).elim (h x) (k x)
theorem textL_byt {p : Prp} (h : p.right) : Byt (textL p ++ p.sign.1) := by
  obtain ⟨hd, ha, hn, hs, hk⟩ := h
  have hk3 : 0 ≤ p.kind ∧ p.kind ≤ 3 := by
    by_cases h : p.kind = 2
    · omega
    · rw [if_neg h] at hk
      omega
  exact (((((((Byt.app p.epoch.2.2 (numB_byt _ (by omega) (by omega))).app (numB_byt _ (by omega) (by omega))).app (numB_byt _ (by omega) (by omega))).app (numB_byt _ (by omega) (by omega))).app (numB_byt _ (by omega) (by omega))).app p.pub.2.2)).app p.sign.2.2
theorem signP_right (p : Prp) (k : H32) (h : p.right) : (signP p k).right := by unfold signP; rw [if_pos h]; exact h
theorem changeOne_ok {H : Hp} (p q : Prp) (k o : H32) (hf : Fz H w) : Calls Try.prog 7 #[prv p, prv q, ha k, ha o] w fun en w' => en = .returned (.bool true) ∧ St w [] w' := by
  have hM := Mem.start hf
  refine C_bevylaw10_ChangeOne ?_
  unfold F_bevylaw10_ChangeOne
  ((with_reducible (refine mm_box hM ?_; clear hM; intro _ _ hM; refine mm_box hM ?_; clear hM; intro _ _ hM; refine mm_box hM ?_; clear hM; intro _ _ hM; refine mm_box hM ?_; clear hM; intro _ _ hM)))
  rename_i g4 _ g3 _ g2 _ g1 _
  refine ⟨fun x w' => x = .bool false ∧ hM.now w', ?_, ?_⟩
  · ((with_reducible (refine dm_purC hM ?_ (fun _ _ hM => ?_))); (focus (first | exact trivial | assumption | omega)); (with_reducible (refine dp_c trivial ?_; refine qguard_yes ?_; refine dm_ld hM ?_; refine mguard_yes ?_; refine dm_purC hM ?_ (fun _ _ hM => ?_))); (focus (first | exact trivial | assumption | omega)); (with_reducible (refine qguard_yes ?_)); (with_reducible refine dm_ld ‹Mem _ _ _ _› ?_); (with_reducible (refine mguard_yes ?_; refine dm_purC hM ?_ (fun _ _ hM => ?_))); (focus (first | exact trivial | assumption | omega)); (with_reducible (refine qguard_yes ?_)))
    refine dp_neb _ ?_
    ((with_reducible (refine dp_c trivial ?_; refine qguard_yes ?_; refine dm_ld hM ?_; refine qguard_yes ?_; refine dm_ld hM ?_; refine mguard_yes ?_; refine dm_purC hM ?_ (fun _ _ hM => ?_))); (focus (first | exact trivial | assumption | omega)); (with_reducible (refine qguard_yes ?_)); (with_reducible refine dm_ld ‹Mem _ _ _ _› ?_); (with_reducible (refine qguard_yes ?_)); (with_reducible refine dm_ld ‹Mem _ _ _ _› ?_); (with_reducible (refine mguard_yes ?_; refine dm_purC hM ?_ (fun _ _ hM => ?_))); (focus (first | exact trivial | assumption | omega)); (with_reducible (refine qguard_yes ?_)))
    refine dp_neb _ ?_
    ((with_reducible (refine dp_c trivial ?_; refine qguard_yes ?_; refine dm_ld hM ?_; refine qguard_yes ?_; refine dm_ld hM ?_; refine mguard_yes ?_; refine dm_purC hM ?_ (fun _ _ hM => ?_))); (focus (first | exact trivial | assumption | omega)); (with_reducible (refine qguard_yes ?_)); (with_reducible refine dm_ld ‹Mem _ _ _ _› ?_); (with_reducible (refine qguard_yes ?_)); (with_reducible refine dm_ld ‹Mem _ _ _ _› ?_); (with_reducible (refine mguard_yes ?_; refine dm_purC hM ?_ (fun _ _ hM => ?_))); (focus (first | exact trivial | assumption | omega)); (with_reducible (refine qguard_yes ?_)))
    refine dp_neb _ ?_
    ((with_reducible (refine dp_c trivial ?_; refine qguard_yes ?_; refine dm_ld hM ?_; refine qguard_yes ?_; refine dm_ld hM ?_; refine mguard_yes ?_; refine dm_purC hM ?_ (fun _ _ hM => ?_))); (focus (first | exact trivial | assumption | omega)); (with_reducible (refine qguard_yes ?_)); (with_reducible refine dm_ld ‹Mem _ _ _ _› ?_); (with_reducible (refine qguard_yes ?_)); (with_reducible refine dm_ld ‹Mem _ _ _ _› ?_); (with_reducible (refine mguard_yes ?_; refine dm_purC hM ?_ (fun _ _ hM => ?_))); (focus (first | exact trivial | assumption | omega)); (with_reducible (refine qguard_yes ?_)))
    refine dp_neb _ ?_
    ((with_reducible (refine dp_c trivial ?_; refine mm_end hM ?_; clear hM; intro _ hM)))
    exact ⟨rfl, hM⟩
  rintro x u w2 ⟨rfl, hM⟩
  by_cases h : p.right
  · ((with_reducible (refine mif_false ?_; refine mm_ld hM ?_; refine mm_purC hM ?_ ?_)); (focus (first | exact trivial | assumption | omega)); (with_reducible (clear hM; intro _ hM; refine mop_c trivial ?_)))
    rw [decide_eq_true h]
    ((with_reducible (refine mif_nt ?_; refine mm_ld hM ?_; refine mm_ld hM ?_; refine mm_purC hM ?_ ?_)); (focus (first | exact trivial | assumption | omega)); (with_reducible (clear hM; intro _ hM; refine mm_new hM ?_; clear hM; intro _ _ hM; refine mm_st hM ?_; clear hM; intro _ hM; refine mm_ld hM ?_; refine mm_purC hM ?_ ?_)); (focus (first | exact trivial | assumption | omega)); (with_reducible (clear hM; intro _ hM)))
    have hP : signP p k = p.signed (verV k) := if_pos h
    have hr : (p.signed (verV k)).right := h
    rw [hP] at hM
    simp only [hP]
    rw [if_pos hr]
    generalize hQ : p.signed (verV k) = Q at hM hr ⊢
    have hlen : (textL Q ++ Q.sign.1).length ≤ 1000000000000 := by rw [List.length_append, Q.sign.2.1]; have := textL_length Q; omega
    obtain ⟨s, hs, he⟩ : ∃ s : RdS, textL Q ++ Q.sign.1 = s.l ∧ s.e = 0 := ⟨⟨textL Q ++ Q.sign.1, 0, ⟨textL_byt hr, hlen⟩⟩, rfl, rfl⟩
    have hs2 : packB Q = strOfNums s.l := by rw [← hs]; rfl
    rw [hs2]
    refine mm_pure hM (unpack_ok he _) (fun w3 hM => ?_)
    rw [prp_back hr hs.symm he]
    dsimp only
    ((with_reducible (refine mop_c trivial ?_; refine mop_c trivial ?_; refine mm_new hM ?_; clear hM; intro _ _ hM; refine mm_st hM ?_; clear hM; intro _ hM; (iterate 3 refine dm_ld hM ?_); refine dm_purC hM ?_ (fun _ _ hM => ?_))); (focus (first | exact trivial | assumption | omega)))
    rw [hQ]
    refine dp_cT trivial (by simp) ?_
    ((with_reducible (refine qguard_yes ?_; refine dm_ld hM ?_; refine qguard_yes ?_; refine dm_ld hM ?_; refine mguard_yes ?_; refine dm_purC hM ?_ (fun _ _ hM => ?_))); (focus (first | exact trivial | assumption | omega)); (with_reducible (refine mguard_yes ?_; refine dm_purC hM ?_ (fun _ _ hM => ?_))); (focus (first | exact trivial | assumption | omega)); (with_reducible (refine dp_c trivial ?_)))
    rw [decide_eq_true (show Q.checks (verV k) by rw [← hQ]; exact checks_signed p k h)]
    ((with_reducible (refine qguard_yes ?_; refine dm_ld hM ?_; refine mguard_yes ?_; refine dm_purC hM ?_ (fun _ _ hM => ?_))); (focus (first | exact trivial | assumption | omega)); (with_reducible (refine qguard_yes ?_)); (with_reducible refine dm_ld ‹Mem _ _ _ _› ?_); (with_reducible (refine mguard_yes ?_; refine dm_purC hM ?_ (fun _ _ hM => ?_))); (focus (first | exact trivial | assumption | omega)); (with_reducible (refine qguard_yes ?_)))
    rw [if_pos h]
    ((with_reducible (refine dp_cT trivial ?_ ?_)); (focus (first | assumption | omega | with_reducible rfl | exact fun h => Bool.noConfusion h)); (with_reducible (refine dp_c trivial ?_; refine qguard_yes ?_; refine dm_ld hM ?_; refine mguard_yes ?_; refine dm_purC hM ?_ (fun _ _ hM => ?_))); (focus (first | exact trivial | assumption | omega)); (with_reducible (refine qguard_yes ?_)); (with_reducible refine dm_ld ‹Mem _ _ _ _› ?_); (with_reducible (refine mguard_yes ?_; refine dm_purC hM ?_ (fun _ _ hM => ?_))); (focus (first | exact trivial | assumption | omega)); (with_reducible (refine qguard_yes ?_)))
    rw [if_pos h]
    ((with_reducible (refine dp_cT trivial ?_ ?_)); (focus (first | assumption | omega | with_reducible rfl | exact fun h => Bool.noConfusion h)); (with_reducible (refine dp_c trivial ?_; refine qguard_yes ?_; refine dp_c trivial ?_; refine qguard_yes ?_; refine dp_cT trivial ?_ ?_)); (focus (first | assumption | omega | with_reducible rfl | exact fun h => Bool.noConfusion h)); (with_reducible (refine dp_c trivial ?_; refine qguard_yes ?_; refine dm_ld hM ?_; refine qguard_yes ?_; refine dm_ld hM ?_; refine qguard_yes ?_)))
    refine dp_cT trivial (by simp) ?_
    ((with_reducible (refine dp_c trivial ?_; refine mm_end hM ?_; clear hM; intro _ hM)))
    exact ⟨rfl, hM.st⟩
  · ((with_reducible (refine mif_false ?_; refine mm_ld hM ?_; refine mm_purC hM ?_ ?_)); (focus (first | exact trivial | assumption | omega)); (with_reducible (clear hM; intro _ hM; refine mop_c trivial ?_)))
    rw [decide_eq_false h]
    ((with_reducible (refine mif_nf ?_; refine dm_ld hM ?_; refine dm_ld hM ?_; refine dm_purC hM ?_ (fun _ _ hM => ?_))); (focus (first | exact trivial | assumption | omega)); (with_reducible refine dm_ld ‹Mem _ _ _ _› ?_))
    have hP : signP p k = p := if_neg h
    rw [hP]
    refine dp_cT trivial (by simp) ?_
    ((with_reducible (refine qguard_yes ?_; refine dm_ld hM ?_; refine mguard_yes ?_; refine dm_purC hM ?_ (fun _ _ hM => ?_))); (focus (first | exact trivial | assumption | omega)); (with_reducible (refine qguard_yes ?_; refine dp_c trivial ?_; refine qguard_yes ?_)))
    rw [if_neg h]
    ((with_reducible (refine dp_cT trivial ?_ ?_)); (focus (first | assumption | omega | with_reducible rfl | exact fun h => Bool.noConfusion h)); (with_reducible (refine dp_c trivial ?_; refine qguard_yes ?_; refine dm_ld hM ?_; refine mguard_yes ?_; refine dm_purC hM ?_ (fun _ _ hM => ?_))); (focus (first | exact trivial | assumption | omega)); (with_reducible (refine qguard_yes ?_)))
    rw [if_neg h]
    ((with_reducible (refine dp_cT trivial ?_ ?_)); (focus (first | assumption | omega | with_reducible rfl | exact fun h => Bool.noConfusion h)); (with_reducible (refine dp_c trivial ?_; refine mm_end hM ?_; clear hM; intro _ hM)))
    exact ⟨rfl, hM.st⟩
end
end Go.Proofs.Ytmjpbomonhjebaa
