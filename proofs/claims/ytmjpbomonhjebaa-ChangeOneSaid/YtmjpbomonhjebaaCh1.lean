/- Change: what is right, what stands ahead. -/
import Derived.Test.YtmjpbomonhjebaaRef1
namespace Go.Proofs.Ytmjpbomonhjebaa
open Go.RowKit

structure Prp where
  epoch : H32
  depth : Int
  author : Int
  seq : Int
  kind : Int
  name : Int
  pub : H32
  sign : H32
deriving DecidableEq
abbrev Prp.fds (p : Prp) : List Fd := [.arr 32 (u8s p.epoch.1), .one (.int .i64 p.depth), .one (.int .i64 p.author), .one (.int .i64 p.seq), .one (.int .i64 p.kind), .one (.int .i64 p.name), .arr 32 (u8s p.pub.1), .arr 32 (u8s p.sign.1)]
abbrev prv (p : Prp) : Value := .agg (fl p.fds).toArray
def Prp.right (p : Prp) : Prop := (0 ≤ p.depth ∧ p.depth ≤ 4611686018427387903) ∧ (1 ≤ p.author ∧ p.author ≤ 64) ∧ (1 ≤ p.name ∧ p.name ≤ 64) ∧ (1 ≤ p.seq ∧ p.seq ≤ 4611686018427387903) ∧ (if p.kind = 2 then p.name = p.author else (p.kind = 1 ∨ p.kind = 3) ∧ p.pub = hzero)
instance (p : Prp) : Decidable p.right := by unfold Prp.right; infer_instance
def rank (k : Int) : Int := if k = 2 then 0 else if k = 3 then 1 else if k = 1 then 2 else 3
theorem rank_range (k : Int) : 0 ≤ rank k ∧ rank k ≤ 3 := by
  unfold rank
  by_cases h1 : k = 2
  · rw [if_pos h1]; omega
  · rw [if_neg h1]
    by_cases h2 : k = 3
    · rw [if_pos h2]; omega
    · rw [if_neg h2]
      by_cases h3 : k = 1
      · rw [if_pos h3]; omega
      · rw [if_neg h3]; omega
def Prp.lt (p q : Prp) : Prop := rank p.kind < rank q.kind ∨ rank p.kind = rank q.kind ∧ p.name < q.name
instance (p q : Prp) : Decidable (p.lt q) := by unfold Prp.lt; infer_instance
section
variable {H : Hp} {w0 w : World} {L R : List Res} {g : Nat}
theorem rank_ok (k : Int) (w : World) : Calls Try.prog 51 #[.int .i64 k] w fun en w' => en = .returned (.int .i64 (rank k)) ∧ St w [] w' := by
  have hM := Mem.start (Fz.of w)
  refine C_change_rank ?_
  unfold F_change_rank rank
  ((with_reducible (refine mop_cS trivial ?_ ?_)))
  · intro h
    ((with_reducible (refine mif_true ?_)))
    exact ⟨by rw [if_pos h], hM.st⟩
  · intro h
    ((with_reducible (refine mif_false ?_)))
    ((with_reducible (refine mop_cS trivial ?_ ?_)))
    · intro h2
      ((with_reducible (refine mif_true ?_)))
      exact ⟨by rw [if_neg h, if_pos h2], hM.st⟩
    · intro h2
      ((with_reducible (refine mif_false ?_)))
      ((with_reducible (refine mop_cS trivial ?_ ?_)))
      · intro h3
        ((with_reducible (refine mif_true ?_)))
        exact ⟨by rw [if_neg h, if_neg h2, if_pos h3], hM.st⟩
      · intro h3
        ((with_reducible (refine mif_false ?_)))
        exact ⟨by rw [if_neg h, if_neg h2, if_neg h3], hM.st⟩
instance (k : Int) : PurC Try.prog 51 [.int .i64 k] True (.int .i64 (rank k)) := ⟨fun _ w => rank_ok k w⟩
theorem rrank_ok (k : Int) (w : World) : Calls Try.prog 52 #[.int .i64 k] w fun en w' => en = .returned (.int .i64 (rank k)) ∧ St w [] w' := by
  have hM := Mem.start (Fz.of w)
  refine C_bevyref10_rank ?_
  unfold F_bevyref10_rank rank
  ((with_reducible (refine mop_cS trivial ?_ ?_)))
  · intro h
    ((with_reducible (refine mif_true ?_)))
    exact ⟨by rw [if_pos h], hM.st⟩
  · intro h
    ((with_reducible (refine mif_false ?_)))
    ((with_reducible (refine mop_cS trivial ?_ ?_)))
    · intro h2
      ((with_reducible (refine mif_true ?_)))
      exact ⟨by rw [if_neg h, if_pos h2], hM.st⟩
    · intro h2
      ((with_reducible (refine mif_false ?_)))
      ((with_reducible (refine mop_cS trivial ?_ ?_)))
      · intro h3
        ((with_reducible (refine mif_true ?_)))
        exact ⟨by rw [if_neg h, if_neg h2, if_pos h3], hM.st⟩
      · intro h3
        ((with_reducible (refine mif_false ?_)))
        exact ⟨by rw [if_neg h, if_neg h2, if_neg h3], hM.st⟩
instance (k : Int) : PurC Try.prog 52 [.int .i64 k] True (.int .i64 (rank k)) := ⟨fun _ w => rrank_ok k w⟩
theorem less_ok (p q : Prp) (w : World) : Calls Try.prog 15 #[prv p, prv q] w fun en w' => en = .returned (.bool (decide (p.lt q))) ∧ St w [] w' := by
  have hM := Mem.start (Fz.of w)
  refine C_change_Less ?_
  unfold F_change_Less
  ((with_reducible (refine mm_box hM ?_; clear hM; intro _ _ hM; refine mm_box hM ?_; clear hM; intro _ _ hM; refine dp_c trivial ?_; refine dp_c trivial ?_; refine dm_ld hM ?_; refine dm_purC hM ?_ (fun _ _ hM => ?_))); (focus (first | exact trivial | assumption | omega)); (with_reducible (refine dp_c trivial ?_; refine dp_c trivial ?_)); (with_reducible refine dm_ld ‹Mem _ _ _ _› ?_); (with_reducible (refine dm_purC hM ?_ (fun _ _ hM => ?_))); (focus (first | exact trivial | assumption | omega)); (with_reducible (refine mm_end hM ?_; clear hM; intro _ hM)))
  ((with_reducible (refine mop_cS trivial ?_ ?_)))
  · intro h
    ((with_reducible ((iterate 4 refine mguard_n1 ?_); (iterate 7 refine mguard_un ?_); refine mguard_n1 ?_; refine mop_c trivial ?_)))
    exact ⟨by rw [decide_eq_true (show p.lt q from .inl h)], hM.st⟩
  · intro h
    ((with_reducible (refine mguard_yes ?_; refine mop_c trivial ?_; refine mguard_yes ?_; refine mop_c trivial ?_; refine mguard_yes ?_)))
    ((with_reducible (refine mop_cS trivial ?_ ?_)))
    · intro h2
      ((with_reducible (refine mguard_yes ?_; refine mop_c trivial ?_; refine mguard_yes ?_; refine mop_c trivial ?_; refine mguard_yes ?_; refine mop_c trivial ?_; refine mguard_yes ?_; refine mm_ld hM ?_; refine mguard_yes ?_; refine mop_c trivial ?_; refine mguard_yes ?_; refine mop_c trivial ?_; refine mguard_yes ?_; refine mm_ld hM ?_; refine mguard_yes ?_)))
      ((with_reducible (refine mop_cS trivial ?_ ?_)))
      · intro h3
        ((with_reducible (refine mguard_yes ?_; refine mop_c trivial ?_; refine mop_c trivial ?_)))
        exact ⟨by rw [decide_eq_true (show p.lt q from .inr ⟨h2, h3⟩)], hM.st⟩
      · intro h3
        ((with_reducible (refine mguard_yes ?_; refine mop_c trivial ?_; refine mop_c trivial ?_)))
        exact ⟨by rw [decide_eq_false (show ¬ p.lt q by unfold Prp.lt; omega)], hM.st⟩
    · intro h2
      ((with_reducible (refine mguard_yes ?_; refine mop_c trivial ?_; (iterate 7 refine mguard_n2 ?_); refine mguard_yes ?_; refine mop_c trivial ?_; refine mop_c trivial ?_)))
      exact ⟨by rw [decide_eq_false (show ¬ p.lt q by unfold Prp.lt; omega)], hM.st⟩
instance (p q : Prp) : PurC Try.prog 15 [prv p, prv q] True (.bool (decide (p.lt q))) := ⟨fun _ w => less_ok p q w⟩
theorem rless_ok (p q : Prp) (w : World) : Calls Try.prog 16 #[prv p, prv q] w fun en w' => en = .returned (.bool (decide (p.lt q))) ∧ St w [] w' := by
  have hM := Mem.start (Fz.of w)
  refine C_bevyref10_Less ?_
  unfold F_bevyref10_Less
  ((with_reducible (refine mm_box hM ?_; clear hM; intro _ _ hM; refine mm_box hM ?_; clear hM; intro _ _ hM; refine dp_c trivial ?_; refine dp_c trivial ?_; refine dm_ld hM ?_; refine dm_purC hM ?_ (fun _ _ hM => ?_))); (focus (first | exact trivial | assumption | omega)); (with_reducible (refine dp_c trivial ?_; refine dp_c trivial ?_)); (with_reducible refine dm_ld ‹Mem _ _ _ _› ?_); (with_reducible (refine dm_purC hM ?_ (fun _ _ hM => ?_))); (focus (first | exact trivial | assumption | omega)))
  refine dp_cS trivial (fun h => ?_) (fun h => ?_)
  · ((with_reducible (refine mm_end hM ?_; clear hM; intro _ hM; refine mif_true ?_; refine dp_c trivial ?_; refine dp_c trivial ?_; refine dm_ld hM ?_; refine dm_purC hM ?_ (fun _ _ hM => ?_))); (focus (first | exact trivial | assumption | omega)); (with_reducible (refine dp_c trivial ?_; refine dp_c trivial ?_)); (with_reducible refine dm_ld ‹Mem _ _ _ _› ?_); (with_reducible (refine dm_purC hM ?_ (fun _ _ hM => ?_))); (focus (first | exact trivial | assumption | omega)))
    refine dp_cS trivial (fun h2 => ?_) (fun h2 => ?_)
    · ((with_reducible (refine mm_end hM ?_; clear hM; intro _ hM)))
      exact ⟨by rw [decide_eq_true (show p.lt q from .inl h2)], hM.st⟩
    · ((with_reducible (refine mm_end hM ?_; clear hM; intro _ hM)))
      exact ⟨by rw [decide_eq_false (show ¬ p.lt q by unfold Prp.lt; omega)], hM.st⟩
  · ((with_reducible (refine mm_end hM ?_; clear hM; intro _ hM; refine mif_false ?_; refine mop_c trivial ?_; refine mop_c trivial ?_; refine mm_ld hM ?_; refine mop_c trivial ?_; refine mop_c trivial ?_; refine mm_ld hM ?_)))
    ((with_reducible (refine mop_cS trivial ?_ ?_)))
    · intro h2
      skip
      exact ⟨by rw [decide_eq_true (show p.lt q by unfold Prp.lt; omega)], hM.st⟩
    · intro h2
      skip
      exact ⟨by rw [decide_eq_false (show ¬ p.lt q by unfold Prp.lt; omega)], hM.st⟩
instance (p q : Prp) : PurC Try.prog 16 [prv p, prv q] True (.bool (decide (p.lt q))) := ⟨fun _ w => rless_ok p q w⟩
theorem named_ok (n : Int) (w : World) : Calls Try.prog 59 #[.int .i64 n] w fun en w' => en = .returned (.bool (decide (1 ≤ n ∧ n ≤ 64))) ∧ St w [] w' := by
  have hM := Mem.start (Fz.of w)
  refine C_change_named ?_
  unfold F_change_named
  ((with_reducible (refine mop_cS trivial ?_ ?_)))
  · intro h
    ((with_reducible (refine mguard_yes ?_; refine mop_c trivial ?_; refine mguard_yes ?_)))
    ((with_reducible (refine mop_cS trivial ?_ ?_))) <;>
    · intro h2
      ((with_reducible (refine mop_c trivial ?_)))
      exact ⟨by simp; omega, hM.st⟩
  · intro h
    ((with_reducible (refine mguard_n2 ?_; refine mguard_n2 ?_; refine mop_c trivial ?_)))
    exact ⟨by simp; omega, hM.st⟩
instance (n : Int) : PurC Try.prog 59 [.int .i64 n] True (.bool (decide (1 ≤ n ∧ n ≤ 64))) := ⟨fun _ w => named_ok n w⟩
/-- What is right but for what hangs on the kind. -/
def Prp.rt0 (p : Prp) : Prop := (0 ≤ p.depth ∧ p.depth ≤ 4611686018427387903) ∧ (1 ≤ p.author ∧ p.author ≤ 64) ∧ (1 ≤ p.name ∧ p.name ≤ 64) ∧ (1 ≤ p.seq ∧ p.seq ≤ 4611686018427387903)
theorem right_no (p : Prp) (h : ¬ p.rt0) : decide p.right = false := decide_eq_false (fun k => h ⟨k.1, k.2.1, k.2.2.1, k.2.2.2.1⟩)
theorem right_two (p : Prp) (h : p.rt0) (hk : p.kind = 2) : decide p.right = decide (p.name = p.author) := by
  rw [Bool.eq_iff_iff]
  simp only [decide_eq_true_eq]
  unfold Prp.right
  rw [if_pos hk]
  exact ⟨fun k => k.2.2.2.2, fun k => ⟨h.1, h.2.1, h.2.2.1, h.2.2.2, k⟩⟩
theorem right_one (p : Prp) (h : p.rt0) (h2 : p.kind ≠ 2) (hk : p.kind = 1 ∨ p.kind = 3) : decide p.right = decide (p.pub = hzero) := by
  rw [Bool.eq_iff_iff]
  simp only [decide_eq_true_eq]
  unfold Prp.right
  rw [if_neg h2]
  exact ⟨fun k => k.2.2.2.2.2, fun k => ⟨h.1, h.2.1, h.2.2.1, h.2.2.2, hk, k⟩⟩
theorem right_odd (p : Prp) (h2 : p.kind ≠ 2) (hk : ¬ (p.kind = 1 ∨ p.kind = 3)) : decide p.right = false := decide_eq_false (fun k => by
  have := k.2.2.2.2
  rw [if_neg h2] at this
  exact hk this.1)
theorem right_ok (p : Prp) (w : World) : Calls Try.prog 24 #[prv p] w fun en w' => en = .returned (.bool (decide p.right)) ∧ St w [] w' := by
  have hM := Mem.start (Fz.of w)
  refine C_change_Right ?_
  unfold F_change_Right
  ((with_reducible (refine mm_box hM ?_; clear hM; intro _ _ hM; refine mop_c trivial ?_; refine mm_ld hM ?_; refine mm_new hM ?_; clear hM; intro _ _ hM; refine mm_st hM ?_; clear hM; intro _ hM)))
  rename_i g1 _ g2 _
  refine ⟨fun x w' => ∃ b : Bool, x = .bool b ∧ (b = true → ¬ p.rt0) ∧ (b = false → p.rt0) ∧ hM.now w', ?_, ?_⟩
  · ((with_reducible (refine mop_c trivial ?_; refine mm_ld hM ?_)))
    ((with_reducible (refine mop_cS trivial ?_ ?_)))
    · intro h1
      ((with_reducible ((iterate 3 refine mguard_n1 ?_); refine mop_c trivial ?_; (iterate 4 refine mguard_n1 ?_); refine mop_c trivial ?_; (iterate 4 refine mguard_n1 ?_); refine mop_c trivial ?_; (iterate 3 refine mguard_n1 ?_); refine mop_c trivial ?_; (iterate 3 refine mguard_n1 ?_); refine mop_c trivial ?_)))
      exact ⟨_, rfl, fun _ k => by unfold Prp.rt0 at k; omega, by simp, hM⟩
    · intro h1
      ((with_reducible (refine mguard_yes ?_; refine mop_c trivial ?_; refine mguard_yes ?_; refine mm_ld hM ?_; refine mguard_yes ?_)))
      ((with_reducible (refine mop_cS trivial ?_ ?_)))
      · intro h2
        ((with_reducible (refine mop_c trivial ?_; (iterate 4 refine mguard_n1 ?_); refine mop_c trivial ?_; (iterate 4 refine mguard_n1 ?_); refine mop_c trivial ?_; (iterate 3 refine mguard_n1 ?_); refine mop_c trivial ?_; (iterate 3 refine mguard_n1 ?_); refine mop_c trivial ?_)))
        exact ⟨_, rfl, fun _ k => by unfold Prp.rt0 at k; omega, by simp, hM⟩
      · intro h2
        ((with_reducible (refine mop_c trivial ?_; refine mguard_yes ?_; refine mop_c trivial ?_; refine mguard_yes ?_; refine mm_ld hM ?_; refine mguard_yes ?_; refine mm_purC hM ?_ (fun _ hM2 => ?_))); (focus (first | exact trivial | assumption | omega)); (with_reducible (replace hM := hM2; clear hM2; refine mguard_yes ?_; refine mop_c trivial ?_; refine mop_c trivial ?_)))
        by_cases h3 : 1 ≤ p.author ∧ p.author ≤ 64
        · rw [decide_eq_true h3]
          simp only [Bool.not_true]
          ((with_reducible (refine mguard_yes ?_; refine mop_c trivial ?_; refine mguard_yes ?_; refine mm_ld hM ?_; refine mguard_yes ?_; refine mm_purC hM ?_ ?_)); (focus (first | exact trivial | assumption | omega)); (with_reducible (clear hM; intro _ hM; refine mguard_yes ?_; refine mop_c trivial ?_; refine mop_c trivial ?_)))
          by_cases h4 : 1 ≤ p.name ∧ p.name ≤ 64
          · rw [decide_eq_true h4]
            simp only [Bool.not_true]
            ((with_reducible (refine mguard_yes ?_; refine mop_c trivial ?_; refine mguard_yes ?_; refine mm_ld hM ?_; refine mguard_yes ?_)))
            ((with_reducible (refine mop_cS trivial ?_ ?_)))
            · intro h5
              ((with_reducible (refine mop_c trivial ?_; (iterate 3 refine mguard_n1 ?_); refine mop_c trivial ?_)))
              exact ⟨_, rfl, fun _ k => by unfold Prp.rt0 at k; omega, by simp, hM⟩
            · intro h5
              ((with_reducible (refine mop_c trivial ?_; refine mguard_yes ?_; refine mop_c trivial ?_; refine mguard_yes ?_; refine mm_ld hM ?_; refine mguard_yes ?_)))
              ((with_reducible (refine mop_cS trivial ?_ ?_)))
              · intro h6
                ((with_reducible (refine mop_c trivial ?_)))
                exact ⟨_, rfl, fun _ k => by unfold Prp.rt0 at k; omega, by simp, hM⟩
              · intro h6
                ((with_reducible (refine mop_c trivial ?_)))
                exact ⟨_, rfl, by simp, fun _ => by unfold Prp.rt0; omega, hM⟩
          · rw [decide_eq_false h4]
            simp only [Bool.not_false]
            ((with_reducible ((iterate 3 refine mguard_n1 ?_); refine mop_c trivial ?_; (iterate 3 refine mguard_n1 ?_); refine mop_c trivial ?_)))
            exact ⟨_, rfl, fun _ k => by unfold Prp.rt0 at k; omega, by simp, hM⟩
        · rw [decide_eq_false h3]
          simp only [Bool.not_false]
          ((with_reducible ((iterate 4 refine mguard_n1 ?_); refine mop_c trivial ?_; (iterate 3 refine mguard_n1 ?_); refine mop_c trivial ?_; (iterate 3 refine mguard_n1 ?_); refine mop_c trivial ?_)))
          exact ⟨_, rfl, fun _ k => by unfold Prp.rt0 at k; omega, by simp, hM⟩
  · rintro x u w5 ⟨b, rfl, hb1, hb2, hM⟩
    cases b with
    | true =>
      ((with_reducible (refine mif_true ?_)))
      exact ⟨by rw [right_no p (hb1 rfl)], hM.st⟩
    | false =>
      have h0 := hb2 rfl
      ((with_reducible (refine mif_false ?_; refine mop_c trivial ?_; refine mm_ld hM ?_)))
      ((with_reducible (refine mop_cS trivial ?_ ?_)))
      · intro h2
        rw [right_two p h0 h2]
        ((with_reducible (refine mif_true ?_; refine mop_c trivial ?_; refine mm_ld hM ?_; refine mop_c trivial ?_; refine mm_ld hM ?_)))
        try first | refine mop_c trivial ?_ | refine dp_c trivial ?_
        skip
        exact ⟨rfl, hM.st⟩
      · intro h2
        ((with_reducible (refine mif_false ?_)))
        refine ⟨fun x w' => x = .bool (decide (p.kind = 1 ∨ p.kind = 3)) ∧ hM.now w', ?_, ?_⟩
        · skip
          ((with_reducible (refine mop_cS trivial ?_ ?_)))
          · intro h3
            ((with_reducible (refine mif_true ?_)))
            exact ⟨by simp [h3]; try rfl, hM⟩
          · intro h3
            ((with_reducible (refine mif_false ?_)))
            exact ⟨by simp [h3]; try rfl, hM⟩
        · rintro x u w6 ⟨rfl, hM⟩
          by_cases h3 : p.kind = 1 ∨ p.kind = 3
          · rw [decide_eq_true h3, right_one p h0 h2 h3]
            ((with_reducible (refine mif_true ?_; refine mop_c trivial ?_; refine mm_ld hM ?_; refine mop_c trivial ?_)))
            try first | refine mop_c trivial ?_ | refine dp_c trivial ?_
            skip
            exact ⟨rfl, hM.st⟩
          · rw [decide_eq_false h3, right_odd p h2 h3]
            ((with_reducible (refine mif_false ?_)))
            exact ⟨rfl, hM.st⟩
instance (p : Prp) : PurC Try.prog 24 [prv p] True (.bool (decide p.right)) := ⟨fun _ w => right_ok p w⟩
set_option maxRecDepth 8000 in
theorem rright_ok (p : Prp) (w : World) : Calls Try.prog 18 #[prv p] w fun en w' => en = .returned (.bool (decide p.right)) ∧ St w [] w' := by
  have hM := Mem.start (Fz.of w)
  refine C_bevyref10_Right ?_
  unfold F_bevyref10_Right
  ((with_reducible (refine mm_box hM ?_; clear hM; intro _ _ hM; refine mop_c trivial ?_; refine mm_ld hM ?_; refine mm_new hM ?_; clear hM; intro _ _ hM; refine mm_st hM ?_; clear hM; intro _ hM)))
  refine ⟨fun x w' => ∃ b : Bool, x = .bool b ∧ (b = true → ¬ p.rt0) ∧ (b = false → 0 ≤ p.depth ∧ p.depth ≤ 4611686018427387903 ∧ 1 ≤ p.seq ∧ p.seq ≤ 4611686018427387903) ∧ hM.now w', ?_, ?_⟩
  · ((with_reducible (refine mop_c trivial ?_; refine mm_ld hM ?_)))
    ((with_reducible (refine mop_cS trivial ?_ ?_)))
    · intro h1
      ((with_reducible ((iterate 3 refine mguard_n1 ?_); refine mop_c trivial ?_; (iterate 3 refine mguard_n1 ?_); refine mop_c trivial ?_; (iterate 3 refine mguard_n1 ?_); refine mop_c trivial ?_)))
      exact ⟨_, rfl, fun _ k => by unfold Prp.rt0 at k; omega, by simp, hM⟩
    · intro h1
      ((with_reducible (refine mguard_yes ?_; refine mop_c trivial ?_; refine mguard_yes ?_; refine mm_ld hM ?_; refine mguard_yes ?_)))
      ((with_reducible (refine mop_cS trivial ?_ ?_)))
      · intro h2
        ((with_reducible (refine mop_c trivial ?_; (iterate 3 refine mguard_n1 ?_); refine mop_c trivial ?_; (iterate 3 refine mguard_n1 ?_); refine mop_c trivial ?_)))
        exact ⟨_, rfl, fun _ k => by unfold Prp.rt0 at k; omega, by simp, hM⟩
      · intro h2
        ((with_reducible (refine mop_c trivial ?_; refine mguard_yes ?_; refine mop_c trivial ?_; refine mguard_yes ?_; refine mm_ld hM ?_; refine mguard_yes ?_)))
        ((with_reducible (refine mop_cS trivial ?_ ?_)))
        · intro h5
          ((with_reducible (refine mop_c trivial ?_; (iterate 3 refine mguard_n1 ?_); refine mop_c trivial ?_)))
          exact ⟨_, rfl, fun _ k => by unfold Prp.rt0 at k; omega, by simp, hM⟩
        · intro h5
          ((with_reducible (refine mop_c trivial ?_; refine mguard_yes ?_; refine mop_c trivial ?_; refine mguard_yes ?_; refine mm_ld hM ?_; refine mguard_yes ?_)))
          ((with_reducible (refine mop_cS trivial ?_ ?_)))
          · intro h6
            ((with_reducible (refine mop_c trivial ?_)))
            exact ⟨_, rfl, fun _ k => by unfold Prp.rt0 at k; omega, by simp, hM⟩
          · intro h6
            ((with_reducible (refine mop_c trivial ?_)))
            exact ⟨_, rfl, by simp, fun _ => by omega, hM⟩
  rintro x u w5 ⟨b, rfl, hb1, hb2, hM⟩
  cases b with
  | true =>
    ((with_reducible (refine mif_true ?_)))
    exact ⟨by rw [right_no p (hb1 rfl)], hM.st⟩
  | false =>
    have h0 := hb2 rfl
    ((with_reducible (refine mif_false ?_)))
    refine ⟨fun x w' => ∃ b : Bool, x = .bool b ∧ (b = true → ¬ p.rt0) ∧ (b = false → p.rt0) ∧ hM.now w', ?_, ?_⟩
    · ((with_reducible (refine mop_c trivial ?_; refine mm_ld hM ?_)))
      ((with_reducible (refine mop_cS trivial ?_ ?_)))
      · intro h1
        ((with_reducible ((iterate 3 refine mguard_n1 ?_); refine mop_c trivial ?_; (iterate 3 refine mguard_n1 ?_); refine mop_c trivial ?_; (iterate 3 refine mguard_n1 ?_); refine mop_c trivial ?_)))
        exact ⟨_, rfl, fun _ k => by unfold Prp.rt0 at k; omega, by simp, hM⟩
      · intro h1
        ((with_reducible (refine mguard_yes ?_; refine mop_c trivial ?_; refine mguard_yes ?_; refine mm_ld hM ?_; refine mguard_yes ?_)))
        ((with_reducible (refine mop_cS trivial ?_ ?_)))
        · intro h2
          ((with_reducible (refine mop_c trivial ?_; (iterate 3 refine mguard_n1 ?_); refine mop_c trivial ?_; (iterate 3 refine mguard_n1 ?_); refine mop_c trivial ?_)))
          exact ⟨_, rfl, fun _ k => by unfold Prp.rt0 at k; omega, by simp, hM⟩
        · intro h2
          ((with_reducible (refine mop_c trivial ?_; refine mguard_yes ?_; refine mop_c trivial ?_; refine mguard_yes ?_; refine mm_ld hM ?_; refine mguard_yes ?_)))
          ((with_reducible (refine mop_cS trivial ?_ ?_)))
          · intro h5
            ((with_reducible (refine mop_c trivial ?_; (iterate 3 refine mguard_n1 ?_); refine mop_c trivial ?_)))
            exact ⟨_, rfl, fun _ k => by unfold Prp.rt0 at k; omega, by simp, hM⟩
          · intro h5
            ((with_reducible (refine mop_c trivial ?_; refine mguard_yes ?_; refine mop_c trivial ?_; refine mguard_yes ?_; refine mm_ld hM ?_; refine mguard_yes ?_)))
            ((with_reducible (refine mop_cS trivial ?_ ?_)))
            · intro h6
              ((with_reducible (refine mop_c trivial ?_)))
              exact ⟨_, rfl, fun _ k => by unfold Prp.rt0 at k; omega, by simp, hM⟩
            · intro h6
              ((with_reducible (refine mop_c trivial ?_)))
              exact ⟨_, rfl, by simp, fun _ => by unfold Prp.rt0; omega, hM⟩
    rintro x u w6 ⟨b, rfl, hb1, hb2, hM⟩
    cases b with
    | true =>
      ((with_reducible (refine mif_true ?_)))
      exact ⟨by rw [right_no p (hb1 rfl)], hM.st⟩
    | false =>
      have h0 := hb2 rfl
      ((with_reducible (refine mif_false ?_; refine mop_c trivial ?_; refine mm_ld hM ?_)))
      ((with_reducible (refine mop_cS trivial ?_ ?_)))
      · intro h2
        rw [right_two p h0 h2]
        ((with_reducible (refine mif_true ?_; refine mop_c trivial ?_; refine mm_ld hM ?_; refine mop_c trivial ?_; refine mm_ld hM ?_)))
        try first | refine mop_c trivial ?_ | refine dp_c trivial ?_
        skip
        exact ⟨rfl, hM.st⟩
      · intro h2
        ((with_reducible (refine mif_false ?_; refine mop_c trivial ?_; refine mm_ld hM ?_)))
        ((with_reducible (refine mop_cS trivial ?_ ?_)))
        · intro h3
          rw [right_one p h0 h2 (.inl h3)]
          ((with_reducible ((iterate 3 refine mguard_n1 ?_); refine mop_c trivial ?_; refine mguard_yes ?_; refine mop_c trivial ?_; refine mguard_yes ?_; refine mm_ld hM ?_; refine mguard_yes ?_; refine mop_c trivial ?_; refine mguard_yes ?_)))
          try first | refine mop_c trivial ?_ | refine dp_c trivial ?_
          ((with_reducible (refine mop_c trivial ?_)))
          exact ⟨rfl, hM.st⟩
        · intro h3
          ((with_reducible (refine mguard_yes ?_; refine mop_c trivial ?_; refine mguard_yes ?_; refine mm_ld hM ?_; refine mguard_yes ?_)))
          ((with_reducible (refine mop_cS trivial ?_ ?_)))
          · intro h4
            rw [right_one p h0 h2 (.inr h4)]
            ((with_reducible (refine mop_c trivial ?_; refine mguard_yes ?_; refine mop_c trivial ?_; refine mguard_yes ?_; refine mm_ld hM ?_; refine mguard_yes ?_; refine mop_c trivial ?_; refine mguard_yes ?_)))
            try first | refine mop_c trivial ?_ | refine dp_c trivial ?_
            ((with_reducible (refine mop_c trivial ?_)))
            exact ⟨rfl, hM.st⟩
          · intro h4
            rw [right_odd p h2 (by omega)]
            ((with_reducible (refine mop_c trivial ?_; (iterate 4 refine mguard_n2 ?_); refine mop_c trivial ?_)))
            exact ⟨rfl, hM.st⟩
instance (p : Prp) : PurC Try.prog 18 [prv p] True (.bool (decide p.right)) := ⟨fun _ w => rright_ok p w⟩
end
end Go.Proofs.Ytmjpbomonhjebaa
