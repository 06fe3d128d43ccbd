/- Bough walked: left, right, above, beside, leaves, holds. -/
import Derived.Test.YtmjpbomonhjebaaBo1
namespace Go.Proofs.Ytmjpbomonhjebaa
open Go.RowKit Go.Lib

set_option maxRecDepth 100000 in
theorem ab_fin : ∀ n : Fin 65, ∀ x : Fin 127, thr (n.val : Int) (x.val : Int) → ab n.val x.val < 0 ∨ thr n.val (ab n.val x.val) := by decide +kernel
theorem ab_thr {n x : Int} (h : thr n x) (ha : ¬ ab n x < 0) : thr n (ab n x) := by
  obtain ⟨h1, h2, h3⟩ := id h
  have := ab_fin ⟨n.toNat, by omega⟩ ⟨x.toNat, by omega⟩
  simp only [Int.toNat_of_nonneg h2, Int.toNat_of_nonneg (show 0 ≤ n by omega)] at this
  exact (this h).resolve_left ha
instance {P : Program} (a b c d : Value) : StepC P (o_extract (.tuple #[a, b, c, d]) 0) True a := ⟨fun _ => p_extract [a, b, c, d] 0 a rfl⟩
instance {P : Program} (a b c d : Value) : StepC P (o_extract (.tuple #[a, b, c, d]) 1) True b := ⟨fun _ => p_extract [a, b, c, d] 1 b rfl⟩
instance {P : Program} (a b c d : Value) : StepC P (o_extract (.tuple #[a, b, c, d]) 2) True c := ⟨fun _ => p_extract [a, b, c, d] 2 c rfl⟩
instance {P : Program} (a b c d : Value) : StepC P (o_extract (.tuple #[a, b, c, d]) 3) True d := ⟨fun _ => p_extract [a, b, c, d] 3 d rfl⟩
theorem min_if (a n : Int) : min a n = if n < a then n else a := by split <;> omega
section
variable {H : Hp} {w0 w : World} {L : List Res}
theorem lf_of {n x : Int} (h : ¬ thr n x) : lf n x = -1 := if_neg h
theorem rt_of {n x : Int} (h : ¬ thr n x) : rt n x = -1 := if_neg h
theorem ab_of {n x : Int} (h : ¬ thr n x) : ab n x = -1 := if_neg h
theorem bs_of {n x : Int} (h : ¬ thr n x) : bs n x = -1 := if_neg h
theorem fro_of {n x : Int} (h : ¬ thr n x) : fro n x = 0 := if_neg h
theorem til_of {n x : Int} (h : ¬ thr n x) : til n x = 0 := if_neg h
theorem bleft_ok (n x : Int) (w : World) : Calls Try.prog 89 #[.int .i64 n, .int .i64 x] w fun en w' => en = .returned (.int .i64 (lf n x)) ∧ St w [] w' := by
  have hM := Mem.start (Fz.of w)
  refine C_bough_Left ?_
  unfold F_bough_Left
  refine ⟨fun v w' => v = .int .i64 (if thr n x then level x else 0) ∧ hM.now w', ?_, ?_⟩
  · by_cases ht : thr n x
    · obtain ⟨h1, h2, h3⟩ := id ht
      ((with_reducible (refine mm_purC hM ?_ (fun _ hM2 => ?_))); (focus (first | exact trivial | assumption | omega)); (with_reducible (replace hM := hM2; clear hM2)))
      rw [decide_eq_true ht]
      ((with_reducible (refine mif_true ?_; refine mm_purC hM ?_ ?_)); (focus (first | exact trivial | assumption | omega)); (with_reducible (clear hM; intro _ hM)))
      exact ⟨by rw [if_pos ht], hM⟩
    · ((with_reducible (refine mm_purC hM ?_ (fun _ hM2 => ?_))); (focus (first | exact trivial | assumption | omega)); (with_reducible (replace hM := hM2; clear hM2)))
      rw [decide_eq_false ht]
      ((with_reducible (refine mif_false ?_)))
      exact ⟨by rw [if_neg ht], hM⟩
  rintro v u w2 ⟨rfl, hM⟩
  by_cases ht : thr n x
  · obtain ⟨h1, h2, h3⟩ := id ht
    rw [if_pos ht]
    have hl := level_rng x
    rw [← (bough_eq ht).1]
    ((with_reducible (refine mop_cS trivial ?_ ?_)))
    · intro h
      ((with_reducible (refine mif_true ?_)))
      exact ⟨by unfold pLeft; rw [if_neg (fun h' => h'.2 h)], hM.st⟩
    · intro h
      have hp := pw_rng (k := level x - 1) (by omega)
      ((with_reducible (refine mif_false ?_; refine mop_c ?_ ?_)); (focus omega); (with_reducible (refine mop_c ?_ ?_)); (focus omega); (with_reducible (refine mop_c ?_ ?_)); (focus omega))
      exact ⟨by unfold pLeft; rw [if_pos ⟨ht, h⟩], hM.st⟩
  · rw [if_neg ht, lf_of ht]
    ((with_reducible (refine mop_cT trivial ?_ ?_)); (focus (first | assumption | omega | with_reducible rfl | exact fun h => Bool.noConfusion h)); (with_reducible (refine mif_true ?_)))
    exact ⟨rfl, hM.st⟩
instance (n x : Int) : PurC Try.prog 89 [.int .i64 n, .int .i64 x] True (.int .i64 (lf n x)) := ⟨fun _ w => bleft_ok n x w⟩
theorem bright_ok (n x : Int) (w : World) : Calls Try.prog 90 #[.int .i64 n, .int .i64 x] w fun en w' => en = .returned (.int .i64 (rt n x)) ∧ St w [] w' := by
  have hM := Mem.start (Fz.of w)
  refine C_bough_Right ?_
  unfold F_bough_Right
  refine ⟨fun v w' => v = .int .i64 (if thr n x then level x else 0) ∧ hM.now w', ?_, ?_⟩
  · by_cases ht : thr n x
    · obtain ⟨h1, h2, h3⟩ := id ht
      ((with_reducible (refine mm_purC hM ?_ (fun _ hM2 => ?_))); (focus (first | exact trivial | assumption | omega)); (with_reducible (replace hM := hM2; clear hM2)))
      rw [decide_eq_true ht]
      ((with_reducible (refine mif_true ?_; refine mm_purC hM ?_ ?_)); (focus (first | exact trivial | assumption | omega)); (with_reducible (clear hM; intro _ hM)))
      exact ⟨by rw [if_pos ht], hM⟩
    · ((with_reducible (refine mm_purC hM ?_ (fun _ hM2 => ?_))); (focus (first | exact trivial | assumption | omega)); (with_reducible (replace hM := hM2; clear hM2)))
      rw [decide_eq_false ht]
      ((with_reducible (refine mif_false ?_)))
      exact ⟨by rw [if_neg ht], hM⟩
  rintro v u w2 ⟨rfl, hM⟩
  by_cases ht : thr n x
  · obtain ⟨h1, h2, h3⟩ := id ht
    rw [if_pos ht]
    have hl := level_rng x
    obtain ⟨-, hR, -, -, -, -, hk, -, -⟩ := bough_eq ht
    rw [← hR]
    ((with_reducible (refine mop_cS trivial ?_ ?_)))
    · intro h
      ((with_reducible (refine mif_true ?_)))
      exact ⟨by unfold pRight; rw [if_neg (fun h' => h'.2 h)], hM.st⟩
    · intro h
      have hp := pw_rng (k := level x - 1) (by omega)
      have hk := hk h
      ((with_reducible (refine mif_false ?_; refine mop_c ?_ ?_)); (focus omega); (with_reducible (refine mop_c ?_ ?_)); (focus omega); (with_reducible (refine mop_c ?_ ?_)); (focus omega))
      rw [show pRight n x = rg 8 n (x + pw (level x - 1)) from if_pos ⟨ht, h⟩]
      refine ⟨fun v w' => ∃ (f : Nat) (y : Int), v = .int .i64 y ∧ okr f n y = true ∧ rg 8 n (x + pw (level x - 1)) = rg f n y ∧ hM.now w', fun v _ => match v with | .int _ k => k.toNat | _ => 0, ⟨8, _, rfl, hk, rfl, hM⟩, ?_⟩
      rintro v i w2 ⟨f, y, rfl, ho, he, hM⟩
      cases f with
      | zero => simp [okr] at ho
      | succ f =>
        simp only [okr, Bool.and_eq_true, Bool.or_eq_true, decide_eq_true_eq] at ho
        obtain ⟨hy, ho⟩ := ho
        by_cases hty : thr n y
        · ((with_reducible (refine mm_purC hM ?_ ?_)); (focus (first | exact trivial | assumption | omega)); (with_reducible (clear hM; intro _ hM; refine mop_c trivial ?_)))
          rw [decide_eq_true hty]
          ((with_reducible (refine mif_nt ?_)))
          exact ⟨by rw [he, rg, if_pos hty], hM.st⟩
        · obtain ⟨hl1, ho⟩ := ho.resolve_left hty
          have hl := level_rng y
          have hp := pw_rng (k := level y - 1) (by omega)
          ((with_reducible (refine mm_purC hM ?_ ?_)); (focus (first | exact trivial | assumption | omega)); (with_reducible (clear hM; intro _ hM; refine mop_c trivial ?_)))
          rw [decide_eq_false hty]
          ((with_reducible (refine mif_nf ?_; refine mm_purC hM ?_ ?_)); (focus (first | exact trivial | assumption | omega)); (with_reducible (clear hM; intro _ hM; refine mop_c ?_ ?_)); (focus omega); (with_reducible (refine mop_c ?_ ?_)); (focus omega); (with_reducible (refine mop_c ?_ ?_)); (focus omega))
          refine ⟨⟨f, _, rfl, ho, by rw [he, rg, if_neg hty], hM⟩, ?_⟩
          cases f with
          | zero => simp [okr] at ho
          | succ f =>
            simp only [okr, Bool.and_eq_true, decide_eq_true_eq] at ho
            simp only
            omega
  · rw [if_neg ht, rt_of ht]
    ((with_reducible (refine mop_cT trivial ?_ ?_)); (focus (first | assumption | omega | with_reducible rfl | exact fun h => Bool.noConfusion h)); (with_reducible (refine mif_true ?_)))
    exact ⟨rfl, hM.st⟩
instance (n x : Int) : PurC Try.prog 90 [.int .i64 n, .int .i64 x] True (.int .i64 (rt n x)) := ⟨fun _ w => bright_ok n x w⟩
theorem babove_ok (n x : Int) (w : World) : Calls Try.prog 142 #[.int .i64 n, .int .i64 x] w fun en w' => en = .returned (.int .i64 (ab n x)) ∧ St w [] w' := by
  have hM := Mem.start (Fz.of w)
  refine C_bough_Above ?_
  unfold F_bough_Above
  refine ⟨fun v w' => v = .bool (decide (¬ thr n x ∨ x = root n)) ∧ hM.now w', ?_, ?_⟩
  · by_cases ht : thr n x
    · ((with_reducible (refine mm_purC hM ?_ (fun _ hM2 => ?_))); (focus (first | exact trivial | assumption | omega)); (with_reducible (replace hM := hM2; clear hM2; refine mop_c trivial ?_)))
      rw [decide_eq_true ht, Bool.not_true]
      ((with_reducible (refine mguard_yes ?_; refine mop_c trivial ?_; refine mguard_yes ?_; refine mop_c trivial ?_; refine mguard_yes ?_; refine mm_purC hM ?_ ?_)); (focus (first | exact trivial | assumption | omega)); (with_reducible (clear hM; intro _ hM; refine mguard_yes ?_)))
      ((with_reducible (refine mop_cS trivial ?_ ?_)))
      · intro h
        ((with_reducible (refine mop_c trivial ?_)))
        exact ⟨by rw [decide_eq_true (.inr h)], hM⟩
      · intro h
        ((with_reducible (refine mop_c trivial ?_)))
        exact ⟨by rw [decide_eq_false (by simp [ht, h])], hM⟩
    · ((with_reducible (refine mm_purC hM ?_ (fun _ hM2 => ?_))); (focus (first | exact trivial | assumption | omega)); (with_reducible (replace hM := hM2; clear hM2; refine mop_c trivial ?_)))
      rw [decide_eq_false ht, Bool.not_false]
      ((with_reducible ((iterate 4 refine mguard_n1 ?_); refine mop_c trivial ?_)))
      exact ⟨by rw [decide_eq_true (.inl ht)], hM⟩
  rintro v u w2 ⟨rfl, hM⟩
  by_cases ht : thr n x
  · obtain ⟨-, -, hA, -, -, -, -, hu, -⟩ := bough_eq ht
    rw [← hA]
    by_cases hr : x = root n
    · rw [decide_eq_true (.inr hr)]
      ((with_reducible (refine mif_true ?_)))
      exact ⟨by unfold pAbove; rw [if_neg (fun h => h.2 hr)], hM.st⟩
    · rw [decide_eq_false (by simp [ht, hr])]
      have hu := hu hr
      ((with_reducible (refine mif_false ?_)))
      rw [show pAbove n x = ug 8 n x from if_pos ⟨ht, hr⟩]
      refine ⟨fun v w' => ∃ (f : Nat) (y : Int), v = .int .i64 y ∧ oku f n y = true ∧ ug 8 n x = ug f n y ∧ hM.now w', fun v _ => match v with | .int _ k => (8 - level k).toNat | _ => 0, ⟨8, _, rfl, hu, rfl, hM⟩, ?_⟩
      rintro v i w2 ⟨f, y, rfl, ho, he, hM⟩
      cases f with
      | zero => simp [oku] at ho
      | succ f =>
        simp only [oku, Bool.and_eq_true, Bool.or_eq_true, decide_eq_true_eq] at ho
        obtain ⟨hy, ho⟩ := ho
        obtain ⟨-, hb, hv, -, h7⟩ := up_eq hy
        have hl := level_rng y
        ((with_reducible (refine mm_purC hM ?_ ?_)); (focus (first | exact trivial | assumption | omega)); (with_reducible (clear hM; intro _ hM; refine dp_c ?_ ?_)); (focus omega); (with_reducible (refine dp_c ?_ ?_)); (focus omega); (with_reducible (refine dp_c trivial ?_; refine dp_c ?_ ?_)); (focus omega); (with_reducible (refine dp_c trivial ?_; refine mm_end hM ?_; clear hM; intro _ hM; refine mm_purC hM ?_ ?_)); (focus (first | exact trivial | assumption | omega)); (with_reducible (clear hM; intro _ hM)))
        rw [hb]
        by_cases hty : thr n (up1 y)
        · skip
          rw [decide_eq_true hty]
          ((with_reducible (refine mif_true ?_)))
          exact ⟨by rw [he, ug, if_pos hty], hM.st⟩
        · have ho := ho.resolve_left hty
          skip
          rw [decide_eq_false hty]
          ((with_reducible (refine mif_false ?_)))
          refine ⟨⟨f, _, rfl, ho, by rw [he, ug, if_neg hty], hM⟩, ?_⟩
          simp only
          omega
  · rw [decide_eq_true (.inl ht), ab_of ht]
    ((with_reducible (refine mif_true ?_)))
    exact ⟨rfl, hM.st⟩
instance (n x : Int) : PurC Try.prog 142 [.int .i64 n, .int .i64 x] True (.int .i64 (ab n x)) := ⟨fun _ w => babove_ok n x w⟩
theorem bbeside_ok (n x : Int) (w : World) : Calls Try.prog 99 #[.int .i64 n, .int .i64 x] w fun en w' => en = .returned (.int .i64 (bs n x)) ∧ St w [] w' := by
  have hM := Mem.start (Fz.of w)
  refine C_bough_Beside ?_
  unfold F_bough_Beside
  by_cases ht : thr n x
  · obtain ⟨-, -, hA, hB, -⟩ := bough_eq ht
    rw [← hB]
    unfold pBeside
    rw [hA]
    ((with_reducible (refine mm_purC hM ?_ ?_)); (focus (first | exact trivial | assumption | omega)); (with_reducible (clear hM; intro _ hM)))
    ((with_reducible (refine mop_cS trivial ?_ ?_)))
    · intro h
      ((with_reducible (refine mif_true ?_)))
      exact ⟨by rw [if_pos h], hM.st⟩
    · intro h
      rw [if_neg h]
      have hta : thr n (ab n x) := ab_thr ht h
      obtain ⟨hl, hr, -⟩ := bough_eq hta
      rw [hl, hr]
      ((with_reducible (refine mif_false ?_)))
      ((with_reducible (refine mop_cS trivial ?_ ?_)))
      · intro h2
        ((with_reducible (refine mif_true ?_; refine mm_purC hM ?_ ?_)); (focus (first | exact trivial | assumption | omega)); (with_reducible (clear hM; intro _ hM)))
        exact ⟨by rw [if_pos h2], hM.st⟩
      · intro h2
        ((with_reducible (refine mif_false ?_; refine mm_purC hM ?_ ?_)); (focus (first | exact trivial | assumption | omega)); (with_reducible (clear hM; intro _ hM)))
        exact ⟨by rw [if_neg h2], hM.st⟩
  · rw [bs_of ht]
    have := ab_of ht
    ((with_reducible (refine mm_purC hM ?_ ?_)); (focus (first | exact trivial | assumption | omega)); (with_reducible (clear hM; intro _ hM; refine mop_cT trivial ?_ ?_)); (focus (first | assumption | omega | with_reducible rfl | exact fun h => Bool.noConfusion h)); (with_reducible (refine mif_true ?_)))
    exact ⟨rfl, hM.st⟩
instance (n x : Int) : PurC Try.prog 99 [.int .i64 n, .int .i64 x] True (.int .i64 (bs n x)) := ⟨fun _ w => bbeside_ok n x w⟩
theorem bleaves_ok (n x : Int) (w : World) : Calls Try.prog 119 #[.int .i64 n, .int .i64 x] w fun en w' => en = .returned (.tuple #[.int .i64 (fro n x), .int .i64 (til n x)]) ∧ St w [] w' := by
  have hM := Mem.start (Fz.of w)
  refine C_bough_Leaves ?_
  unfold F_bough_Leaves
  by_cases ht : thr n x
  · obtain ⟨h1, h2, h3⟩ := id ht
    obtain ⟨-, -, -, -, hF, hT, -⟩ := bough_eq ht
    obtain ⟨-, -, -, hq, h7⟩ := up_eq (x := x) (by omega)
    have hl := level_rng x
    have hp := pw_rng (k := level x) (by omega)
    rw [← hF, ← hT]
    unfold pFrom pTo
    rw [if_pos ht, if_pos ht, min_if]
    ((with_reducible (refine mm_purC hM ?_ ?_)); (focus (first | exact trivial | assumption | omega)); (with_reducible (clear hM; intro _ hM; refine mop_c trivial ?_)))
    rw [decide_eq_true ht]
    ((with_reducible (refine mif_nt ?_; refine mm_purC hM ?_ ?_)); (focus (first | exact trivial | assumption | omega)); (with_reducible (clear hM; intro _ hM; refine mop_c ?_ ?_)); (focus omega); (with_reducible (refine mop_c ?_ ?_)); (focus omega); (with_reducible (refine mop_c ?_ ?_)); (focus omega); (with_reducible (refine mop_c ?_ ?_)); (focus omega); (with_reducible (refine mop_c ?_ ?_)); (focus omega); (with_reducible (refine mop_c ?_ ?_)); (focus omega); (with_reducible (refine mop_c ?_ ?_)); (focus omega))
    exact ⟨rfl, hM.st⟩
  · rw [fro_of ht, til_of ht]
    ((with_reducible (refine mm_purC hM ?_ ?_)); (focus (first | exact trivial | assumption | omega)); (with_reducible (clear hM; intro _ hM; refine mop_c trivial ?_)))
    rw [decide_eq_false ht]
    ((with_reducible (refine mif_nf ?_)))
    exact ⟨rfl, hM.st⟩
instance (n x : Int) : PurC Try.prog 119 [.int .i64 n, .int .i64 x] True (.tuple #[.int .i64 (fro n x), .int .i64 (til n x)]) := ⟨fun _ w => bleaves_ok n x w⟩
theorem bholds_ok (n x p : Int) (w : World) : Calls Try.prog 71 #[.int .i64 n, .int .i64 x, .int .i64 p] w fun en w' => en = .returned (.bool (decide (hld n x p))) ∧ St w [] w' := by
  have hM := Mem.start (Fz.of w)
  refine C_bough_Holds ?_
  unfold F_bough_Holds
  ((with_reducible (refine mm_purC hM ?_ ?_)); (focus (first | exact trivial | assumption | omega)); (with_reducible (clear hM; intro _ hM; refine mop_c trivial ?_; refine mop_c trivial ?_)))
  ((with_reducible (refine mop_cS trivial ?_ ?_)))
  · intro h1
    ((with_reducible (refine mguard_yes ?_; refine mop_c trivial ?_; refine mguard_yes ?_; refine mop_c trivial ?_; refine mguard_yes ?_)))
    ((with_reducible (refine mop_cS trivial ?_ ?_)))
    · intro h2
      ((with_reducible (refine mop_c trivial ?_)))
      exact ⟨by rw [decide_eq_true (show hld n x p from ⟨h1, h2⟩)], hM.st⟩
    · intro h2
      ((with_reducible (refine mop_c trivial ?_)))
      exact ⟨by rw [decide_eq_false (show ¬ hld n x p from fun h => h2 h.2)], hM.st⟩
  · intro h1
    ((with_reducible ((iterate 3 refine mguard_n2 ?_); refine mop_c trivial ?_)))
    exact ⟨by rw [decide_eq_false (show ¬ hld n x p from fun h => h1 h.1)], hM.st⟩
instance (n x p : Int) : PurC Try.prog 71 [.int .i64 n, .int .i64 x, .int .i64 p] True (.bool (decide (hld n x p))) := ⟨fun _ w => bholds_ok n x p w⟩
/-! The document's. -/
theorem rleft_ok (n x : Int) (w : World) : Calls Try.prog 139 #[.int .i64 n, .int .i64 x] w fun en w' => en = .returned (.int .i64 (lf n x)) ∧ St w [] w' := by
  have hM := Mem.start (Fz.of w)
  refine C_bevyref07_Left ?_
  unfold F_bevyref07_Left
  by_cases ht : thr n x
  · obtain ⟨b1, b2, b3⟩ := fd_eq ht
    rw [show lf n x = (if (fd n x).2.1 = 1 then -1 else rootI (fd n x).1 (halfI (fd n x).2.1)) from if_pos ht]
    have hh := half_b (n := (fd n x).2.1) (by omega)
    ((with_reducible (refine mm_purC hM ?_ ?_)); (focus (first | exact trivial | assumption | omega)); (with_reducible (clear hM; intro _ hM; refine mop_c trivial ?_)))
    rw [decide_eq_true ht]
    ((with_reducible (refine mif_nt ?_; refine mm_purC hM ?_ ?_)); (focus (first | exact trivial | assumption | omega)); (with_reducible (clear hM; intro _ hM; (iterate 4 refine mop_c trivial ?_))))
    ((with_reducible (refine mop_cS trivial ?_ ?_)))
    · intro h
      ((with_reducible (refine mif_true ?_)))
      exact ⟨by rw [if_pos h], hM.st⟩
    · intro h
      ((with_reducible (refine mif_false ?_; refine mm_purC hM ?_ ?_)); (focus (first | exact trivial | assumption | omega)); (with_reducible (clear hM; intro _ hM; refine mm_purC hM ?_ ?_)); (focus (first | exact trivial | assumption | omega)); (with_reducible (clear hM; intro _ hM)))
      exact ⟨by rw [if_neg h], hM.st⟩
  · rw [lf_of ht]
    ((with_reducible (refine mm_purC hM ?_ ?_)); (focus (first | exact trivial | assumption | omega)); (with_reducible (clear hM; intro _ hM; refine mop_c trivial ?_)))
    rw [decide_eq_false ht]
    ((with_reducible (refine mif_nf ?_)))
    exact ⟨rfl, hM.st⟩
instance (n x : Int) : PurC Try.prog 139 [.int .i64 n, .int .i64 x] True (.int .i64 (lf n x)) := ⟨fun _ w => rleft_ok n x w⟩
theorem rright_ok (n x : Int) (w : World) : Calls Try.prog 140 #[.int .i64 n, .int .i64 x] w fun en w' => en = .returned (.int .i64 (rt n x)) ∧ St w [] w' := by
  have hM := Mem.start (Fz.of w)
  refine C_bevyref07_Right ?_
  unfold F_bevyref07_Right
  by_cases ht : thr n x
  · obtain ⟨b1, b2, b3⟩ := fd_eq ht
    rw [show rt n x = (if (fd n x).2.1 = 1 then -1 else rootI ((fd n x).1 + halfI (fd n x).2.1) ((fd n x).2.1 - halfI (fd n x).2.1)) from if_pos ht]
    have hh := half_b (n := (fd n x).2.1) (by omega)
    ((with_reducible (refine mm_purC hM ?_ ?_)); (focus (first | exact trivial | assumption | omega)); (with_reducible (clear hM; intro _ hM; refine mop_c trivial ?_)))
    rw [decide_eq_true ht]
    ((with_reducible (refine mif_nt ?_; refine mm_purC hM ?_ ?_)); (focus (first | exact trivial | assumption | omega)); (with_reducible (clear hM; intro _ hM; (iterate 4 refine mop_c trivial ?_))))
    ((with_reducible (refine mop_cS trivial ?_ ?_)))
    · intro h
      ((with_reducible (refine mif_true ?_)))
      exact ⟨by rw [if_pos h], hM.st⟩
    · intro h
      have h3 := hh.2.2.1 (by omega)
      ((with_reducible (refine mif_false ?_; refine mm_purC hM ?_ ?_)); (focus (first | exact trivial | assumption | omega)); (with_reducible (clear hM; intro _ hM; refine mop_c ?_ ?_)); (focus omega); (with_reducible (refine mm_purC hM ?_ ?_)); (focus (first | exact trivial | assumption | omega)); (with_reducible (clear hM; intro _ hM; refine mop_c ?_ ?_)); (focus omega); (with_reducible (refine mm_purC hM ?_ ?_)); (focus (first | exact trivial | assumption | omega)); (with_reducible (clear hM; intro _ hM)))
      exact ⟨by rw [if_neg h], hM.st⟩
  · rw [rt_of ht]
    ((with_reducible (refine mm_purC hM ?_ ?_)); (focus (first | exact trivial | assumption | omega)); (with_reducible (clear hM; intro _ hM; refine mop_c trivial ?_)))
    rw [decide_eq_false ht]
    ((with_reducible (refine mif_nf ?_)))
    exact ⟨rfl, hM.st⟩
instance (n x : Int) : PurC Try.prog 140 [.int .i64 n, .int .i64 x] True (.int .i64 (rt n x)) := ⟨fun _ w => rright_ok n x w⟩
theorem rabove_ok (n x : Int) (w : World) : Calls Try.prog 141 #[.int .i64 n, .int .i64 x] w fun en w' => en = .returned (.int .i64 (ab n x)) ∧ St w [] w' := by
  have hM := Mem.start (Fz.of w)
  refine C_bevyref07_Above ?_
  unfold F_bevyref07_Above
  by_cases ht : thr n x
  · rw [show ab n x = (fd n x).2.2.1 from if_pos ht]
    ((with_reducible (refine mm_purC hM ?_ ?_)); (focus (first | exact trivial | assumption | omega)); (with_reducible (clear hM; intro _ hM; refine mop_c trivial ?_)))
    rw [decide_eq_true ht]
    ((with_reducible (refine mif_nt ?_; refine mm_purC hM ?_ ?_)); (focus (first | exact trivial | assumption | omega)); (with_reducible (clear hM; intro _ hM; (iterate 4 refine mop_c trivial ?_))))
    exact ⟨rfl, hM.st⟩
  · rw [ab_of ht]
    ((with_reducible (refine mm_purC hM ?_ ?_)); (focus (first | exact trivial | assumption | omega)); (with_reducible (clear hM; intro _ hM; refine mop_c trivial ?_)))
    rw [decide_eq_false ht]
    ((with_reducible (refine mif_nf ?_)))
    exact ⟨rfl, hM.st⟩
instance (n x : Int) : PurC Try.prog 141 [.int .i64 n, .int .i64 x] True (.int .i64 (ab n x)) := ⟨fun _ w => rabove_ok n x w⟩
theorem rbeside_ok (n x : Int) (w : World) : Calls Try.prog 143 #[.int .i64 n, .int .i64 x] w fun en w' => en = .returned (.int .i64 (bs n x)) ∧ St w [] w' := by
  have hM := Mem.start (Fz.of w)
  refine C_bevyref07_Beside ?_
  unfold F_bevyref07_Beside
  by_cases ht : thr n x
  · rw [show bs n x = (fd n x).2.2.2 from if_pos ht]
    ((with_reducible (refine mm_purC hM ?_ ?_)); (focus (first | exact trivial | assumption | omega)); (with_reducible (clear hM; intro _ hM; refine mop_c trivial ?_)))
    rw [decide_eq_true ht]
    ((with_reducible (refine mif_nt ?_; refine mm_purC hM ?_ ?_)); (focus (first | exact trivial | assumption | omega)); (with_reducible (clear hM; intro _ hM; (iterate 4 refine mop_c trivial ?_))))
    exact ⟨rfl, hM.st⟩
  · rw [bs_of ht]
    ((with_reducible (refine mm_purC hM ?_ ?_)); (focus (first | exact trivial | assumption | omega)); (with_reducible (clear hM; intro _ hM; refine mop_c trivial ?_)))
    rw [decide_eq_false ht]
    ((with_reducible (refine mif_nf ?_)))
    exact ⟨rfl, hM.st⟩
instance (n x : Int) : PurC Try.prog 143 [.int .i64 n, .int .i64 x] True (.int .i64 (bs n x)) := ⟨fun _ w => rbeside_ok n x w⟩
theorem rrootN_ok (n : Int) (w : World) : Calls Try.prog 44 #[.int .i64 n] w fun en w' => en = .returned (.int .i64 (root n)) ∧ St w [] w' := by
  have hM := Mem.start (Fz.of w)
  refine C_bevyref07_Root ?_
  unfold F_bevyref07_Root
  by_cases ht : thr n 0
  · obtain ⟨h1, h2, h3⟩ := id ht
    rw [(bough_eq ht).2.2.2.2.2.2.2.2, show rRoot n = rootI 0 n from if_pos ht]
    ((with_reducible (refine mm_purC hM ?_ ?_)); (focus (first | exact trivial | assumption | omega)); (with_reducible (clear hM; intro _ hM; refine mop_c trivial ?_)))
    rw [decide_eq_true ht]
    ((with_reducible (refine mif_nt ?_; refine mm_purC hM ?_ ?_)); (focus (first | exact trivial | assumption | omega)); (with_reducible (clear hM; intro _ hM)))
    exact ⟨rfl, hM.st⟩
  · rw [show root n = -1 from if_neg ht]
    ((with_reducible (refine mm_purC hM ?_ ?_)); (focus (first | exact trivial | assumption | omega)); (with_reducible (clear hM; intro _ hM; refine mop_c trivial ?_)))
    rw [decide_eq_false ht]
    ((with_reducible (refine mif_nf ?_)))
    exact ⟨rfl, hM.st⟩
instance (n : Int) : PurC Try.prog 44 [.int .i64 n] True (.int .i64 (root n)) := ⟨fun _ w => rrootN_ok n w⟩
theorem rleaves_ok (n x : Int) (w : World) : Calls Try.prog 93 #[.int .i64 n, .int .i64 x] w fun en w' => en = .returned (.tuple #[.int .i64 (fro n x), .int .i64 (til n x)]) ∧ St w [] w' := by
  have hM := Mem.start (Fz.of w)
  refine C_bevyref07_Leaves ?_
  unfold F_bevyref07_Leaves
  by_cases ht : thr n x
  · obtain ⟨b1, b2, b3⟩ := fd_eq ht
    rw [show fro n x = (fd n x).1 from if_pos ht, show til n x = (fd n x).1 + (fd n x).2.1 from if_pos ht]
    ((with_reducible (refine mm_purC hM ?_ ?_)); (focus (first | exact trivial | assumption | omega)); (with_reducible (clear hM; intro _ hM; refine mop_c trivial ?_)))
    rw [decide_eq_true ht]
    ((with_reducible (refine mif_nt ?_; refine mm_purC hM ?_ ?_)); (focus (first | exact trivial | assumption | omega)); (with_reducible (clear hM; intro _ hM; (iterate 4 refine mop_c trivial ?_); refine mop_c ?_ ?_)); (focus omega))
    exact ⟨rfl, hM.st⟩
  · rw [fro_of ht, til_of ht]
    ((with_reducible (refine mm_purC hM ?_ ?_)); (focus (first | exact trivial | assumption | omega)); (with_reducible (clear hM; intro _ hM; refine mop_c trivial ?_)))
    rw [decide_eq_false ht]
    ((with_reducible (refine mif_nf ?_)))
    exact ⟨rfl, hM.st⟩
instance (n x : Int) : PurC Try.prog 93 [.int .i64 n, .int .i64 x] True (.tuple #[.int .i64 (fro n x), .int .i64 (til n x)]) := ⟨fun _ w => rleaves_ok n x w⟩
theorem rholds_ok (n x p : Int) (w : World) : Calls Try.prog 45 #[.int .i64 n, .int .i64 x, .int .i64 p] w fun en w' => en = .returned (.bool (decide (hld n x p))) ∧ St w [] w' := by
  have hM := Mem.start (Fz.of w)
  refine C_bevyref07_Holds ?_
  unfold F_bevyref07_Holds
  ((with_reducible (refine mm_purC hM ?_ ?_)); (focus (first | exact trivial | assumption | omega)); (with_reducible (clear hM; intro _ hM; refine mop_c trivial ?_; refine mop_c trivial ?_)))
  ((with_reducible (refine mop_cS trivial ?_ ?_)))
  · intro h1
    ((with_reducible (refine mguard_yes ?_; refine mop_c trivial ?_; refine mguard_yes ?_; refine mop_c trivial ?_; refine mguard_yes ?_)))
    ((with_reducible (refine mop_cS trivial ?_ ?_)))
    · intro h2
      ((with_reducible (refine mop_c trivial ?_)))
      exact ⟨by rw [decide_eq_true (show hld n x p from ⟨h1, h2⟩)], hM.st⟩
    · intro h2
      ((with_reducible (refine mop_c trivial ?_)))
      exact ⟨by rw [decide_eq_false (show ¬ hld n x p from fun h => h2 h.2)], hM.st⟩
  · intro h1
    ((with_reducible ((iterate 3 refine mguard_n2 ?_); refine mop_c trivial ?_)))
    exact ⟨by rw [decide_eq_false (show ¬ hld n x p from fun h => h1 h.1)], hM.st⟩
instance (n x p : Int) : PurC Try.prog 45 [.int .i64 n, .int .i64 x, .int .i64 p] True (.bool (decide (hld n x p))) := ⟨fun _ w => rholds_ok n x p w⟩
end
end Go.Proofs.Ytmjpbomonhjebaa
