/- Bough walked: the program's ways and the document's. -/
import Derived.Test.YtmjpbomonhjebaaBo0
import Derived.Test.YtmjpbomonhjebaaF
import Derived.Test.YtmjpbomonhjebaaMse
import Derived.Test.YtmjpbomonhjebaaMpn
namespace Go.Proofs.Ytmjpbomonhjebaa
open Go.RowKit Go.Lib

set_option maxRecDepth 100000 in
theorem up_fin : ∀ y : Fin 128, bits .and .i64 y.val 1 = y.val % 2 ∧ bits .or .i64 (bits .andNot .i64 y.val (pw (level y.val + 1))) (pw (level y.val)) = up1 y.val ∧ level (up1 y.val) = level y.val + 1 ∧ pw (level y.val) ≤ y.val + 1 ∧ level y.val ≤ 7 := by decide +kernel
set_option maxRecDepth 100000 in
theorem fd_fin : ∀ n : Fin 65, ∀ x : Fin 127, thr (n.val : Int) (x.val : Int) → 0 ≤ (fd n.val x.val).1 ∧ 1 ≤ (fd n.val x.val).2.1 ∧ (fd n.val x.val).1 + (fd n.val x.val).2.1 ≤ 64 := by decide +kernel
theorem up_eq {x : Int} (h : 0 ≤ x ∧ x < 128) : bits .and .i64 x 1 = x % 2 ∧ bits .or .i64 (bits .andNot .i64 x (pw (level x + 1))) (pw (level x)) = up1 x ∧ level (up1 x) = level x + 1 ∧ pw (level x) ≤ x + 1 ∧ level x ≤ 7 := by
  have := up_fin ⟨x.toNat, by omega⟩
  simpa only [Int.toNat_of_nonneg h.1] using this
theorem fd_eq {n x : Int} (h : thr n x) : 0 ≤ (fd n x).1 ∧ 1 ≤ (fd n x).2.1 ∧ (fd n x).1 + (fd n x).2.1 ≤ 64 := by
  obtain ⟨h1, h2, h3⟩ := id h
  have := fd_fin ⟨n.toNat, by omega⟩ ⟨x.toNat, by omega⟩
  simp only [Int.toNat_of_nonneg h2, Int.toNat_of_nonneg (show 0 ≤ n by omega)] at this
  exact this h
theorem bough_eq {n x : Int} (h : thr n x) : pLeft n x = lf n x ∧ pRight n x = rt n x ∧ pAbove n x = ab n x ∧ pBeside n x = bs n x ∧ pFrom n x = fro n x ∧ pTo n x = til n x ∧
    (level x ≠ 0 → okr 8 n (x + pw (level x - 1)) = true) ∧ (x ≠ root n → oku 8 n x = true) ∧ root n = rRoot n := by
  obtain ⟨h1, h2, h3⟩ := id h
  have := bough_fin ⟨n.toNat, by omega⟩ ⟨x.toNat, by omega⟩
  simp only [Int.toNat_of_nonneg h2, Int.toNat_of_nonneg (show 0 ≤ n by omega)] at this
  exact this h
theorem lev_rng : ∀ (f : Nat) (x : Int), 0 ≤ lev f x ∧ lev f x ≤ f
  | 0, x => by simp [lev]
  | f + 1, x => by
    have := lev_rng f (x / 2)
    unfold lev
    split <;> omega
theorem level_rng (x : Int) : 0 ≤ level x ∧ level x ≤ 8 := lev_rng 8 x
theorem pw_rng {k : Int} (h : k ≤ 9) : 1 ≤ pw k ∧ pw k ≤ 512 := by
  have h2 : (2 : Nat) ^ k.toNat ≤ 2 ^ 9 := Nat.pow_le_pow_right (by decide) (by omega)
  have h3 : 0 < (2 : Nat) ^ k.toNat := Nat.pow_pos (by decide)
  have h4 : pw k = ((2 ^ k.toNat : Nat) : Int) := by unfold pw; push_cast; rfl
  rw [h4]
  omega
instance {P : Program} {t : TypeId} {q : Bool} {k' : IntKind} (b : Int) : StepC P (o_bin .shl t q (.int .i64 1) (.int k' b)) (0 ≤ b ∧ b < 62) (.int .i64 (pw b)) := ⟨fun h => by
  have := p_shl (P := P) t q .i64 k' 1 b h.1 (by show b < 64; omega)
  have h2 : (2 : Nat) ^ b.toNat ≤ 2 ^ 62 := Nat.pow_le_pow_right (by decide) (by omega)
  have h4 : (2 : Int) ^ b.toNat = ((2 ^ b.toNat : Nat) : Int) := by push_cast; rfl
  have h5 : -9223372036854775808 ≤ (2 : Int) ^ b.toNat ∧ (2 : Int) ^ b.toNat < 9223372036854775808 := by
    generalize (2 : Nat) ^ b.toNat = m at h2 h4
    rw [h4]
    omega
  rw [Int.one_mul, wrap_in h5] at this
  exact this⟩
theorem p_andNot {P : Program} (t : TypeId) (c : Bool) (k : IntKind) (a b : Int) : Pur P (o_bin .andNot t c (.int k a) (.int k b)) (.int k (bits .andNot k a b)) := fun w => by
  simp [o_bin, sv, eqGuard, binOp, go_sem]
instance {P : Program} {t : TypeId} {q : Bool} {k : IntKind} (a b : Int) : StepC P (o_bin .andNot t q (.int k a) (.int k b)) True (.int k (bits .andNot k a b)) := ⟨fun _ => p_andNot t q k a b⟩
section
variable {H : Hp} {w0 w : World} {L : List Res}
theorem there_ok (n x : Int) (w : World) : Calls Try.prog 130 #[.int .i64 n, .int .i64 x] w fun en w' => en = .returned (.bool (decide (thr n x))) ∧ St w [] w' := by
  have hM := Mem.start (Fz.of w)
  refine C_bough_there ?_
  unfold F_bough_there
  ((with_reducible (refine mop_cS trivial ?_ ?_)))
  · intro h1
    ((with_reducible (refine mguard_yes ?_; refine mop_c trivial ?_; refine mguard_yes ?_)))
    ((with_reducible (refine mop_cS trivial ?_ ?_)))
    · intro h2
      ((with_reducible (refine mop_c trivial ?_; refine mguard_yes ?_; refine mop_c trivial ?_; refine mguard_yes ?_)))
      ((with_reducible (refine mop_cS trivial ?_ ?_)))
      · intro h3
        ((with_reducible (refine mop_c trivial ?_; refine mguard_yes ?_; refine mop_c trivial ?_; refine mguard_yes ?_; refine mop_c trivial ?_; refine mguard_yes ?_; refine mop_c ?_ ?_)); (focus omega); (with_reducible (refine mguard_yes ?_; refine mop_c ?_ ?_)); (focus omega); (with_reducible (refine mguard_yes ?_)))
        ((with_reducible (refine mop_cS trivial ?_ ?_)))
        · intro h4
          ((with_reducible (refine mop_c trivial ?_)))
          exact ⟨by rw [decide_eq_true (show thr n x from ⟨⟨h1, h2⟩, h3, h4⟩)], hM.st⟩
        · intro h4
          ((with_reducible (refine mop_c trivial ?_)))
          exact ⟨by rw [decide_eq_false (show ¬ thr n x from fun h => h4 h.2.2)], hM.st⟩
      · intro h3
        ((with_reducible (refine mop_c trivial ?_; (iterate 5 refine mguard_n2 ?_); refine mop_c trivial ?_)))
        exact ⟨by rw [decide_eq_false (show ¬ thr n x from fun h => h3 h.2.1)], hM.st⟩
    · intro h2
      ((with_reducible (refine mop_c trivial ?_; refine mguard_n2 ?_; refine mguard_n2 ?_; refine mop_c trivial ?_; (iterate 5 refine mguard_n2 ?_); refine mop_c trivial ?_)))
      exact ⟨by rw [decide_eq_false (show ¬ thr n x from fun h => h2 h.1.2)], hM.st⟩
  · intro h1
    ((with_reducible (refine mguard_n2 ?_; refine mguard_n2 ?_; refine mop_c trivial ?_; refine mguard_n2 ?_; refine mguard_n2 ?_; refine mop_c trivial ?_; (iterate 5 refine mguard_n2 ?_); refine mop_c trivial ?_)))
    exact ⟨by rw [decide_eq_false (show ¬ thr n x from fun h => h1 h.1.1)], hM.st⟩
instance (n x : Int) : PurC Try.prog 130 [.int .i64 n, .int .i64 x] True (.bool (decide (thr n x))) := ⟨fun _ w => there_ok n x w⟩
theorem rthere_ok (n x : Int) (w : World) : Calls Try.prog 91 #[.int .i64 n, .int .i64 x] w fun en w' => en = .returned (.bool (decide (thr n x))) ∧ St w [] w' := by
  have hM := Mem.start (Fz.of w)
  refine C_bevyref07_There ?_
  unfold F_bevyref07_There
  ((with_reducible (refine mop_cS trivial ?_ ?_)))
  · intro h1
    ((with_reducible (refine mguard_yes ?_; refine mop_c trivial ?_; refine mguard_yes ?_)))
    ((with_reducible (refine mop_cS trivial ?_ ?_)))
    · intro h2
      ((with_reducible (refine mop_c trivial ?_; refine mguard_yes ?_; refine mop_c trivial ?_; refine mguard_yes ?_)))
      ((with_reducible (refine mop_cS trivial ?_ ?_)))
      · intro h3
        ((with_reducible (refine mop_c trivial ?_; refine mguard_yes ?_; refine mop_c trivial ?_; refine mguard_yes ?_; refine mop_c trivial ?_; refine mguard_yes ?_; refine mop_c ?_ ?_)); (focus omega); (with_reducible (refine mguard_yes ?_; refine mop_c ?_ ?_)); (focus omega); (with_reducible (refine mguard_yes ?_)))
        ((with_reducible (refine mop_cS trivial ?_ ?_)))
        · intro h4
          ((with_reducible (refine mop_c trivial ?_)))
          exact ⟨by rw [decide_eq_true (show thr n x from ⟨⟨h1, h2⟩, h3, h4⟩)], hM.st⟩
        · intro h4
          ((with_reducible (refine mop_c trivial ?_)))
          exact ⟨by rw [decide_eq_false (show ¬ thr n x from fun h => h4 h.2.2)], hM.st⟩
      · intro h3
        ((with_reducible (refine mop_c trivial ?_; (iterate 5 refine mguard_n2 ?_); refine mop_c trivial ?_)))
        exact ⟨by rw [decide_eq_false (show ¬ thr n x from fun h => h3 h.2.1)], hM.st⟩
    · intro h2
      ((with_reducible (refine mop_c trivial ?_; refine mguard_n2 ?_; refine mguard_n2 ?_; refine mop_c trivial ?_; (iterate 5 refine mguard_n2 ?_); refine mop_c trivial ?_)))
      exact ⟨by rw [decide_eq_false (show ¬ thr n x from fun h => h2 h.1.2)], hM.st⟩
  · intro h1
    ((with_reducible (refine mguard_n2 ?_; refine mguard_n2 ?_; refine mop_c trivial ?_; refine mguard_n2 ?_; refine mguard_n2 ?_; refine mop_c trivial ?_; (iterate 5 refine mguard_n2 ?_); refine mop_c trivial ?_)))
    exact ⟨by rw [decide_eq_false (show ¬ thr n x from fun h => h1 h.1.1)], hM.st⟩
instance (n x : Int) : PurC Try.prog 91 [.int .i64 n, .int .i64 x] True (.bool (decide (thr n x))) := ⟨fun _ w => rthere_ok n x w⟩
theorem level_ok (x : Int) (hx : 0 ≤ x ∧ x < 128) (w : World) : Calls Try.prog 131 #[.int .i64 x] w fun en w' => en = .returned (.int .i64 (level x)) ∧ St w [] w' := by
  have hM := Mem.start (Fz.of w)
  refine C_bough_level ?_
  unfold F_bough_level
  refine ⟨fun v u w' => ∃ (y k : Int) (f : Nat), v = .int .i64 y ∧ u = .int .i64 k ∧ f ≤ 7 ∧ k = 7 - f ∧ 0 ≤ y ∧ y < 2 ^ f ∧ level x = k + lev (f + 1) y ∧ hM.now w', fun _ u _ => match u with | .int _ k => 7 - k.toNat | _ => 0, ⟨x, 0, 7, rfl, rfl, by omega, by omega, hx.1, hx.2, by unfold level; rw [Int.zero_add], hM⟩, ?_⟩
  rintro v u i w2 ⟨y, k, f, rfl, rfl, hf, hk, hy, hy2, hl, hM⟩
  have h7 : (2 : Int) ^ f ≤ 128 := by
    have h2 : (2 : Nat) ^ f ≤ 2 ^ 7 := Nat.pow_le_pow_right (by decide) hf
    have h4 : (2 : Int) ^ f = ((2 ^ f : Nat) : Int) := by push_cast; rfl
    omega
  obtain ⟨hb, _⟩ := up_eq (x := y) (by omega)
  ((with_reducible (refine mop_c trivial ?_)))
  rw [hb]
  ((with_reducible (refine mop_cS trivial ?_ ?_)))
  · intro ho
    cases f with
    | zero => simp at hy2; omega
    | succ f =>
      ((with_reducible (refine mif_true ?_; refine mop_c ?_ ?_)); (focus omega); (with_reducible (refine mop_c ?_ ?_)); (focus omega))
      have hd : y / 2 ^ (1 : Int).toNat = y / 2 := rfl
      rw [hd]
      have hp : (2 : Int) ^ (f + 1) = 2 ^ f * 2 := Int.pow_succ 2 f
      refine ⟨⟨y / 2, k + 1, f, rfl, rfl, by omega, by omega, by omega, by omega, ?_, hM⟩, ?_⟩
      · rw [hl]
        conv => lhs; rw [lev, if_pos ho]
        omega
      · simp only
        omega
  · intro ho
    ((with_reducible (refine mif_false ?_)))
    refine ⟨?_, hM.st⟩
    rw [hl, lev, if_neg ho]
    simp
instance (x : Int) : PurC Try.prog 131 [.int .i64 x] (0 ≤ x ∧ x < 128) (.int .i64 (level x)) := ⟨fun h w => level_ok x h w⟩
theorem broot_ok (n : Int) (w : World) : Calls Try.prog 95 #[.int .i64 n] w fun en w' => en = .returned (.int .i64 (root n)) ∧ St w [] w' := by
  have hM := Mem.start (Fz.of w)
  refine C_bough_Root ?_
  unfold F_bough_Root
  by_cases ht : thr n 0
  · rw [show root n = rtN n - 1 from if_pos ht]
    have hn := ht.1
    ((with_reducible (refine mm_purC hM ?_ ?_)); (focus (first | exact trivial | assumption | omega)); (with_reducible (clear hM; intro _ hM; refine mop_c trivial ?_)))
    rw [decide_eq_true ht]
    ((with_reducible (refine mif_nt ?_)))
    refine ⟨fun v w' => ∃ k : Int, v = .int .i64 k ∧ (k = 1 ∨ k = 2 ∨ k = 4 ∨ k = 8 ∨ k = 16 ∨ k = 32 ∨ k = 64) ∧ (k = 1 ∨ k < 2 * n) ∧ hM.now w', fun v _ => match v with | .int _ k => 100 - k.toNat | _ => 0, ⟨1, rfl, .inl rfl, .inl rfl, hM⟩, ?_⟩
    rintro v i w2 ⟨k, rfl, h1, h2, hM⟩
    ((with_reducible (refine mop_cS trivial ?_ ?_)))
    · intro h
      ((with_reducible (refine mif_true ?_; refine mop_c ?_ ?_)); (focus omega))
      exact ⟨⟨k * 2, rfl, by omega, by omega, hM⟩, by simp only; omega⟩
    · intro h
      ((with_reducible (refine mif_false ?_; refine mop_c ?_ ?_)); (focus omega))
      refine ⟨?_, hM.st⟩
      rw [show rtN n = k by unfold rtN; repeat' split
                            all_goals omega]
  · rw [show root n = -1 from if_neg ht]
    ((with_reducible (refine mm_purC hM ?_ ?_)); (focus (first | exact trivial | assumption | omega)); (with_reducible (clear hM; intro _ hM; refine mop_c trivial ?_)))
    rw [decide_eq_false ht]
    ((with_reducible (refine mif_nf ?_)))
    exact ⟨rfl, hM.st⟩
instance (n : Int) : PurC Try.prog 95 [.int .i64 n] True (.int .i64 (root n)) := ⟨fun _ w => broot_ok n w⟩
theorem half_ok (n : Int) (hn : 1 ≤ n ∧ n ≤ 64) (w : World) : Calls Try.prog 132 #[.int .i64 n] w fun en w' => en = .returned (.int .i64 (halfI n)) ∧ St w [] w' := by
  have hM := Mem.start (Fz.of w)
  refine C_bevyref07_half ?_
  unfold F_bevyref07_half
  refine ⟨fun v w' => ∃ k : Int, v = .int .i64 k ∧ (k = 1 ∨ k = 2 ∨ k = 4 ∨ k = 8 ∨ k = 16 ∨ k = 32) ∧ (k = 1 ∨ k < n) ∧ hM.now w', fun v _ => match v with | .int _ k => 100 - k.toNat | _ => 0, ⟨1, rfl, .inl rfl, .inl rfl, hM⟩, ?_⟩
  rintro v i w2 ⟨k, rfl, h1, h2, hM⟩
  ((with_reducible (refine mop_c ?_ ?_)); (focus omega))
  ((with_reducible (refine mop_cS trivial ?_ ?_)))
  · intro h
    ((with_reducible (refine mif_true ?_; refine mop_c ?_ ?_)); (focus omega))
    exact ⟨⟨2 * k, rfl, by omega, by omega, hM⟩, by simp only; omega⟩
  · intro h
    ((with_reducible (refine mif_false ?_)))
    refine ⟨?_, hM.st⟩
    rw [show halfI n = k by unfold halfI; repeat' split
                            all_goals omega]
instance (n : Int) : PurC Try.prog 132 [.int .i64 n] (1 ≤ n ∧ n ≤ 64) (.int .i64 (halfI n)) := ⟨fun h w => half_ok n h w⟩
theorem half_b {n : Int} (h : 1 ≤ n ∧ n ≤ 64) : 1 ≤ halfI n ∧ halfI n ≤ 32 ∧ (2 ≤ n → halfI n < n) ∧ n ≤ 2 * halfI n := by
  unfold halfI
  repeat' split
  all_goals omega
theorem rroot_ok (a n : Int) (h : (0 ≤ a ∧ a ≤ 100) ∧ 1 ≤ n ∧ n ≤ 64) (w : World) : Calls Try.prog 92 #[.int .i64 a, .int .i64 n] w fun en w' => en = .returned (.int .i64 (rootI a n)) ∧ St w [] w' := by
  have hM := Mem.start (Fz.of w)
  refine C_bevyref07_root ?_
  unfold F_bevyref07_root rootI
  have hb := half_b h.2
  ((with_reducible (refine mop_cS trivial ?_ ?_)))
  · intro h1
    ((with_reducible (refine mif_true ?_; refine mop_c ?_ ?_)); (focus omega))
    exact ⟨by rw [if_pos h1], hM.st⟩
  · intro h1
    ((with_reducible (refine mif_false ?_; refine mm_purC hM ?_ ?_)); (focus (first | exact trivial | assumption | omega)); (with_reducible (clear hM; intro _ hM; refine mop_c ?_ ?_)); (focus omega); (with_reducible (refine mop_c ?_ ?_)); (focus omega); (with_reducible (refine mop_c ?_ ?_)); (focus omega))
    exact ⟨by rw [if_neg h1], hM.st⟩
instance (a n : Int) : PurC Try.prog 92 [.int .i64 a, .int .i64 n] ((0 ≤ a ∧ a ≤ 100) ∧ 1 ≤ n ∧ n ≤ 64) (.int .i64 (rootI a n)) := ⟨fun h w => rroot_ok a n h w⟩
def okf : Nat → Int → Bool
  | 0, n => decide (n = 1)
  | f + 1, n => decide (n = 1) || (okf f (halfI n) && okf f (n - halfI n))
set_option maxRecDepth 100000 in
theorem okf_fin : ∀ n : Fin 65, 1 ≤ n.val → okf 6 n.val = true := by decide +kernel
theorem find_ok : ∀ (f : Nat) (a n x p b : Int), okf f n = true → 0 ≤ a → 1 ≤ n → a + n ≤ 64 → 2 * a ≤ x → x ≤ 2 * (a + n) - 2 → ∀ w, Calls Try.prog 133 #[.int .i64 a, .int .i64 n, .int .i64 x, .int .i64 p, .int .i64 b] w fun en w' => en = .returned (.tuple #[.int .i64 (fnd (f + 1) a n x p b).1, .int .i64 (fnd (f + 1) a n x p b).2.1, .int .i64 (fnd (f + 1) a n x p b).2.2.1, .int .i64 (fnd (f + 1) a n x p b).2.2.2]) ∧ St w [] w' := by
  intro f
  induction f with
  | zero =>
    intro a n x p b ho ha hn hs hx hy w
    have hM := Mem.start (Fz.of w)
    have h1 : n = 1 := by simpa [okf] using ho
    subst h1
    have hr : rootI a 1 = x := by unfold rootI; rw [if_pos rfl]; omega
    refine C_bevyref07_find ?_
    unfold F_bevyref07_find
    ((with_reducible (refine mm_purC hM ?_ ?_)); (focus (first | exact trivial | assumption | omega)); (with_reducible (clear hM; intro _ hM; refine mop_cT trivial ?_ ?_)); (focus (first | assumption | omega | with_reducible rfl | exact fun h => Bool.noConfusion h)); (with_reducible (refine mif_true ?_)))
    exact ⟨by simp only [fnd, if_pos hr], hM.st⟩
  | succ f ih =>
    intro a n x p b ho ha hn hs hx hy w
    have hM := Mem.start (Fz.of w)
    refine C_bevyref07_find ?_
    unfold F_bevyref07_find
    by_cases hr : rootI a n = x
    · ((with_reducible (refine mm_purC hM ?_ ?_)); (focus (first | exact trivial | assumption | omega)); (with_reducible (clear hM; intro _ hM; refine mop_cT trivial ?_ ?_)); (focus (first | assumption | omega | with_reducible rfl | exact fun h => Bool.noConfusion h)); (with_reducible (refine mif_true ?_)))
      exact ⟨by simp only [fnd, if_pos hr], hM.st⟩
    · have h1 : n ≠ 1 := by
        rintro rfl
        apply hr
        unfold rootI
        rw [if_pos rfl]
        omega
      have hre : rootI a n = 2 * (a + halfI n) - 1 := by unfold rootI; rw [if_neg h1]
      obtain ⟨b1, b2, b3, b4⟩ := half_b (n := n) (by omega)
      have b3 := b3 (by omega)
      simp only [okf, Bool.or_eq_true, decide_eq_true_eq, Bool.and_eq_true] at ho
      have ho := ho.resolve_left h1
      have e1 : fnd (f + 1 + 1) a n x p b = if x < rootI a n then fnd (f + 1) a (halfI n) x (rootI a n) (rootI (a + halfI n) (n - halfI n)) else fnd (f + 1) (a + halfI n) (n - halfI n) x (rootI a n) (rootI a (halfI n)) := by
        conv => lhs; rw [fnd, if_neg hr]
      ((with_reducible (refine mm_purC hM ?_ ?_)); (focus (first | exact trivial | assumption | omega)); (with_reducible (clear hM; intro _ hM; refine mop_cF trivial ?_ ?_)); (focus (first | assumption | omega | with_reducible rfl | exact fun h => Bool.noConfusion h)); (with_reducible (refine mif_false ?_; refine mm_purC hM ?_ ?_)); (focus (first | exact trivial | assumption | omega)); (with_reducible (clear hM; intro _ hM; refine mm_purC hM ?_ ?_)); (focus (first | exact trivial | assumption | omega)); (with_reducible (clear hM; intro _ hM; refine mop_c ?_ ?_)); (focus omega); (with_reducible (refine mop_c ?_ ?_)); (focus omega); (with_reducible (refine mm_purC hM ?_ ?_)); (focus (first | exact trivial | assumption | omega)); (with_reducible (clear hM; intro _ hM)))
      ((with_reducible (refine mop_cS trivial ?_ ?_)))
      · intro hl
        rw [if_pos hl] at e1
        ((with_reducible (refine mif_true ?_)))
        refine mm_pure hM (ih a (halfI n) x _ _ ho.1 ha b1 (by omega) hx (by omega) _) (fun w hM => ?_)
        skip
        rw [e1]
        exact ⟨rfl, hM.st⟩
      · intro hl
        rw [if_neg hl] at e1
        ((with_reducible (refine mif_false ?_; refine mop_c ?_ ?_)); (focus omega); (with_reducible (refine mop_c ?_ ?_)); (focus omega))
        refine mm_pure hM (ih (a + halfI n) (n - halfI n) x _ _ ho.2 (by omega) (by omega) (by omega) (by omega) (by omega) _) (fun w hM => ?_)
        skip
        rw [e1]
        exact ⟨rfl, hM.st⟩
theorem fd_ok (n x : Int) (h : thr n x) (w : World) : Calls Try.prog 133 #[.int .i64 0, .int .i64 n, .int .i64 x, .int .i64 (-1), .int .i64 (-1)] w fun en w' => en = .returned (.tuple #[.int .i64 (fd n x).1, .int .i64 (fd n x).2.1, .int .i64 (fd n x).2.2.1, .int .i64 (fd n x).2.2.2]) ∧ St w [] w' := by
  obtain ⟨h1, h2, h3⟩ := h
  have := okf_fin ⟨n.toNat, by omega⟩ (by simp only; omega)
  simp only [Int.toNat_of_nonneg (show 0 ≤ n by omega)] at this
  exact find_ok 6 0 n x (-1) (-1) this (by omega) (by omega) (by omega) (by omega) (by omega) w
instance (n x : Int) : PurC Try.prog 133 [.int .i64 0, .int .i64 n, .int .i64 x, .int .i64 (-1), .int .i64 (-1)] (thr n x) (.tuple #[.int .i64 (fd n x).1, .int .i64 (fd n x).2.1, .int .i64 (fd n x).2.2.1, .int .i64 (fd n x).2.2.2]) := ⟨fun h w => fd_ok n x h w⟩
end
end Go.Proofs.Ytmjpbomonhjebaa
