/- The document's way from a leaf upwards; two lists alike. -/
import Derived.Test.YtmjpbomonhjebaaBo3
import Derived.Test.YtmjpbomonhjebaaBo2
namespace Go.Proofs.Ytmjpbomonhjebaa
open Go.RowKit Go.Lib

theorem okd_eq (n x : Int) : okd 8 n x = true := by
  by_cases h : thr n x
  · obtain ⟨h1, h2, h3⟩ := id h
    have := okd_fin ⟨n.toNat, by omega⟩ ⟨x.toNat, by omega⟩
    simp only [Int.toNat_of_nonneg h2, Int.toNat_of_nonneg (show 0 ≤ n by omega)] at this
    exact this h
  · simp [okd, ab_of h]
theorem dirF_end {f : Nat} {n x : Int} (h : ab n x < 0) : dirF f n x = [] := by
  cases f with
  | zero => rfl
  | succ f => rw [dirF, if_pos h]
theorem dirF_step {f : Nat} {n x : Int} (h : ¬ ab n x < 0) (ho : okd f n x = true) : ∃ g, f = g + 1 ∧ dirF f n x = ab n x :: dirF g n (ab n x) ∧ okd g n (ab n x) = true := by
  cases f with
  | zero => simp [okd] at ho; omega
  | succ f =>
    simp only [okd, Bool.or_eq_true, decide_eq_true_eq] at ho
    exact ⟨f, rfl, by rw [dirF, if_neg h], ho.resolve_left h⟩
theorem dirF_len : ∀ (f : Nat) (n x : Int), (dirF f n x).length ≤ f
  | 0, n, x => by simp [dirF]
  | f + 1, n, x => by
    rw [dirF]
    split
    · simp
    · have := dirF_len f n (ab n x)
      simp only [List.length_cons]
      omega
theorem dirL_len (n l : Int) : (dirL n l).length ≤ 8 := by
  unfold dirL
  split
  · exact dirF_len 8 n _
  · simp
abbrev ints8 (l : List Int) : List (List Fd) := l.map fun x => [.one (.int .i64 x)]
theorem ints8_length (l : List Int) : (ints8 l).length = l.length := by simp [ints8]
theorem ints8_app (a b : List Int) : ints8 (a ++ b) = ints8 a ++ ints8 b := by simp [ints8]
theorem els_ints8 (l : List Int) : Els 1 (ints8 l) := Els.map (f := fun x => [.one (.int .i64 x)]) l fun _ => ⟨inferInstance, rfl⟩
theorem ints8_at {l : List Int} {i : Nat} (h : i < l.length) : (ints8 l)[i]? = some [.one (.int .i64 l[i])] := by simp [ints8, h]
section
variable {H : Hp} {w0 w : World} {L : List Res}
theorem rdirect_ok (n l : Int) (hn : -1000000 ≤ l ∧ l ≤ 1000000) (hM : Mem H w0 L w) : Calls Try.prog 97 #[.int .i64 n, .int .i64 l] w fun en w' => ∃ v, en = .returned v ∧ ∃ A cap, v = .slice A (dirL n l).length cap ∧ Mem H w0 (rowR 3 1 A (dirL n l).length cap (ints8 (dirL n l)) :: L) w' := by
  refine C_bevyref07_Direct ?_
  unfold F_bevyref07_Direct
  refine ⟨fun v w' => v = .bool (decide ((l < 0 ∨ n ≤ l) ∨ ¬ thr n 0)) ∧ hM.now w', ?_, ?_⟩
  · ((with_reducible (refine mop_cS trivial ?_ ?_)))
    · intro h
      ((with_reducible ((iterate 3 refine mguard_n1 ?_); refine mop_c trivial ?_; (iterate 3 refine mguard_n1 ?_); refine mop_c trivial ?_)))
      exact ⟨by rw [decide_eq_true (.inl (.inl h))], hM⟩
    · intro h
      ((with_reducible (refine mguard_yes ?_; refine mop_c trivial ?_; refine mguard_yes ?_; refine mop_c trivial ?_; refine mguard_yes ?_)))
      ((with_reducible (refine mop_cS trivial ?_ ?_)))
      · intro h2
        ((with_reducible (refine mop_c trivial ?_; (iterate 3 refine mguard_n1 ?_); refine mop_c trivial ?_)))
        exact ⟨by rw [decide_eq_true (.inl (.inr h2))], hM⟩
      · intro h2
        by_cases ht : thr n 0
        · ((with_reducible (refine mop_c trivial ?_; refine mguard_yes ?_; refine mop_c trivial ?_; refine mguard_yes ?_; refine mm_purC hM ?_ (fun _ hM2 => ?_))); (focus (first | exact trivial | assumption | omega)); (with_reducible (replace hM := hM2; clear hM2; refine mguard_yes ?_; refine mop_c trivial ?_; refine mop_c trivial ?_)))
          rw [decide_eq_true ht]
          skip
          exact ⟨by rw [decide_eq_false (by simp [ht]; omega)]; rfl, hM⟩
        · ((with_reducible (refine mop_c trivial ?_; refine mguard_yes ?_; refine mop_c trivial ?_; refine mguard_yes ?_; refine mm_purC hM ?_ (fun _ hM2 => ?_))); (focus (first | exact trivial | assumption | omega)); (with_reducible (replace hM := hM2; clear hM2; refine mguard_yes ?_; refine mop_c trivial ?_; refine mop_c trivial ?_)))
          rw [decide_eq_false ht]
          skip
          exact ⟨by rw [decide_eq_true (.inr ht)]; rfl, hM⟩
  rintro v u w2 ⟨rfl, hM⟩
  by_cases hc : (l < 0 ∨ n ≤ l) ∨ ¬ thr n 0
  · have he : dirL n l = [] := by
      unfold dirL
      by_cases hl : 0 ≤ l ∧ l < n
      · rw [if_pos hl]
        have ht : ¬ thr n 0 := hc.resolve_left (by omega)
        refine dirF_end ?_
        rw [ab_of (fun h => ht ⟨h.1, by omega⟩)]
        omega
      · rw [if_neg hl]
    rw [decide_eq_true hc, he]
    ((with_reducible (refine mif_true ?_)))
    exact ⟨_, rfl, _, _, rfl, hM.row0 _ _⟩
  · rw [decide_eq_false hc]
    have hd : dirL n l = dirF 8 n (2 * l) := by unfold dirL; rw [if_pos (by omega)]
    rw [hd]
    ((with_reducible (refine mif_false ?_; refine mop_c ?_ ?_)); (focus omega); (with_reducible (refine mm_purC hM ?_ ?_)); (focus (first | exact trivial | assumption | omega)); (with_reducible (clear hM; intro _ hM)))
    refine ⟨fun v u w' => ∃ (f : Nat) (y : Int) (pre : List Int) (A : Option Addr) (cap : Nat), v = .slice A pre.length cap ∧ u = .int .i64 (ab n y) ∧ f + pre.length = 8 ∧ dirF 8 n (2 * l) = pre ++ dirF f n y ∧ okd f n y = true ∧ Mem H w0 (rowR 3 1 A pre.length cap (ints8 pre) :: L) w', fun v _ _ => match v with | .slice _ k _ => 8 - k | _ => 0, ⟨8, 2 * l, [], none, 0, rfl, rfl, rfl, rfl, okd_eq _ _, hM.row0 _ _⟩, ?_⟩
    clear hM
    rintro v u i w3 ⟨f, y, pre, A, cap, rfl, rfl, hf, he, ho, hM⟩
    ((with_reducible (refine mop_cS trivial ?_ ?_)))
    · intro h
      obtain ⟨g, rfl, e2, ho⟩ := dirF_step (by omega) ho
      ((with_reducible (refine mif_true ?_; refine mm_bsl hM ?_ ?_ ?_)); (focus rfl); (focus (constructor <;> simp)); (with_reducible (clear hM; intro _ _ hM; refine mm_appo hM ?_ ?_)); (focus omega); (with_reducible (clear hM; intro _ _ _ hM; refine mm_purC hM ?_ ?_)); (focus (first | exact trivial | assumption | omega)); (with_reducible (clear hM; intro _ hM)))
      rename_i _ _ A2 cap2 _ _
      refine ⟨⟨g, ab n y, pre ++ [ab n y], A2, cap2, by simp, rfl, by simp; omega, by rw [he, e2]; simp, ho, ?_⟩, by simp only; omega⟩
      rw [ints8_app, List.length_append]
      exact hM
    · intro h
      ((with_reducible (refine mif_false ?_)))
      rw [he, dirF_end (by omega), List.append_nil]
      exact ⟨_, rfl, _, _, rfl, hM⟩
theorem rsame_ok {A B : Option Addr} {a b : Nat} (xs ys : List Int) (hx : xs.length ≤ maxLen) (ha : Sl H 1 A (ints8 xs)) (hb : Sl H 1 B (ints8 ys)) (hM : Mem H w0 L w) : Calls Try.prog 81 #[.slice A xs.length a, .slice B ys.length b] w fun en w' => en = .returned (.bool (decide (xs = ys))) ∧ Mem H w0 L w' := by
  refine C_bevyref07_Same ?_
  unfold F_bevyref07_Same
  have hx' : xs.length ≤ 9223372036854775807 := hx
  ((with_reducible (refine mop_c trivial ?_; refine mop_c trivial ?_)))
  ((with_reducible (refine mop_cS trivial ?_ ?_)))
  · intro h
    ((with_reducible (refine mif_true ?_)))
    exact ⟨by rw [decide_eq_false (fun e => h (by rw [e]))], hM⟩
  · intro h
    have hl : xs.length = ys.length := by omega
    ((with_reducible (refine mif_false ?_)))
    refine ⟨fun v w' => ∃ i : Nat, v = .int .i64 i ∧ i ≤ xs.length ∧ xs.take i = ys.take i ∧ hM.now w', fun v _ => match v with | .int _ k => xs.length - k.toNat | _ => 0, ⟨0, rfl, by omega, by simp, hM⟩, ?_⟩
    rintro v u w3 ⟨i, rfl, hi, he, hM⟩
    ((with_reducible (refine mop_c trivial ?_)))
    ((with_reducible (refine mop_cS trivial ?_ ?_)))
    · intro h2
      have h3 : i < ys.length := by omega
      have e1 := ints8_at (l := xs) (i := i) (by omega)
      have e2 := ints8_at (l := ys) (i := i) (by omega)
      ((with_reducible (refine mif_true ?_)); (with_reducible refine dp_ixs ‹_› ?_ ?_ ?_); (focus (simp only [List.length_map]; omega)); (focus (simp only [List.length_map]; first | done | omega)); (with_reducible (intro _ _ hA)); (cases hA); (with_reducible refine dm_lds0 hM ‹_› (map_atI ?_) ?_); (focus omega); (with_reducible refine dp_ixs ‹_› ?_ ?_ ?_); (focus (simp only [List.length_map]; omega)); (focus (simp only [List.length_map]; first | done | omega)); (with_reducible (intro _ _ hA)); (cases hA); (with_reducible refine dm_lds0 hM ‹_› (map_atI ?_) ?_); (focus omega))
      ((with_reducible (refine dp_cS trivial ?_ ?_)))
      · intro h4
        ((with_reducible (refine mm_end hM ?_; clear hM; intro _ hM; refine mif_true ?_)))
        refine ⟨?_, hM⟩
        rw [decide_eq_false]
        rintro rfl
        exact h4 rfl
      · intro h4
        ((with_reducible (refine mm_end hM ?_; clear hM; intro _ hM; refine mif_false ?_; refine mop_c ?_ ?_)); (focus omega))
        refine ⟨⟨i + 1, rfl, by omega, ?_, hM⟩, by simp only; omega⟩
        rw [List.take_succ_eq_append_getElem (by omega), List.take_succ_eq_append_getElem h3, he, Decidable.not_not.1 h4]
    · intro h2
      ((with_reducible (refine mif_false ?_)))
      have : xs = ys := by
        have h1 : xs.take xs.length = ys.take xs.length := by
          have : i = xs.length := by omega
          rw [this] at he
          exact he
        rw [List.take_length, hl, List.take_length] at h1
        exact h1
      exact ⟨by rw [decide_eq_true this], hM⟩
end
end Go.Proofs.Ytmjpbomonhjebaa
