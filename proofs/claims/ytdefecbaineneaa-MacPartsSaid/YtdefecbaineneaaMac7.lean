/- The law MacParts. -/
import Derived.Test.YtdefecbaineneaaMac6
namespace Go.Proofs.Ytdefecbaineneaa
open Go.RowKit

section
variable {H : Hp} {w w0 : World} {L R : List Res}
theorem codeP_ok {A : Option Addr} {e : Nat} (key : H32) (a b : ByteArray) (ha' : a.size ≤ 100000) (hb' : b.size ≤ 100000) (hM : Mem H w0 L w) [k : AtA L A 2 2 e 1 [[.one (.string a)], [.one (.string b)]] R] :
    Calls Try.prog 22 #[.string (strOfNums key.1), .slice A 2 2] w fun en w' => en = .returned (ha (hmacH key.1 (ints a ++ ints b))) ∧ St w [] w' := by
  have hr := hM.rd k
  have h := code_ok (strOfNums key.1) A [a, b] 2 w hr (by rw [strOfNums_size]; rw [key.2.1]; omega) (by simp) (by simp [cat, ints_length]; omega)
  rw [ints_str _ key.2.2] at h
  have e2 : cat [a, b] = ints a ++ ints b := by simp [cat]
  rw [e2] at h
  exact h
theorem codeQ_ok {A : Option Addr} {e : Nat} (key : H32) (a : ByteArray) (ha' : a.size ≤ 100000) (hM : Mem H w0 L w) [k : AtA L A 1 1 e 1 [[.one (.string a)]] R] :
    Calls Try.prog 22 #[.string (strOfNums key.1), .slice A 1 1] w fun en w' => en = .returned (ha (hmacH key.1 (ints a))) ∧ St w [] w' := by
  have hr := hM.rd k
  have h := code_ok (strOfNums key.1) A [a] 1 w hr (by rw [strOfNums_size]; rw [key.2.1]; omega) (by simp) (by simp [cat, ints_length]; omega)
  rw [ints_str _ key.2.2, cat_one] at h
  exact h
def derivedH (x : List Int) (l c : ByteArray) : H32 := ⟨derived x l c, derived_length _ _ _, hmac_range _ _⟩
theorem deriveH_ok (key : H32) (l c : ByteArray) (w : World) (hl : l.size ≤ 5000) (hc : c.size ≤ 5000) : Calls Try.prog 28 #[ha key, .string l, .string c] w fun e w' => e = .returned (ha (derivedH key.1 l c)) ∧ St w [] w' := derive_ok key.1 l c w key.2.1 key.2.2 hl hc
theorem mixH_ok (a b : H32) (w : World) : Calls Try.prog 24 #[ha a, ha b] w fun e w' => e = .returned (ha (hmacH a.1 b.1)) ∧ St w [] w' := mix_ok a.1 b.1 w a.2.1 b.2.1 a.2.2 b.2.2
theorem ints_ext (s : ByteArray) (n : Nat) : ints (s.extract 0 n) ++ ints (s.extract n s.size) = ints s := by
  unfold ints
  rw [← List.map_append]
  congr 1
  rw [ByteArray.data_extract, ByteArray.data_extract, Array.toList_extract, Array.toList_extract, List.extract_eq_take_drop, List.extract_eq_take_drop]
  simp only [List.drop_zero, Nat.sub_zero]
  have : s.data.toList.length = s.size := rfl
  rw [List.take_of_length_le (l := List.drop n s.data.toList) (by simp)]
  exact List.take_append_drop n _
theorem macParts_ok (key : H32) (s : ByteArray) (cut : Int) (hf : Fz H w) :
    Calls Try.prog 12 #[ha key, .string s, .int .i64 cut] w fun e w' => e = .returned (.bool true) ∧ St w [] w' := by
  have hM := Mem.start hf
  refine C_bevylaw03_MacParts ?_
  unfold F_bevylaw03_MacParts
  ((with_reducible (refine mm_box hM ?_; clear hM; intro _ _ hM)))
  rename_i g _
  refine ⟨fun x w' => ∃ b : Bool, x = .bool b ∧ (b = false → s.size ≤ 5000) ∧ hM.now w', ?_, ?_⟩
  · refine mm_pure hM (awake3_ok _) (fun w1 hM => ?_)
    ((with_reducible (refine mop_c trivial ?_; refine mguard_yes ?_; refine mop_c trivial ?_; refine mguard_yes ?_; refine mop_c trivial ?_; refine mguard_yes ?_)))
    ((with_reducible (refine mop_cS trivial ?_ ?_))) <;>
    · intro h
      ((with_reducible (refine mop_c trivial ?_)))
      exact ⟨_, rfl, by simp; try omega, hM⟩
  rintro x u w2 ⟨b, rfl, hb, hM⟩
  cases b with
  | true =>
    ((with_reducible (refine mif_true ?_)))
    refine mm_pure hM (awake3_ok _) (fun w1 hM => ?_)
    exact ⟨rfl, hM.st⟩
  | false =>
    have hb := hb rfl
    have hk : 0 ≤ cut % 18446744073709551616 % (((s.size : Int) + 1) % 18446744073709551616) ∧ cut % 18446744073709551616 % (((s.size : Int) + 1) % 18446744073709551616) < (s.size : Int) + 1 := by
      have e : ((s.size : Int) + 1) % 18446744073709551616 = (s.size : Int) + 1 := by omega
      rw [e]
      exact ⟨Int.emod_nonneg _ (by omega), Int.emod_lt_of_pos _ (by omega)⟩
    ((with_reducible (refine mif_false ?_; refine mop_c trivial ?_; refine mop_c trivial ?_; refine mop_c ?_ ?_)); (focus omega); (with_reducible (refine mop_c trivial ?_; refine mop_c ?_ ?_)); (focus omega); (with_reducible (refine mop_c ?_ ?_)); (focus omega); (with_reducible (refine mop_c ?_ ?_)); (focus omega); (with_reducible (refine mop_c trivial ?_; refine mop_c ?_ ?_)); (focus omega); (with_reducible (refine mop_c trivial ?_; refine mm_bsl hM ?_ ?_ ?_)); (focus rfl); (focus (constructor <;> simp)); (with_reducible (clear hM; intro _ _ hM)))
    generalize cut % 18446744073709551616 % (((s.size : Int) + 1) % 18446744073709551616) = n at hk hM ⊢
    rename_i g2 _
    have ef : [0, 0, n / 256 % 256, n % 256 % 256] = fourB n := by
      have a1 : n / 16777216 % 256 = 0 := by omega
      have a2 : n / 65536 % 256 = 0 := by omega
      have a3 : n % 256 % 256 = n % 256 := by omega
      unfold fourB
      rw [a1, a2, a3]
    refine mm_cvr (l := [0, 0, n / 256 % 256, n % 256 % 256]) (R := [fb g 23 _]) (a := ⟨.refl _⟩) hM (by simp) ?_
    rw [List.take_of_length_le (by simp), ef]
    have hM := hM.rm g2
    have e1 : (s.extract (0 : Nat) n.toNat).size = n.toNat := by simp [ByteArray.size_extract]; omega
    have e3 : (s.extract n.toNat s.size).size ≤ 5000 := by simp [ByteArray.size_extract]; omega
    have c1 : derivedH key.1 (s.extract 0 n.toNat) (s.extract n.toNat s.size) = hmacH key.1 (ints (strOfNums (fourB n)) ++ ints s) := by
      apply Subtype.ext
      show derived _ _ _ = hmac _ _
      unfold derived
      rw [e1, ints_ext s n.toNat, ints_str _ (fourB_range _), show ((n.toNat : Nat) : Int) = n by omega]
    have c2 : hmacH key.1 key.1 = hmacH key.1 (ints (strOfNums key.1)) := by rw [ints_str _ key.2.2]
    have e4 : (strOfNums (fourB n)).size ≤ 100000 := by rw [strOfNums_size]; simp [fourB]
    have e5 : (strOfNums key.1).size ≤ 100000 := by rw [strOfNums_size, key.2.1]; omega
    repeat' apply And.intro
    all_goals
      (first | ((with_reducible (refine dm_ld hM ?_; refine dp_c ?_ ?_)); (focus omega); (with_reducible (refine dp_c ?_ ?_)); (focus omega); (with_reducible (refine dp_c trivial ?_; refine dm_cvb hM ?_; refine dS_bsl hM ?_ ?_ ?_)); (focus rfl); (focus (constructor <;> simp)); (with_reducible (clear hM; intro _ _ hM))) | ((with_reducible (refine dm_ld hM ?_; refine dp_c ?_ ?_)); (focus omega); (with_reducible (refine dp_c ?_ ?_)); (focus omega); (with_reducible (refine dp_c trivial ?_; refine dm_cvb hM ?_))))
      refine dm_pure hM (fun w hM => deriveH_ok key _ _ w (by omega) e3) (fun w3 _ hM => ?_)
      (first | ((with_reducible (refine dS_bsl hM ?_ ?_ ?_)); (focus rfl); (focus (constructor <;> simp)); (with_reducible (clear hM; intro _ _ hM))) | skip)
      refine dm_pure hM (fun w hM => codeP_ok key _ _ e4 (by omega) hM) (fun w4 _ hM => ?_)
      refine dp_cT trivial c1 ?_
      (first | ((with_reducible (refine qguard_yes ?_; refine dm_ld hM ?_; refine qguard_yes ?_; refine dm_ld hM ?_; refine qguard_yes ?_; refine dp_c trivial ?_; refine qguard_yes ?_; refine dm_cvb hM ?_; refine qguard_yes ?_; refine dp_c trivial ?_; refine qguard_yes ?_; refine dm_cvb hM ?_; refine mguard_yes ?_; refine dS_bsl hM ?_ ?_ ?_)); (focus rfl); (focus (constructor <;> simp)); (with_reducible (clear hM; intro _ _ hM; refine mguard_yes ?_))) | ((with_reducible (refine qguard_yes ?_; refine dm_ld hM ?_; refine qguard_yes ?_; refine dm_ld hM ?_; refine qguard_yes ?_; refine dp_c trivial ?_; refine qguard_yes ?_; refine dm_cvb hM ?_; refine qguard_yes ?_; refine dp_c trivial ?_; refine qguard_yes ?_; refine dm_cvb hM ?_; refine mguard_yes ?_))))
      refine dm_pure hM (fun w hM => mixH_ok key key w) (fun w5 _ hM => ?_)
      (first | ((with_reducible (refine mguard_yes ?_; refine dS_bsl hM ?_ ?_ ?_)); (focus rfl); (focus (constructor <;> simp)); (with_reducible (clear hM; intro _ _ hM; refine mguard_yes ?_))) | ((with_reducible (refine mguard_yes ?_))))
      refine dm_pure hM (fun w hM => codeQ_ok key _ e5 hM) (fun w6 _ hM => ?_)
      ((with_reducible (refine qguard_yes ?_; refine dp_cT trivial ?_ ?_)); (focus (first | assumption | omega)); (with_reducible (refine dp_c trivial ?_; refine mm_end hM ?_; clear hM; intro _ hM)))
      exact ⟨rfl, hM.st⟩
end
end Go.Proofs.Ytdefecbaineneaa
