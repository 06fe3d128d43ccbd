/- Rows of bytes: mac.Stream, the document's, and the laws MacRows and MacParts. -/
import Derived.Test.YtdefecbaineneaaMac5
import Derived.Test.YtdefecbaineneaaMse
namespace Go.Proofs.Ytdefecbaineneaa
open Go.RowKit

/-- A code as a hash. -/
def hmacH (k m : List Int) : H32 := ⟨hmac k m, hmac_length k m, hmac_range k m⟩
theorem hv_hmac (k m : List Int) : hv (hmac k m) = ha (hmacH k m) := rfl
/-- The first k digests of a row. -/
def streamL (key : List Int) (k : Nat) : List Int := ((List.range k).map fun (i : Nat) => hmac key (fourB (i : Int))).flatten
theorem streamL_length (key : List Int) : ∀ k, (streamL key k).length = 32 * k
  | 0 => rfl
  | k + 1 => by
    have := streamL_length key k
    simp only [streamL, List.range_succ, List.map_append, List.flatten_append, List.length_append] at this ⊢
    rw [this]
    simp [hmac_length]
    omega
theorem streamL_succ (key : List Int) (k : Nat) : streamL key (k + 1) = streamL key k ++ hmac key (fourB k) := by
  simp [streamL, List.range_succ]
theorem streamL_range (key : List Int) (k : Nat) : ∀ x ∈ streamL key k, 0 ≤ x ∧ x < 256 := by
  intro x hx
  simp only [streamL, List.mem_flatten, List.mem_map] at hx
  obtain ⟨_, ⟨i, _, rfl⟩, hx⟩ := hx
  exact hmac_range _ _ x hx
/-- A row of n bytes. -/
def rowL (key : List Int) (n : Nat) : List Int := (streamL key (n / 32 + 1)).take n
theorem streamL_take (key : List Int) (k j : Nat) (h : k ≤ j) : (streamL key j).take (32 * k) = streamL key k := by
  induction j with
  | zero =>
    have : k = 0 := by omega
    subst this
    rfl
  | succ j ih =>
    rcases Nat.lt_or_ge j k with hlt | hge
    · have : k = j + 1 := by omega
      subst this
      rw [List.take_of_length_le (by rw [streamL_length]; omega)]
    · rw [streamL_succ, List.take_append_of_le_length (by rw [streamL_length]; omega)]
      exact ih hge
theorem rowL_of (key : List Int) (n k : Nat) (h : n ≤ 32 * k) : (streamL key k).take n = rowL key n := by
  unfold rowL
  rcases Nat.lt_or_ge k (n / 32 + 1) with hlt | hge
  · rw [← streamL_take key k (n / 32 + 1) (by omega), List.take_take, Nat.min_eq_left h]
  · rw [← streamL_take key (n / 32 + 1) k (by omega), List.take_take, Nat.min_eq_left (by omega)]
theorem rowL_take (key : List Int) (n k : Nat) (h : k ≤ n) : (rowL key n).take k = rowL key k := by
  unfold rowL
  rw [List.take_take, Nat.min_eq_left h]
  exact rowL_of key k _ (by omega)
theorem rowL_length (key : List Int) (n : Nat) : (rowL key n).length = n := by
  unfold rowL
  rw [List.length_take, streamL_length]
  omega
theorem rowL_range (key : List Int) (n : Nat) : ∀ x ∈ rowL key n, 0 ≤ x ∧ x < 256 := fun x hx => streamL_range _ _ x (List.mem_of_mem_take hx)
theorem rowL_succ (key : List Int) (i k : Nat) (hk : k < 32) : rowL key (32 * i + k + 1) = rowL key (32 * i + k) ++ [(hmac key (fourB i)).getD k 0] := by
  rw [← rowL_of key (32 * i + k + 1) (i + 1) (by omega), ← rowL_of key (32 * i + k) (i + 1) (by omega)]
  have hl : 32 * i + k < (streamL key (i + 1)).length := by rw [streamL_length]; omega
  rw [List.take_succ_eq_append_getElem hl]
  congr 2
  simp only [streamL_succ]
  rw [List.getElem_append_right (by rw [streamL_length]; omega)]
  have hk2 : k < (hmac key (fourB i)).length := by rw [hmac_length]; exact hk
  simp [streamL_length, List.getD, hk2]
section
variable {H : Hp} {w w0 : World} {L R : List Res}
theorem cat_one (s : ByteArray) : cat [s] = ints s := by simp [cat]
theorem codeH_ok {A : Option Addr} {e : Nat} (key : H32) (i : Nat) (hM : Mem H w0 L w) [k : AtA L A 1 1 e 1 [[.one (.string (strOfNums (fourB i)))]] R] :
    Calls Try.prog 22 #[.string (strOfNums key.1), .slice A 1 1] w fun en w' => en = .returned (ha (hmacH key.1 (fourB i))) ∧ St w [] w' := by
  have hr := hM.rd k
  have h := code_ok (strOfNums key.1) A [strOfNums (fourB i)] 1 w hr (by rw [strOfNums_size]; rw [key.2.1]; omega) (by simp) (by rw [cat_one, ints_length, strOfNums_size]; simp [fourB])
  rw [cat_one, ints_str _ key.2.2, ints_str _ (fourB_range _)] at h
  exact h
theorem stream_ok (key : H32) (n : Int) (hf : Fz H w) : Calls Try.prog 30 #[ha key, .int .i64 n] w fun e w' => e = .returned (.string (if 1 ≤ n ∧ n ≤ 65536 then strOfNums (rowL key.1 n.toNat) else ByteArray.mk #[])) ∧ St w [] w' := by
  have hM := Mem.start hf
  refine C_mac_Stream ?_
  unfold F_mac_Stream
  ((with_reducible (refine mm_box hM ?_; clear hM; intro _ _ hM)))
  rename_i g _
  refine ⟨fun x w' => x = .bool (!decide (1 ≤ n ∧ n ≤ 65536)) ∧ hM.now w', ?_, ?_⟩
  · by_cases h : 1 ≤ n ∧ n ≤ 65536
    · ((with_reducible (refine mop_cF trivial ?_ ?_)); (focus (first | assumption | omega)); (with_reducible (refine mguard_yes ?_; refine mop_c trivial ?_; refine mguard_yes ?_; refine mop_cF trivial ?_ ?_)); (focus (first | assumption | omega)); (with_reducible (refine mop_c trivial ?_)))
      exact ⟨by simp [h], hM⟩
    · ((with_reducible (refine mop_cS trivial ?_ ?_))) <;>
      · intro h2
        (first | ((with_reducible (refine mguard_yes ?_; refine mop_c trivial ?_; refine mguard_yes ?_; refine mop_cT trivial ?_ ?_)); (focus (first | assumption | omega)); (with_reducible (refine mop_c trivial ?_))) | ((with_reducible (refine mguard_n1 ?_; refine mguard_n1 ?_; refine mop_c trivial ?_))))
        exact ⟨by simp [h], hM⟩
  rintro x u w2 ⟨rfl, hM⟩
  by_cases h : 1 ≤ n ∧ n ≤ 65536
  · rw [if_pos h, decide_eq_true h]
    simp only [Bool.not_true]
    ((with_reducible (refine mif_false ?_)))
    refine ⟨fun x y w' => ∃ (i : Nat) (A : Option Addr) (c : Nat), x = .slice A (32 * i) c ∧ y = .int .i64 i ∧ (i = 0 ∨ 32 * (i - 1) < n) ∧ Mem H w [rowR 5 1 A (32 * i) c (byts (streamL key.1 i)), fb g 23 [.arr 32 (u8s key.1)]] w',
      fun x _ _ => match x with | .slice _ k _ => n.toNat + 32 - k | _ => 0, ⟨0, none, 0, rfl, rfl, .inl rfl, hM.row0 5 1⟩, ?_⟩
    rintro x y u w3 ⟨i, A, c, rfl, rfl, hi, hM⟩
    ((with_reducible (refine mop_c trivial ?_)))
    ((with_reducible (refine mop_cS trivial ?_ ?_)))
    · intro hlt
      ((with_reducible (refine mif_true ?_)))
      refine ⟨fun x w' => ∃ g7 : Nat, x = .pointer (some ⟨g7, 0, none⟩) ∧ Mem H w [fb g7 23 [.arr 32 (u8s (hmacH key.1 (fourB i)).1)], rowR 5 1 A (32 * i) c (byts (streamL key.1 i)), fb g 23 [.arr 32 (u8s key.1)]] w', ?_, ?_⟩
      · refine ⟨?_, ?_, ?_, ?_⟩
        all_goals
          (first | ((with_reducible (refine dp_c trivial ?_; refine dm_cvb hM ?_; refine dm_new hM ?_; clear hM; intro _ _ hM))) | ((with_reducible (refine dp_c trivial ?_; refine dm_cvb hM ?_))))
          refine dm_pure hM (fun w hM => four_ok i w) (fun w4 _ hM => ?_)
          (first | ((with_reducible (refine dS_bsl hM ?_ ?_ ?_)); (focus rfl); (focus (constructor <;> simp)); (with_reducible (clear hM; intro _ _ hM; refine dm_new hM ?_; clear hM; intro _ _ hM))) | ((with_reducible (refine dm_new hM ?_; clear hM; intro _ _ hM; refine dS_bsl hM ?_ ?_ ?_)); (focus rfl); (focus (constructor <;> simp)); (with_reducible (clear hM; intro _ _ hM))) | ((with_reducible (refine dS_bsl hM ?_ ?_ ?_)); (focus rfl); (focus (constructor <;> simp)); (with_reducible (clear hM; intro _ _ hM))))
          refine dm_pure hM (fun w hM => codeH_ok key i hM) (fun w5 _ hM => ?_)
          (first | ((with_reducible (refine dm_new hM ?_; clear hM; intro _ _ hM; refine dS_st hM ?_; clear hM; intro _ hM; refine mm_end hM ?_; clear hM; intro _ hM))) | ((with_reducible (refine dS_st hM ?_; clear hM; intro _ hM; refine mm_end hM ?_; clear hM; intro _ hM))))
          exact ⟨_, rfl, hM.sub⟩
      · rintro x u w4 ⟨g7, rfl, hM⟩
        ((with_reducible (refine mop_c trivial ?_)))
        refine mm_appb hM (by omega) (fun A' c' w5 hM => ?_)
        ((with_reducible (refine mop_c ?_ ?_)); (focus omega))
        refine ⟨⟨i + 1, A', c', by rw [Nat.mul_add], by simp, .inr (by simp; omega), ?_⟩, by simp; omega⟩
        rw [streamL_succ, Nat.mul_add]
        exact hM.rm g7
    · intro hge
      have hl := (hM.rowLen (A := A) ⟨.refl _⟩)
      ((with_reducible (refine mif_false ?_; refine mop_c ?_ ?_)); (focus omega))
      refine mm_cvr hM (by rw [streamL_length]; omega) ?_
      rw [rowL_of _ _ _ (by omega)]
      exact ⟨rfl, hM.st⟩
  · rw [if_neg h, decide_eq_false h]
    simp only [Bool.not_false]
    ((with_reducible (refine mif_true ?_)))
    exact ⟨trivial, hM.st⟩
theorem strOfNums_app (a b : List Int) : strOfNums a ++ strOfNums b = strOfNums (a ++ b) := by
  apply ByteArray.ext
  simp [strOfNums]
theorem refcodeH_ok (key : H32) (i : Nat) (w : World) :
    Calls Try.prog 23 #[.string (strOfNums key.1), .string (strOfNums (fourB i))] w fun en w' => en = .returned (ha (hmacH key.1 (fourB i))) ∧ St w [] w' := by
  have h := refcode_ok (strOfNums key.1) (strOfNums (fourB i)) w (by rw [strOfNums_size, key.2.1]; omega) (by rw [strOfNums_size]; simp [fourB])
  rw [ints_str _ key.2.2, ints_str _ (fourB_range _)] at h
  exact h
theorem refstream_ok (key : H32) (n : Int) (hn : 0 ≤ n ∧ n ≤ 65536) (hf : Fz H w) : Calls Try.prog 31 #[ha key, .int .i64 n] w fun e w' => e = .returned (.string (strOfNums (rowL key.1 n.toNat))) ∧ St w [] w' := by
  have hM := Mem.start hf
  refine C_bevyref03_Stream ?_
  unfold F_bevyref03_Stream
  ((with_reducible (refine mm_box hM ?_; clear hM; intro _ _ hM; refine mop_cF trivial ?_ ?_)); (focus (first | assumption | omega)); (with_reducible (refine mif_false ?_)))
  rename_i g _
  refine ⟨fun x y w' => ∃ (i m : Nat), x = .string (strOfNums (rowL key.1 m)) ∧ y = .int .i64 i ∧ i ≤ m ∧ (m = 32 * i ∨ m = n.toNat) ∧ m ≤ n.toNat ∧ hM.now w',
    fun x y _ => match x, y with | .string s, .int _ i => n.toNat - s.size | _, _ => 0, ⟨0, 0, by simp [rowL]; rfl, rfl, by omega, .inl rfl, by omega, hM⟩, ?_⟩
  rintro x y u w3 ⟨i, m, rfl, rfl, hi, hm, hmn, hM⟩
  have hsz : (strOfNums (rowL key.1 m)).size = m := by rw [strOfNums_size, rowL_length]
  ((with_reducible (refine mop_c trivial ?_)))
  ((with_reducible (refine mop_cS trivial ?_ ?_)))
  · intro hlt
    rw [hsz] at hlt
    have hm : m = 32 * i := by omega
    subst hm
    ((with_reducible (refine mif_true ?_)))
    refine ⟨fun x w' => ∃ g7 : Nat, x = .pointer (some ⟨g7, 0, none⟩) ∧ Mem H w [fb g7 22 [.arr 32 (u8s (hmacH key.1 (fourB i)).1)], fb g 22 [.arr 32 (u8s key.1)]] w', ?_, ?_⟩
    · refine ⟨?_, ?_, ?_⟩
      all_goals
        (first | ((with_reducible (refine dp_c trivial ?_; refine dm_cvb hM ?_; refine dm_new hM ?_; clear hM; intro _ _ hM))) | ((with_reducible (refine dp_c trivial ?_; refine dm_cvb hM ?_))))
        refine dm_pure hM (fun w hM => refFour_ok i w (by omega)) (fun w4 _ hM => ?_)
        (first | ((with_reducible (refine dm_new hM ?_; clear hM; intro _ _ hM))) | skip)
        refine dm_pure hM (fun w hM => refcodeH_ok key i w) (fun w5 _ hM => ?_)
        (first | ((with_reducible (refine dm_new hM ?_; clear hM; intro _ _ hM; refine dS_st hM ?_; clear hM; intro _ hM; refine mm_end hM ?_; clear hM; intro _ hM))) | ((with_reducible (refine dS_st hM ?_; clear hM; intro _ hM; refine mm_end hM ?_; clear hM; intro _ hM))))
        exact ⟨_, rfl, hM.sub⟩
    · rintro x u w4 ⟨g7, rfl, hM⟩
      refine ⟨fun x y w' => ∃ k : Nat, x = .string (strOfNums (rowL key.1 (32 * i + k))) ∧ y = .int .i64 k ∧ k ≤ 32 ∧ 32 * i + k ≤ n.toNat ∧ hM.now w', fun _ y _ => match y with | .int _ k => 32 - k.toNat | _ => 0, ⟨0, rfl, rfl, by omega, by omega, hM⟩, ?_⟩
      rintro x y u w5 ⟨k, rfl, rfl, hk, hkn, hM⟩
      have hsz2 : (strOfNums (rowL key.1 (32 * i + k))).size = 32 * i + k := by rw [strOfNums_size, rowL_length]
      refine ⟨fun w' => k < 32 ∧ 32 * i + k < n.toNat ∧ hM.now w', ?_, ?_⟩
      · skip
        ((with_reducible (refine mop_cS trivial ?_ ?_)))
        · intro h1
          ((with_reducible (refine mguard_yes ?_; refine mop_c trivial ?_; refine mguard_yes ?_; refine mop_c trivial ?_; refine mguard_yes ?_; refine mop_c trivial ?_; refine mguard_yes ?_)))
          ((with_reducible (refine mop_cS trivial ?_ ?_)))
          · intro h2
            ((with_reducible (refine mop_c trivial ?_; refine mif_true ?_)))
            exact ⟨by omega, by omega, hM⟩
          · intro h2
            ((with_reducible (refine mop_c trivial ?_; refine mif_false ?_; refine mop_c ?_ ?_)); (focus omega))
            exact ⟨⟨i + 1, 32 * i + k, rfl, by simp, by omega, by omega, by omega, hM.sub⟩, by simp only [hsz, hsz2]; omega⟩
        · intro h1
          ((with_reducible ((iterate 4 refine mguard_n2 ?_); refine mop_c trivial ?_; refine mif_false ?_; refine mop_c ?_ ?_)); (focus omega))
          exact ⟨⟨i + 1, 32 * i + k, rfl, by simp, by omega, by omega, by omega, hM.sub⟩, by simp only [hsz, hsz2]; omega⟩
      · rintro u w6 ⟨h1, h2, hM⟩
        ((with_reducible (refine mop_c ?_ ?_)); (focus omega))
        have hk2 : k < (hmac key.1 (fourB i)).length := by rw [hmac_length]; exact h1
        refine mm_lda hM (v := .int .u8 ((hmac key.1 (fourB i)).getD k 0)) (by simp [hmacH, u8s, List.getD, hk2]) ?_
        ((with_reducible (refine mm_bsl hM ?_ ?_ ?_)); (focus rfl); (focus (constructor <;> simp)); (with_reducible (clear hM; intro _ _ hM)))
        refine mm_cvr (l := [(hmac key.1 (fourB i)).getD k 0]) (R := [fb g7 22 _, fb g 22 _]) (a := ⟨.refl _⟩) hM (by simp) ?_
        skip
        refine mop_c (by rw [hsz2, strOfNums_size]; simp; omega) ?_
        ((with_reducible (refine mop_c ?_ ?_)); (focus omega))
        rw [List.take_of_length_le (by simp), strOfNums_app, ← rowL_succ _ _ _ h1]
        exact ⟨⟨k + 1, rfl, by simp, by omega, by omega, hM.drop⟩, by simp; omega⟩
  · intro hge
    rw [hsz] at hge
    have : m = n.toNat := by omega
    subst this
    ((with_reducible (refine mif_false ?_)))
    exact ⟨rfl, hM.st⟩
theorem row_eq (key : List Int) (n : Nat) : (strOfNums (rowL key n)).size = n := by rw [strOfNums_size, rowL_length]
theorem row_cut (key : List Int) (n k : Nat) (h : k ≤ n) : (strOfNums (rowL key n)).extract 0 k = strOfNums (rowL key k) := by
  rw [← rowL_take key n k h]
  apply ByteArray.ext
  simp [strOfNums, List.map_take]
theorem macRows_ok (key : H32) (n less : Int) (hnr : -9223372036854775808 ≤ n ∧ n < 9223372036854775808) (hf : Fz H w) :
    Calls Try.prog 13 #[ha key, .int .i64 n, .int .i64 less] w fun e w' => e = .returned (.bool true) ∧ St w [] w' := by
  have hM := Mem.start hf
  refine C_bevylaw03_MacRows ?_
  unfold F_bevylaw03_MacRows
  ((with_reducible (refine mm_box hM ?_; clear hM; intro _ _ hM)))
  refine mm_pure hM (awake3_ok _) (fun w1 hM => ?_)
  ((with_reducible (refine mop_c trivial ?_; refine mif_false ?_)))
  refine ⟨fun x w' => x = .bool (!decide (1 ≤ n ∧ n ≤ 65536)) ∧ hM.now w', ?_, ?_⟩
  · by_cases h : 1 ≤ n ∧ n ≤ 65536
    · ((with_reducible (refine mop_cF trivial ?_ ?_)); (focus (first | assumption | omega)); (with_reducible (refine mguard_yes ?_; refine mop_c trivial ?_; refine mguard_yes ?_; refine mop_cF trivial ?_ ?_)); (focus (first | assumption | omega)); (with_reducible (refine mop_c trivial ?_)))
      exact ⟨by simp [h], hM⟩
    · ((with_reducible (refine mop_cS trivial ?_ ?_))) <;>
      · intro h2
        (first | ((with_reducible (refine mguard_yes ?_; refine mop_c trivial ?_; refine mguard_yes ?_; refine mop_cT trivial ?_ ?_)); (focus (first | assumption | omega)); (with_reducible (refine mop_c trivial ?_))) | ((with_reducible (refine mguard_n1 ?_; refine mguard_n1 ?_; refine mop_c trivial ?_))))
        exact ⟨by simp [h], hM⟩
  rintro x u w2 ⟨rfl, hM⟩
  by_cases h : 1 ≤ n ∧ n ≤ 65536
  · rw [decide_eq_true h]
    simp only [Bool.not_true]
    ((with_reducible (refine mif_false ?_)))
    ((with_reducible (refine mop_cS trivial ?_ ?_)))
    · intro h3
      ((with_reducible (refine mif_true ?_)))
      exact ⟨trivial, hM.st⟩
    · intro h3
      have hk : 0 ≤ less % 18446744073709551616 % ((n + 1) % 18446744073709551616) ∧ less % 18446744073709551616 % ((n + 1) % 18446744073709551616) < n + 1 := by
        have e : (n + 1) % 18446744073709551616 = n + 1 := by omega
        rw [e]
        exact ⟨Int.emod_nonneg _ (by omega), Int.emod_lt_of_pos _ (by omega)⟩
      ((with_reducible (refine mif_false ?_; refine mm_ld hM ?_)))
      refine mm_pure hM (stream_ok key n hM.fz) (fun w3 hM => ?_)
      ((with_reducible (refine mop_c trivial ?_; refine mop_c ?_ ?_)); (focus omega); (with_reducible (refine mop_c trivial ?_; refine mop_c ?_ ?_)); (focus omega); (with_reducible (refine mop_c ?_ ?_)); (focus omega); (with_reducible (refine dm_ld hM ?_)))
      generalize less % 18446744073709551616 % ((n + 1) % 18446744073709551616) = k at hk ⊢
      rw [if_pos h]
      have hM0 := hM
      refine dm_pure hM (fun w hM => refstream_ok key n (by omega) hM.fz) (fun w4 _ hM => ?_)
      refine dp_cT trivial rfl ?_
      ((with_reducible (refine qguard_yes ?_; refine dp_c trivial ?_; refine qguard_yes ?_; refine dp_c trivial ?_; refine qguard_yes ?_; refine dp_c trivial ?_; refine qguard_yes ?_)))
      refine dp_cT trivial (by rw [row_eq]; omega) ?_
      ((with_reducible (refine dp_c trivial ?_; refine qguard_yes ?_; refine dm_ld hM ?_; refine qguard_yes ?_; refine dp_c trivial ?_; refine mguard_yes ?_)))
      refine dm_pure hM (fun w hM => stream_ok key k hM.fz) (fun w4 _ hM => ?_)
      ((with_reducible (refine qguard_yes ?_; refine dp_c trivial ?_; refine qguard_yes ?_; refine dp_c trivial ?_; refine qguard_yes ?_)))
      refine dp_c (by rw [row_eq]; omega) ?_
      rw [row_cut _ _ _ (by omega)]
      have e : (if 1 ≤ k ∧ k ≤ 65536 then strOfNums (rowL key.1 k.toNat) else ByteArray.mk #[]) = strOfNums (rowL key.1 k.toNat) := by
        by_cases h1 : 1 ≤ k ∧ k ≤ 65536
        · rw [if_pos h1]
        · rw [if_neg h1]
          have : k = 0 := by omega
          subst this
          simp [rowL]
          rfl
      refine qguard_yes ?_
      refine dp_cT trivial e ?_
      ((with_reducible (refine dp_c trivial ?_; refine mm_end hM ?_; clear hM; intro _ hM)))
      exact ⟨rfl, hM.st⟩
  · rw [decide_eq_false h]
    simp only [Bool.not_false]
    ((with_reducible (refine mif_true ?_; refine mm_ld hM ?_)))
    refine mm_pure hM (stream_ok key n hM.fz) (fun w3 hM => ?_)
    rw [if_neg h]
    refine mop_cT trivial rfl ?_
    exact ⟨rfl, hM.st⟩
end
end Go.Proofs.Ytdefecbaineneaa
