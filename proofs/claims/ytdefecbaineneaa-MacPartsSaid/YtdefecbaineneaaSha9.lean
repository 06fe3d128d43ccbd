/- Digests read from their digits; the law ShaDigits. -/
import Derived.Test.YtdefecbaineneaaSha8
namespace Go.Proofs.Ytdefecbaineneaa
open Go.RowKit

/-- The worth of a sign; 16 where it is none. -/
def val (c : Int) : Int := if 48 ≤ c ∧ c ≤ 57 then c - 48 else if 97 ≤ c ∧ c ≤ 102 then c - 87 else 16
theorem val_range (c : Int) : 0 ≤ val c ∧ val c ≤ 16 := by unfold val; split <;> (try split) <;> omega
theorem val_hexN (n : Int) (h : 0 ≤ n ∧ n < 16) : val (hexN n) = n := by unfold val hexN; repeat' split
                                                                         all_goals omega
theorem hexN_val (c : Int) (h : val c < 16) : hexN (val c) = c := by
  unfold val at h ⊢; unfold hexN
  repeat' split
  all_goals first | omega | (split at h <;> (try split at h) <;> omega)
theorem val_none (c : Int) (h : ∀ j : Nat, j < 16 → hexN j ≠ c) : val c = 16 := by
  unfold val
  split
  · exact absurd (by unfold hexN; split <;> omega) (h (c - 48).toNat (by omega))
  · split
    · exact absurd (by unfold hexN; split <;> omega) (h (c - 87).toNat (by omega))
    · rfl
def hsAt (L : List Int) (i j : Nat) : Int := if 2 * j + 2 ≤ i then 16 * val (L.getD (2 * j) 0) + val (L.getD (2 * j + 1) 0) else if 2 * j + 1 ≤ i then val (L.getD (2 * j) 0) else 0
def hs (L : List Int) (i : Nat) : List Int := (List.range 32).map (hsAt L i)
theorem hs_length (L : List Int) (i : Nat) : (hs L i).length = 32 := by simp [hs]
theorem hs_zero (L : List Int) : hs L 0 = List.replicate 32 0 := by
  refine List.ext_getElem (by simp [hs]) fun j h1 h2 => ?_
  rw [List.getElem_replicate]
  simp [hs, hsAt]
theorem hs_set (L : List Int) (i : Nat) : (hs L i).set (i / 2) (hsAt L (i + 1) (i / 2)) = hs L (i + 1) := by
  refine List.ext_getElem (by simp [hs]) fun j h1 h2 => ?_
  rw [List.getElem_set]
  split
  · rename_i he
    subst he
    simp [hs]
  · rename_i he
    simp only [hs, List.getElem_map, List.getElem_range, hsAt]
    by_cases a1 : 2 * j + 2 ≤ i
    · rw [if_pos a1, if_pos (show 2 * j + 2 ≤ i + 1 by omega)]
    · rw [if_neg a1, if_neg (show ¬ 2 * j + 2 ≤ i + 1 by omega)]
      by_cases a2 : 2 * j + 1 ≤ i
      · rw [if_pos a2, if_pos (show 2 * j + 1 ≤ i + 1 by omega)]
      · rw [if_neg a2, if_neg (show ¬ 2 * j + 1 ≤ i + 1 by omega)]
theorem hs_at (L : List Int) (i j : Nat) (h : j < 32) : (hs L i).getD j 0 = hsAt L i j := by simp [hs, List.getD, h]
theorem or_nib (a b : Int) (ha : 0 ≤ a ∧ a < 16) (hb : 0 ≤ b ∧ b < 16) : bits .or .u8 (a * 16 % 256) b = 16 * a + b := by
  obtain ⟨m, rfl⟩ := Int.eq_ofNat_of_zero_le ha.1
  obtain ⟨n, rfl⟩ := Int.eq_ofNat_of_zero_le hb.1
  have : ∀ m n : Fin 16, bits .or .u8 ((m.val : Int) * 16 % 256) (n.val : Int) = 16 * (m.val : Int) + (n.val : Int) := by decide +kernel
  exact this ⟨m, by omega⟩ ⟨n, by omega⟩
/-- What the next nibble makes of its byte. -/
theorem hs_new (L : List Int) (i : Nat) (hg : ∀ j, j ≤ i → val (L.getD j 0) < 16) : bits .or .u8 ((hsAt L i (i / 2)) * 16 % 256) (val (L.getD i 0)) = hsAt L (i + 1) (i / 2) := by
  have v0 := val_range (L.getD i 0)
  by_cases hp : i % 2 = 0
  · have e : 2 * (i / 2) = i := by omega
    unfold hsAt
    rw [e, if_neg (by omega), if_neg (by omega), if_neg (by omega), if_pos (by omega), or_nib 0 _ (by omega) ⟨v0.1, hg i (by omega)⟩]
    omega
  · have e : 2 * (i / 2) + 1 = i := by omega
    have v1 := val_range (L.getD (2 * (i / 2)) 0)
    have g1 := hg (2 * (i / 2)) (by omega)
    unfold hsAt
    rw [if_neg (by omega), if_pos (by omega), if_pos (by omega), or_nib _ _ ⟨v1.1, g1⟩ ⟨v0.1, hg i (by omega)⟩, e]
def good (L : List Int) : Prop := ∀ j, j < 64 → val (L.getD j 0) < 16
theorem p_index_str (s : ByteArray) (i : Int) (h0 : 0 ≤ i) (h1 : i < s.size) : Pur Try.prog (o_index 9 (.string s) (.int .i64 i)) (.int .u8 ((ints s).getD i.toNat 0)) := p_index_string (P := Try.prog) 9 s .i64 i (by kernel_rfl) h0 h1
def unhexed (s : ByteArray) (e : Ending) : Prop :=
  (e = .returned (.tuple #[hv (hs (ints s) 64), .bool true]) ∧ s.size = 64 ∧ good (ints s)) ∨
  (e = .returned (.tuple #[hv (List.replicate 32 0), .bool false]) ∧ (s.size ≠ 64 ∨ ∃ j, j < s.size ∧ val ((ints s).getD j 0) = 16))

set_option maxHeartbeats 1000000 in
theorem unhex_ok (s : ByteArray) (w : World) : Calls Try.prog 26 #[.string s] w fun e w' => unhexed s e ∧ St w [] w' := by
  refine C_sha_Unhex ?_
  unfold F_sha_Unhex
  refine mop_new (St.nil w) (fun r w1 h1 => ?_)
  refine mop_new h1 (fun b w2 h2 => ?_)
  have h2 : St w [⟨b, 23, u8s (List.replicate 32 0), true⟩, ⟨r, 23, u8s (List.replicate 32 0), true⟩] w2 := by simpa [u8s] using h2
  clear h1
  have z32 : (u8s (List.replicate 32 0)).length = 32 := by simp [u8s]
  have fin : ∀ (l : List Int) (ok : Bool) (w3 : World), l.length = 32 → unhexed s (.returned (.tuple #[hv l, .bool ok])) → St w [⟨r, 23, u8s (List.replicate 32 0), true⟩] w3 → 
      m (fun e w' => unhexed s e ∧ St w [] w') (o_store 23 (.pointer (some ⟨r, 0, none⟩)) (hv l)) w3 fun _ w6 => rcell Try.prog 23 (.pointer (some ⟨r, 0, none⟩)) w6 fun r2 => (fun e w' => unhexed s e ∧ St w [] w') (.returned (.tuple #[r2, .bool ok])) w6 := by
    intro l ok w3 hl hu h3
    have hol : (u8s l).length = 32 := by simp [u8s, hl]
    refine mop_storeN (q := true) (k := 32) (by kernel_rfl) h3 (by simpa [hv, Value.cells] using hol) (by intro u hu; exact u8s_one _ u hu) (by simp [u8s]) (fun w12 h14 => ?_)
    have e : lay (u8s (List.replicate 32 0)) (hv l).cells.toList 0 = u8s l := lay_all _ _ (by show (u8s l).length = _; rw [hol, z32])
    rw [e] at h14
    refine rcell_ldN (cells_of_row h14.head) hol ?_
    exact ⟨hu, h14.drop⟩
  (repeat (first | (refine mop_c ?_ ?_; first | exact trivial | omega) | (refine dp_c ?_ ?_; first | exact trivial | omega)))
  refine mif_dec (fun hne => ?_) (fun heq => ?_)
  · refine mop_ldN (cells_of_row h2.head) z32 rfl ?_
    exact fin _ false w2 (by simp) (.inr ⟨rfl, .inl (by omega)⟩) h2.drop
  · have hsz : s.size = 64 := by omega
    refine ⟨fun v w3 => ∃ i : Nat, i ≤ 64 ∧ v = .int .i64 i ∧ (∀ j, j < i → val ((ints s).getD j 0) < 16) ∧ St w [⟨b, 23, u8s (hs (ints s) i), true⟩, ⟨r, 23, u8s (List.replicate 32 0), true⟩] w3, fun v _ => 64 - (intOf v).toNat,
      ⟨0, by omega, rfl, by omega, by rw [hs_zero]; exact h2⟩, ?_⟩
    clear h2
    rintro v u w4 ⟨i, hi, rfl, hg, h4⟩
    (repeat (first | (refine mop_c ?_ ?_; first | exact trivial | omega) | (refine dp_c ?_ ?_; first | exact trivial | omega)))
    refine mif_dec (fun hlt => ?_) (fun hge => ?_)
    · have hi' : i < 64 := by omega
      refine ⟨fun v w5 => ∃ k : Nat, k ≤ 16 ∧ v = .int .i64 k ∧ (∀ j : Nat, j < k → hexN j ≠ (ints s).getD i 0) ∧ St w [⟨b, 23, u8s (hs (ints s) i), true⟩, ⟨r, 23, u8s (List.replicate 32 0), true⟩] w5, fun v _ => 16 - (intOf v).toNat,
        ⟨0, by omega, rfl, by omega, h4⟩, ?_⟩
      clear h4
      rintro v u w5 ⟨k, hk, rfl, hn, h5⟩
      refine ⟨fun w6 => k < 16 ∧ hexN k ≠ (ints s).getD i 0 ∧ St w [⟨b, 23, u8s (hs (ints s) i), true⟩, ⟨r, 23, u8s (List.replicate 32 0), true⟩] w6, ?_, ?_⟩
      · have cx : ∀ w6, St w [⟨b, 23, u8s (hs (ints s) i), true⟩, ⟨r, 23, u8s (List.replicate 32 0), true⟩] w6 → w6.cell? ⟨b, i / 2, none⟩ = some (.int .u8 (hsAt (ints s) i (i / 2))) := fun w6 h => by
          rw [h.cell 0 rfl (i / 2), u8s_at _ _ (by rw [hs_length]; omega), hs_at _ _ _ (by omega)]
        refine dp_c trivial ?_
        by_cases h16 : (k : Int) < 16
        · rw [show decide ((k : Int) < 16) = true by simpa using h16]
          refine qguard_yes ?_
          (repeat (first | (refine mop_c ?_ ?_; first | exact trivial | omega) | (refine dp_c ?_ ?_; first | exact trivial | omega)))
          refine qguard_yes ?_
          refine dp_pur (p_digs k _ (by omega)) ?_
          refine qguard_yes ?_
          (repeat (first | (refine mop_c ?_ ?_; first | exact trivial | omega) | (refine dp_c ?_ ?_; first | exact trivial | omega)))
          refine qguard_yes ?_
          (repeat (first | (refine mop_c ?_ ?_; first | exact trivial | omega) | (refine dp_c ?_ ?_; first | exact trivial | omega)))
          refine qguard_yes ?_
          refine dp_pur (p_index_str s i (by omega) (by omega)) ?_
          refine qguard_yes ?_
          (repeat (first | (refine mop_c ?_ ?_; first | exact trivial | omega) | (refine dp_c ?_ ?_; first | exact trivial | omega)))
          refine dend_intro fun w6 hd6 => ?_
          have h6 := h5.drawn hd6
          refine mif_dec (fun hne => ?_) (fun heq => ?_)
          · exact ⟨by omega, hne, h6⟩
          · have heq : hexN k = (ints s).getD i 0 := by
              have := heq
              simp only [Int.toNat_natCast] at this
              exact Classical.byContradiction fun h => this h
            have hvk : val ((ints s).getD i 0) = k := by rw [← heq]; exact val_hexN k (by omega)
            refine mop_c trivial ?_
            rw [show decide ((k : Int) = 16) = false by simp; omega]
            refine mif_false ?_
            (repeat (first | (refine mop_c ?_ ?_; first | exact trivial | omega) | (refine dp_c ?_ ?_; first | exact trivial | omega)))
            refine mop_ld (cx _ h6) (by omega) ?_
            (repeat (first | (refine mop_c ?_ ?_; first | exact trivial | omega) | (refine dp_c ?_ ?_; first | exact trivial | omega)))
            have e1 : bits .or .u8 (hsAt (ints s) i (i / 2) * 16 % 256) ((k : Int) % 256) = hsAt (ints s) (i + 1) (i / 2) := by
              rw [← hs_new (ints s) i (fun j hj => by
                by_cases hji : j = i
                · subst hji; rw [hvk]; omega
                · exact hg j (by omega)), hvk]
              congr 1
              omega
            refine mop_st (j := i / 2) h6 (by omega) (by rw [u8s_length, hs_length]; omega) rfl (fun w7 h7 => ?_)
            have h8 : St w [⟨b, 23, u8s (hs (ints s) (i + 1)), true⟩, ⟨r, 23, u8s (List.replicate 32 0), true⟩] w7 := by
              rw [← hs_set, ← e1, ← set_u8s]
              exact h7
            (repeat (first | (refine mop_c ?_ ?_; first | exact trivial | omega) | (refine dp_c ?_ ?_; first | exact trivial | omega)))
            refine ⟨⟨i + 1, by omega, rfl, fun j hj => ?_, h8⟩, by simp [intOf]; omega⟩
            by_cases hji : j = i
            · subst hji; rw [hvk]; omega
            · exact hg j (by omega)
        · obtain rfl : k = 16 := by omega
          rw [show decide (((16 : Nat) : Int) < 16) = false from rfl]
          repeat refine qguard_no (by simp) ?_
          (repeat (first | (refine mop_c ?_ ?_; first | exact trivial | omega) | (refine dp_c ?_ ?_; first | exact trivial | omega)))
          refine dend_intro fun w6 hd6 => ?_
          have h6 := h5.drawn hd6
          refine mif_false ?_
          refine mop_c trivial ?_
          refine mif_true ?_
          refine mop_pur (v := hv (List.replicate 32 0)) (fun w => by kernel_rfl) ?_
          exact fin _ false w6 (by simp) (.inr ⟨rfl, .inr ⟨i, by omega, val_none _ hn⟩⟩) h6.drop
      · rintro u w6 ⟨hk2, hnk, h6⟩
        (repeat (first | (refine mop_c ?_ ?_; first | exact trivial | omega) | (refine dp_c ?_ ?_; first | exact trivial | omega)))
        refine ⟨⟨k + 1, by omega, rfl, fun j hj => ?_, h6⟩, by simp [intOf]; omega⟩
        by_cases hjk : j = k
        · subst hjk; exact hnk
        · exact hn j (by omega)
    · obtain rfl : i = 64 := by omega
      refine mop_ldN (cells_of_row h4.head) (by simp [u8s, hs]) rfl ?_
      exact fin _ true w4 (hs_length _ _) (.inl ⟨rfl, hsz, fun j hj => hg j hj⟩) h4.drop

def oddL (L : List Int) : Prop := ∃ j, j < L.length ∧ val (L.getD j 0) = 16
theorem odd_ok (s : ByteArray) (w : World) (hj : ∃ j, j < s.size ∧ val ((ints s).getD j 0) = 16) (hsz : s.size ≤ maxLen) : Calls Try.prog 27 #[.string s] w fun e w' => e = .returned (.bool true) ∧ St w [] w' := by
  obtain ⟨j, hj, hv⟩ := hj
  refine C_bevylaw02_odd ?_
  unfold F_bevylaw02_odd
  refine ⟨fun v w2 => ∃ k : Nat, k ≤ j ∧ v = .int .i64 k ∧ St w [] w2, fun v _ => s.size - (intOf v).toNat, ⟨0, by omega, rfl, St.nil w⟩, ?_⟩
  rintro v u w3 ⟨k, hk, rfl, h3⟩
  (repeat (first | (refine mop_c ?_ ?_; first | exact trivial | omega) | (refine dp_c ?_ ?_; first | exact trivial | omega)))
  rw [show decide ((k : Int) < (s.size : Int)) = true by simp; omega]
  refine mif_true ?_
  have hkl : k < (ints s).length := by rw [ints_length]; omega
  have hc := ints_range s ((ints s).getD k 0) (by simp [List.getD, hkl])
  have hix := p_index_str s k (by omega) (by omega)
  rw [Int.toNat_natCast] at hix
  have hkj : k = j → val ((ints s).getD k 0) = 16 := fun h => by rw [h]; exact hv
  generalize (ints s).getD k 0 = c at hc hix hkj
  refine ⟨fun v w5 => (∃ q : Bool, v = .bool q ∧ (k = j → q = true)) ∧ St w [] w5, ?_, ?_⟩
  · refine mop_pur hix ?_
    refine mop_c trivial ?_
    by_cases h1 : c < 48
    · rw [show decide (c < 48) = true by simpa using h1]
      iterate 4 refine mguard_no (by simp) ?_
      (repeat (first | (refine mop_c ?_ ?_; first | exact trivial | omega) | (refine dp_c ?_ ?_; first | exact trivial | omega)))
      refine mguard_yes ?_
      (repeat (first | (refine mop_c ?_ ?_; first | exact trivial | omega) | (refine dp_c ?_ ?_; first | exact trivial | omega)))
      refine mguard_yes ?_
      (repeat (first | (refine mop_c ?_ ?_; first | exact trivial | omega) | (refine dp_c ?_ ?_; first | exact trivial | omega)))
      refine mguard_yes ?_
      refine mop_pur hix ?_
      refine mguard_yes ?_
      (repeat (first | (refine mop_c ?_ ?_; first | exact trivial | omega) | (refine dp_c ?_ ?_; first | exact trivial | omega)))
      refine mguard_yes ?_
      (repeat (first | (refine mop_c ?_ ?_; first | exact trivial | omega) | (refine dp_c ?_ ?_; first | exact trivial | omega)))
      rw [show decide (c < 97) = true by simp; omega]
      iterate 4 refine mguard_no (by simp) ?_
      refine mguard_yes ?_
      (repeat (first | (refine mop_c ?_ ?_; first | exact trivial | omega) | (refine dp_c ?_ ?_; first | exact trivial | omega)))
      exact ⟨⟨true, rfl, fun _ => rfl⟩, h3⟩
    · rw [show decide (c < 48) = false by simpa using h1]
      refine mguard_yes ?_
      (repeat (first | (refine mop_c ?_ ?_; first | exact trivial | omega) | (refine dp_c ?_ ?_; first | exact trivial | omega)))
      refine mguard_yes ?_
      (repeat (first | (refine mop_c ?_ ?_; first | exact trivial | omega) | (refine dp_c ?_ ?_; first | exact trivial | omega)))
      refine mguard_yes ?_
      refine mop_pur hix ?_
      refine mguard_yes ?_
      (repeat (first | (refine mop_c ?_ ?_; first | exact trivial | omega) | (refine dp_c ?_ ?_; first | exact trivial | omega)))
      by_cases h2 : 57 < c
      · rw [show decide (57 < c) = true by simpa using h2]
        refine mguard_yes ?_
        (repeat (first | (refine mop_c ?_ ?_; first | exact trivial | omega) | (refine dp_c ?_ ?_; first | exact trivial | omega)))
        refine mguard_yes ?_
        (repeat (first | (refine mop_c ?_ ?_; first | exact trivial | omega) | (refine dp_c ?_ ?_; first | exact trivial | omega)))
        refine mguard_yes ?_
        refine mop_pur hix ?_
        refine mguard_yes ?_
        (repeat (first | (refine mop_c ?_ ?_; first | exact trivial | omega) | (refine dp_c ?_ ?_; first | exact trivial | omega)))
        refine mguard_yes ?_
        (repeat (first | (refine mop_c ?_ ?_; first | exact trivial | omega) | (refine dp_c ?_ ?_; first | exact trivial | omega)))
        by_cases h4 : c < 97
        · rw [show decide (c < 97) = true by simpa using h4]
          iterate 4 refine mguard_no (by simp) ?_
          refine mguard_yes ?_
          (repeat (first | (refine mop_c ?_ ?_; first | exact trivial | omega) | (refine dp_c ?_ ?_; first | exact trivial | omega)))
          exact ⟨⟨true, rfl, fun _ => rfl⟩, h3⟩
        · rw [show decide (c < 97) = false by simpa using h4]
          refine mguard_yes ?_
          (repeat (first | (refine mop_c ?_ ?_; first | exact trivial | omega) | (refine dp_c ?_ ?_; first | exact trivial | omega)))
          refine mguard_yes ?_
          (repeat (first | (refine mop_c ?_ ?_; first | exact trivial | omega) | (refine dp_c ?_ ?_; first | exact trivial | omega)))
          refine mguard_yes ?_
          refine mop_pur hix ?_
          refine mguard_yes ?_
          (repeat (first | (refine mop_c ?_ ?_; first | exact trivial | omega) | (refine dp_c ?_ ?_; first | exact trivial | omega)))
          refine mguard_yes ?_
          (repeat (first | (refine mop_c ?_ ?_; first | exact trivial | omega) | (refine dp_c ?_ ?_; first | exact trivial | omega)))
          refine ⟨⟨_, rfl, fun h => ?_⟩, h3⟩
          have := hkj h
          unfold val at this
          rw [if_neg (by omega)] at this
          split at this
          · omega
          · simp; omega
      · rw [show decide (57 < c) = false by simpa using h2]
        iterate 5 refine mguard_no (by simp) ?_
        iterate 4 refine mguard_no (by simp [undef]) ?_
        refine mguard_no (by simp) ?_
        (repeat (first | (refine mop_c ?_ ?_; first | exact trivial | omega) | (refine dp_c ?_ ?_; first | exact trivial | omega)))
        refine ⟨⟨_, rfl, fun h => ?_⟩, h3⟩
        have := hkj h
        unfold val at this
        rw [if_pos (by omega)] at this
        omega
  · rintro v u w5 ⟨⟨q, rfl, hq⟩, h5⟩
    refine mif_bool (fun ht => ?_) (fun hf => ?_)
    · exact ⟨rfl, h5⟩
    · have : k ≠ j := fun h => by rw [hq h] at hf; cases hf
      unfold maxLen at hsz
      (repeat (first | (refine mop_c ?_ ?_; first | exact trivial | omega) | (refine dp_c ?_ ?_; first | exact trivial | omega)))
      exact ⟨⟨k + 1, by omega, rfl, h5⟩, by simp [intOf]; omega⟩

theorem list2 (L : List Int) : ∀ n, 2 * n ≤ L.length → (∀ j, j < 2 * n → hexN (val (L.getD j 0)) = L.getD j 0 ∧ 0 ≤ val (L.getD j 0) ∧ val (L.getD j 0) < 16) → hexL ((List.range n).map fun j => 16 * val (L.getD (2 * j) 0) + val (L.getD (2 * j + 1) 0)) = L.take (2 * n)
  | 0, _, _ => rfl
  | n + 1, h, hv => by
    rw [List.range_succ, List.map_append, hexL, List.flatMap_append]
    have ih := list2 L n (by omega) (fun j hj => hv j (by omega))
    rw [hexL] at ih
    rw [ih, show 2 * (n + 1) = 2 * n + 1 + 1 by omega, List.take_succ_eq_append_getElem (by omega), List.take_succ_eq_append_getElem (by omega), List.append_assoc]
    congr 1
    obtain ⟨a1, a2, a3⟩ := hv (2 * n) (by omega)
    obtain ⟨b1, b2, b3⟩ := hv (2 * n + 1) (by omega)
    simp only [List.map_cons, List.map_nil, List.flatMap_cons, List.flatMap_nil, hexB, List.append_nil]
    rw [show (16 * val (L.getD (2 * n) 0) + val (L.getD (2 * n + 1) 0)) / 16 = val (L.getD (2 * n) 0) by omega, show (16 * val (L.getD (2 * n) 0) + val (L.getD (2 * n + 1) 0)) % 16 = val (L.getD (2 * n + 1) 0) by omega, a1, b1]
    simp [List.getD, show 2 * n < L.length by omega, show 2 * n + 1 < L.length by omega]
theorem hs_all (L : List Int) : hs L 64 = (List.range 32).map fun j => 16 * val (L.getD (2 * j) 0) + val (L.getD (2 * j + 1) 0) := by
  refine List.map_congr_left fun j hj => ?_
  have := List.mem_range.1 hj
  unfold hsAt
  rw [if_pos (by omega)]
theorem hexL_hs (L : List Int) (hl : L.length = 64) (hg : good L) : hexL (hs L 64) = L := by
  rw [hs_all, list2 L 32 (by omega) (fun j hj => ⟨hexN_val _ (hg j (by omega)), (val_range _).1, hg j (by omega)⟩), List.take_of_length_le (by omega)]
theorem hexL_at (l : List Int) (j : Nat) (h : j < l.length) : (hexL l).getD (2 * j) 0 = hexN (l.getD j 0 / 16) ∧ (hexL l).getD (2 * j + 1) 0 = hexN (l.getD j 0 % 16) := by
  have e : hexL l = hexL (l.take j) ++ (hexB (l.getD j 0) ++ hexL (l.drop (j + 1))) := by
    conv => lhs; rw [← List.take_append_drop (j + 1) l, hexL, List.flatMap_append]
    rw [← List.append_assoc, ← hexL_take l j h]
    rfl
  have hj : (hexL (l.take j)).length = 2 * j := by rw [hexL_length]; simp; omega
  rw [e]
  constructor
  · simp [List.getD, hj, hexB]
  · simp [List.getD, hj, hexB]
theorem hexL_good (l : List Int) (hl : l.length = 32) (hr : ∀ x ∈ l, 0 ≤ x ∧ x < 256) : good (hexL l) ∧ hs (hexL l) 64 = l := by
  have key : ∀ j, j < 32 → val ((hexL l).getD (2 * j) 0) = l.getD j 0 / 16 ∧ val ((hexL l).getD (2 * j + 1) 0) = l.getD j 0 % 16 := fun j hj => by
    have hx := hr (l.getD j 0) (by simp [List.getD, hl, hj])
    obtain ⟨a, b⟩ := hexL_at l j (by omega)
    rw [a, b]
    exact ⟨val_hexN _ (by omega), val_hexN _ (by omega)⟩
  constructor
  · intro j hj
    obtain ⟨a, b⟩ := key (j / 2) (by omega)
    have hx := hr (l.getD (j / 2) 0) (by simp [List.getD, hl, show j / 2 < 32 by omega])
    by_cases hp : j % 2 = 0
    · rw [show j = 2 * (j / 2) by omega, a]; omega
    · rw [show j = 2 * (j / 2) + 1 by omega, b]; omega
  · rw [hs_all]
    refine List.ext_getElem (by simp [hl]) fun j h1 h2 => ?_
    obtain ⟨a, b⟩ := key j (by omega)
    simp only [List.getElem_map, List.getElem_range]
    rw [a, b]
    simp [List.getD, h2]
    omega
theorem hexL_bytes (l : List Int) (hr : ∀ x ∈ l, 0 ≤ x ∧ x < 256) : ∀ c ∈ hexL l, 0 ≤ c ∧ c < 256 := by
  intro c hc
  obtain ⟨x, hx, hc⟩ := List.mem_flatMap.1 hc
  have := hr x hx
  simp only [hexB, List.mem_cons, List.not_mem_nil, or_false] at hc
  unfold hexN at hc
  rcases hc with rfl | rfl <;> split <;> omega
end Go.Proofs.Ytdefecbaineneaa
