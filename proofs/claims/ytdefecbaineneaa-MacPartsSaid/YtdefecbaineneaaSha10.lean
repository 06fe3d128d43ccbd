/- The law ShaDigits. -/
import Derived.Test.YtdefecbaineneaaSha9
namespace Go.Proofs.Ytdefecbaineneaa
open Go.RowKit

theorem p_neq_hv (q : Bool) (xs ys : List Int) (hx : xs.length = 32) (hy : ys.length = 32) : Pur Try.prog (o_bin .neq 23 q (hv xs) (hv ys)) (.bool (!decide (xs = ys))) :=
  p_neq_ints 23 5 32 q .u8 xs ys (by kernel_rfl) (by kernel_rfl) (by kernel_rfl) (by kernel_rfl) hx hy
theorem p_neq_string (t : TypeId) (q : Bool) (a b : ByteArray) : Pur Try.prog (o_bin .neq t q (.string a) (.string b)) (.bool (!(a.toList == b.toList))) := fun w => by
  simp [o_bin, sv, eqGuard, binOp, Op.stringOp]

set_option maxHeartbeats 1000000 in
theorem shaDigits_ok (l : List Int) (s : ByteArray) (w : World) (hl : l.length = 32) (hr : ∀ x ∈ l, 0 ≤ x ∧ x < 256) (hsz : s.size ≤ maxLen) :
    Calls Try.prog 9 #[hv l, .string s] w fun e w' => e = .returned (.bool true) ∧ St w [] w' := by
  refine C_bevylaw02_ShaDigits ?_
  unfold F_bevylaw02_ShaDigits
  have l32 : (u8s l).length = 32 := by simp [u8s, hl]
  have z32 : (u8s (List.replicate 32 0)).length = 32 := by simp [u8s]
  obtain ⟨gd, hsl⟩ := hexL_good l hl hr
  have hib : ints (strOfNums (hexL l)) = hexL l := ints_str _ (hexL_bytes l hr)
  refine mop_box (St.nil w) (fun b w1 h1 => ?_)
  have h1 : St w [⟨b, 23, u8s l, true⟩] w1 := by simpa [hv, Value.cells] using h1
  refine mop_ldN (cells_of_row h1.head) l32 rfl ?_
  refine mop_to (hex_ok l w1 hl hr) ?_
  rintro e w2 ⟨rfl, h2⟩
  have h2 := h1.call0 h2
  clear h1
  refine mop_to (unhex_ok _ w2) ?_
  rintro e w3 ⟨hu, h3⟩
  have h3 := h2.call0 h3
  clear h2
  have hu : e = .returned (.tuple #[hv l, .bool true]) := by
    rcases hu with ⟨rfl, _⟩ | ⟨_, hbad⟩
    · rw [hib, hsl]
    · exfalso
      rw [hib] at hbad
      rcases hbad with h | ⟨j, hj, hv⟩
      · exact h (by rw [strOfNums_size, hexL_length, hl])
      · rw [strOfNums_size, hexL_length, hl] at hj
        have := gd j hj
        omega
  subst hu
  refine mop_pur (p_extract [hv l, .bool true] 0 _ rfl) ?_
  refine mop_pur (p_extract [hv l, .bool true] 1 _ rfl) ?_
  refine mop_new h3 (fun c w4 h4 => ?_)
  have h4 : St w [⟨c, 23, u8s (List.replicate 32 0), true⟩, ⟨b, 23, u8s l, true⟩] w4 := by simpa [u8s] using h4
  refine mop_storeN (q := true) (k := 32) (by kernel_rfl) h4 (by simpa [hv, Value.cells] using l32) (by intro u hu; exact u8s_one _ u hu) (by simp [u8s]) (fun w5 h5 => ?_)
  have e : lay (u8s (List.replicate 32 0)) (hv l).cells.toList 0 = u8s l := lay_all _ _ (by show (u8s l).length = _; rw [l32, z32])
  rw [e] at h5
  clear h3 h4 e
  refine ⟨fun v w6 => v = .bool false ∧ St w [] w6, ?_, ?_⟩
  · refine mop_to (awake_ok w5) ?_
    rintro e w6 ⟨rfl, h6⟩
    have h6 := h5.call0 h6
    refine mop_c trivial ?_
    rw [Bool.not_true]
    refine mguard_yes ?_
    (repeat (first | (refine mop_c ?_ ?_; first | exact trivial | omega) | (refine dp_c ?_ ?_; first | exact trivial | omega)))
    refine mguard_yes ?_
    refine mop_ldN (cells_of_row (h6.mem (k := 1) rfl)) l32 rfl ?_
    refine mguard_yes ?_
    refine mop_to (refhex_ok l w6 hl hr) ?_
    rintro e w7 ⟨rfl, h7⟩
    have h7 := h6.call0 h7
    refine mguard_yes ?_
    refine mop_pur (p_neq_string _ _ _ _) ?_
    rw [show (!((strOfNums (hexL l)).toList == (strOfNums (hexL l)).toList)) = false by simp]
    (repeat (first | (refine mop_c ?_ ?_; first | exact trivial | omega) | (refine dp_c ?_ ?_; first | exact trivial | omega)))
    refine mguard_yes ?_
    (repeat (first | (refine mop_c ?_ ?_; first | exact trivial | omega) | (refine dp_c ?_ ?_; first | exact trivial | omega)))
    refine mguard_yes ?_
    refine mop_c trivial ?_
    rw [Bool.not_true]
    (repeat (first | (refine mop_c ?_ ?_; first | exact trivial | omega) | (refine dp_c ?_ ?_; first | exact trivial | omega)))
    refine mguard_yes ?_
    refine mop_ldN (cells_of_row h7.head) l32 rfl ?_
    refine mguard_yes ?_
    refine mop_ldN (cells_of_row (h7.mem (k := 1) rfl)) l32 rfl ?_
    refine mguard_yes ?_
    refine mop_pur (p_neq_hv _ l l hl hl) ?_
    rw [show (!decide (l = l)) = false by simp]
    (repeat (first | (refine mop_c ?_ ?_; first | exact trivial | omega) | (refine dp_c ?_ ?_; first | exact trivial | omega)))
    exact ⟨rfl, h7.drop.drop⟩
  · rintro v u w6 ⟨rfl, h6⟩
    refine mif_false ?_
    refine mop_to (unhex_ok s w6) ?_
    rintro e w7 ⟨hu, h7⟩
    have h7 := h6.call0 h7
    clear h5 h6
    have fin : ∀ (l2 : List Int) (w9 : World), l2.length = 32 → ∀ K : Value → World → Prop, (∀ c w10, St w [⟨c, 23, u8s l2, true⟩] w10 → K (.pointer (some ⟨c, 0, none⟩)) w10) → St w [] w9 →
        m (fun e w' => e = .returned (.bool true) ∧ St w [] w') (o_alloc 23) w9 fun x8 w27 => m (fun e w' => e = .returned (.bool true) ∧ St w [] w') (o_store 23 x8 (hv l2)) w27 fun _ w28 => K x8 w28 := by
      intro l2 w9 hl2 K hk h9
      refine mop_new h9 (fun c w4 h4 => ?_)
      have h4 : St w [⟨c, 23, u8s (List.replicate 32 0), true⟩] w4 := by simpa [u8s] using h4
      have hol : (u8s l2).length = 32 := by simp [u8s, hl2]
      refine mop_storeN (q := true) (k := 32) (by kernel_rfl) h4 (by simpa [hv, Value.cells] using hol) (by intro u hu; exact u8s_one _ u hu) (by simp [u8s]) (fun w5 h5 => ?_)
      have e : lay (u8s (List.replicate 32 0)) (hv l2).cells.toList 0 = u8s l2 := lay_all _ _ (by show (u8s l2).length = _; rw [hol, z32])
      rw [e] at h5
      exact hk c w5 h5
    rcases hu with ⟨rfl, hs64, hg⟩ | ⟨rfl, hbad⟩
    · refine mop_pur (p_extract [hv (hs (ints s) 64), .bool true] 0 _ rfl) ?_
      refine mop_pur (p_extract [hv (hs (ints s) 64), .bool true] 1 _ rfl) ?_
      refine fin _ _ (hs_length _ _) _ (fun c w8 h8 => ?_) h7
      refine mop_c trivial ?_
      rw [Bool.not_true]
      refine mif_false ?_
      refine mop_ldN (cells_of_row h8.head) (by simp [u8s, hs]) rfl ?_
      refine mop_to (refhex_ok (hs (ints s) 64) w8 (hs_length _ _) ?_) ?_
      · intro x hx
        rw [hs_all] at hx
        obtain ⟨j, hj, rfl⟩ := List.mem_map.1 hx
        have hj := List.mem_range.1 hj
        have a := val_range ((ints s).getD (2 * j) 0)
        have b := val_range ((ints s).getD (2 * j + 1) 0)
        have a' := hg (2 * j) (by omega)
        have b' := hg (2 * j + 1) (by omega)
        omega
      rintro e w9 ⟨rfl, h9⟩
      have h9 := h8.call0 h9
      refine mop_c trivial ?_
      rw [hexL_hs (ints s) (by rw [ints_length, hs64]) hg, str_ints]
      exact ⟨by simp, h9.drop⟩
    · refine mop_pur (p_extract [hv (List.replicate 32 0), .bool false] 0 _ rfl) ?_
      refine mop_pur (p_extract [hv (List.replicate 32 0), .bool false] 1 _ rfl) ?_
      refine fin _ _ (by simp) _ (fun c w8 h8 => ?_) h7
      refine mop_c trivial ?_
      rw [Bool.not_false]
      refine mif_true ?_
      refine mop_ldN (cells_of_row h8.head) z32 rfl ?_
      refine mop_pur (v := hv (List.replicate 32 0)) (fun w => by kernel_rfl) ?_
      refine mop_pur (p_eql_hv _ _ _ (by simp) (by simp)) ?_
      rw [show decide (List.replicate 32 (0 : Int) = List.replicate 32 0) = true by simp]
      refine mguard_yes ?_
      (repeat (first | (refine mop_c ?_ ?_; first | exact trivial | omega) | (refine dp_c ?_ ?_; first | exact trivial | omega)))
      refine mguard_yes ?_
      (repeat (first | (refine mop_c ?_ ?_; first | exact trivial | omega) | (refine dp_c ?_ ?_; first | exact trivial | omega)))
      refine mguard_yes ?_
      (repeat (first | (refine mop_c ?_ ?_; first | exact trivial | omega) | (refine dp_c ?_ ?_; first | exact trivial | omega)))
      refine mguard_yes ?_
      (repeat (first | (refine mop_c ?_ ?_; first | exact trivial | omega) | (refine dp_c ?_ ?_; first | exact trivial | omega)))
      by_cases hne : (s.size : Int) ≠ 64
      · rw [show decide ((s.size : Int) ≠ 64) = true by simpa using hne]
        refine mguard_no (by simp) ?_
        refine mguard_no (by simp) ?_
        refine mguard_yes ?_
        (repeat (first | (refine mop_c ?_ ?_; first | exact trivial | omega) | (refine dp_c ?_ ?_; first | exact trivial | omega)))
        exact ⟨rfl, h8.drop⟩
      · rw [show decide ((s.size : Int) ≠ 64) = false by simpa using hne]
        refine mguard_yes ?_
        (repeat (first | (refine mop_c ?_ ?_; first | exact trivial | omega) | (refine dp_c ?_ ?_; first | exact trivial | omega)))
        refine mguard_yes ?_
        refine mop_to (odd_ok s w8 (hbad.resolve_left (by omega)) hsz) ?_
        rintro e w9 ⟨rfl, h9⟩
        have h9 := h8.call0 h9
        refine mguard_yes ?_
        (repeat (first | (refine mop_c ?_ ?_; first | exact trivial | omega) | (refine dp_c ?_ ?_; first | exact trivial | omega)))
        exact ⟨rfl, h9.drop⟩
end Go.Proofs.Ytdefecbaineneaa
