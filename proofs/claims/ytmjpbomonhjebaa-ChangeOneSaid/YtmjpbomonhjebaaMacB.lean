/- The reference's Code; the law MacCodes. -/
import Derived.Test.YtmjpbomonhjebaaMacA
namespace Go.Proofs.Ytmjpbomonhjebaa
open Go.RowKit

theorem pad_at (l : List Int) (i : Nat) : (pad l).getD i 0 = if i < l.length then l.getD i 0 else 0 := by
  unfold pad List.getD
  by_cases h : i < l.length
  · rw [if_pos h, List.getElem?_append_left h]
  · rw [if_neg h, List.getElem?_append_right (by omega)]
    by_cases h2 : i - l.length < 64 - l.length
    · simp [h2]
    · simp [h2]
theorem take_map_succ (c : Int) (l : List Int) (i : Nat) (h : i < l.length) : (l.take (i + 1)).map (xorB c) = (l.take i).map (xorB c) ++ [xorB c (l.getD i 0)] := by
  rw [List.take_succ_eq_append_getElem h, List.map_append]
  simp [List.getD, h]

set_option maxRecDepth 100000 in
set_option maxHeartbeats 1000000 in
theorem refcode_ok (key t : ByteArray) (w : World) (hk : key.size < 1000000000000) (ht : t.size < 1000000000000) :
    Calls Try.prog 107 #[.string key, .string t] w fun e w' => e = .returned (hv (hmac (ints key) (ints t))) ∧ St w [] w' := by
  refine C_bevyref03_Code ?_
  unfold F_bevyref03_Code
  have z32 : (u8s (List.replicate 32 0)).length = 32 := by simp [u8s]
  refine mop_new (St.nil w) (fun r w1 h1 => ?_)
  have h1 : St w [⟨r, 22, u8s (List.replicate 32 0), true⟩] w1 := by simpa [u8s] using h1
  have hold : ∀ (D : List Int) (w2 : World) (L : List Bk) (K : Value → World → Prop) (X : List PanicEntry → World → Prop), D.length = 32 → (∀ x ∈ D, 0 ≤ x ∧ x < 256) → St w L w2 → (∀ w3, St w L w3 → K (.string (strOfNums D)) w3) →
      mop Try.prog (o_alloc 22) w2 (fun x10 w27 => mop Try.prog (o_store 22 x10 (hv D)) w27 (fun _ w28 => mop Try.prog (o_slice 22 x10 none none none) w28 (fun x46 w29 => mop Try.prog (o_conv 86 9 x46) w29 K X) X) X) X := by
    intro D w2 L K X lD rD h2 hK
    have hDl : (u8s D).length = 32 := by rw [u8s_length, lD]
    refine mop_new h2 (fun d w10 h11 => ?_)
    refine mop_storeN (q := true) (k := 32) (by kernel_rfl) h11 (by simpa [hv, Value.cells] using hDl) (by intro u hu; exact u8s_one _ u hu) (by simp) (fun w11 h12 => ?_)
    have e : lay (List.replicate 32 (Value.int .u8 0)) (hv D).cells.toList 0 = u8s D := lay_all _ _ (by show (u8s D).length = _; rw [hDl]; simp)
    rw [e] at h12
    (repeat (first | (refine mop_c ?_ ?_; first | exact trivial | omega) | (refine dp_c ?_ ?_; first | exact trivial | omega)))
    refine mop_purW (pw_conv_bytes 86 9 5 d 0 32 _ D (by kernel_rfl) (by kernel_rfl) (by kernel_rfl) lD (fun i hi => by rw [Nat.zero_add, h12.cell 0 rfl i]; exact u8s_at D i (by omega))) ?_
    exact hK _ h12.drop
  refine ⟨fun v w2 => ∃ k : ByteArray, v = .string k ∧ ints k = kk (ints key) ∧ St w [⟨r, 22, u8s (List.replicate 32 0), true⟩] w2, ?_, ?_⟩
  · (repeat (first | (refine mop_c ?_ ?_; first | exact trivial | omega) | (refine dp_c ?_ ?_; first | exact trivial | omega)))
    refine mif_dec (fun hlt => ?_) (fun hge => ?_)
    · refine mop_to (refsum_ok key w1 (by omega)) ?_
      rintro e w2 ⟨rfl, h2⟩
      have h2 := h1.call0 h2
      refine hold _ _ _ _ _ (shaSum_length _) (shaSum_range _) h2 (fun w3 h3 => ?_)
      refine ⟨_, rfl, ?_, h3⟩
      rw [ints_str _ (shaSum_range _), kk, if_pos (by rw [ints_length]; omega)]
    · exact ⟨key, rfl, by rw [kk, if_neg (by rw [ints_length]; omega)], h1⟩
  · rintro v u w2 ⟨k, rfl, hk1, h2⟩
    clear h1
    have hkl : (ints k).length ≤ 64 := by rw [hk1]; exact kk_length _
    have hks : k.size ≤ 64 := by rwa [ints_length] at hkl
    obtain ⟨P, hP⟩ : ∃ P, P = pad (kk (ints key)) := ⟨_, rfl⟩
    have hPl : P.length = 64 := by rw [hP]; exact pad_length _ (kk_length _)
    have hPat : ∀ i, P.getD i 0 = if i < k.size then (ints k).getD i 0 else 0 := fun i => by rw [hP, pad_at, ← hk1, ints_length]
    have hm : hmac (ints key) (ints t) = shaSum (P.map (xorB 92) ++ shaSum (P.map (xorB 54) ++ ints t)) := by rw [hP]; rfl
    rw [hm]
    refine ⟨fun x y z w3 => ∃ i : Nat, i ≤ 64 ∧ z = .int .i64 i ∧ x = .string (strOfNums ((P.take i).map (xorB 54))) ∧ y = .string (strOfNums ((P.take i).map (xorB 92))) ∧ St w [⟨r, 22, u8s (List.replicate 32 0), true⟩] w3,
      fun _ _ z _ => 64 - (intOf z).toNat, ⟨0, by omega, rfl, rfl, rfl, h2⟩, ?_⟩
    clear h2
    rintro x y z u w3 ⟨i, hi, rfl, rfl, rfl, h3⟩
    (repeat (first | (refine mop_c ?_ ?_; first | exact trivial | omega) | (refine dp_c ?_ ?_; first | exact trivial | omega)))
    refine mif_dec (fun hlt => ?_) (fun hge => ?_)
    · have hi' : i < 64 := by omega
      refine ⟨fun v w4 => v = .int .u8 (P.getD i 0) ∧ St w [⟨r, 22, u8s (List.replicate 32 0), true⟩] w4, ?_, ?_⟩
      · (repeat (first | (refine mop_c ?_ ?_; first | exact trivial | omega) | (refine dp_c ?_ ?_; first | exact trivial | omega)))
        refine mif_dec (fun hin => ?_) (fun hout => ?_)
        · refine mop_pur (p_index_str k i (by omega) (by omega)) ?_
          rw [hPat, if_pos (by omega)]
          exact ⟨rfl, h3⟩
        · rw [hPat, if_neg (by omega)]
          exact ⟨rfl, h3⟩
      · rintro v u w4 ⟨rfl, h4⟩
        have sz : ∀ c, (strOfNums ((P.take i).map (xorB c))).size ≤ 64 := fun c => by rw [strOfNums_size]; simp; omega
        (repeat (first | (refine mop_c ?_ ?_; first | exact trivial | omega) | (refine dp_c ?_ ?_; first | exact trivial | omega)))
        refine mop_run (build1b _ _) ?_
        refine mop_purW (conv1 _ _ h4) ?_
        have s1 := sz 54
        have s2 := sz 92
        refine mop_c (by rw [strOfNums_size [_], List.length_singleton]; omega) ?_
        (repeat (first | (refine mop_c ?_ ?_; first | exact trivial | omega) | (refine dp_c ?_ ?_; first | exact trivial | omega)))
        have h5 := (h4.alloc 5 (u8s [bits .xor .u8 (P.getD i 0) 54])).drop
        refine mop_run (build1b _ _) ?_
        refine mop_purW (conv1 _ _ h5) ?_
        refine mop_c (by rw [strOfNums_size [_], List.length_singleton]; omega) ?_
        (repeat (first | (refine mop_c ?_ ?_; first | exact trivial | omega) | (refine dp_c ?_ ?_; first | exact trivial | omega)))
        refine ⟨⟨i + 1, by omega, rfl, ?_, ?_, (h5.alloc _ _).drop⟩, by simp [intOf]; omega⟩
        · rw [strOfNums_append, take_map_succ _ _ _ (by omega)]; rfl
        · rw [strOfNums_append, take_map_succ _ _ _ (by omega)]; rfl
    · obtain rfl : i = 64 := by omega
      rw [List.take_of_length_le (by omega)]
      have r1 := map_xor_range 54 P
      have r2 := map_xor_range 92 P
      have l1 : (P.map (xorB 54)).length = 64 := by rw [List.length_map, hPl]
      have l2 : (P.map (xorB 92)).length = 64 := by rw [List.length_map, hPl]
      generalize P.map (xorB 54) = X at r1 l1 ⊢
      generalize P.map (xorB 92) = Y at r2 l2 ⊢
      have sX : (strOfNums X).size = 64 := by rw [strOfNums_size, l1]
      have sY : (strOfNums Y).size = 64 := by rw [strOfNums_size, l2]
      (repeat (first | (refine mop_c ?_ ?_; first | exact trivial | omega) | (refine dp_c ?_ ?_; first | exact trivial | omega)))
      have e1 : ints (strOfNums X ++ t) = X ++ ints t := by
        rw [← str_ints t, strOfNums_append, ints_str, str_ints]
        intro x hx
        rcases List.mem_append.1 hx with hx | hx
        · exact r1 x hx
        · exact ints_range t x hx
      have s3 : (strOfNums X ++ t).size = 64 + t.size := by simp [sX]
      have hsum := refsum_ok (strOfNums X ++ t) w3 (by omega)
      rw [e1] at hsum
      refine mop_to hsum ?_
      rintro e w4 ⟨rfl, h4⟩
      have h4 := h3.call0 h4
      have rD := shaSum_range (X ++ ints t)
      have lD := shaSum_length (X ++ ints t)
      generalize shaSum (X ++ ints t) = D at rD lD ⊢
      refine hold _ _ _ _ _ lD rD h4 (fun w5 h5 => ?_)
      have sD : (strOfNums D).size = 32 := by rw [strOfNums_size, lD]
      (repeat (first | (refine mop_c ?_ ?_; first | exact trivial | omega) | (refine dp_c ?_ ?_; first | exact trivial | omega)))
      have e2 : ints (strOfNums Y ++ strOfNums D) = Y ++ D := by
        rw [strOfNums_append, ints_str]
        intro x hx
        rcases List.mem_append.1 hx with hx | hx
        · exact r2 x hx
        · exact rD x hx
      have s4 : (strOfNums Y ++ strOfNums D).size = 96 := by simp [sY, sD]
      have hsum := refsum_ok (strOfNums Y ++ strOfNums D) w5 (by omega)
      rw [e2] at hsum
      refine mop_to hsum ?_
      rintro e w6 ⟨rfl, h6⟩
      have h6 := h5.call0 h6
      have hEl : (u8s (shaSum (Y ++ D))).length = 32 := by rw [u8s_length, shaSum_length]
      refine mop_storeN (q := true) (k := 32) (by kernel_rfl) h6 (by simpa [hv, Value.cells] using hEl) (by intro u hu; exact u8s_one _ u hu) (by rw [z32]; omega) (fun w17 h17 => ?_)
      have e : lay (u8s (List.replicate 32 0)) (hv (shaSum (Y ++ D))).cells.toList 0 = u8s (shaSum (Y ++ D)) := lay_all _ _ (by show (u8s (shaSum (Y ++ D))).length = _; rw [hEl, z32])
      rw [e] at h17
      refine rcell_ldN (cells_of_row h17.head) hEl ?_
      exact ⟨rfl, h17.drop⟩
end Go.Proofs.Ytmjpbomonhjebaa
