/- Codes under a key: mac.Code. -/
import Derived.Test.YtmjpbomonhjebaaShaX
import Derived.OpenShut
namespace Go.Proofs.Ytmjpbomonhjebaa
open Go.RowKit

def xorB (c x : Int) : Int := bits .xor .u8 x c
def pad (l : List Int) : List Int := l ++ List.replicate (64 - l.length) 0
def kk (l : List Int) : List Int := if 64 < l.length then shaSum l else l
def hmac (k m : List Int) : List Int := shaSum ((pad (kk k)).map (xorB 92) ++ shaSum ((pad (kk k)).map (xorB 54) ++ m))
theorem hmac_length (k m : List Int) : (hmac k m).length = 32 := shaSum_length _
theorem hmac_range (k m : List Int) : ∀ x ∈ hmac k m, 0 ≤ x ∧ x < 256 := shaSum_range _
theorem kk_length (l : List Int) : (kk l).length ≤ 64 := by
  unfold kk
  split
  · rw [shaSum_length]; omega
  · omega
theorem kk_range (l : List Int) (h : ∀ x ∈ l, 0 ≤ x ∧ x < 256) : ∀ x ∈ kk l, 0 ≤ x ∧ x < 256 := by
  unfold kk
  split
  · exact shaSum_range _
  · exact h
theorem pad_length (l : List Int) (h : l.length ≤ 64) : (pad l).length = 64 := by simp [pad]; omega
theorem pad_range (l : List Int) (h : ∀ x ∈ l, 0 ≤ x ∧ x < 256) : ∀ x ∈ pad l, 0 ≤ x ∧ x < 256 := by
  intro x hx
  rcases List.mem_append.1 hx with hx | hx
  · exact h x hx
  · rw [List.eq_of_mem_replicate hx]; omega
theorem xorB_range (c x : Int) : 0 ≤ xorB c x ∧ xorB c x < 256 := by
  have := bounds_u8 (wf_bits .xor .u8 x c)
  unfold xorB
  omega
theorem map_xor_range (c : Int) (l : List Int) : ∀ x ∈ l.map (xorB c), 0 ≤ x ∧ x < 256 := by
  intro x hx
  obtain ⟨y, _, rfl⟩ := List.mem_map.1 hx
  exact xorB_range c y
/-- The list, its first i turned. -/
def xk (c : Int) (l : List Int) (i : Nat) : List Int := (l.take i).map (xorB c) ++ l.drop i
theorem xk_length (c : Int) (l : List Int) (i : Nat) : (xk c l i).length = l.length := by simp [xk]; omega
theorem xk_at (c : Int) (l : List Int) (i : Nat) (h : i < l.length) : (xk c l i).getD i 0 = l.getD i 0 := by
  have h1 : (l.take i).length = i := by simp; omega
  unfold xk List.getD
  rw [List.getElem?_append_right (by rw [List.length_map, h1]; omega), List.length_map, h1, Nat.sub_self, List.getElem?_drop]
  simp
theorem xk_set (c : Int) (l : List Int) (i : Nat) (h : i < l.length) : (xk c l i).set i (xorB c (l.getD i 0)) = xk c l (i + 1) := by
  unfold xk
  have h1 : (l.take i).length = i := by simp; omega
  rw [List.set_append, if_neg (by rw [List.length_map, h1]; omega), List.length_map, h1, Nat.sub_self, List.drop_eq_getElem_cons h, List.set_cons_zero, List.take_succ_eq_append_getElem h, List.map_append, List.append_assoc]
  simp [List.getD, h]
theorem xk_all (c : Int) (l : List Int) : xk c l l.length = l.map (xorB c) := by simp [xk]
theorem lay_pad (l : List Int) : lay (u8s (List.replicate 64 0)) (u8s l) 0 = u8s (pad l) := by
  unfold lay pad
  rw [u8s_append, u8s_length, List.take_zero, List.nil_append, Nat.zero_add]
  congr 1
  unfold u8s
  rw [← List.map_drop, List.drop_replicate]
theorem build2s (a b : ByteArray) (w : World) : (o_buildSlice 147 2 [(0, .string a), (1, .string b)]).run Try.prog w = .ok (.value (.slice (some ⟨w.heap.size, 0, none⟩) 2 2)) (w.alloc (.cells [Value.string a, .string b].toArray 9)) := by kernel_rfl
theorem RowSt.rd {w0 w : World} {e sz : Nat} {L : List Bk} {A : Option Addr} {n cap : Nat} {xs : List Value} (h : RowSt w0 e sz L A n cap xs w) : Rd w A xs := by
  rcases h.2 with ⟨rfl, rfl, rfl, _⟩ | ⟨g, sp, rfl, hst, _⟩
  · have := h.1
    rw [Nat.zero_mul] at this
    rw [List.eq_nil_of_length_eq_zero this]
    exact .inl rfl
  · refine .inr ⟨g, 0, rfl, ?_, fun j u hu => ?_⟩
    · exact hst.head.lt
    · rw [Nat.zero_add, hst.cell 0 rfl j]
      show (xs ++ sp)[j]? = some u
      rw [List.getElem?_append_left (List.getElem?_eq_some_iff.1 hu).1]
      exact hu

set_option maxRecDepth 100000 in
set_option maxHeartbeats 1000000 in
theorem code_ok (key : ByteArray) (A : Option Addr) (ss : List ByteArray) (c : Nat) (w : World) (hr : Rd w A (ss.map .string)) (hk : key.size < 1000000000000) (hss : ss.length < 1000000) (hsz : (cat ss).length < 1000000000000) :
    Calls Try.prog 144 #[.string key, .slice A ss.length c] w fun e w' => e = .returned (hv (hmac (ints key) (cat ss))) ∧ St w [] w' := by
  refine C_mac_Code ?_
  unfold F_mac_Code
  have z32 : (u8s (List.replicate 32 0)).length = 32 := by simp [u8s]
  refine mop_new (St.nil w) (fun r w1 h1 => ?_)
  have h1 : St w [⟨r, 23, u8s (List.replicate 32 0), true⟩] w1 := by simpa [u8s] using h1
  refine ⟨fun v w2 => ∃ k : ByteArray, v = .string k ∧ ints k = kk (ints key) ∧ St w [⟨r, 23, u8s (List.replicate 32 0), true⟩] w2, ?_, ?_⟩
  · (repeat (first | (refine mop_c ?_ ?_; first | exact trivial | omega) | (refine dp_c ?_ ?_; first | exact trivial | omega)))
    refine mif_dec (fun hlt => ?_) (fun hge => ?_)
    · refine mop_run (buildstr key w1) ?_
      refine mop_to (sum_one key w1 (by omega)) ?_
      rintro e w2 ⟨rfl, h2⟩
      have h2 := h1.call0 h2
      have h32 : (u8s (shaSum (ints key))).length = 32 := by rw [u8s_length, shaSum_length]
      refine mop_new h2 (fun g w3 h3 => ?_)
      refine mop_storeN (q := true) (k := 32) (by kernel_rfl) h3 (by simpa [hv, Value.cells] using h32) (by intro u hu; exact u8s_one _ u hu) (by simp) (fun w4 h4 => ?_)
      have e : lay (List.replicate 32 (Value.int .u8 0)) (hv (shaSum (ints key))).cells.toList 0 = u8s (shaSum (ints key)) := lay_all _ _ (by show (u8s (shaSum (ints key))).length = _; rw [h32]; simp)
      rw [e] at h4
      (repeat (first | (refine mop_c ?_ ?_; first | exact trivial | omega) | (refine dp_c ?_ ?_; first | exact trivial | omega)))
      refine mop_purW (pw_conv_bytes 86 9 5 g 0 32 _ (shaSum (ints key)) (by kernel_rfl) (by kernel_rfl) (by kernel_rfl) (shaSum_length _) (fun i hi => by rw [Nat.zero_add, h4.cell 0 rfl i]; exact u8s_at _ i (by rw [shaSum_length]; omega))) ?_
      refine ⟨_, rfl, ?_, h4.drop⟩
      rw [ints_str _ (shaSum_range _), kk, if_pos (by rw [ints_length]; omega)]
    · exact ⟨key, rfl, by rw [kk, if_neg (by rw [ints_length]; omega)], h1⟩
  · rintro v u w2 ⟨k, rfl, hk1, h2⟩
    clear h1
    have hkl : (ints k).length ≤ 64 := by rw [hk1]; exact kk_length _
    have hks : k.size ≤ 64 := by rwa [ints_length] at hkl
    have htk : (ints k).take (min k.size 64) = ints k := List.take_of_length_le (by rw [ints_length]; omega)
    obtain ⟨P, hP⟩ : ∃ P, P = pad (kk (ints key)) := ⟨_, rfl⟩
    have hPl : P.length = 64 := by rw [hP]; exact pad_length _ (kk_length _)
    have hlay : lay (u8s (List.replicate 64 0)) (u8s ((ints k).take (min k.size 64))) 0 = u8s P := by rw [htk, lay_pad, hk1, hP]
    have hm : hmac (ints key) (cat ss) = shaSum (P.map (xorB 92) ++ shaSum (P.map (xorB 54) ++ cat ss)) := by rw [hP]; rfl
    rw [hm]
    refine mop_new h2 (fun p w3 h3 => ?_)
    refine mop_new h3 (fun q w4 h4 => ?_)
    have h4 : St w [⟨q, 153, u8s (List.replicate 64 0), true⟩, ⟨p, 153, u8s (List.replicate 64 0), true⟩, ⟨r, 23, u8s (List.replicate 32 0), true⟩] w4 := by simpa [u8s] using h4
    clear h2 h3
    have z64 : (u8s (List.replicate 64 0)).length = 64 := by simp [u8s]
    (repeat (first | (refine mop_c ?_ ?_; first | exact trivial | omega) | (refine dp_c ?_ ?_; first | exact trivial | omega)))
    obtain ⟨w5, hr5, h5⟩ := run_copy_string (P := Try.prog) (o := 0) (m := 64) (c := 64) (s := k) (dT := 86) (sT := 9) (ty := 3) (e := 5) (ks := [false, false]) h4.swap (by kernel_rfl) (by kernel_rfl) (by rw [z64]; omega)
    rw [hlay] at h5
    refine mop_run hr5 ?_
    (repeat (first | (refine mop_c ?_ ?_; first | exact trivial | omega) | (refine dp_c ?_ ?_; first | exact trivial | omega)))
    obtain ⟨w6, hr6, h6⟩ := run_copy_string (P := Try.prog) (o := 0) (m := 64) (c := 64) (s := k) (dT := 86) (sT := 9) (ty := 3) (e := 5) (ks := [false, false]) h5.swap (by kernel_rfl) (by kernel_rfl) (by rw [z64]; omega)
    rw [hlay] at h6
    refine mop_run hr6 ?_
    clear h4 h5 hr5 hr6
    refine ⟨fun v w7 => ∃ i : Nat, i ≤ 64 ∧ v = .int .i64 i ∧ St w [⟨q, 153, u8s (xk 92 P i), true⟩, ⟨p, 153, u8s (xk 54 P i), true⟩, ⟨r, 23, u8s (List.replicate 32 0), true⟩] w7, fun v _ => 64 - (intOf v).toNat, ⟨0, by omega, rfl, by simpa [xk] using h6⟩, ?_⟩
    clear h6
    rintro v u w7 ⟨i, hi, rfl, h7⟩
    (repeat (first | (refine mop_c ?_ ?_; first | exact trivial | omega) | (refine dp_c ?_ ?_; first | exact trivial | omega)))
    refine mif_dec (fun hlt => ?_) (fun hge => ?_)
    · have hi' : i < 64 := by omega
      have c1 : ∀ w8 B C, St w (⟨q, 153, B, true⟩ :: ⟨p, 153, u8s (xk 54 P i), true⟩ :: C) w8 → w8.cell? ⟨p, i, none⟩ = some (.int .u8 (P.getD i 0)) := fun w8 B C h => by
        rw [h.cell 1 rfl i, ← xk_at 54 P i (by omega)]; exact u8s_at _ i (by rw [xk_length]; omega)
      have c2 : ∀ w8 B C, St w (B :: ⟨q, 153, u8s (xk 92 P i), true⟩ :: C) w8 → w8.cell? ⟨q, i, none⟩ = some (.int .u8 (P.getD i 0)) := fun w8 B C h => by
        rw [h.cell 1 rfl i, ← xk_at 92 P i (by omega)]; exact u8s_at _ i (by rw [xk_length]; omega)
      (repeat (first | (refine mop_c ?_ ?_; first | exact trivial | omega) | (refine dp_c ?_ ?_; first | exact trivial | omega)))
      refine mop_ld (c1 _ _ _ h7) (by omega) ?_
      (repeat (first | (refine mop_c ?_ ?_; first | exact trivial | omega) | (refine dp_c ?_ ?_; first | exact trivial | omega)))
      refine mop_st (j := i) h7.swap (by omega) (by rw [u8s_length, xk_length]; omega) rfl (fun w8 h8 => ?_)
      rw [set_u8s] at h8
      have h8 : St w (⟨p, 153, u8s (xk 54 P (i + 1)), true⟩ :: ⟨q, 153, u8s (xk 92 P i), true⟩ :: ⟨r, 23, u8s (List.replicate 32 0), true⟩ :: []) w8 := by
        rw [← xk_set 54 P i (by omega)]; exact h8
      (repeat (first | (refine mop_c ?_ ?_; first | exact trivial | omega) | (refine dp_c ?_ ?_; first | exact trivial | omega)))
      refine mop_ld (c2 _ _ _ h8) (by omega) ?_
      (repeat (first | (refine mop_c ?_ ?_; first | exact trivial | omega) | (refine dp_c ?_ ?_; first | exact trivial | omega)))
      refine mop_st (j := i) h8.swap (by omega) (by rw [u8s_length, xk_length]; omega) rfl (fun w9 h9 => ?_)
      rw [set_u8s] at h9
      have h9 : St w (⟨q, 153, u8s (xk 92 P (i + 1)), true⟩ :: ⟨p, 153, u8s (xk 54 P (i + 1)), true⟩ :: ⟨r, 23, u8s (List.replicate 32 0), true⟩ :: []) w9 := by
        rw [← xk_set 92 P i (by omega)]; exact h9
      (repeat (first | (refine mop_c ?_ ?_; first | exact trivial | omega) | (refine dp_c ?_ ?_; first | exact trivial | omega)))
      exact ⟨⟨i + 1, by omega, rfl, h9⟩, by simp [intOf]; omega⟩
    · obtain rfl : i = 64 := by omega
      have a1 : xk 54 P 64 = P.map (xorB 54) := by rw [← hPl]; exact xk_all 54 P
      have a2 : xk 92 P 64 = P.map (xorB 92) := by rw [← hPl]; exact xk_all 92 P
      rw [a1, a2] at h7
      have r1 := map_xor_range 54 P
      have r2 := map_xor_range 92 P
      have l1 : (P.map (xorB 54)).length = 64 := by rw [List.length_map, hPl]
      have l2 : (P.map (xorB 92)).length = 64 := by rw [List.length_map, hPl]
      generalize P.map (xorB 54) = X at h7 r1 l1 ⊢
      generalize P.map (xorB 92) = Y at h7 r2 l2 ⊢
      (repeat (first | (refine mop_c ?_ ?_; first | exact trivial | omega) | (refine dp_c ?_ ?_; first | exact trivial | omega)))
      refine mop_purW (pw_conv_bytes 86 9 5 p 0 64 _ X (by kernel_rfl) (by kernel_rfl) (by kernel_rfl) l1 (fun i hi => by rw [Nat.zero_add, h7.cell 1 rfl i]; exact u8s_at X i (by omega))) ?_
      refine mop_run (buildstr _ _) ?_
      have h8 := h7.alloc 9 [Value.string (strOfNums X)]
      have hrow : RowSt w 9 1 [⟨q, 153, u8s Y, true⟩, ⟨p, 153, u8s X, true⟩, ⟨r, 23, u8s (List.replicate 32 0), true⟩] (some ⟨w7.heap.size, 0, none⟩) 1 1 [Value.string (strOfNums X)] (w7.alloc (.cells [Value.string (strOfNums X)].toArray 9)) :=
        ⟨rfl, .inr ⟨w7.heap.size, [], rfl, h8, rfl, by omega, by unfold maxLen; omega⟩⟩
      have hsrc := src_of_rd (P := Try.prog) (size := 1) (tx := 147) (e' := 9) _ (by kernel_rfl) (A := A) (m := ss.length) (c := c) (news := ss.map .string) (by simp) ((h8.only.rd hr (fun b off _ h => by obtain ⟨b', hb, h2, _⟩ := h; simp at hb; rcases hb with rfl | rfl | rfl | rfl <;> cases h2))) (by intro u hu; obtain ⟨x, _, rfl⟩ := List.mem_map.1 hu; rfl)
      refine mop_append hrow hsrc (by unfold maxLen; omega) (by omega) (fun A' cap' w8 h9 => ?_)
      have hrd9 : Rd w8 A' ((strOfNums X :: ss).map .string) := h9.rd
      have hcat : cat (strOfNums X :: ss) = X ++ cat ss := by
        unfold cat
        rw [List.map_cons, List.flatten_cons, ints_str X r1]
      have hsum := sum_ok A' (strOfNums X :: ss) cap' w8 hrd9 (by simp; omega) (by rw [hcat, List.length_append]; omega)
      rw [hcat, List.length_cons, Nat.add_comm ss.length 1] at hsum
      refine mop_to hsum ?_
      rintro e w9 ⟨rfl, h10⟩
      have h10 := h9.base.call0 h10
      clear h7 h8 h9 hrow hsrc hsum hrd9
      obtain ⟨D, hD⟩ : ∃ D, D = shaSum (X ++ cat ss) := ⟨_, rfl⟩
      have rD := shaSum_range (X ++ cat ss)
      have lD := shaSum_length (X ++ cat ss)
      rw [← hD] at rD lD ⊢
      have hDl : (u8s D).length = 32 := by rw [u8s_length, lD]
      refine mop_new h10 (fun d w10 h11 => ?_)
      refine mop_storeN (q := true) (k := 32) (by kernel_rfl) h11 (by simpa [hv, Value.cells] using hDl) (by intro u hu; exact u8s_one _ u hu) (by simp) (fun w11 h12 => ?_)
      have e : lay (List.replicate 32 (Value.int .u8 0)) (hv D).cells.toList 0 = u8s D := lay_all _ _ (by show (u8s D).length = _; rw [hDl]; simp)
      rw [e] at h12
      (repeat (first | (refine mop_c ?_ ?_; first | exact trivial | omega) | (refine dp_c ?_ ?_; first | exact trivial | omega)))
      refine dq_pur (fun w3 hw => pw_conv_bytes 86 9 5 q 0 64 _ Y (by kernel_rfl) (by kernel_rfl) (by kernel_rfl) l2 (fun i hi => hw.cell (by rw [Nat.zero_add, h12.cell 1 rfl i]; exact u8s_at Y i (by omega)))) ?_
      (repeat (first | (refine mop_c ?_ ?_; first | exact trivial | omega) | (refine dp_c ?_ ?_; first | exact trivial | omega)))
      refine dq_pur (fun w3 hw => pw_conv_bytes 86 9 5 d 0 32 _ D (by kernel_rfl) (by kernel_rfl) (by kernel_rfl) lD (fun i hi => hw.cell (by rw [Nat.zero_add, h12.cell 0 rfl i]; exact u8s_at D i (by omega)))) ?_
      refine df_mop fun w12 hd12 => mop_run (build2s _ _ _) ⟨(fun e => by cases e), ?_⟩
      have h13 := (h12.drawn hd12)
      refine df_mop fun w13 hd13 => ?_
      have h14 := (h13.alloc 9 [Value.string (strOfNums Y), .string (strOfNums D)]).drawn hd13
      have hcat2 : cat [strOfNums Y, strOfNums D] = Y ++ D := by
        simp [cat, ints_str Y r2, ints_str D rD]
      have hsum := sum_ok (some ⟨w12.heap.size, 0, none⟩) [strOfNums Y, strOfNums D] 2 w13 (.inr ⟨w12.heap.size, 0, rfl, h14.head.lt, fun j u hu => by rw [Nat.zero_add, h14.cell 0 rfl j]; exact hu⟩) (by simp) (by rw [hcat2, List.length_append]; omega)
      rw [hcat2] at hsum
      refine mop_to hsum ?_
      rintro e w14 ⟨rfl, h15⟩
      have h15 := h14.drop.call0 h15
      refine ⟨(fun e => by cases e), ?_⟩
      refine df_mop fun w15 hd15 => ?_
      have h16 := (h15.drawn hd15).drop.drop.drop
      have hEl : (u8s (shaSum (Y ++ D))).length = 32 := by rw [u8s_length, shaSum_length]
      refine mop_storeN (q := true) (k := 32) (by kernel_rfl) h16 (by simpa [hv, Value.cells] using hEl) (by intro u hu; exact u8s_one _ u hu) (by rw [z32]; omega) (fun w17 h17 => ⟨(fun e => by cases e), ?_⟩)
      have e : lay (u8s (List.replicate 32 0)) (hv (shaSum (Y ++ D))).cells.toList 0 = u8s (shaSum (Y ++ D)) := lay_all _ _ (by show (u8s (shaSum (Y ++ D))).length = _; rw [hEl, z32])
      rw [e] at h17
      refine dend_intro fun w18 hd18 => ?_
      have h18 := h17.drawn hd18
      refine rcell_ldN (cells_of_row h18.head) hEl ?_
      exact ⟨rfl, h18.drop⟩
end Go.Proofs.Ytmjpbomonhjebaa
