/- The laws MacCodes and MacMixes. -/
import Derived.Test.YtdefecbaineneaaMac2
namespace Go.Proofs.Ytdefecbaineneaa
open Go.RowKit

def jefe : ByteArray := ByteArray.mk #[74, 101, 102, 101]
def what1 : ByteArray := ByteArray.mk #[119, 104, 97, 116, 32, 100, 111, 32, 121, 97, 32, 119, 97, 110, 116, 32]
def what2 : ByteArray := ByteArray.mk #[102, 111, 114, 32, 110, 111, 116, 104, 105, 110, 103, 63]
set_option maxRecDepth 100000 in
theorem jefe_hex : ((strOfNums (hexL (hmac (ints jefe) (cat [what1, what2])))).toList == (ByteArray.mk #[53, 98, 100, 99, 99, 49, 52, 54, 98, 102, 54, 48, 55, 53, 52, 101, 54, 97, 48, 52, 50, 52, 50, 54, 48, 56, 57, 53, 55, 53, 99, 55, 53, 97, 48, 48, 51, 102, 48, 56, 57, 100, 50, 55, 51, 57, 56, 51, 57, 100, 101, 99, 53, 56, 98, 57, 54, 52, 101, 99, 51, 56, 52, 51]).toList) = true := by decide +kernel

theorem awake3_ok (w : World) : Calls Try.prog 21 #[] w fun e w' => e = .returned (.bool true) ∧ St w [] w' := by
  refine C_bevylaw03_awake ?_
  unfold F_bevylaw03_awake
  refine mop_run (build2s what1 what2 w) ?_
  have h1 := (St.nil w).alloc 9 [Value.string what1, .string what2]
  refine mop_to (code_ok jefe (some ⟨w.heap.size, 0, none⟩) [what1, what2] 2 _ (rd_new w [Value.string what1, .string what2] 9) (by decide +kernel) (by decide) (by decide +kernel)) ?_
  rintro e w1 ⟨rfl, h2⟩
  have h2 := h1.drop.call0 h2
  refine mop_to (hex_ok _ w1 (hmac_length _ _) (hmac_range _ _)) ?_
  rintro e w2 ⟨rfl, h3⟩
  refine mop_c trivial ?_
  rw [jefe_hex]
  exact ⟨rfl, h2.call0 h3⟩

theorem macCodes_ok (key : ByteArray) (A : Option Addr) (ss : List ByteArray) (c : Nat) (w : World) (hr : Rd w A (ss.map .string)) (hss : ss.length ≤ 9223372036854775807) :
    Calls Try.prog 7 #[.string key, .slice A ss.length c] w fun e w' => e = .returned (.bool true) ∧ St w [] w' := by
  refine C_bevylaw03_MacCodes ?_
  unfold F_bevylaw03_MacCodes
  refine ⟨fun v x w2 => ∃ (k : Nat) (s : ByteArray), k ≤ ss.length ∧ k ≤ 101 ∧ x = .int .i64 k ∧ v = .string s ∧ ints s = cat (ss.take k) ∧ s.size ≤ 5000 ∧ St w [] w2,
    fun _ x _ => ss.length - (intOf x).toNat, ⟨0, ByteArray.mk #[], by omega, by omega, rfl, rfl, rfl, by decide, St.nil w⟩, ?_⟩
  rintro v x u w3 ⟨k, s, hk, hk1, rfl, rfl, hs, hsz, h3⟩
  (repeat (first | (refine mop_c ?_ ?_; first | exact trivial | omega) | (refine dp_c ?_ ?_; first | exact trivial | omega)))
  refine mif_dec (fun hlt => ?_) (fun hge => ?_)
  · have hk' : k < ss.length := by omega
    have x0 : (ss.map Value.string)[k]? = some (.string ss[k]) := by simp [hk']
    obtain ⟨ab, ao, rfl, hab, hc⟩ := hr.at_ x0
    have hcell : ∀ w2, St w [] w2 → w2.cell? ⟨ab, ao + k, none⟩ = some (.string ss[k]) := fun w2 h => (h.old (p := ⟨ab, ao + k, none⟩) hab (by intro q hq hn; cases hq)).trans (hc k _ x0)
    refine ⟨fun v w4 => ∃ q : Bool, v = .bool q ∧ (q = false → k ≤ 100 ∧ ss[k].size ≤ 5000) ∧ St w [] w4, ?_, ?_⟩
    · (repeat (first | (refine mop_c ?_ ?_; first | exact trivial | omega) | (refine dp_c ?_ ?_; first | exact trivial | omega)))
      by_cases hbig : (100 : Int) < (k : Int)
      · simp only [hbig, decide_true]
        repeat refine mguard_no (by simp) ?_
        (repeat (first | (refine mop_c ?_ ?_; first | exact trivial | omega) | (refine dp_c ?_ ?_; first | exact trivial | omega)))
        exact ⟨true, rfl, by simp, h3⟩
      · simp only [hbig, decide_false]
        refine mguard_yes ?_
        (repeat (first | (refine mop_c ?_ ?_; first | exact trivial | omega) | (refine dp_c ?_ ?_; first | exact trivial | omega)))
        refine mguard_yes ?_
        (repeat (first | (refine mop_c ?_ ?_; first | exact trivial | omega) | (refine dp_c ?_ ?_; first | exact trivial | omega)))
        refine mguard_yes ?_
        (repeat (first | (refine mop_c ?_ ?_; first | exact trivial | omega) | (refine dp_c ?_ ?_; first | exact trivial | omega)))
        refine mguard_yes ?_
        refine mop_ld (hcell _ h3) (by omega) ?_
        refine mguard_yes ?_
        (repeat (first | (refine mop_c ?_ ?_; first | exact trivial | omega) | (refine dp_c ?_ ?_; first | exact trivial | omega)))
        refine mguard_yes ?_
        (repeat (first | (refine mop_c ?_ ?_; first | exact trivial | omega) | (refine dp_c ?_ ?_; first | exact trivial | omega)))
        exact ⟨_, rfl, by simp; omega, h3⟩
    · rintro v u w4 ⟨q, rfl, hq, h4⟩
      refine mif_bool (fun ht => ?_) (fun hf => ?_)
      · refine mop_to (awake3_ok w4) ?_
        rintro e w5 ⟨rfl, h5⟩
        exact ⟨rfl, h4.call0 h5⟩
      · obtain ⟨hk2, hs2⟩ := hq hf
        (repeat (first | (refine mop_c ?_ ?_; first | exact trivial | omega) | (refine dp_c ?_ ?_; first | exact trivial | omega)))
        refine mop_ld (hcell _ h4) (by omega) ?_
        (repeat (first | (refine mop_c ?_ ?_; first | exact trivial | omega) | (refine dp_c ?_ ?_; first | exact trivial | omega)))
        refine mif_dec (fun hbig => ?_) (fun hok => ?_)
        · refine mop_to (awake3_ok w4) ?_
          rintro e w5 ⟨rfl, h5⟩
          exact ⟨rfl, h4.call0 h5⟩
        · (repeat (first | (refine mop_c ?_ ?_; first | exact trivial | omega) | (refine dp_c ?_ ?_; first | exact trivial | omega)))
          refine ⟨⟨k + 1, s ++ ss[k], by omega, by omega, rfl, rfl, ?_, by omega, h4⟩, by simp [intOf]; omega⟩
          rw [cat_take ss k hk', ← hs]
          simp [ints]
  · obtain rfl : k = ss.length := by omega
    rw [List.take_length] at hs
    have hcl : (cat ss).length = s.size := by rw [← hs, ints_length]
    (repeat (first | (refine mop_c ?_ ?_; first | exact trivial | omega) | (refine dp_c ?_ ?_; first | exact trivial | omega)))
    refine mif_dec (fun hbig => ?_) (fun hok => ?_)
    · refine mop_to (awake3_ok w3) ?_
      rintro e w5 ⟨rfl, h5⟩
      exact ⟨rfl, h3.call0 h5⟩
    · refine mop_to (awake3_ok w3) ?_
      rintro e w4 ⟨rfl, h4⟩
      have h4 := h3.call0 h4
      refine mguard_yes ?_
      (repeat (first | (refine mop_c ?_ ?_; first | exact trivial | omega) | (refine dp_c ?_ ?_; first | exact trivial | omega)))
      refine mguard_yes ?_
      (repeat (first | (refine mop_c ?_ ?_; first | exact trivial | omega) | (refine dp_c ?_ ?_; first | exact trivial | omega)))
      refine mguard_yes ?_
      refine mop_to (code_ok key A ss c w4 (h4.only.rd hr (fun b off _ h => by obtain ⟨_, hb, _⟩ := h; cases hb)) (by omega) (by omega) (by omega)) ?_
      rintro e w5 ⟨rfl, h5⟩
      have h5 := h4.call0 h5
      refine mguard_yes ?_
      (repeat (first | (refine mop_c ?_ ?_; first | exact trivial | omega) | (refine dp_c ?_ ?_; first | exact trivial | omega)))
      refine mguard_yes ?_
      (repeat (first | (refine mop_c ?_ ?_; first | exact trivial | omega) | (refine dp_c ?_ ?_; first | exact trivial | omega)))
      refine mguard_yes ?_
      refine mop_to (refcode_ok key s w5 (by omega) (by omega)) ?_
      rintro e w6 ⟨rfl, h6⟩
      have h6 := h5.call0 h6
      refine mguard_yes ?_
      refine mop_pur (p_eql_hv _ _ _ (hmac_length _ _) (hmac_length _ _)) ?_
      rw [hs]
      simp only [decide_true]
      (repeat (first | (refine mop_c ?_ ?_; first | exact trivial | omega) | (refine dp_c ?_ ?_; first | exact trivial | omega)))
      exact ⟨rfl, h6⟩

set_option maxHeartbeats 1000000 in
theorem mix_ok (x y : List Int) (w : World) (hx : x.length = 32) (hy : y.length = 32) (rx : ∀ c ∈ x, 0 ≤ c ∧ c < 256) (ry : ∀ c ∈ y, 0 ≤ c ∧ c < 256) :
    Calls Try.prog 24 #[hv x, hv y] w fun e w' => e = .returned (hv (hmac x y)) ∧ St w [] w' := by
  refine C_mac_Mix ?_
  unfold F_mac_Mix
  have z32 : (u8s (List.replicate 32 0)).length = 32 := by simp [u8s]
  refine mop_box (St.nil w) (fun b w1 h1 => ?_)
  have h1 : St w [⟨b, 23, u8s x, true⟩] w1 := by simpa [hv, Value.cells] using h1
  refine mop_box h1 (fun c w2 h2 => ?_)
  have h2 : St w [⟨c, 23, u8s y, true⟩, ⟨b, 23, u8s x, true⟩] w2 := by simpa [hv, Value.cells] using h2
  refine mop_new h2 (fun r w3 h3 => ?_)
  have h3 : St w [⟨r, 23, u8s (List.replicate 32 0), true⟩, ⟨c, 23, u8s y, true⟩, ⟨b, 23, u8s x, true⟩] w3 := by simpa [u8s] using h3
  clear h1 h2
  (repeat (first | (refine mop_c ?_ ?_; first | exact trivial | omega) | (refine dp_c ?_ ?_; first | exact trivial | omega)))
  refine dq_pur (fun w4 hw => pw_conv_bytes 50 9 5 b 0 32 _ x (by kernel_rfl) (by kernel_rfl) (by kernel_rfl) hx (fun i hi => hw.cell (by rw [Nat.zero_add, h3.cell 2 rfl i]; exact u8s_at x i (by omega)))) ?_
  (repeat (first | (refine mop_c ?_ ?_; first | exact trivial | omega) | (refine dp_c ?_ ?_; first | exact trivial | omega)))
  refine dq_pur (fun w4 hw => pw_conv_bytes 50 9 5 c 0 32 _ y (by kernel_rfl) (by kernel_rfl) (by kernel_rfl) hy (fun i hi => hw.cell (by rw [Nat.zero_add, h3.cell 1 rfl i]; exact u8s_at y i (by omega)))) ?_
  refine df_mop fun w4 hd4 => mop_run (buildstr _ _) ⟨fun _ => hd4.ext.trans ((Only.refl _ w4).alloc _), ?_⟩
  have h4 := h3.drawn hd4
  refine df_mop fun w5 hd5 => ?_
  have h5 := (h4.alloc 9 [Value.string (strOfNums y)]).drawn hd5
  have hc := code_ok (strOfNums x) (some ⟨w4.heap.size, 0, none⟩) [strOfNums y] 1 w5 (.inr ⟨w4.heap.size, 0, rfl, h5.head.lt, fun j u hu => by rw [Nat.zero_add, h5.cell 0 rfl j]; exact hu⟩) (by rw [strOfNums_size]; omega) (by simp) (by simp [cat, ints_str y ry]; omega)
  rw [show cat [strOfNums y] = y by simp [cat, ints_str y ry], ints_str x rx] at hc
  refine mop_to hc ?_
  rintro e w6 ⟨rfl, h6⟩
  have h6 := h5.drop.call0 h6
  refine ⟨(fun e => by cases e), ?_⟩
  have hEl : (u8s (hmac x y)).length = 32 := by rw [u8s_length, hmac_length]
  refine df_mop fun w7 hd7 => mop_storeN (q := true) (k := 32) (by kernel_rfl) (h6.drawn hd7) (by simpa [hv, Value.cells] using hEl) (by intro u hu; exact u8s_one _ u hu) (by rw [z32]; omega) (fun w8 h8 => ⟨(fun e => by cases e), ?_⟩)
  have e : lay (u8s (List.replicate 32 0)) (hv (hmac x y)).cells.toList 0 = u8s (hmac x y) := lay_all _ _ (by show (u8s (hmac x y)).length = _; rw [hEl, z32])
  rw [e] at h8
  refine dend_intro fun w9 hd9 => ?_
  have h9 := h8.drawn hd9
  refine rcell_ldN (cells_of_row h9.head) hEl ?_
  exact ⟨rfl, h9.drop.drop.drop⟩

set_option maxHeartbeats 1000000 in
theorem refmix_ok (x y : List Int) (w : World) (hx : x.length = 32) (hy : y.length = 32) (rx : ∀ c ∈ x, 0 ≤ c ∧ c < 256) (ry : ∀ c ∈ y, 0 ≤ c ∧ c < 256) :
    Calls Try.prog 25 #[hv x, hv y] w fun e w' => e = .returned (hv (hmac x y)) ∧ St w [] w' := by
  refine C_bevyref03_Mix ?_
  unfold F_bevyref03_Mix
  have z32 : (u8s (List.replicate 32 0)).length = 32 := by simp [u8s]
  refine mop_box (St.nil w) (fun b w1 h1 => ?_)
  have h1 : St w [⟨b, 22, u8s x, true⟩] w1 := by simpa [hv, Value.cells] using h1
  refine mop_box h1 (fun c w2 h2 => ?_)
  have h2 : St w [⟨c, 22, u8s y, true⟩, ⟨b, 22, u8s x, true⟩] w2 := by simpa [hv, Value.cells] using h2
  refine mop_new h2 (fun r w3 h3 => ?_)
  have h3 : St w [⟨r, 22, u8s (List.replicate 32 0), true⟩, ⟨c, 22, u8s y, true⟩, ⟨b, 22, u8s x, true⟩] w3 := by simpa [u8s] using h3
  clear h1 h2
  (repeat (first | (refine mop_c ?_ ?_; first | exact trivial | omega) | (refine dp_c ?_ ?_; first | exact trivial | omega)))
  refine dq_pur (fun w4 hw => pw_conv_bytes 50 9 5 b 0 32 _ x (by kernel_rfl) (by kernel_rfl) (by kernel_rfl) hx (fun i hi => hw.cell (by rw [Nat.zero_add, h3.cell 2 rfl i]; exact u8s_at x i (by omega)))) ?_
  (repeat (first | (refine mop_c ?_ ?_; first | exact trivial | omega) | (refine dp_c ?_ ?_; first | exact trivial | omega)))
  refine dq_pur (fun w4 hw => pw_conv_bytes 50 9 5 c 0 32 _ y (by kernel_rfl) (by kernel_rfl) (by kernel_rfl) hy (fun i hi => hw.cell (by rw [Nat.zero_add, h3.cell 1 rfl i]; exact u8s_at y i (by omega)))) ?_
  refine df_mop fun w5 hd5 => ?_
  have h5 := h3.drawn hd5
  have hc := refcode_ok (strOfNums x) (strOfNums y) w5 (by rw [strOfNums_size]; omega) (by rw [strOfNums_size]; omega)
  rw [ints_str y ry, ints_str x rx] at hc
  refine mop_to hc ?_
  rintro e w6 ⟨rfl, h6⟩
  have h6 := h5.call0 h6
  refine ⟨(fun e => by cases e), ?_⟩
  have hEl : (u8s (hmac x y)).length = 32 := by rw [u8s_length, hmac_length]
  refine df_mop fun w7 hd7 => mop_storeN (q := true) (k := 32) (by kernel_rfl) (h6.drawn hd7) (by simpa [hv, Value.cells] using hEl) (by intro u hu; exact u8s_one _ u hu) (by rw [z32]; omega) (fun w8 h8 => ⟨(fun e => by cases e), ?_⟩)
  have e : lay (u8s (List.replicate 32 0)) (hv (hmac x y)).cells.toList 0 = u8s (hmac x y) := lay_all _ _ (by show (u8s (hmac x y)).length = _; rw [hEl, z32])
  rw [e] at h8
  refine dend_intro fun w9 hd9 => ?_
  have h9 := h8.drawn hd9
  refine rcell_ldN (cells_of_row h9.head) hEl ?_
  exact ⟨rfl, h9.drop.drop.drop⟩

set_option maxHeartbeats 1000000 in
theorem macMixes_ok (x y : List Int) (w : World) (hx : x.length = 32) (hy : y.length = 32) (rx : ∀ c ∈ x, 0 ≤ c ∧ c < 256) (ry : ∀ c ∈ y, 0 ≤ c ∧ c < 256) :
    Calls Try.prog 8 #[hv x, hv y] w fun e w' => e = .returned (.bool true) ∧ St w [] w' := by
  refine C_bevylaw03_MacMixes ?_
  unfold F_bevylaw03_MacMixes
  have lx : (u8s x).length = 32 := by simp [u8s, hx]
  have ly : (u8s y).length = 32 := by simp [u8s, hy]
  refine mop_box (St.nil w) (fun b w1 h1 => ?_)
  have h1 : St w [⟨b, 23, u8s x, true⟩] w1 := by simpa [hv, Value.cells] using h1
  refine mop_box h1 (fun c w2 h2 => ?_)
  have h2 : St w [⟨c, 23, u8s y, true⟩, ⟨b, 23, u8s x, true⟩] w2 := by simpa [hv, Value.cells] using h2
  clear h1
  refine df_mop fun w3 hd3 => mop_to (awake3_ok w3) ?_
  rintro e w4 ⟨rfl, h4⟩
  have h4 := (h2.drawn hd3).call0 h4
  refine ⟨(fun e => by cases e), ?_⟩
  have cx := cells_of_row (h4.mem (k := 1) rfl)
  have cy := cells_of_row h4.head
  refine qguard_yes ?_
  refine dq_ldN cx lx rfl ?_
  refine qguard_yes ?_
  refine dq_ldN cy ly rfl ?_
  refine mguard_yes ?_
  refine df_mop fun w5 hd5 => mop_to (mix_ok x y w5 hx hy rx ry) ?_
  rintro e w6 ⟨rfl, h6⟩
  have x6 : Ext w4 w6 := hd5.ext.trans h6.ext0
  have h6 := (h4.drawn hd5).call0 h6
  refine ⟨fun _ => x6, ?_⟩
  refine qguard_yes ?_
  refine dq_ldN cx lx rfl ?_
  refine qguard_yes ?_
  refine dq_ldN cy ly rfl ?_
  refine mguard_yes ?_
  refine df_mop fun w7 hd7 => mop_to (refmix_ok x y w7 hx hy rx ry) ?_
  rintro e w8 ⟨rfl, h8⟩
  have h8 := (h6.drawn hd7).call0 h8
  refine ⟨(fun e => by cases e), ?_⟩
  refine qguard_yes ?_
  refine dp_pur (p_eql_hv _ _ _ (hmac_length _ _) (hmac_length _ _)) ?_
  simp only [decide_true]
  refine dp_c trivial ?_
  refine dend_intro fun w9 hd9 => ?_
  exact ⟨rfl, (h8.drawn hd9).drop.drop⟩
end Go.Proofs.Ytdefecbaineneaa
