/- Keys made of keys: the laws MacDerives and MacMakes. -/
import Derived.Test.YtdefecbaineneaaMac3
namespace Go.Proofs.Ytdefecbaineneaa
open Go.RowKit

def fourB (n : Int) : List Int := [n / 16777216 % 256, n / 65536 % 256, n / 256 % 256, n % 256]
theorem fourB_range (n : Int) : ∀ x ∈ fourB n, 0 ≤ x ∧ x < 256 := by
  intro x hx
  simp only [fourB, List.mem_cons, List.not_mem_nil, or_false] at hx
  omega
theorem build4b (a b c d : Int) (w : World) : (o_buildSlice 50 4 [(0, .int .u8 a), (1, .int .u8 b), (2, .int .u8 c), (3, .int .u8 d)]).run Try.prog w = .ok (.value (.slice (some ⟨w.heap.size, 0, none⟩) 4 4)) (w.alloc (.cells (u8s [a, b, c, d]).toArray 5)) := by kernel_rfl
theorem conv4 (a b c d : Int) (w : World) {w0 : World} {L : List Bk} (h : St w0 L w) :
    PurW Try.prog (w.alloc (.cells (u8s [a, b, c, d]).toArray 5)) (o_conv 50 9 (.slice (some ⟨w.heap.size, 0, none⟩) 4 4)) (.string (strOfNums [a, b, c, d])) :=
  pw_conv_bytes 50 9 5 w.heap.size 0 4 _ [a, b, c, d] (by kernel_rfl) (by kernel_rfl) (by kernel_rfl) rfl (fun i hi => by
    rw [Nat.zero_add, (h.alloc 5 (u8s [a, b, c, d])).cell 0 rfl i]
    exact u8s_at [a, b, c, d] i (by simpa using hi))
theorem four_ok (n : Int) (w : World) : Calls Try.prog 36 #[.int .i64 n] w fun e w' => e = .returned (.string (strOfNums (fourB n))) ∧ St w [] w' := by
  refine C_mac_four ?_
  unfold F_mac_four
  (repeat (first | (refine mop_c ?_ ?_; first | exact trivial | omega) | (refine dp_c ?_ ?_; first | exact trivial | omega)))
  refine mop_run (build4b _ _ _ _ _) ?_
  refine mop_purW (conv4 _ _ _ _ _ (St.nil w)) ?_
  exact ⟨rfl, ((St.nil w).alloc _ _).drop⟩
theorem refFour_ok (n : Int) (w : World) (h : 0 ≤ n ∧ n < 4294967296) : Calls Try.prog 37 #[.int .i64 n] w fun e w' => e = .returned (.string (strOfNums (fourB n))) ∧ St w [] w' := by
  refine C_bevyref03_Four ?_
  unfold F_bevyref03_Four
  (repeat (first | (refine mop_c ?_ ?_; first | exact trivial | omega) | (refine dp_c ?_ ?_; first | exact trivial | omega)))
  rw [show n / 65536 % 256 % 256 = n / 65536 % 256 by omega, show n / 256 % 256 % 256 = n / 256 % 256 by omega, show n % 256 % 256 = n % 256 by omega]
  refine mop_run (build4b _ _ _ _ _) ?_
  refine mop_purW (conv4 _ _ _ _ _ (St.nil w)) ?_
  exact ⟨rfl, ((St.nil w).alloc _ _).drop⟩
theorem build3s (a b c : ByteArray) (w : World) : (o_buildSlice 27 3 [(0, .string a), (1, .string b), (2, .string c)]).run Try.prog w = .ok (.value (.slice (some ⟨w.heap.size, 0, none⟩) 3 3)) (w.alloc (.cells [Value.string a, .string b, .string c].toArray 9)) := by kernel_rfl
def derived (x : List Int) (l c : ByteArray) : List Int := hmac x (fourB l.size ++ (ints l ++ ints c))

set_option maxHeartbeats 1000000 in
theorem derive_ok (x : List Int) (l c : ByteArray) (w : World) (hx : x.length = 32) (rx : ∀ c ∈ x, 0 ≤ c ∧ c < 256) (hl : l.size ≤ 5000) (hc : c.size ≤ 5000) :
    Calls Try.prog 28 #[hv x, .string l, .string c] w fun e w' => e = .returned (hv (derived x l c)) ∧ St w [] w' := by
  refine C_mac_Derive ?_
  unfold F_mac_Derive
  have z32 : (u8s (List.replicate 32 0)).length = 32 := by simp [u8s]
  refine mop_box (St.nil w) (fun b w1 h1 => ?_)
  have h1 : St w [⟨b, 23, u8s x, true⟩] w1 := by simpa [hv, Value.cells] using h1
  refine mop_new h1 (fun r w3 h3 => ?_)
  have h3 : St w [⟨r, 23, u8s (List.replicate 32 0), true⟩, ⟨b, 23, u8s x, true⟩] w3 := by simpa [u8s] using h3
  clear h1
  (repeat (first | (refine mop_c ?_ ?_; first | exact trivial | omega) | (refine dp_c ?_ ?_; first | exact trivial | omega)))
  refine dq_pur (fun w4 hw => pw_conv_bytes 50 9 5 b 0 32 _ x (by kernel_rfl) (by kernel_rfl) (by kernel_rfl) hx (fun i hi => hw.cell (by rw [Nat.zero_add, h3.cell 1 rfl i]; exact u8s_at x i (by omega)))) ?_
  (repeat (first | (refine mop_c ?_ ?_; first | exact trivial | omega) | (refine dp_c ?_ ?_; first | exact trivial | omega)))
  refine df_mop fun w4 hd4 => mop_to (four_ok l.size w4) ?_
  rintro e w5 ⟨rfl, h5⟩
  have x5 : Ext w3 w5 := hd4.ext.trans h5.ext0
  have h5 := (h3.drawn hd4).call0 h5
  refine ⟨fun _ => x5, ?_⟩
  refine df_mop fun w6 hd6 => mop_run (build3s _ _ _ _) ⟨fun _ => hd6.ext.trans ((Only.refl _ w6).alloc _), ?_⟩
  have h6 := h5.drawn hd6
  refine df_mop fun w7 hd7 => ?_
  have h7 := (h6.alloc 9 [Value.string (strOfNums (fourB l.size)), .string l, .string c]).drawn hd7
  have hcat : cat [strOfNums (fourB l.size), l, c] = fourB l.size ++ (ints l ++ ints c) := by simp [cat, ints_str _ (fourB_range l.size)]
  have hc := code_ok (strOfNums x) (some ⟨w6.heap.size, 0, none⟩) [strOfNums (fourB l.size), l, c] 3 w7 (.inr ⟨w6.heap.size, 0, rfl, h7.head.lt, fun j u hu => by rw [Nat.zero_add, h7.cell 0 rfl j]; exact hu⟩) (by rw [strOfNums_size]; omega) (by simp) (by rw [hcat]; simp [fourB, ints_length]; omega)
  rw [hcat, ints_str x rx] at hc
  refine mop_to hc ?_
  rintro e w8 ⟨rfl, h8⟩
  have h8 := h7.drop.call0 h8
  refine ⟨(fun e => by cases e), ?_⟩
  have hEl : (u8s (derived x l c)).length = 32 := by rw [u8s_length, derived, hmac_length]
  refine df_mop fun w9 hd9 => mop_storeN (q := true) (k := 32) (by kernel_rfl) (h8.drawn hd9) (by simpa [hv, Value.cells, derived] using hEl) (by intro u hu; exact u8s_one _ u hu) (by rw [z32]; omega) (fun w8 h8 => ⟨(fun e => by cases e), ?_⟩)
  have e : lay (u8s (List.replicate 32 0)) (hv (derived x l c)).cells.toList 0 = u8s (derived x l c) := lay_all _ _ (by show (u8s (derived x l c)).length = _; rw [hEl, z32])
  have h8 : St w [⟨r, 23, u8s (derived x l c), true⟩, ⟨b, 23, u8s x, true⟩] w8 := by rw [← e]; exact h8
  refine dend_intro fun w9 hd9 => ?_
  have h9 := h8.drawn hd9
  refine rcell_ldN (cells_of_row h9.head) hEl ?_
  exact ⟨rfl, h9.drop.drop⟩

set_option maxHeartbeats 1000000 in
theorem refderive_ok (x : List Int) (l c : ByteArray) (w : World) (hx : x.length = 32) (rx : ∀ c ∈ x, 0 ≤ c ∧ c < 256) (hl : l.size ≤ 5000) (hc : c.size ≤ 5000) :
    Calls Try.prog 29 #[hv x, .string l, .string c] w fun e w' => e = .returned (hv (derived x l c)) ∧ St w [] w' := by
  refine C_bevyref03_Derive ?_
  unfold F_bevyref03_Derive
  have z32 : (u8s (List.replicate 32 0)).length = 32 := by simp [u8s]
  refine mop_box (St.nil w) (fun b w1 h1 => ?_)
  have h1 : St w [⟨b, 22, u8s x, true⟩] w1 := by simpa [hv, Value.cells] using h1
  refine mop_new h1 (fun r w3 h3 => ?_)
  have h3 : St w [⟨r, 22, u8s (List.replicate 32 0), true⟩, ⟨b, 22, u8s x, true⟩] w3 := by simpa [u8s] using h3
  clear h1
  (repeat (first | (refine mop_c ?_ ?_; first | exact trivial | omega) | (refine dp_c ?_ ?_; first | exact trivial | omega)))
  refine dq_pur (fun w4 hw => pw_conv_bytes 50 9 5 b 0 32 _ x (by kernel_rfl) (by kernel_rfl) (by kernel_rfl) hx (fun i hi => hw.cell (by rw [Nat.zero_add, h3.cell 1 rfl i]; exact u8s_at x i (by omega)))) ?_
  (repeat (first | (refine mop_c ?_ ?_; first | exact trivial | omega) | (refine dp_c ?_ ?_; first | exact trivial | omega)))
  refine df_mop fun w4 hd4 => mop_to (refFour_ok l.size w4 (by omega)) ?_
  rintro e w5 ⟨rfl, h5⟩
  have x5 : Ext w3 w5 := hd4.ext.trans h5.ext0
  have h5 := (h3.drawn hd4).call0 h5
  refine ⟨fun _ => x5, ?_⟩
  have s4 : (strOfNums (fourB l.size)).size = 4 := by rw [strOfNums_size]; rfl
  have s5 : (strOfNums (fourB l.size) ++ l).size = 4 + l.size := by simp [s4]
  have s6 : (strOfNums (fourB l.size) ++ l ++ c).size = 4 + l.size + c.size := by simp [s4]
  (repeat (first | (refine mop_c ?_ ?_; first | exact trivial | omega) | (refine dp_c ?_ ?_; first | exact trivial | omega)))
  refine df_mop fun w7 hd7 => ?_
  have h7 := h5.drawn hd7
  have hcat : ints (strOfNums (fourB l.size) ++ l ++ c) = fourB l.size ++ (ints l ++ ints c) := by
    conv => lhs; rw [← str_ints l, ← str_ints c]
    rw [strOfNums_append, strOfNums_append, ints_str]
    · rw [str_ints l, List.append_assoc]
    · intro x hx
      rcases List.mem_append.1 hx with hx | hx
      · rcases List.mem_append.1 hx with hx | hx
        · exact fourB_range _ x hx
        · exact ints_range l x hx
      · exact ints_range c x hx
  have hc := refcode_ok (strOfNums x) (strOfNums (fourB l.size) ++ l ++ c) w7 (by rw [strOfNums_size]; omega) (by omega)
  rw [hcat, ints_str x rx] at hc
  refine mop_to hc ?_
  rintro e w8 ⟨rfl, h8⟩
  have h8 := h7.call0 h8
  refine ⟨(fun e => by cases e), ?_⟩
  have hEl : (u8s (derived x l c)).length = 32 := by rw [u8s_length, derived, hmac_length]
  refine df_mop fun w9 hd9 => mop_storeN (q := true) (k := 32) (by kernel_rfl) (h8.drawn hd9) (by simpa [hv, Value.cells, derived] using hEl) (by intro u hu; exact u8s_one _ u hu) (by rw [z32]; omega) (fun w8 h8 => ⟨(fun e => by cases e), ?_⟩)
  have e : lay (u8s (List.replicate 32 0)) (hv (derived x l c)).cells.toList 0 = u8s (derived x l c) := lay_all _ _ (by show (u8s (derived x l c)).length = _; rw [hEl, z32])
  have h8 : St w [⟨r, 22, u8s (derived x l c), true⟩, ⟨b, 22, u8s x, true⟩] w8 := by rw [← e]; exact h8
  refine dend_intro fun w9 hd9 => ?_
  have h9 := h8.drawn hd9
  refine rcell_ldN (cells_of_row h9.head) hEl ?_
  exact ⟨rfl, h9.drop.drop⟩
theorem derived_length (x : List Int) (l c : ByteArray) : (derived x l c).length = 32 := hmac_length _ _

set_option maxHeartbeats 1000000 in
theorem macDerives_ok (x : List Int) (l c : ByteArray) (w : World) (hx : x.length = 32) (rx : ∀ c ∈ x, 0 ≤ c ∧ c < 256) :
    Calls Try.prog 10 #[hv x, .string l, .string c] w fun e w' => e = .returned (.bool true) ∧ St w [] w' := by
  refine C_bevylaw03_MacDerives ?_
  unfold F_bevylaw03_MacDerives
  have lx : (u8s x).length = 32 := by simp [u8s, hx]
  refine mop_box (St.nil w) (fun b w1 h1 => ?_)
  have h1 : St w [⟨b, 23, u8s x, true⟩] w1 := by simpa [hv, Value.cells] using h1
  refine ⟨fun v w2 => ∃ q : Bool, v = .bool q ∧ (q = false → l.size ≤ 5000 ∧ c.size ≤ 5000) ∧ St w [⟨b, 23, u8s x, true⟩] w2, ?_, ?_⟩
  · (repeat (first | (refine mop_c ?_ ?_; first | exact trivial | omega) | (refine dp_c ?_ ?_; first | exact trivial | omega)))
    by_cases hbig : (5000 : Int) < (l.size : Int)
    · simp only [hbig, decide_true]
      repeat refine mguard_no (by simp) ?_
      (repeat (first | (refine mop_c ?_ ?_; first | exact trivial | omega) | (refine dp_c ?_ ?_; first | exact trivial | omega)))
      exact ⟨true, rfl, by simp, h1⟩
    · simp only [hbig, decide_false]
      refine mguard_yes ?_
      (repeat (first | (refine mop_c ?_ ?_; first | exact trivial | omega) | (refine dp_c ?_ ?_; first | exact trivial | omega)))
      refine mguard_yes ?_
      (repeat (first | (refine mop_c ?_ ?_; first | exact trivial | omega) | (refine dp_c ?_ ?_; first | exact trivial | omega)))
      refine mguard_yes ?_
      (repeat (first | (refine mop_c ?_ ?_; first | exact trivial | omega) | (refine dp_c ?_ ?_; first | exact trivial | omega)))
      exact ⟨_, rfl, by simp; omega, h1⟩
  · rintro v u w2 ⟨q, rfl, hq, h2⟩
    refine mif_bool (fun ht => ?_) (fun hf => ?_)
    · refine mop_to (awake3_ok w2) ?_
      rintro e w5 ⟨rfl, h5⟩
      exact ⟨rfl, (h2.call0 h5).drop⟩
    · obtain ⟨hl, hc⟩ := hq hf
      clear h1
      refine df_mop fun w3 hd3 => mop_to (awake3_ok w3) ?_
      rintro e w4 ⟨rfl, h4⟩
      have h4 := (h2.drawn hd3).call0 h4
      refine ⟨(fun e => by cases e), ?_⟩
      have cx := cells_of_row h4.head
      refine qguard_yes ?_
      refine dq_ldN cx lx rfl ?_
      refine qguard_yes ?_
      (repeat (first | (refine mop_c ?_ ?_; first | exact trivial | omega) | (refine dp_c ?_ ?_; first | exact trivial | omega)))
      refine qguard_yes ?_
      (repeat (first | (refine mop_c ?_ ?_; first | exact trivial | omega) | (refine dp_c ?_ ?_; first | exact trivial | omega)))
      refine mguard_yes ?_
      refine df_mop fun w5 hd5 => mop_to (derive_ok x l c w5 hx rx hl hc) ?_
      rintro e w6 ⟨rfl, h6⟩
      have x6 : Ext w4 w6 := hd5.ext.trans h6.ext0
      have h6 := (h4.drawn hd5).call0 h6
      refine ⟨fun _ => x6, ?_⟩
      refine qguard_yes ?_
      refine dq_ldN cx lx rfl ?_
      refine qguard_yes ?_
      (repeat (first | (refine mop_c ?_ ?_; first | exact trivial | omega) | (refine dp_c ?_ ?_; first | exact trivial | omega)))
      refine qguard_yes ?_
      (repeat (first | (refine mop_c ?_ ?_; first | exact trivial | omega) | (refine dp_c ?_ ?_; first | exact trivial | omega)))
      refine mguard_yes ?_
      refine df_mop fun w7 hd7 => mop_to (refderive_ok x l c w7 hx rx hl hc) ?_
      rintro e w8 ⟨rfl, h8⟩
      have h8 := (h6.drawn hd7).call0 h8
      refine ⟨(fun e => by cases e), ?_⟩
      refine qguard_yes ?_
      refine dp_pur (p_eql_hv _ _ _ (derived_length _ _ _) (derived_length _ _ _)) ?_
      simp only [decide_true]
      refine dp_c trivial ?_
      refine dend_intro fun w9 hd9 => ?_
      exact ⟨rfl, (h8.drawn hd9).drop⟩
end Go.Proofs.Ytdefecbaineneaa
